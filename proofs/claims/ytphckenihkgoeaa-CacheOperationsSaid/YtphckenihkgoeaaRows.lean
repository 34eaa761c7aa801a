/-
  No cell of these rows narrows 'for every input' (looked for: loops, veiled, ifaces, maps, wideKeys, modest, calm, conditions, laid).
  DERIVED. THE GIVEN ROWS OF THIS SEAT. 6 by the template 'for every input the law returns true; each argument reads behind the call as it read before'; 0 by the template 'total and deterministic' (their statements: YtphckenihkgoeaaTotals.lean).
  GIVEN WITH THE SEED: the statements are not yours to turn. If you find one false, say at which input.
  Laid BY PROGRAM, IN A SANDBOX (cutbox-rows.mjs): the forced cells as the released guide's own fill.sh prints them over the translation 00921251e8738a93… (all of the seat's roots in one cut). By AI agents, Wed Nov 11 2026. No macro, syntax, notation, axiom, sorry.
-/
import Derived.Test.YtphckenihkgoeaaChecked
import GoSem.Claim
import GoSem.ClaimJoined
import GoSem.ClaimMapViews
import Derived.JoinedTies
import Derived.KernelRfl
namespace Go.Proofs.Ytphckenihkgoeaa
/- THE CELL 'sum', in the pinned program and in every row, IS THE sha256 OF THE DUMP (.gsa) THAT YtphckenihkgoeaaProg.lean LOADS. Nothing in Lean hashes anything: it is a label: what it is worth is what the hold of that sum in a sandbox is worth. -/
noncomputable def Try.pinned : Pinned := { name := "ytphckenihkgoeaa", sum := "00921251e8738a936e5dd6ba272a277c67dfd017519c7fd2af42a0dd8e29816e", checked := Try.checked }
namespace Rows
def none {H : Type} : Left H := { results := [], args := [] }

/-- 'wavestorelaw41.CacheWeight': WHATEVER THE INPUT: true; the input reads as it did. -/
def cacheWeightSpec : ChangeSpec := { name := "cacheWeight", fn := fun _ => fun
  | [d] => { results := [.lit (.bool true)], args := [d] }
  | _ => none }
def cacheWeightRow : OpenClaim := { program := "ytphckenihkgoeaa", sum := "00921251e8738a936e5dd6ba272a277c67dfd017519c7fd2af42a0dd8e29816e", func := "wavestore/wavestorelaw41.CacheWeight", spec := "cacheWeight", unfollowed := true, recurses := true, plainKeys := false, apart := false }
def CacheWeightSaid : Prop := cacheWeightRow.holds Try.pinned (OpenSpec.ofChange cacheWeightSpec)

/-- ITS FALSE NEIGHBOUR: 'it returns false'. Refute it at one input. -/
def cacheWeightWrong : ChangeSpec := { name := "cacheWeight", fn := fun _ => fun
  | [d] => { results := [.lit (.bool false)], args := [d] }
  | _ => none }
def CacheWeightWrongFalsely : Prop := cacheWeightRow.holds Try.pinned (OpenSpec.ofChange cacheWeightWrong)

/-- 'wavestorelaw41.CacheApart': WHATEVER THE INPUT: true; the input reads as it did. -/
def cacheApartSpec : ChangeSpec := { name := "cacheApart", fn := fun _ => fun
  | [d] => { results := [.lit (.bool true)], args := [d] }
  | _ => none }
def cacheApartRow : OpenClaim := { program := "ytphckenihkgoeaa", sum := "00921251e8738a936e5dd6ba272a277c67dfd017519c7fd2af42a0dd8e29816e", func := "wavestore/wavestorelaw41.CacheApart", spec := "cacheApart", unfollowed := true, recurses := true, plainKeys := false, apart := false }
def CacheApartSaid : Prop := cacheApartRow.holds Try.pinned (OpenSpec.ofChange cacheApartSpec)

/-- ITS FALSE NEIGHBOUR: 'it returns false'. Refute it at one input. -/
def cacheApartWrong : ChangeSpec := { name := "cacheApart", fn := fun _ => fun
  | [d] => { results := [.lit (.bool false)], args := [d] }
  | _ => none }
def CacheApartWrongFalsely : Prop := cacheApartRow.holds Try.pinned (OpenSpec.ofChange cacheApartWrong)

/-- 'wavestorelaw41.CacheNew': WHATEVER THE INPUT: true; the input reads as it did. -/
def cacheNewSpec : ChangeSpec := { name := "cacheNew", fn := fun _ => fun
  | [d] => { results := [.lit (.bool true)], args := [d] }
  | _ => none }
def cacheNewRow : OpenClaim := { program := "ytphckenihkgoeaa", sum := "00921251e8738a936e5dd6ba272a277c67dfd017519c7fd2af42a0dd8e29816e", func := "wavestore/wavestorelaw41.CacheNew", spec := "cacheNew", unfollowed := true, recurses := true, plainKeys := false, apart := false }
def CacheNewSaid : Prop := cacheNewRow.holds Try.pinned (OpenSpec.ofChange cacheNewSpec)

/-- ITS FALSE NEIGHBOUR: 'it returns false'. Refute it at one input. -/
def cacheNewWrong : ChangeSpec := { name := "cacheNew", fn := fun _ => fun
  | [d] => { results := [.lit (.bool false)], args := [d] }
  | _ => none }
def CacheNewWrongFalsely : Prop := cacheNewRow.holds Try.pinned (OpenSpec.ofChange cacheNewWrong)

/-- 'wavestorelaw41.CacheLast': WHATEVER THE INPUT: true; the input reads as it did. -/
def cacheLastSpec : ChangeSpec := { name := "cacheLast", fn := fun _ => fun
  | [d1, d2] => { results := [.lit (.bool true)], args := [d1, d2] }
  | _ => none }
def cacheLastRow : OpenClaim := { program := "ytphckenihkgoeaa", sum := "00921251e8738a936e5dd6ba272a277c67dfd017519c7fd2af42a0dd8e29816e", func := "wavestore/wavestorelaw41.CacheLast", spec := "cacheLast", unfollowed := true, recurses := true, plainKeys := false, apart := false }
def CacheLastSaid : Prop := cacheLastRow.holds Try.pinned (OpenSpec.ofChange cacheLastSpec)

/-- ITS FALSE NEIGHBOUR: 'it returns false'. Refute it at one input. -/
def cacheLastWrong : ChangeSpec := { name := "cacheLast", fn := fun _ => fun
  | [d1, d2] => { results := [.lit (.bool false)], args := [d1, d2] }
  | _ => none }
def CacheLastWrongFalsely : Prop := cacheLastRow.holds Try.pinned (OpenSpec.ofChange cacheLastWrong)

/-- 'wavestorelaw41.CacheDrops': WHATEVER THE INPUT: true; the input reads as it did. -/
def cacheDropsSpec : ChangeSpec := { name := "cacheDrops", fn := fun _ => fun
  | [d1, d2, d3, d4] => { results := [.lit (.bool true)], args := [d1, d2, d3, d4] }
  | _ => none }
def cacheDropsRow : OpenClaim := { program := "ytphckenihkgoeaa", sum := "00921251e8738a936e5dd6ba272a277c67dfd017519c7fd2af42a0dd8e29816e", func := "wavestore/wavestorelaw41.CacheDrops", spec := "cacheDrops", unfollowed := true, recurses := true, plainKeys := false, apart := false }
def CacheDropsSaid : Prop := cacheDropsRow.holds Try.pinned (OpenSpec.ofChange cacheDropsSpec)

/-- ITS FALSE NEIGHBOUR: 'it returns false'. Refute it at one input. -/
def cacheDropsWrong : ChangeSpec := { name := "cacheDrops", fn := fun _ => fun
  | [d1, d2, d3, d4] => { results := [.lit (.bool false)], args := [d1, d2, d3, d4] }
  | _ => none }
def CacheDropsWrongFalsely : Prop := cacheDropsRow.holds Try.pinned (OpenSpec.ofChange cacheDropsWrong)

/-- 'wavestorelaw41.CacheOperations': WHATEVER THE INPUT: true; the input reads as it did. -/
def cacheOperationsSpec : ChangeSpec := { name := "cacheOperations", fn := fun _ => fun
  | [d1, d2] => { results := [.lit (.bool true)], args := [d1, d2] }
  | _ => none }
def cacheOperationsRow : OpenClaim := { program := "ytphckenihkgoeaa", sum := "00921251e8738a936e5dd6ba272a277c67dfd017519c7fd2af42a0dd8e29816e", func := "wavestore/wavestorelaw41.CacheOperations", spec := "cacheOperations", unfollowed := true, recurses := true, plainKeys := false, apart := false }
def CacheOperationsSaid : Prop := cacheOperationsRow.holds Try.pinned (OpenSpec.ofChange cacheOperationsSpec)

/-- ITS FALSE NEIGHBOUR: 'it returns false'. Refute it at one input. -/
def cacheOperationsWrong : ChangeSpec := { name := "cacheOperations", fn := fun _ => fun
  | [d1, d2] => { results := [.lit (.bool false)], args := [d1, d2] }
  | _ => none }
def CacheOperationsWrongFalsely : Prop := cacheOperationsRow.holds Try.pinned (OpenSpec.ofChange cacheOperationsWrong)

/- THE SECOND FORM. 'bulk': how many values and letters a reading holds, each counted each time it is reached (what is shared counts as often as it is met; a slice's spare places count too). A statement '..UptoSaid' is the law's where the arguments, and the package variables that the reading takes, are together of bulk at most 1048576: NARROWER than '..Said'. Prove '..Said' where nothing that the law and all that it calls make is longer than what came in: it says more and counts as full. Else prove '..UptoSaid'. A law counts once. -/
mutual
def uptoBulk {H : Type} : DataW H → Nat
  | .lit (.string bytes) => bytes.length + 1
  | .lit _ => 1
  | .nil => 1
  | .ptr d => uptoBulk d + 1
  | .slice elems spare => uptoBulkAll elems + uptoBulkAll spare + 1
  | .agg parts => uptoBulkAll parts + 1
  | .iface _ d => uptoBulk d + 1
  | .map entries => uptoBulkEntries entries + 1
  | .held _ => 1
def uptoBulkAll {H : Type} : List (DataW H) → Nat
  | [] => 0
  | d :: r => uptoBulk d + uptoBulkAll r
def uptoBulkEntries {H : Type} : List (Lit × DataW H) → Nat
  | [] => 0
  | x :: r => uptoBulkEntry x + uptoBulkEntries r
def uptoBulkEntry {H : Type} : Lit × DataW H → Nat
  | (.string bytes, d) => bytes.length + uptoBulk d + 1
  | (_, d) => uptoBulk d + 1
 end
def uptoSmall : (H : Type) → List (DataW H) → Bool := fun _ ds => decide (uptoBulkAll ds ≤ 1048576)
def OpenSpec.upto (s : _root_.Go.ChangeSpec) : _root_.Go.OpenSpec := { _root_.Go.OpenSpec.ofChange s with cond := some uptoSmall }

/-- 'wavestorelaw41.CacheWeight', WHERE WHAT IT READS IS OF BULK AT MOST 1048576: true; the input reads as it did. -/
def cacheWeightUptoRow : OpenClaim := { program := "ytphckenihkgoeaa", sum := "00921251e8738a936e5dd6ba272a277c67dfd017519c7fd2af42a0dd8e29816e", func := "wavestore/wavestorelaw41.CacheWeight", spec := "cacheWeight", unfollowed := true, recurses := true, plainKeys := false, apart := false, narrowed := true }
def CacheWeightUptoSaid : Prop := cacheWeightUptoRow.holds Try.pinned (OpenSpec.upto cacheWeightSpec)

/-- 'wavestorelaw41.CacheApart', WHERE WHAT IT READS IS OF BULK AT MOST 1048576: true; the input reads as it did. -/
def cacheApartUptoRow : OpenClaim := { program := "ytphckenihkgoeaa", sum := "00921251e8738a936e5dd6ba272a277c67dfd017519c7fd2af42a0dd8e29816e", func := "wavestore/wavestorelaw41.CacheApart", spec := "cacheApart", unfollowed := true, recurses := true, plainKeys := false, apart := false, narrowed := true }
def CacheApartUptoSaid : Prop := cacheApartUptoRow.holds Try.pinned (OpenSpec.upto cacheApartSpec)

/-- 'wavestorelaw41.CacheNew', WHERE WHAT IT READS IS OF BULK AT MOST 1048576: true; the input reads as it did. -/
def cacheNewUptoRow : OpenClaim := { program := "ytphckenihkgoeaa", sum := "00921251e8738a936e5dd6ba272a277c67dfd017519c7fd2af42a0dd8e29816e", func := "wavestore/wavestorelaw41.CacheNew", spec := "cacheNew", unfollowed := true, recurses := true, plainKeys := false, apart := false, narrowed := true }
def CacheNewUptoSaid : Prop := cacheNewUptoRow.holds Try.pinned (OpenSpec.upto cacheNewSpec)

/-- 'wavestorelaw41.CacheLast', WHERE WHAT IT READS IS OF BULK AT MOST 1048576: true; the input reads as it did. -/
def cacheLastUptoRow : OpenClaim := { program := "ytphckenihkgoeaa", sum := "00921251e8738a936e5dd6ba272a277c67dfd017519c7fd2af42a0dd8e29816e", func := "wavestore/wavestorelaw41.CacheLast", spec := "cacheLast", unfollowed := true, recurses := true, plainKeys := false, apart := false, narrowed := true }
def CacheLastUptoSaid : Prop := cacheLastUptoRow.holds Try.pinned (OpenSpec.upto cacheLastSpec)

/-- 'wavestorelaw41.CacheDrops', WHERE WHAT IT READS IS OF BULK AT MOST 1048576: true; the input reads as it did. -/
def cacheDropsUptoRow : OpenClaim := { program := "ytphckenihkgoeaa", sum := "00921251e8738a936e5dd6ba272a277c67dfd017519c7fd2af42a0dd8e29816e", func := "wavestore/wavestorelaw41.CacheDrops", spec := "cacheDrops", unfollowed := true, recurses := true, plainKeys := false, apart := false, narrowed := true }
def CacheDropsUptoSaid : Prop := cacheDropsUptoRow.holds Try.pinned (OpenSpec.upto cacheDropsSpec)

/-- 'wavestorelaw41.CacheOperations', WHERE WHAT IT READS IS OF BULK AT MOST 1048576: true; the input reads as it did. -/
def cacheOperationsUptoRow : OpenClaim := { program := "ytphckenihkgoeaa", sum := "00921251e8738a936e5dd6ba272a277c67dfd017519c7fd2af42a0dd8e29816e", func := "wavestore/wavestorelaw41.CacheOperations", spec := "cacheOperations", unfollowed := true, recurses := true, plainKeys := false, apart := false, narrowed := true }
def CacheOperationsUptoSaid : Prop := cacheOperationsUptoRow.holds Try.pinned (OpenSpec.upto cacheOperationsSpec)

end Rows
end Go.Proofs.Ytphckenihkgoeaa
