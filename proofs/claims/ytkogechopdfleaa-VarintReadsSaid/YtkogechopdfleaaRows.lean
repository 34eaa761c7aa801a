/-
  No cell of these rows narrows 'for every input' (looked for: loops, veiled, ifaces, maps, wideKeys, modest, calm, conditions, laid).
  DERIVED. THE GIVEN ROWS OF THIS SEAT. 7 by the template 'for every input the law returns true; each argument reads behind the call as it read before'; 0 by the template 'total and deterministic' (their statements: YtkogechopdfleaaTotals.lean).
  GIVEN WITH THE SEED: the statements are not yours to turn. If you find one false, say at which input.
  Laid BY PROGRAM, IN A SANDBOX (cutbox-rows.mjs): the forced cells as the released guide's own fill.sh prints them over the translation 9b384172a47911fd… (all of the seat's roots in one cut). By AI agents, Wed Nov 11 2026. No macro, syntax, notation, axiom, sorry.
-/
import Derived.Test.YtkogechopdfleaaChecked
import GoSem.Claim
import GoSem.ClaimJoined
import GoSem.ClaimMapViews
import Derived.JoinedTies
import Derived.KernelRfl
namespace Go.Proofs.Ytkogechopdfleaa
/- THE CELL 'sum', in the pinned program and in every row, IS THE sha256 OF THE DUMP (.gsa) THAT YtkogechopdfleaaProg.lean LOADS. Nothing in Lean hashes anything: it is a label: what it is worth is what the hold of that sum in a sandbox is worth. -/
noncomputable def Try.pinned : Pinned := { name := "ytkogechopdfleaa", sum := "9b384172a47911fdfbd82379be11d7fdec6912c5965e23e1b43d54e481d165ab", checked := Try.checked }
namespace Rows
def none {H : Type} : Left H := { results := [], args := [] }

/-- 'wavestorelaw04.VarintForms': WHATEVER THE INPUT: true; the input reads as it did. -/
def varintFormsSpec : ChangeSpec := { name := "varintForms", fn := fun _ => fun
  | [d1, d2] => { results := [.lit (.bool true)], args := [d1, d2] }
  | _ => none }
def varintFormsRow : OpenClaim := { program := "ytkogechopdfleaa", sum := "9b384172a47911fdfbd82379be11d7fdec6912c5965e23e1b43d54e481d165ab", func := "wavestore/wavestorelaw04.VarintForms", spec := "varintForms", unfollowed := true, recurses := true, apart := false }
def VarintFormsSaid : Prop := varintFormsRow.holds Try.pinned (OpenSpec.ofChange varintFormsSpec)

/-- ITS FALSE NEIGHBOUR: 'it returns false'. Refute it at one input. -/
def varintFormsWrong : ChangeSpec := { name := "varintForms", fn := fun _ => fun
  | [d1, d2] => { results := [.lit (.bool false)], args := [d1, d2] }
  | _ => none }
def VarintFormsWrongFalsely : Prop := varintFormsRow.holds Try.pinned (OpenSpec.ofChange varintFormsWrong)

/-- 'wavestorelaw04.VarintOrder': WHATEVER THE INPUT: true; the input reads as it did. -/
def varintOrderSpec : ChangeSpec := { name := "varintOrder", fn := fun _ => fun
  | [d1, d2] => { results := [.lit (.bool true)], args := [d1, d2] }
  | _ => none }
def varintOrderRow : OpenClaim := { program := "ytkogechopdfleaa", sum := "9b384172a47911fdfbd82379be11d7fdec6912c5965e23e1b43d54e481d165ab", func := "wavestore/wavestorelaw04.VarintOrder", spec := "varintOrder", unfollowed := true, recurses := true, apart := false }
def VarintOrderSaid : Prop := varintOrderRow.holds Try.pinned (OpenSpec.ofChange varintOrderSpec)

/-- ITS FALSE NEIGHBOUR: 'it returns false'. Refute it at one input. -/
def varintOrderWrong : ChangeSpec := { name := "varintOrder", fn := fun _ => fun
  | [d1, d2] => { results := [.lit (.bool false)], args := [d1, d2] }
  | _ => none }
def VarintOrderWrongFalsely : Prop := varintOrderRow.holds Try.pinned (OpenSpec.ofChange varintOrderWrong)

/-- 'wavestorelaw04.VarintShort': WHATEVER THE INPUT: true; the input reads as it did. -/
def varintShortSpec : ChangeSpec := { name := "varintShort", fn := fun _ => fun
  | [d1, d2] => { results := [.lit (.bool true)], args := [d1, d2] }
  | _ => none }
def varintShortRow : OpenClaim := { program := "ytkogechopdfleaa", sum := "9b384172a47911fdfbd82379be11d7fdec6912c5965e23e1b43d54e481d165ab", func := "wavestore/wavestorelaw04.VarintShort", spec := "varintShort", unfollowed := true, recurses := true, apart := false }
def VarintShortSaid : Prop := varintShortRow.holds Try.pinned (OpenSpec.ofChange varintShortSpec)

/-- ITS FALSE NEIGHBOUR: 'it returns false'. Refute it at one input. -/
def varintShortWrong : ChangeSpec := { name := "varintShort", fn := fun _ => fun
  | [d1, d2] => { results := [.lit (.bool false)], args := [d1, d2] }
  | _ => none }
def VarintShortWrongFalsely : Prop := varintShortRow.holds Try.pinned (OpenSpec.ofChange varintShortWrong)

/-- 'wavestorelaw04.VarintUnique': WHATEVER THE INPUT: true; the input reads as it did. -/
def varintUniqueSpec : ChangeSpec := { name := "varintUnique", fn := fun _ => fun
  | [d] => { results := [.lit (.bool true)], args := [d] }
  | _ => none }
def varintUniqueRow : OpenClaim := { program := "ytkogechopdfleaa", sum := "9b384172a47911fdfbd82379be11d7fdec6912c5965e23e1b43d54e481d165ab", func := "wavestore/wavestorelaw04.VarintUnique", spec := "varintUnique", unfollowed := true, recurses := true, apart := false }
def VarintUniqueSaid : Prop := varintUniqueRow.holds Try.pinned (OpenSpec.ofChange varintUniqueSpec)

/-- ITS FALSE NEIGHBOUR: 'it returns false'. Refute it at one input. -/
def varintUniqueWrong : ChangeSpec := { name := "varintUnique", fn := fun _ => fun
  | [d] => { results := [.lit (.bool false)], args := [d] }
  | _ => none }
def VarintUniqueWrongFalsely : Prop := varintUniqueRow.holds Try.pinned (OpenSpec.ofChange varintUniqueWrong)

/-- 'wavestorelaw04.VarintInverts': WHATEVER THE INPUT: true; the input reads as it did. -/
def varintInvertsSpec : ChangeSpec := { name := "varintInverts", fn := fun _ => fun
  | [d1, d2, d3] => { results := [.lit (.bool true)], args := [d1, d2, d3] }
  | _ => none }
def varintInvertsRow : OpenClaim := { program := "ytkogechopdfleaa", sum := "9b384172a47911fdfbd82379be11d7fdec6912c5965e23e1b43d54e481d165ab", func := "wavestore/wavestorelaw04.VarintInverts", spec := "varintInverts", unfollowed := true, recurses := true, apart := false }
def VarintInvertsSaid : Prop := varintInvertsRow.holds Try.pinned (OpenSpec.ofChange varintInvertsSpec)

/-- ITS FALSE NEIGHBOUR: 'it returns false'. Refute it at one input. -/
def varintInvertsWrong : ChangeSpec := { name := "varintInverts", fn := fun _ => fun
  | [d1, d2, d3] => { results := [.lit (.bool false)], args := [d1, d2, d3] }
  | _ => none }
def VarintInvertsWrongFalsely : Prop := varintInvertsRow.holds Try.pinned (OpenSpec.ofChange varintInvertsWrong)

/-- 'wavestorelaw04.VarintReads': WHATEVER THE INPUT: true; the input reads as it did. -/
def varintReadsSpec : ChangeSpec := { name := "varintReads", fn := fun _ => fun
  | [d1, d2] => { results := [.lit (.bool true)], args := [d1, d2] }
  | _ => none }
def varintReadsRow : OpenClaim := { program := "ytkogechopdfleaa", sum := "9b384172a47911fdfbd82379be11d7fdec6912c5965e23e1b43d54e481d165ab", func := "wavestore/wavestorelaw04.VarintReads", spec := "varintReads", unfollowed := true, recurses := true, apart := false }
def VarintReadsSaid : Prop := varintReadsRow.holds Try.pinned (OpenSpec.ofChange varintReadsSpec)

/-- ITS FALSE NEIGHBOUR: 'it returns false'. Refute it at one input. -/
def varintReadsWrong : ChangeSpec := { name := "varintReads", fn := fun _ => fun
  | [d1, d2] => { results := [.lit (.bool false)], args := [d1, d2] }
  | _ => none }
def VarintReadsWrongFalsely : Prop := varintReadsRow.holds Try.pinned (OpenSpec.ofChange varintReadsWrong)

/-- 'wavestorelaw04.VarintLimits': WHATEVER THE INPUT: true; the input reads as it did. -/
def varintLimitsSpec : ChangeSpec := { name := "varintLimits", fn := fun _ => fun
  | [d1, d2, d3] => { results := [.lit (.bool true)], args := [d1, d2, d3] }
  | _ => none }
def varintLimitsRow : OpenClaim := { program := "ytkogechopdfleaa", sum := "9b384172a47911fdfbd82379be11d7fdec6912c5965e23e1b43d54e481d165ab", func := "wavestore/wavestorelaw04.VarintLimits", spec := "varintLimits", unfollowed := true, recurses := true, apart := false }
def VarintLimitsSaid : Prop := varintLimitsRow.holds Try.pinned (OpenSpec.ofChange varintLimitsSpec)

/-- ITS FALSE NEIGHBOUR: 'it returns false'. Refute it at one input. -/
def varintLimitsWrong : ChangeSpec := { name := "varintLimits", fn := fun _ => fun
  | [d1, d2, d3] => { results := [.lit (.bool false)], args := [d1, d2, d3] }
  | _ => none }
def VarintLimitsWrongFalsely : Prop := varintLimitsRow.holds Try.pinned (OpenSpec.ofChange varintLimitsWrong)

/- THE SECOND FORM. 'bulk': how many values and letters a reading holds, each counted each time it is reached (what is shared counts as often as it is met; a slice's spare places count too). A statement '..UptoSaid' is the law's where the arguments, and the package variables that the reading takes, are together of bulk at most 1048576: NARROWER than '..Said'. Prove '..Said' where nothing that the law and all that it calls make is longer than what came in: it says more and counts as full. Else prove '..UptoSaid'. A law counts once. -/
mutual
def uptoBulk {H : Type} : DataW H → Nat
  | .lit (.string bytes) => bytes.length + 1
  | .lit _ => 1
  | .nil => 1
  | .ptr d => uptoBulk d + 1
  | .slice elems spare => uptoBulkAll elems + uptoBulkAll spare + 1
  | .agg parts => uptoBulkAll parts + 1
  | .iface _ d => uptoBulk d + 1
  | .map entries => uptoBulkEntries entries + 1
  | .held _ => 1
def uptoBulkAll {H : Type} : List (DataW H) → Nat
  | [] => 0
  | d :: r => uptoBulk d + uptoBulkAll r
def uptoBulkEntries {H : Type} : List (Lit × DataW H) → Nat
  | [] => 0
  | x :: r => uptoBulkEntry x + uptoBulkEntries r
def uptoBulkEntry {H : Type} : Lit × DataW H → Nat
  | (.string bytes, d) => bytes.length + uptoBulk d + 1
  | (_, d) => uptoBulk d + 1
 end
def uptoSmall : (H : Type) → List (DataW H) → Bool := fun _ ds => decide (uptoBulkAll ds ≤ 1048576)
def OpenSpec.upto (s : _root_.Go.ChangeSpec) : _root_.Go.OpenSpec := { _root_.Go.OpenSpec.ofChange s with cond := some uptoSmall }

/-- 'wavestorelaw04.VarintForms', WHERE WHAT IT READS IS OF BULK AT MOST 1048576: true; the input reads as it did. -/
def varintFormsUptoRow : OpenClaim := { program := "ytkogechopdfleaa", sum := "9b384172a47911fdfbd82379be11d7fdec6912c5965e23e1b43d54e481d165ab", func := "wavestore/wavestorelaw04.VarintForms", spec := "varintForms", unfollowed := true, recurses := true, apart := false, narrowed := true }
def VarintFormsUptoSaid : Prop := varintFormsUptoRow.holds Try.pinned (OpenSpec.upto varintFormsSpec)

/-- 'wavestorelaw04.VarintOrder', WHERE WHAT IT READS IS OF BULK AT MOST 1048576: true; the input reads as it did. -/
def varintOrderUptoRow : OpenClaim := { program := "ytkogechopdfleaa", sum := "9b384172a47911fdfbd82379be11d7fdec6912c5965e23e1b43d54e481d165ab", func := "wavestore/wavestorelaw04.VarintOrder", spec := "varintOrder", unfollowed := true, recurses := true, apart := false, narrowed := true }
def VarintOrderUptoSaid : Prop := varintOrderUptoRow.holds Try.pinned (OpenSpec.upto varintOrderSpec)

/-- 'wavestorelaw04.VarintShort', WHERE WHAT IT READS IS OF BULK AT MOST 1048576: true; the input reads as it did. -/
def varintShortUptoRow : OpenClaim := { program := "ytkogechopdfleaa", sum := "9b384172a47911fdfbd82379be11d7fdec6912c5965e23e1b43d54e481d165ab", func := "wavestore/wavestorelaw04.VarintShort", spec := "varintShort", unfollowed := true, recurses := true, apart := false, narrowed := true }
def VarintShortUptoSaid : Prop := varintShortUptoRow.holds Try.pinned (OpenSpec.upto varintShortSpec)

/-- 'wavestorelaw04.VarintUnique', WHERE WHAT IT READS IS OF BULK AT MOST 1048576: true; the input reads as it did. -/
def varintUniqueUptoRow : OpenClaim := { program := "ytkogechopdfleaa", sum := "9b384172a47911fdfbd82379be11d7fdec6912c5965e23e1b43d54e481d165ab", func := "wavestore/wavestorelaw04.VarintUnique", spec := "varintUnique", unfollowed := true, recurses := true, apart := false, narrowed := true }
def VarintUniqueUptoSaid : Prop := varintUniqueUptoRow.holds Try.pinned (OpenSpec.upto varintUniqueSpec)

/-- 'wavestorelaw04.VarintInverts', WHERE WHAT IT READS IS OF BULK AT MOST 1048576: true; the input reads as it did. -/
def varintInvertsUptoRow : OpenClaim := { program := "ytkogechopdfleaa", sum := "9b384172a47911fdfbd82379be11d7fdec6912c5965e23e1b43d54e481d165ab", func := "wavestore/wavestorelaw04.VarintInverts", spec := "varintInverts", unfollowed := true, recurses := true, apart := false, narrowed := true }
def VarintInvertsUptoSaid : Prop := varintInvertsUptoRow.holds Try.pinned (OpenSpec.upto varintInvertsSpec)

/-- 'wavestorelaw04.VarintReads', WHERE WHAT IT READS IS OF BULK AT MOST 1048576: true; the input reads as it did. -/
def varintReadsUptoRow : OpenClaim := { program := "ytkogechopdfleaa", sum := "9b384172a47911fdfbd82379be11d7fdec6912c5965e23e1b43d54e481d165ab", func := "wavestore/wavestorelaw04.VarintReads", spec := "varintReads", unfollowed := true, recurses := true, apart := false, narrowed := true }
def VarintReadsUptoSaid : Prop := varintReadsUptoRow.holds Try.pinned (OpenSpec.upto varintReadsSpec)

/-- 'wavestorelaw04.VarintLimits', WHERE WHAT IT READS IS OF BULK AT MOST 1048576: true; the input reads as it did. -/
def varintLimitsUptoRow : OpenClaim := { program := "ytkogechopdfleaa", sum := "9b384172a47911fdfbd82379be11d7fdec6912c5965e23e1b43d54e481d165ab", func := "wavestore/wavestorelaw04.VarintLimits", spec := "varintLimits", unfollowed := true, recurses := true, apart := false, narrowed := true }
def VarintLimitsUptoSaid : Prop := varintLimitsUptoRow.holds Try.pinned (OpenSpec.upto varintLimitsSpec)

end Rows
end Go.Proofs.Ytkogechopdfleaa
