/-
  No cell of these rows narrows 'for every input' (looked for: loops, veiled, ifaces, maps, wideKeys, modest, calm, conditions, laid).
  DERIVED. THE GIVEN ROWS OF THIS SEAT. 8 by the template 'for every input the law returns true; each argument reads behind the call as it read before'; 0 by the template 'total and deterministic' (their statements: YtonkamdipalbpaaTotals.lean).
  GIVEN WITH THE SEED: the statements are not yours to turn. If you find one false, say at which input.
  Laid BY PROGRAM, IN A SANDBOX (cutbox-rows.mjs): the forced cells as the released guide's own fill.sh prints them over the translation 413ad74df0efb84b… (all of the seat's roots in one cut). By AI agents, Wed Nov 11 2026. No macro, syntax, notation, axiom, sorry.
-/
import Derived.Test.YtonkamdipalbpaaChecked
import GoSem.Claim
import GoSem.ClaimJoined
import GoSem.ClaimMapViews
import Derived.JoinedTies
import Derived.KernelRfl
namespace Go.Proofs.Ytonkamdipalbpaa
/- THE CELL 'sum', in the pinned program and in every row, IS THE sha256 OF THE DUMP (.gsa) THAT YtonkamdipalbpaaProg.lean LOADS. Nothing in Lean hashes anything: it is a label: what it is worth is what the hold of that sum in a sandbox is worth. -/
noncomputable def Try.pinned : Pinned := { name := "ytonkamdipalbpaa", sum := "413ad74df0efb84b929186e4edbec11d84bcf72ed58d935dddabb924fe153fa3", checked := Try.checked }
namespace Rows
def none {H : Type} : Left H := { results := [], args := [] }

/-- 'wavestorelaw38.RootForm': WHATEVER THE INPUT: true; the input reads as it did. -/
def rootFormSpec : ChangeSpec := { name := "rootForm", fn := fun _ => fun
  | [d] => { results := [.lit (.bool true)], args := [d] }
  | _ => none }
def rootFormRow : OpenClaim := { program := "ytonkamdipalbpaa", sum := "413ad74df0efb84b929186e4edbec11d84bcf72ed58d935dddabb924fe153fa3", func := "wavestore/wavestorelaw38.RootForm", spec := "rootForm", apart := false }
def RootFormSaid : Prop := rootFormRow.holds Try.pinned (OpenSpec.ofChange rootFormSpec)

/-- ITS FALSE NEIGHBOUR: 'it returns false'. Refute it at one input. -/
def rootFormWrong : ChangeSpec := { name := "rootForm", fn := fun _ => fun
  | [d] => { results := [.lit (.bool false)], args := [d] }
  | _ => none }
def RootFormWrongFalsely : Prop := rootFormRow.holds Try.pinned (OpenSpec.ofChange rootFormWrong)

/-- 'wavestorelaw38.RootDecodes': WHATEVER THE INPUT: true; the input reads as it did. -/
def rootDecodesSpec : ChangeSpec := { name := "rootDecodes", fn := fun _ => fun
  | [d1, d2] => { results := [.lit (.bool true)], args := [d1, d2] }
  | _ => none }
def rootDecodesRow : OpenClaim := { program := "ytonkamdipalbpaa", sum := "413ad74df0efb84b929186e4edbec11d84bcf72ed58d935dddabb924fe153fa3", func := "wavestore/wavestorelaw38.RootDecodes", spec := "rootDecodes", apart := false }
def RootDecodesSaid : Prop := rootDecodesRow.holds Try.pinned (OpenSpec.ofChange rootDecodesSpec)

/-- ITS FALSE NEIGHBOUR: 'it returns false'. Refute it at one input. -/
def rootDecodesWrong : ChangeSpec := { name := "rootDecodes", fn := fun _ => fun
  | [d1, d2] => { results := [.lit (.bool false)], args := [d1, d2] }
  | _ => none }
def RootDecodesWrongFalsely : Prop := rootDecodesRow.holds Try.pinned (OpenSpec.ofChange rootDecodesWrong)

/-- 'wavestorelaw38.RootReturns': WHATEVER THE INPUT: true; the input reads as it did. -/
def rootReturnsSpec : ChangeSpec := { name := "rootReturns", fn := fun _ => fun
  | [d1, d2] => { results := [.lit (.bool true)], args := [d1, d2] }
  | _ => none }
def rootReturnsRow : OpenClaim := { program := "ytonkamdipalbpaa", sum := "413ad74df0efb84b929186e4edbec11d84bcf72ed58d935dddabb924fe153fa3", func := "wavestore/wavestorelaw38.RootReturns", spec := "rootReturns", apart := false }
def RootReturnsSaid : Prop := rootReturnsRow.holds Try.pinned (OpenSpec.ofChange rootReturnsSpec)

/-- ITS FALSE NEIGHBOUR: 'it returns false'. Refute it at one input. -/
def rootReturnsWrong : ChangeSpec := { name := "rootReturns", fn := fun _ => fun
  | [d1, d2] => { results := [.lit (.bool false)], args := [d1, d2] }
  | _ => none }
def RootReturnsWrongFalsely : Prop := rootReturnsRow.holds Try.pinned (OpenSpec.ofChange rootReturnsWrong)

/-- 'wavestorelaw38.RootStrict': WHATEVER THE INPUT: true; the input reads as it did. -/
def rootStrictSpec : ChangeSpec := { name := "rootStrict", fn := fun _ => fun
  | [d1, d2] => { results := [.lit (.bool true)], args := [d1, d2] }
  | _ => none }
def rootStrictRow : OpenClaim := { program := "ytonkamdipalbpaa", sum := "413ad74df0efb84b929186e4edbec11d84bcf72ed58d935dddabb924fe153fa3", func := "wavestore/wavestorelaw38.RootStrict", spec := "rootStrict", apart := false }
def RootStrictSaid : Prop := rootStrictRow.holds Try.pinned (OpenSpec.ofChange rootStrictSpec)

/-- ITS FALSE NEIGHBOUR: 'it returns false'. Refute it at one input. -/
def rootStrictWrong : ChangeSpec := { name := "rootStrict", fn := fun _ => fun
  | [d1, d2] => { results := [.lit (.bool false)], args := [d1, d2] }
  | _ => none }
def RootStrictWrongFalsely : Prop := rootStrictRow.holds Try.pinned (OpenSpec.ofChange rootStrictWrong)

/-- 'wavestorelaw38.RootTorn': WHATEVER THE INPUT: true; the input reads as it did. -/
def rootTornSpec : ChangeSpec := { name := "rootTorn", fn := fun _ => fun
  | [d1, d2, d3, d4] => { results := [.lit (.bool true)], args := [d1, d2, d3, d4] }
  | _ => none }
def rootTornRow : OpenClaim := { program := "ytonkamdipalbpaa", sum := "413ad74df0efb84b929186e4edbec11d84bcf72ed58d935dddabb924fe153fa3", func := "wavestore/wavestorelaw38.RootTorn", spec := "rootTorn", apart := false }
def RootTornSaid : Prop := rootTornRow.holds Try.pinned (OpenSpec.ofChange rootTornSpec)

/-- ITS FALSE NEIGHBOUR: 'it returns false'. Refute it at one input. -/
def rootTornWrong : ChangeSpec := { name := "rootTorn", fn := fun _ => fun
  | [d1, d2, d3, d4] => { results := [.lit (.bool false)], args := [d1, d2, d3, d4] }
  | _ => none }
def RootTornWrongFalsely : Prop := rootTornRow.holds Try.pinned (OpenSpec.ofChange rootTornWrong)

/-- 'wavestorelaw38.RootDamage': WHATEVER THE INPUT: true; the input reads as it did. -/
def rootDamageSpec : ChangeSpec := { name := "rootDamage", fn := fun _ => fun
  | [d1, d2, d3, d4, d5, d6] => { results := [.lit (.bool true)], args := [d1, d2, d3, d4, d5, d6] }
  | _ => none }
def rootDamageRow : OpenClaim := { program := "ytonkamdipalbpaa", sum := "413ad74df0efb84b929186e4edbec11d84bcf72ed58d935dddabb924fe153fa3", func := "wavestore/wavestorelaw38.RootDamage", spec := "rootDamage", apart := false }
def RootDamageSaid : Prop := rootDamageRow.holds Try.pinned (OpenSpec.ofChange rootDamageSpec)

/-- ITS FALSE NEIGHBOUR: 'it returns false'. Refute it at one input. -/
def rootDamageWrong : ChangeSpec := { name := "rootDamage", fn := fun _ => fun
  | [d1, d2, d3, d4, d5, d6] => { results := [.lit (.bool false)], args := [d1, d2, d3, d4, d5, d6] }
  | _ => none }
def RootDamageWrongFalsely : Prop := rootDamageRow.holds Try.pinned (OpenSpec.ofChange rootDamageWrong)

/-- 'wavestorelaw38.RootChoose': WHATEVER THE INPUT: true; the input reads as it did. -/
def rootChooseSpec : ChangeSpec := { name := "rootChoose", fn := fun _ => fun
  | [d] => { results := [.lit (.bool true)], args := [d] }
  | _ => none }
def rootChooseRow : OpenClaim := { program := "ytonkamdipalbpaa", sum := "413ad74df0efb84b929186e4edbec11d84bcf72ed58d935dddabb924fe153fa3", func := "wavestore/wavestorelaw38.RootChoose", spec := "rootChoose", apart := false }
def RootChooseSaid : Prop := rootChooseRow.holds Try.pinned (OpenSpec.ofChange rootChooseSpec)

/-- ITS FALSE NEIGHBOUR: 'it returns false'. Refute it at one input. -/
def rootChooseWrong : ChangeSpec := { name := "rootChoose", fn := fun _ => fun
  | [d] => { results := [.lit (.bool false)], args := [d] }
  | _ => none }
def RootChooseWrongFalsely : Prop := rootChooseRow.holds Try.pinned (OpenSpec.ofChange rootChooseWrong)

/-- 'wavestorelaw38.RootGreatest': WHATEVER THE INPUT: true; the input reads as it did. -/
def rootGreatestSpec : ChangeSpec := { name := "rootGreatest", fn := fun _ => fun
  | [d1, d2] => { results := [.lit (.bool true)], args := [d1, d2] }
  | _ => none }
def rootGreatestRow : OpenClaim := { program := "ytonkamdipalbpaa", sum := "413ad74df0efb84b929186e4edbec11d84bcf72ed58d935dddabb924fe153fa3", func := "wavestore/wavestorelaw38.RootGreatest", spec := "rootGreatest", apart := false }
def RootGreatestSaid : Prop := rootGreatestRow.holds Try.pinned (OpenSpec.ofChange rootGreatestSpec)

/-- ITS FALSE NEIGHBOUR: 'it returns false'. Refute it at one input. -/
def rootGreatestWrong : ChangeSpec := { name := "rootGreatest", fn := fun _ => fun
  | [d1, d2] => { results := [.lit (.bool false)], args := [d1, d2] }
  | _ => none }
def RootGreatestWrongFalsely : Prop := rootGreatestRow.holds Try.pinned (OpenSpec.ofChange rootGreatestWrong)

/- THE SECOND FORM. 'bulk': how many values and letters a reading holds, each counted each time it is reached (what is shared counts as often as it is met; a slice's spare places count too). A statement '..UptoSaid' is the law's where the arguments, and the package variables that the reading takes, are together of bulk at most 1048576: NARROWER than '..Said'. Prove '..Said' where nothing that the law and all that it calls make is longer than what came in: it says more and counts as full. Else prove '..UptoSaid'. A law counts once. -/
mutual
def uptoBulk {H : Type} : DataW H → Nat
  | .lit (.string bytes) => bytes.length + 1
  | .lit _ => 1
  | .nil => 1
  | .ptr d => uptoBulk d + 1
  | .slice elems spare => uptoBulkAll elems + uptoBulkAll spare + 1
  | .agg parts => uptoBulkAll parts + 1
  | .iface _ d => uptoBulk d + 1
  | .map entries => uptoBulkEntries entries + 1
  | .held _ => 1
def uptoBulkAll {H : Type} : List (DataW H) → Nat
  | [] => 0
  | d :: r => uptoBulk d + uptoBulkAll r
def uptoBulkEntries {H : Type} : List (Lit × DataW H) → Nat
  | [] => 0
  | x :: r => uptoBulkEntry x + uptoBulkEntries r
def uptoBulkEntry {H : Type} : Lit × DataW H → Nat
  | (.string bytes, d) => bytes.length + uptoBulk d + 1
  | (_, d) => uptoBulk d + 1
 end
def uptoSmall : (H : Type) → List (DataW H) → Bool := fun _ ds => decide (uptoBulkAll ds ≤ 1048576)
def OpenSpec.upto (s : _root_.Go.ChangeSpec) : _root_.Go.OpenSpec := { _root_.Go.OpenSpec.ofChange s with cond := some uptoSmall }

/-- 'wavestorelaw38.RootForm', WHERE WHAT IT READS IS OF BULK AT MOST 1048576: true; the input reads as it did. -/
def rootFormUptoRow : OpenClaim := { program := "ytonkamdipalbpaa", sum := "413ad74df0efb84b929186e4edbec11d84bcf72ed58d935dddabb924fe153fa3", func := "wavestore/wavestorelaw38.RootForm", spec := "rootForm", apart := false, narrowed := true }
def RootFormUptoSaid : Prop := rootFormUptoRow.holds Try.pinned (OpenSpec.upto rootFormSpec)

/-- 'wavestorelaw38.RootDecodes', WHERE WHAT IT READS IS OF BULK AT MOST 1048576: true; the input reads as it did. -/
def rootDecodesUptoRow : OpenClaim := { program := "ytonkamdipalbpaa", sum := "413ad74df0efb84b929186e4edbec11d84bcf72ed58d935dddabb924fe153fa3", func := "wavestore/wavestorelaw38.RootDecodes", spec := "rootDecodes", apart := false, narrowed := true }
def RootDecodesUptoSaid : Prop := rootDecodesUptoRow.holds Try.pinned (OpenSpec.upto rootDecodesSpec)

/-- 'wavestorelaw38.RootReturns', WHERE WHAT IT READS IS OF BULK AT MOST 1048576: true; the input reads as it did. -/
def rootReturnsUptoRow : OpenClaim := { program := "ytonkamdipalbpaa", sum := "413ad74df0efb84b929186e4edbec11d84bcf72ed58d935dddabb924fe153fa3", func := "wavestore/wavestorelaw38.RootReturns", spec := "rootReturns", apart := false, narrowed := true }
def RootReturnsUptoSaid : Prop := rootReturnsUptoRow.holds Try.pinned (OpenSpec.upto rootReturnsSpec)

/-- 'wavestorelaw38.RootStrict', WHERE WHAT IT READS IS OF BULK AT MOST 1048576: true; the input reads as it did. -/
def rootStrictUptoRow : OpenClaim := { program := "ytonkamdipalbpaa", sum := "413ad74df0efb84b929186e4edbec11d84bcf72ed58d935dddabb924fe153fa3", func := "wavestore/wavestorelaw38.RootStrict", spec := "rootStrict", apart := false, narrowed := true }
def RootStrictUptoSaid : Prop := rootStrictUptoRow.holds Try.pinned (OpenSpec.upto rootStrictSpec)

/-- 'wavestorelaw38.RootTorn', WHERE WHAT IT READS IS OF BULK AT MOST 1048576: true; the input reads as it did. -/
def rootTornUptoRow : OpenClaim := { program := "ytonkamdipalbpaa", sum := "413ad74df0efb84b929186e4edbec11d84bcf72ed58d935dddabb924fe153fa3", func := "wavestore/wavestorelaw38.RootTorn", spec := "rootTorn", apart := false, narrowed := true }
def RootTornUptoSaid : Prop := rootTornUptoRow.holds Try.pinned (OpenSpec.upto rootTornSpec)

/-- 'wavestorelaw38.RootDamage', WHERE WHAT IT READS IS OF BULK AT MOST 1048576: true; the input reads as it did. -/
def rootDamageUptoRow : OpenClaim := { program := "ytonkamdipalbpaa", sum := "413ad74df0efb84b929186e4edbec11d84bcf72ed58d935dddabb924fe153fa3", func := "wavestore/wavestorelaw38.RootDamage", spec := "rootDamage", apart := false, narrowed := true }
def RootDamageUptoSaid : Prop := rootDamageUptoRow.holds Try.pinned (OpenSpec.upto rootDamageSpec)

/-- 'wavestorelaw38.RootChoose', WHERE WHAT IT READS IS OF BULK AT MOST 1048576: true; the input reads as it did. -/
def rootChooseUptoRow : OpenClaim := { program := "ytonkamdipalbpaa", sum := "413ad74df0efb84b929186e4edbec11d84bcf72ed58d935dddabb924fe153fa3", func := "wavestore/wavestorelaw38.RootChoose", spec := "rootChoose", apart := false, narrowed := true }
def RootChooseUptoSaid : Prop := rootChooseUptoRow.holds Try.pinned (OpenSpec.upto rootChooseSpec)

/-- 'wavestorelaw38.RootGreatest', WHERE WHAT IT READS IS OF BULK AT MOST 1048576: true; the input reads as it did. -/
def rootGreatestUptoRow : OpenClaim := { program := "ytonkamdipalbpaa", sum := "413ad74df0efb84b929186e4edbec11d84bcf72ed58d935dddabb924fe153fa3", func := "wavestore/wavestorelaw38.RootGreatest", spec := "rootGreatest", apart := false, narrowed := true }
def RootGreatestUptoSaid : Prop := rootGreatestUptoRow.holds Try.pinned (OpenSpec.upto rootGreatestSpec)

end Rows
end Go.Proofs.Ytonkamdipalbpaa
