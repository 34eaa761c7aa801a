/-
  No cell of these rows narrows 'for every input' (looked for: loops, veiled, ifaces, maps, wideKeys, modest, calm, conditions, laid).
  DERIVED. THE GIVEN ROWS OF THIS SEAT. 7 by the template 'for every input the law returns true; each argument reads behind the call as it read before'; 0 by the template 'total and deterministic' (their statements: YtfaifdmjgkaphaaTotals.lean).
  GIVEN WITH THE SEED: the statements are not yours to turn. If you find one false, say at which input.
  Laid BY PROGRAM, IN A SANDBOX (cutbox-rows.mjs): the forced cells as the released guide's own fill.sh prints them over the translation edddeb008d50f123… (all of the seat's roots in one cut). By AI agents, Wed Nov 11 2026. No macro, syntax, notation, axiom, sorry.
-/
import Derived.Test.YtfaifdmjgkaphaaChecked
import GoSem.Claim
import GoSem.ClaimJoined
import GoSem.ClaimMapViews
import Derived.JoinedTies
import Derived.KernelRfl
namespace Go.Proofs.Ytfaifdmjgkaphaa
/- THE CELL 'sum', in the pinned program and in every row, IS THE sha256 OF THE DUMP (.gsa) THAT YtfaifdmjgkaphaaProg.lean LOADS. Nothing in Lean hashes anything: it is a label: what it is worth is what the hold of that sum in a sandbox is worth. -/
noncomputable def Try.pinned : Pinned := { name := "ytfaifdmjgkaphaa", sum := "edddeb008d50f1236298ca67dd54a09948a51f0e2da71532267aa1021b514ebd", checked := Try.checked }
namespace Rows
def none {H : Type} : Left H := { results := [], args := [] }

/-- 'wavestorelaw01.LogicUnknown': WHATEVER THE INPUT: true; the input reads as it did. -/
def logicUnknownSpec : ChangeSpec := { name := "logicUnknown", fn := fun _ => fun
  | [d1, d2] => { results := [.lit (.bool true)], args := [d1, d2] }
  | _ => none }
def logicUnknownRow : OpenClaim := { program := "ytfaifdmjgkaphaa", sum := "edddeb008d50f1236298ca67dd54a09948a51f0e2da71532267aa1021b514ebd", func := "wavestore/wavestorelaw01.LogicUnknown", spec := "logicUnknown", unfollowed := true, recurses := true, apart := false }
def LogicUnknownSaid : Prop := logicUnknownRow.holds Try.pinned (OpenSpec.ofChange logicUnknownSpec)

/-- ITS FALSE NEIGHBOUR: 'it returns false'. Refute it at one input. -/
def logicUnknownWrong : ChangeSpec := { name := "logicUnknown", fn := fun _ => fun
  | [d1, d2] => { results := [.lit (.bool false)], args := [d1, d2] }
  | _ => none }
def LogicUnknownWrongFalsely : Prop := logicUnknownRow.holds Try.pinned (OpenSpec.ofChange logicUnknownWrong)

/-- 'wavestorelaw01.LogicDrivers': WHATEVER THE INPUT: true; the input reads as it did. -/
def logicDriversSpec : ChangeSpec := { name := "logicDrivers", fn := fun _ => fun
  | [d] => { results := [.lit (.bool true)], args := [d] }
  | _ => none }
def logicDriversRow : OpenClaim := { program := "ytfaifdmjgkaphaa", sum := "edddeb008d50f1236298ca67dd54a09948a51f0e2da71532267aa1021b514ebd", func := "wavestore/wavestorelaw01.LogicDrivers", spec := "logicDrivers", unfollowed := true, recurses := true, apart := false }
def LogicDriversSaid : Prop := logicDriversRow.holds Try.pinned (OpenSpec.ofChange logicDriversSpec)

/-- ITS FALSE NEIGHBOUR: 'it returns false'. Refute it at one input. -/
def logicDriversWrong : ChangeSpec := { name := "logicDrivers", fn := fun _ => fun
  | [d] => { results := [.lit (.bool false)], args := [d] }
  | _ => none }
def LogicDriversWrongFalsely : Prop := logicDriversRow.holds Try.pinned (OpenSpec.ofChange logicDriversWrong)

/-- 'wavestorelaw01.LogicTables': WHATEVER THE INPUT: true; the input reads as it did. -/
def logicTablesSpec : ChangeSpec := { name := "logicTables", fn := fun _ => fun
  | [d1, d2] => { results := [.lit (.bool true)], args := [d1, d2] }
  | _ => none }
def logicTablesRow : OpenClaim := { program := "ytfaifdmjgkaphaa", sum := "edddeb008d50f1236298ca67dd54a09948a51f0e2da71532267aa1021b514ebd", func := "wavestore/wavestorelaw01.LogicTables", spec := "logicTables", unfollowed := true, recurses := true, apart := false }
def LogicTablesSaid : Prop := logicTablesRow.holds Try.pinned (OpenSpec.ofChange logicTablesSpec)

/-- ITS FALSE NEIGHBOUR: 'it returns false'. Refute it at one input. -/
def logicTablesWrong : ChangeSpec := { name := "logicTables", fn := fun _ => fun
  | [d1, d2] => { results := [.lit (.bool false)], args := [d1, d2] }
  | _ => none }
def LogicTablesWrongFalsely : Prop := logicTablesRow.holds Try.pinned (OpenSpec.ofChange logicTablesWrong)

/-- 'wavestorelaw01.LogicAlgebra': WHATEVER THE INPUT: true; the input reads as it did. -/
def logicAlgebraSpec : ChangeSpec := { name := "logicAlgebra", fn := fun _ => fun
  | [d1, d2, d3] => { results := [.lit (.bool true)], args := [d1, d2, d3] }
  | _ => none }
def logicAlgebraRow : OpenClaim := { program := "ytfaifdmjgkaphaa", sum := "edddeb008d50f1236298ca67dd54a09948a51f0e2da71532267aa1021b514ebd", func := "wavestore/wavestorelaw01.LogicAlgebra", spec := "logicAlgebra", unfollowed := true, recurses := true, apart := false }
def LogicAlgebraSaid : Prop := logicAlgebraRow.holds Try.pinned (OpenSpec.ofChange logicAlgebraSpec)

/-- ITS FALSE NEIGHBOUR: 'it returns false'. Refute it at one input. -/
def logicAlgebraWrong : ChangeSpec := { name := "logicAlgebra", fn := fun _ => fun
  | [d1, d2, d3] => { results := [.lit (.bool false)], args := [d1, d2, d3] }
  | _ => none }
def LogicAlgebraWrongFalsely : Prop := logicAlgebraRow.holds Try.pinned (OpenSpec.ofChange logicAlgebraWrong)

/-- 'wavestorelaw01.LogicCounts': WHATEVER THE INPUT: true; the input reads as it did. -/
def logicCountsSpec : ChangeSpec := { name := "logicCounts", fn := fun _ => fun
  | [d] => { results := [.lit (.bool true)], args := [d] }
  | _ => none }
def logicCountsRow : OpenClaim := { program := "ytfaifdmjgkaphaa", sum := "edddeb008d50f1236298ca67dd54a09948a51f0e2da71532267aa1021b514ebd", func := "wavestore/wavestorelaw01.LogicCounts", spec := "logicCounts", unfollowed := true, recurses := true, apart := false }
def LogicCountsSaid : Prop := logicCountsRow.holds Try.pinned (OpenSpec.ofChange logicCountsSpec)

/-- ITS FALSE NEIGHBOUR: 'it returns false'. Refute it at one input. -/
def logicCountsWrong : ChangeSpec := { name := "logicCounts", fn := fun _ => fun
  | [d] => { results := [.lit (.bool false)], args := [d] }
  | _ => none }
def LogicCountsWrongFalsely : Prop := logicCountsRow.holds Try.pinned (OpenSpec.ofChange logicCountsWrong)

/-- 'wavestorelaw01.LogicChars': WHATEVER THE INPUT: true; the input reads as it did. -/
def logicCharsSpec : ChangeSpec := { name := "logicChars", fn := fun _ => fun
  | [d1, d2] => { results := [.lit (.bool true)], args := [d1, d2] }
  | _ => none }
def logicCharsRow : OpenClaim := { program := "ytfaifdmjgkaphaa", sum := "edddeb008d50f1236298ca67dd54a09948a51f0e2da71532267aa1021b514ebd", func := "wavestore/wavestorelaw01.LogicChars", spec := "logicChars", unfollowed := true, recurses := true, apart := false }
def LogicCharsSaid : Prop := logicCharsRow.holds Try.pinned (OpenSpec.ofChange logicCharsSpec)

/-- ITS FALSE NEIGHBOUR: 'it returns false'. Refute it at one input. -/
def logicCharsWrong : ChangeSpec := { name := "logicChars", fn := fun _ => fun
  | [d1, d2] => { results := [.lit (.bool false)], args := [d1, d2] }
  | _ => none }
def LogicCharsWrongFalsely : Prop := logicCharsRow.holds Try.pinned (OpenSpec.ofChange logicCharsWrong)

/-- 'wavestorelaw01.LogicCodes': WHATEVER THE INPUT: true; the input reads as it did. -/
def logicCodesSpec : ChangeSpec := { name := "logicCodes", fn := fun _ => fun
  | [d1, d2] => { results := [.lit (.bool true)], args := [d1, d2] }
  | _ => none }
def logicCodesRow : OpenClaim := { program := "ytfaifdmjgkaphaa", sum := "edddeb008d50f1236298ca67dd54a09948a51f0e2da71532267aa1021b514ebd", func := "wavestore/wavestorelaw01.LogicCodes", spec := "logicCodes", unfollowed := true, recurses := true, apart := false }
def LogicCodesSaid : Prop := logicCodesRow.holds Try.pinned (OpenSpec.ofChange logicCodesSpec)

/-- ITS FALSE NEIGHBOUR: 'it returns false'. Refute it at one input. -/
def logicCodesWrong : ChangeSpec := { name := "logicCodes", fn := fun _ => fun
  | [d1, d2] => { results := [.lit (.bool false)], args := [d1, d2] }
  | _ => none }
def LogicCodesWrongFalsely : Prop := logicCodesRow.holds Try.pinned (OpenSpec.ofChange logicCodesWrong)

/- THE SECOND FORM. 'bulk': how many values and letters a reading holds, each counted each time it is reached (what is shared counts as often as it is met; a slice's spare places count too). A statement '..UptoSaid' is the law's where the arguments, and the package variables that the reading takes, are together of bulk at most 1048576: NARROWER than '..Said'. Prove '..Said' where nothing that the law and all that it calls make is longer than what came in: it says more and counts as full. Else prove '..UptoSaid'. A law counts once. -/
mutual
def uptoBulk {H : Type} : DataW H → Nat
  | .lit (.string bytes) => bytes.length + 1
  | .lit _ => 1
  | .nil => 1
  | .ptr d => uptoBulk d + 1
  | .slice elems spare => uptoBulkAll elems + uptoBulkAll spare + 1
  | .agg parts => uptoBulkAll parts + 1
  | .iface _ d => uptoBulk d + 1
  | .map entries => uptoBulkEntries entries + 1
  | .held _ => 1
def uptoBulkAll {H : Type} : List (DataW H) → Nat
  | [] => 0
  | d :: r => uptoBulk d + uptoBulkAll r
def uptoBulkEntries {H : Type} : List (Lit × DataW H) → Nat
  | [] => 0
  | x :: r => uptoBulkEntry x + uptoBulkEntries r
def uptoBulkEntry {H : Type} : Lit × DataW H → Nat
  | (.string bytes, d) => bytes.length + uptoBulk d + 1
  | (_, d) => uptoBulk d + 1
 end
def uptoSmall : (H : Type) → List (DataW H) → Bool := fun _ ds => decide (uptoBulkAll ds ≤ 1048576)
def OpenSpec.upto (s : _root_.Go.ChangeSpec) : _root_.Go.OpenSpec := { _root_.Go.OpenSpec.ofChange s with cond := some uptoSmall }

/-- 'wavestorelaw01.LogicUnknown', WHERE WHAT IT READS IS OF BULK AT MOST 1048576: true; the input reads as it did. -/
def logicUnknownUptoRow : OpenClaim := { program := "ytfaifdmjgkaphaa", sum := "edddeb008d50f1236298ca67dd54a09948a51f0e2da71532267aa1021b514ebd", func := "wavestore/wavestorelaw01.LogicUnknown", spec := "logicUnknown", unfollowed := true, recurses := true, apart := false, narrowed := true }
def LogicUnknownUptoSaid : Prop := logicUnknownUptoRow.holds Try.pinned (OpenSpec.upto logicUnknownSpec)

/-- 'wavestorelaw01.LogicDrivers', WHERE WHAT IT READS IS OF BULK AT MOST 1048576: true; the input reads as it did. -/
def logicDriversUptoRow : OpenClaim := { program := "ytfaifdmjgkaphaa", sum := "edddeb008d50f1236298ca67dd54a09948a51f0e2da71532267aa1021b514ebd", func := "wavestore/wavestorelaw01.LogicDrivers", spec := "logicDrivers", unfollowed := true, recurses := true, apart := false, narrowed := true }
def LogicDriversUptoSaid : Prop := logicDriversUptoRow.holds Try.pinned (OpenSpec.upto logicDriversSpec)

/-- 'wavestorelaw01.LogicTables', WHERE WHAT IT READS IS OF BULK AT MOST 1048576: true; the input reads as it did. -/
def logicTablesUptoRow : OpenClaim := { program := "ytfaifdmjgkaphaa", sum := "edddeb008d50f1236298ca67dd54a09948a51f0e2da71532267aa1021b514ebd", func := "wavestore/wavestorelaw01.LogicTables", spec := "logicTables", unfollowed := true, recurses := true, apart := false, narrowed := true }
def LogicTablesUptoSaid : Prop := logicTablesUptoRow.holds Try.pinned (OpenSpec.upto logicTablesSpec)

/-- 'wavestorelaw01.LogicAlgebra', WHERE WHAT IT READS IS OF BULK AT MOST 1048576: true; the input reads as it did. -/
def logicAlgebraUptoRow : OpenClaim := { program := "ytfaifdmjgkaphaa", sum := "edddeb008d50f1236298ca67dd54a09948a51f0e2da71532267aa1021b514ebd", func := "wavestore/wavestorelaw01.LogicAlgebra", spec := "logicAlgebra", unfollowed := true, recurses := true, apart := false, narrowed := true }
def LogicAlgebraUptoSaid : Prop := logicAlgebraUptoRow.holds Try.pinned (OpenSpec.upto logicAlgebraSpec)

/-- 'wavestorelaw01.LogicCounts', WHERE WHAT IT READS IS OF BULK AT MOST 1048576: true; the input reads as it did. -/
def logicCountsUptoRow : OpenClaim := { program := "ytfaifdmjgkaphaa", sum := "edddeb008d50f1236298ca67dd54a09948a51f0e2da71532267aa1021b514ebd", func := "wavestore/wavestorelaw01.LogicCounts", spec := "logicCounts", unfollowed := true, recurses := true, apart := false, narrowed := true }
def LogicCountsUptoSaid : Prop := logicCountsUptoRow.holds Try.pinned (OpenSpec.upto logicCountsSpec)

/-- 'wavestorelaw01.LogicChars', WHERE WHAT IT READS IS OF BULK AT MOST 1048576: true; the input reads as it did. -/
def logicCharsUptoRow : OpenClaim := { program := "ytfaifdmjgkaphaa", sum := "edddeb008d50f1236298ca67dd54a09948a51f0e2da71532267aa1021b514ebd", func := "wavestore/wavestorelaw01.LogicChars", spec := "logicChars", unfollowed := true, recurses := true, apart := false, narrowed := true }
def LogicCharsUptoSaid : Prop := logicCharsUptoRow.holds Try.pinned (OpenSpec.upto logicCharsSpec)

/-- 'wavestorelaw01.LogicCodes', WHERE WHAT IT READS IS OF BULK AT MOST 1048576: true; the input reads as it did. -/
def logicCodesUptoRow : OpenClaim := { program := "ytfaifdmjgkaphaa", sum := "edddeb008d50f1236298ca67dd54a09948a51f0e2da71532267aa1021b514ebd", func := "wavestore/wavestorelaw01.LogicCodes", spec := "logicCodes", unfollowed := true, recurses := true, apart := false, narrowed := true }
def LogicCodesUptoSaid : Prop := logicCodesUptoRow.holds Try.pinned (OpenSpec.upto logicCodesSpec)

end Rows
end Go.Proofs.Ytfaifdmjgkaphaa
