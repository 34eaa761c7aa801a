/-
  No cell of these rows narrows 'for every input' (looked for: loops, veiled, ifaces, maps, wideKeys, modest, calm, conditions, laid).
  DERIVED. THE GIVEN ROWS OF THIS SEAT. 7 by the template 'for every input the law returns true; each argument reads behind the call as it read before'; 0 by the template 'total and deterministic' (their statements: YtglchdcpkjabaaaTotals.lean).
  GIVEN WITH THE SEED: the statements are not yours to turn. If you find one false, say at which input.
  Laid BY PROGRAM, IN A SANDBOX (cutbox-rows.mjs): the forced cells as the released guide's own fill.sh prints them over the translation adae42d68cec64b6… (all of the seat's roots in one cut). By AI agents, Wed Nov 11 2026. No macro, syntax, notation, axiom, sorry.
-/
import Derived.Test.YtglchdcpkjabaaaChecked
import GoSem.Claim
import GoSem.ClaimJoined
import GoSem.ClaimMapViews
import Derived.JoinedTies
import Derived.KernelRfl
namespace Go.Proofs.Ytglchdcpkjabaaa
/- THE CELL 'sum', in the pinned program and in every row, IS THE sha256 OF THE DUMP (.gsa) THAT YtglchdcpkjabaaaProg.lean LOADS. Nothing in Lean hashes anything: it is a label: what it is worth is what the hold of that sum in a sandbox is worth. -/
noncomputable def Try.pinned : Pinned := { name := "ytglchdcpkjabaaa", sum := "adae42d68cec64b6ccafb39723ac7fa2f2d293f0139141d27486ae8e8201fdd0", checked := Try.checked }
namespace Rows
def none {H : Type} : Left H := { results := [], args := [] }

/-- 'wavestorelaw06.CrcTexts': WHATEVER THE INPUT: true; the input reads as it did. -/
def crcTextsSpec : ChangeSpec := { name := "crcTexts", fn := fun _ => fun
  | [d1, d2] => { results := [.lit (.bool true)], args := [d1, d2] }
  | _ => none }
def crcTextsRow : OpenClaim := { program := "ytglchdcpkjabaaa", sum := "adae42d68cec64b6ccafb39723ac7fa2f2d293f0139141d27486ae8e8201fdd0", func := "wavestore/wavestorelaw06.CrcTexts", spec := "crcTexts", unfollowed := true, recurses := true, apart := false }
def CrcTextsSaid : Prop := crcTextsRow.holds Try.pinned (OpenSpec.ofChange crcTextsSpec)

/-- ITS FALSE NEIGHBOUR: 'it returns false'. Refute it at one input. -/
def crcTextsWrong : ChangeSpec := { name := "crcTexts", fn := fun _ => fun
  | [d1, d2] => { results := [.lit (.bool false)], args := [d1, d2] }
  | _ => none }
def CrcTextsWrongFalsely : Prop := crcTextsRow.holds Try.pinned (OpenSpec.ofChange crcTextsWrong)

/-- 'wavestorelaw06.CrcSeals': WHATEVER THE INPUT: true; the input reads as it did. -/
def crcSealsSpec : ChangeSpec := { name := "crcSeals", fn := fun _ => fun
  | [d] => { results := [.lit (.bool true)], args := [d] }
  | _ => none }
def crcSealsRow : OpenClaim := { program := "ytglchdcpkjabaaa", sum := "adae42d68cec64b6ccafb39723ac7fa2f2d293f0139141d27486ae8e8201fdd0", func := "wavestore/wavestorelaw06.CrcSeals", spec := "crcSeals", unfollowed := true, recurses := true, apart := false }
def CrcSealsSaid : Prop := crcSealsRow.holds Try.pinned (OpenSpec.ofChange crcSealsSpec)

/-- ITS FALSE NEIGHBOUR: 'it returns false'. Refute it at one input. -/
def crcSealsWrong : ChangeSpec := { name := "crcSeals", fn := fun _ => fun
  | [d] => { results := [.lit (.bool false)], args := [d] }
  | _ => none }
def CrcSealsWrongFalsely : Prop := crcSealsRow.holds Try.pinned (OpenSpec.ofChange crcSealsWrong)

/-- 'wavestorelaw06.CrcBursts': WHATEVER THE INPUT: true; the input reads as it did. -/
def crcBurstsSpec : ChangeSpec := { name := "crcBursts", fn := fun _ => fun
  | [d1, d2, d3] => { results := [.lit (.bool true)], args := [d1, d2, d3] }
  | _ => none }
def crcBurstsRow : OpenClaim := { program := "ytglchdcpkjabaaa", sum := "adae42d68cec64b6ccafb39723ac7fa2f2d293f0139141d27486ae8e8201fdd0", func := "wavestore/wavestorelaw06.CrcBursts", spec := "crcBursts", unfollowed := true, recurses := true, apart := false }
def CrcBurstsSaid : Prop := crcBurstsRow.holds Try.pinned (OpenSpec.ofChange crcBurstsSpec)

/-- ITS FALSE NEIGHBOUR: 'it returns false'. Refute it at one input. -/
def crcBurstsWrong : ChangeSpec := { name := "crcBursts", fn := fun _ => fun
  | [d1, d2, d3] => { results := [.lit (.bool false)], args := [d1, d2, d3] }
  | _ => none }
def CrcBurstsWrongFalsely : Prop := crcBurstsRow.holds Try.pinned (OpenSpec.ofChange crcBurstsWrong)

/-- 'wavestorelaw06.CrcLocates': WHATEVER THE INPUT: true; the input reads as it did. -/
def crcLocatesSpec : ChangeSpec := { name := "crcLocates", fn := fun _ => fun
  | [d1, d2, d3] => { results := [.lit (.bool true)], args := [d1, d2, d3] }
  | _ => none }
def crcLocatesRow : OpenClaim := { program := "ytglchdcpkjabaaa", sum := "adae42d68cec64b6ccafb39723ac7fa2f2d293f0139141d27486ae8e8201fdd0", func := "wavestore/wavestorelaw06.CrcLocates", spec := "crcLocates", unfollowed := true, recurses := true, apart := false }
def CrcLocatesSaid : Prop := crcLocatesRow.holds Try.pinned (OpenSpec.ofChange crcLocatesSpec)

/-- ITS FALSE NEIGHBOUR: 'it returns false'. Refute it at one input. -/
def crcLocatesWrong : ChangeSpec := { name := "crcLocates", fn := fun _ => fun
  | [d1, d2, d3] => { results := [.lit (.bool false)], args := [d1, d2, d3] }
  | _ => none }
def CrcLocatesWrongFalsely : Prop := crcLocatesRow.holds Try.pinned (OpenSpec.ofChange crcLocatesWrong)

/-- 'wavestorelaw06.CrcSums': WHATEVER THE INPUT: true; the input reads as it did. -/
def crcSumsSpec : ChangeSpec := { name := "crcSums", fn := fun _ => fun
  | [d1, d2, d3, d4] => { results := [.lit (.bool true)], args := [d1, d2, d3, d4] }
  | _ => none }
def crcSumsRow : OpenClaim := { program := "ytglchdcpkjabaaa", sum := "adae42d68cec64b6ccafb39723ac7fa2f2d293f0139141d27486ae8e8201fdd0", func := "wavestore/wavestorelaw06.CrcSums", spec := "crcSums", unfollowed := true, recurses := true, apart := false }
def CrcSumsSaid : Prop := crcSumsRow.holds Try.pinned (OpenSpec.ofChange crcSumsSpec)

/-- ITS FALSE NEIGHBOUR: 'it returns false'. Refute it at one input. -/
def crcSumsWrong : ChangeSpec := { name := "crcSums", fn := fun _ => fun
  | [d1, d2, d3, d4] => { results := [.lit (.bool false)], args := [d1, d2, d3, d4] }
  | _ => none }
def CrcSumsWrongFalsely : Prop := crcSumsRow.holds Try.pinned (OpenSpec.ofChange crcSumsWrong)

/-- 'wavestorelaw06.CrcParts': WHATEVER THE INPUT: true; the input reads as it did. -/
def crcPartsSpec : ChangeSpec := { name := "crcParts", fn := fun _ => fun
  | [d1, d2] => { results := [.lit (.bool true)], args := [d1, d2] }
  | _ => none }
def crcPartsRow : OpenClaim := { program := "ytglchdcpkjabaaa", sum := "adae42d68cec64b6ccafb39723ac7fa2f2d293f0139141d27486ae8e8201fdd0", func := "wavestore/wavestorelaw06.CrcParts", spec := "crcParts", unfollowed := true, recurses := true, apart := false }
def CrcPartsSaid : Prop := crcPartsRow.holds Try.pinned (OpenSpec.ofChange crcPartsSpec)

/-- ITS FALSE NEIGHBOUR: 'it returns false'. Refute it at one input. -/
def crcPartsWrong : ChangeSpec := { name := "crcParts", fn := fun _ => fun
  | [d1, d2] => { results := [.lit (.bool false)], args := [d1, d2] }
  | _ => none }
def CrcPartsWrongFalsely : Prop := crcPartsRow.holds Try.pinned (OpenSpec.ofChange crcPartsWrong)

/-- 'wavestorelaw06.CrcLong': WHATEVER THE INPUT: true; the input reads as it did. -/
def crcLongSpec : ChangeSpec := { name := "crcLong", fn := fun _ => fun
  | [d1, d2, d3, d4, d5] => { results := [.lit (.bool true)], args := [d1, d2, d3, d4, d5] }
  | _ => none }
def crcLongRow : OpenClaim := { program := "ytglchdcpkjabaaa", sum := "adae42d68cec64b6ccafb39723ac7fa2f2d293f0139141d27486ae8e8201fdd0", func := "wavestore/wavestorelaw06.CrcLong", spec := "crcLong", unfollowed := true, recurses := true, apart := false }
def CrcLongSaid : Prop := crcLongRow.holds Try.pinned (OpenSpec.ofChange crcLongSpec)

/-- ITS FALSE NEIGHBOUR: 'it returns false'. Refute it at one input. -/
def crcLongWrong : ChangeSpec := { name := "crcLong", fn := fun _ => fun
  | [d1, d2, d3, d4, d5] => { results := [.lit (.bool false)], args := [d1, d2, d3, d4, d5] }
  | _ => none }
def CrcLongWrongFalsely : Prop := crcLongRow.holds Try.pinned (OpenSpec.ofChange crcLongWrong)

/- THE SECOND FORM. 'bulk': how many values and letters a reading holds, each counted each time it is reached (what is shared counts as often as it is met; a slice's spare places count too). A statement '..UptoSaid' is the law's where the arguments, and the package variables that the reading takes, are together of bulk at most 1048576: NARROWER than '..Said'. Prove '..Said' where nothing that the law and all that it calls make is longer than what came in: it says more and counts as full. Else prove '..UptoSaid'. A law counts once. -/
mutual
def uptoBulk {H : Type} : DataW H → Nat
  | .lit (.string bytes) => bytes.length + 1
  | .lit _ => 1
  | .nil => 1
  | .ptr d => uptoBulk d + 1
  | .slice elems spare => uptoBulkAll elems + uptoBulkAll spare + 1
  | .agg parts => uptoBulkAll parts + 1
  | .iface _ d => uptoBulk d + 1
  | .map entries => uptoBulkEntries entries + 1
  | .held _ => 1
def uptoBulkAll {H : Type} : List (DataW H) → Nat
  | [] => 0
  | d :: r => uptoBulk d + uptoBulkAll r
def uptoBulkEntries {H : Type} : List (Lit × DataW H) → Nat
  | [] => 0
  | x :: r => uptoBulkEntry x + uptoBulkEntries r
def uptoBulkEntry {H : Type} : Lit × DataW H → Nat
  | (.string bytes, d) => bytes.length + uptoBulk d + 1
  | (_, d) => uptoBulk d + 1
 end
def uptoSmall : (H : Type) → List (DataW H) → Bool := fun _ ds => decide (uptoBulkAll ds ≤ 1048576)
def OpenSpec.upto (s : _root_.Go.ChangeSpec) : _root_.Go.OpenSpec := { _root_.Go.OpenSpec.ofChange s with cond := some uptoSmall }

/-- 'wavestorelaw06.CrcTexts', WHERE WHAT IT READS IS OF BULK AT MOST 1048576: true; the input reads as it did. -/
def crcTextsUptoRow : OpenClaim := { program := "ytglchdcpkjabaaa", sum := "adae42d68cec64b6ccafb39723ac7fa2f2d293f0139141d27486ae8e8201fdd0", func := "wavestore/wavestorelaw06.CrcTexts", spec := "crcTexts", unfollowed := true, recurses := true, apart := false, narrowed := true }
def CrcTextsUptoSaid : Prop := crcTextsUptoRow.holds Try.pinned (OpenSpec.upto crcTextsSpec)

/-- 'wavestorelaw06.CrcSeals', WHERE WHAT IT READS IS OF BULK AT MOST 1048576: true; the input reads as it did. -/
def crcSealsUptoRow : OpenClaim := { program := "ytglchdcpkjabaaa", sum := "adae42d68cec64b6ccafb39723ac7fa2f2d293f0139141d27486ae8e8201fdd0", func := "wavestore/wavestorelaw06.CrcSeals", spec := "crcSeals", unfollowed := true, recurses := true, apart := false, narrowed := true }
def CrcSealsUptoSaid : Prop := crcSealsUptoRow.holds Try.pinned (OpenSpec.upto crcSealsSpec)

/-- 'wavestorelaw06.CrcBursts', WHERE WHAT IT READS IS OF BULK AT MOST 1048576: true; the input reads as it did. -/
def crcBurstsUptoRow : OpenClaim := { program := "ytglchdcpkjabaaa", sum := "adae42d68cec64b6ccafb39723ac7fa2f2d293f0139141d27486ae8e8201fdd0", func := "wavestore/wavestorelaw06.CrcBursts", spec := "crcBursts", unfollowed := true, recurses := true, apart := false, narrowed := true }
def CrcBurstsUptoSaid : Prop := crcBurstsUptoRow.holds Try.pinned (OpenSpec.upto crcBurstsSpec)

/-- 'wavestorelaw06.CrcLocates', WHERE WHAT IT READS IS OF BULK AT MOST 1048576: true; the input reads as it did. -/
def crcLocatesUptoRow : OpenClaim := { program := "ytglchdcpkjabaaa", sum := "adae42d68cec64b6ccafb39723ac7fa2f2d293f0139141d27486ae8e8201fdd0", func := "wavestore/wavestorelaw06.CrcLocates", spec := "crcLocates", unfollowed := true, recurses := true, apart := false, narrowed := true }
def CrcLocatesUptoSaid : Prop := crcLocatesUptoRow.holds Try.pinned (OpenSpec.upto crcLocatesSpec)

/-- 'wavestorelaw06.CrcSums', WHERE WHAT IT READS IS OF BULK AT MOST 1048576: true; the input reads as it did. -/
def crcSumsUptoRow : OpenClaim := { program := "ytglchdcpkjabaaa", sum := "adae42d68cec64b6ccafb39723ac7fa2f2d293f0139141d27486ae8e8201fdd0", func := "wavestore/wavestorelaw06.CrcSums", spec := "crcSums", unfollowed := true, recurses := true, apart := false, narrowed := true }
def CrcSumsUptoSaid : Prop := crcSumsUptoRow.holds Try.pinned (OpenSpec.upto crcSumsSpec)

/-- 'wavestorelaw06.CrcParts', WHERE WHAT IT READS IS OF BULK AT MOST 1048576: true; the input reads as it did. -/
def crcPartsUptoRow : OpenClaim := { program := "ytglchdcpkjabaaa", sum := "adae42d68cec64b6ccafb39723ac7fa2f2d293f0139141d27486ae8e8201fdd0", func := "wavestore/wavestorelaw06.CrcParts", spec := "crcParts", unfollowed := true, recurses := true, apart := false, narrowed := true }
def CrcPartsUptoSaid : Prop := crcPartsUptoRow.holds Try.pinned (OpenSpec.upto crcPartsSpec)

/-- 'wavestorelaw06.CrcLong', WHERE WHAT IT READS IS OF BULK AT MOST 1048576: true; the input reads as it did. -/
def crcLongUptoRow : OpenClaim := { program := "ytglchdcpkjabaaa", sum := "adae42d68cec64b6ccafb39723ac7fa2f2d293f0139141d27486ae8e8201fdd0", func := "wavestore/wavestorelaw06.CrcLong", spec := "crcLong", unfollowed := true, recurses := true, apart := false, narrowed := true }
def CrcLongUptoSaid : Prop := crcLongUptoRow.holds Try.pinned (OpenSpec.upto crcLongSpec)

end Rows
end Go.Proofs.Ytglchdcpkjabaaa
