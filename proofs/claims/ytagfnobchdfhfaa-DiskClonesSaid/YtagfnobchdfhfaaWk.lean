import Derived.Test.YtagfnobchdfhfaaWj
import Derived.Laws.Concat
namespace Go.Proofs.Ytagfnobchdfhfaa
set_option linter.unusedSimpArgs false
set_option linter.unnecessarySimpa false
set_option linter.unusedVariables false
open Go.RowKit
attribute [local go_sem ↓] Go.wp_at_zero Go.wp_at_succ

/-- a text, filled up to a sector -/
def fullL (l : List UInt8) : List UInt8 := (l ++ List.replicate 64 0).take 64
def fullB (s : ByteArray) : ByteArray := sB (fullL s.data.toList)
theorem fullL_len (l : List UInt8) : (fullL l).length = 64 := by unfold fullL; simp
theorem fullB_size (s : ByteArray) : (fullB s).size = 64 := by show (fullL _).toArray.size = 64; simp [fullL_len]
theorem fullL_snoc (l : List UInt8) : fullL (l ++ [0]) = fullL l := by
  unfold fullL
  rw [List.append_assoc, show ([0] : List UInt8) ++ List.replicate 64 0 = List.replicate 64 0 ++ [0] by decide, ← List.append_assoc]
  rw [List.take_append_of_le_length (by simp)]
theorem full_ext (x : ByteArray) (h : 64 ≤ x.size) : x.extract 0 64 = fullB x := by
  apply ByteArray.ext
  apply Array.ext'
  have hl : 64 ≤ x.data.toList.length := by rw [Array.length_toList]; exact h
  simp only [fullB, sB, fullL]
  rw [List.take_append_of_le_length hl]
  simp
theorem full_ref (s : ByteArray) (w : World) (hs : s.size ≤ maxLen) : Calls Try.prog 13 #[.string s] w fun e w' => e = .returned (.string (fullB s)) ∧ w = w' := by
  unfold maxLen at hs
  go_enter Try.func13, Try.ntmps13
  go_wp2_with fail
  go_loopw [0] (fun t wr => ∃ x : ByteArray, t = .string x ∧ fullB x = fullB s ∧ x.size ≤ 9223372036854775807 ∧ w = wr) (fun t _ => match t with | .string x => 64 - x.size | _ => 0)
  case atStart => exact ⟨s, rfl, rfl, by omega, rfl⟩
  case round =>
    obtain ⟨x, rfl, hx, hxs, rfl⟩ := hrel
    have HX := Lib.hid hx
    clear hx
    by_cases hlt : x.size < 64
    · have hlt' : (x.size : Int) < 64 := by omega
      have hadd := run_string_add_sum (P := Try.prog) w x ⟨#[0]⟩ (by show x.size + 1 ≤ _; omega)
      go_wp2_with fail
      go_roundw
      case rel => exact ⟨_, rfl, by rw [← HX.out]; unfold fullB; rw [show (x ++ ⟨#[0]⟩ : ByteArray).data.toList = x.data.toList ++ [0] by simp, fullL_snoc], by rw [ByteArray.size_append]; show x.size + 1 ≤ _; omega, trivial⟩
      case measure =>
        show 64 - (x ++ (⟨#[0]⟩ : ByteArray)).size < 64 - x.size
        rw [ByteArray.size_append]
        show 64 - (x.size + 1) < 64 - x.size
        omega
    · have hlt' : ¬ (x.size : Int) < 64 := by omega
      have HE := Lib.hid (full_ext x (by omega))
      have hsl := fun wx => run_slice_string_h (P := Try.prog) (w := wx) 9 x Try.underlying9 .i64 64 (by omega) (by omega)
      go_wp2_with fail
      go_ret
      exact ⟨by rw [← HX.out, ← HE.out]; rfl, rfl⟩
end Go.Proofs.Ytagfnobchdfhfaa
