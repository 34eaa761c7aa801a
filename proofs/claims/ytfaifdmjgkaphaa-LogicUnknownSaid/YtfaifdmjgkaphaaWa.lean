import Derived.Test.YtfaifdmjgkaphaaRows
import Derived.WalkKit
import Derived.ProofKit
import Derived.LoopTactic
import Derived.Lib.Hide
import Derived.Outline
namespace Go.Proofs.Ytfaifdmjgkaphaa
open Go.RowKit

def code (c : Nat) : Int := if c = 48 then 0 else if c = 49 then 1 else if c = 120 then 2 else if c = 122 then 3 else -1

theorem code_hit (c k : Nat) (hk : k < 4) (h : (((({ data := #[48, 49, 120, 122] } : ByteArray)[k]'hk).toNat : Int) == (c : Int)) = true) : code c = k := by
  rcases (by omega : k = 0 ∨ k = 1 ∨ k = 2 ∨ k = 3) with rfl | rfl | rfl | rfl <;> simp [ByteArray.getElem_eq_getElem_data] at h <;> unfold code <;> omega
theorem code_miss (c k : Nat) (hk : k < 4) (hr : code c = -1 ∨ (k : Int) ≤ code c) (h : (((({ data := #[48, 49, 120, 122] } : ByteArray)[k]'hk).toNat : Int) == (c : Int)) = false) :
    code c = -1 ∨ ((k + 1 : Nat) : Int) ≤ code c := by
  rcases (by omega : k = 0 ∨ k = 1 ∨ k = 2 ∨ k = 3) with rfl | rfl | rfl | rfl <;> simp [ByteArray.getElem_eq_getElem_data] at h <;> unfold code at * <;> omega
theorem code_end (c k : Nat) (hk : 4 ≤ k) (hr : code c = -1 ∨ (k : Int) ≤ code c) : code c = -1 := by
  unfold code at *; omega

theorem ret_int {k : IntKind} {a b : Int} (h : a = b) : Ending.returned (.int k a) = .returned (.int k b) := by rw [h]

theorem code_walk (c : Nat) (_hc : c < 256) (w : World) : Calls Try.prog 33 #[.int .u8 c] w fun e w' => e = .returned (.int .i64 (code c)) ∧ w = w' := by
  go_enter Try.func33, Try.ntmps33
  go_wp2
  go_loop [4] (fun i => ∃ k : Nat, k ≤ 4 ∧ i = .int .i64 k ∧ (code c = -1 ∨ (k : Int) ≤ code c)) (fun i => 4 - (intOf i).toNat)
  case atStart => exact ⟨0, by omega, rfl, by unfold code; omega⟩
  case round =>
    obtain ⟨k, hk, rfl, hrel⟩ := hrel
    have HR := Lib.hid hrel
    clear hrel
    go_wp2
    · go_ret
      exact ⟨ret_int (code_hit c k (by omega) (by assumption)).symm, rfl⟩
    · go_round
      case rel => exact ⟨k + 1, by omega, by go_num, code_miss c k (by omega) HR.out (by assumption)⟩
      case measure => simp [intOf]; omega
    · go_ret
      exact ⟨ret_int (code_end c k (by omega) HR.out).symm, rfl⟩

end Go.Proofs.Ytfaifdmjgkaphaa
