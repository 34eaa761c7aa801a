import Derived.Test.YtkogechopdfleaaRows
import Derived.WalkKit
import Derived.ProofKit
import Derived.LoopTactic
import Derived.Lib.Hide
import Derived.Outline
import Derived.OpenShut
import Derived.Deep.QuietTactic
import Derived.BigQuiet
import Derived.Laws.IdiomStrings
namespace Go.Proofs.Ytkogechopdfleaa
open Go.RowKit

theorem ret_int {k : IntKind} {a b : Int} (h : a = b) : Ending.returned (.int k a) = .returned (.int k b) := by rw [h]
theorem val_int {k : IntKind} {a b : Int} (h : a = b) : Value.int k a = .int k b := by rw [h]
/-- the least number with k + 1 bytes -/
def bnd : Nat → Nat
  | 0 => 0
  | k + 1 => bnd k + 2 ^ (7 * (k + 1))

theorem bnd_step (j : Nat) (hj : j < 8) : wrap64 (((bnd j : Nat) : Int) + wrap64 (2 ^ (7 * (j + 1)))) = ((bnd (j + 1) : Nat) : Int) := by
  rcases (by omega : j = 0 ∨ j = 1 ∨ j = 2 ∨ j = 3 ∨ j = 4 ∨ j = 5 ∨ j = 6 ∨ j = 7) with rfl | rfl | rfl | rfl | rfl | rfl | rfl | rfl <;> simp [wrap64, bnd]
theorem bound_walk (k : Nat) (hk : k ≤ 8) (w : World) : Calls Try.prog 29 #[.int .i64 k] w fun e w' => e = .returned (.int .i64 (bnd k)) ∧ w = w' := by
  go_enter Try.func29, Try.ntmps29
  go_wp2_with fail
  go_loop [3, 4] (fun b i => ∃ j : Nat, j ≤ k ∧ i = .int .i64 ((j : Int) + 1) ∧ b = .int .i64 (bnd j)) (fun _ i => k + 1 - (intOf i).toNat)
  case atStart => exact ⟨0, by omega, rfl, rfl⟩
  case round =>
    obtain ⟨j, hj, rfl, rfl⟩ := hrel
    by_cases hlt : j < k
    · go_wp2_with fail
      go_round
      case rel => exact ⟨j + 1, by omega, by go_num, val_int (bnd_step j (by omega))⟩
      case measure => simp [intOf]; omega
    · obtain rfl : j = k := by omega
      go_wp2_with fail
      go_ret
      exact ⟨rfl, rfl⟩
theorem from_walk (k : Nat) (hk : k ≤ 8) (w : World) : Calls Try.prog 30 #[.int .i64 k] w fun e w' => e = .returned (.int .i64 (bnd k)) ∧ w = w' := by
  go_enter Try.func30, Try.ntmps30
  go_wp2_with fail
  go_loop [3, 4] (fun b i => ∃ j : Nat, j ≤ k ∧ i = .int .i64 ((j : Int) + 1) ∧ b = .int .i64 (bnd j)) (fun _ i => k + 1 - (intOf i).toNat)
  case atStart => exact ⟨0, by omega, rfl, rfl⟩
  case round =>
    obtain ⟨j, hj, rfl, rfl⟩ := hrel
    by_cases hlt : j < k
    · go_wp2_with fail
      go_round
      case rel => exact ⟨j + 1, by omega, by go_num, val_int (bnd_step j (by omega))⟩
      case measure => simp [intOf]; omega
    · obtain rfl : j = k := by omega
      go_wp2_with fail
      go_ret
      exact ⟨rfl, rfl⟩

/-- how many further bytes a number has -/
def kOf (n : Nat) : Nat := if n < bnd 1 then 0 else if n < bnd 2 then 1 else if n < bnd 3 then 2 else if n < bnd 4 then 3 else if n < bnd 5 then 4 else if n < bnd 6 then 5 else if n < bnd 7 then 6 else if n < bnd 8 then 7 else 8
theorem bnd_mono : ∀ i j : Fin 9, i < j → bnd i < bnd j := by decide
theorem bnd_lt {i j : Nat} (h : i < j) (hj : j ≤ 8) : bnd i < bnd j := bnd_mono ⟨i, by omega⟩ ⟨j, by omega⟩ h
theorem kOf_le (n : Nat) : kOf n ≤ 8 := by unfold kOf; (repeat' split) <;> omega
theorem kOf_spec (n : Nat) : bnd (kOf n) ≤ n ∧ (kOf n = 8 ∨ n < bnd (kOf n + 1)) := by
  unfold kOf
  (repeat' split) <;> simp_all [bnd]
theorem kOf_eq {n k : Nat} (hk : k ≤ 8) (h1 : bnd k ≤ n) (h2 : k = 8 ∨ n < bnd (k + 1)) : kOf n = k := by
  have ⟨h3, h4⟩ := kOf_spec n
  have h5 := kOf_le n
  rcases Nat.lt_trichotomy (kOf n) k with h | h | h
  · exfalso
    rcases h4 with h4 | h4
    · omega
    · have : bnd (kOf n + 1) ≤ bnd k := by
        rcases Nat.lt_or_ge (kOf n + 1) k with h6 | h6
        · exact Nat.le_of_lt (bnd_lt h6 hk)
        · rw [show k = kOf n + 1 by omega]; exact Nat.le_refl _
      omega
  · exact h
  · exfalso
    rcases h2 with h2 | h2
    · omega
    · have : bnd (k + 1) ≤ bnd (kOf n) := by
        rcases Nat.lt_or_ge (k + 1) (kOf n) with h6 | h6
        · exact Nat.le_of_lt (bnd_lt h6 h5)
        · rw [show kOf n = k + 1 by omega]; exact Nat.le_refl _
      omega

theorem size_walk (n : Nat) (hn : n < 2 ^ 63) (w : World) : Calls Try.prog 17 #[.int .i64 n] w fun e w' => e = .returned (.int .i64 ((kOf n + 1 : Nat) : Int)) ∧ w = w' := by
  have hs := kOf_spec n
  have hl := kOf_le n
  have HS := Lib.hid hs
  clear hs
  go_enter Try.func17, Try.ntmps17
  go_wp2_with fail
  go_loop [3] (fun i => ∃ j : Nat, j ≤ kOf n ∧ i = .int .i64 j) (fun i => 8 - (intOf i).toNat)
  case atStart => exact ⟨0, by omega, rfl⟩
  case round =>
    obtain ⟨j, hj, rfl⟩ := hrel
    by_cases hlt : j < kOf n
    · have hb : decide (bnd (j + 1) ≤ n) = true := by
        apply decide_eq_true
        refine Nat.le_trans ?_ HS.out.1
        rcases Nat.lt_or_ge (j + 1) (kOf n) with h6 | h6
        · exact Nat.le_of_lt (bnd_lt h6 hl)
        · rw [show kOf n = j + 1 by omega]; exact Nat.le_refl _
      have hb' : bnd (j + 1) ≤ n := of_decide_eq_true hb
      have hj8 : (j : Int) < 8 := by omega
      go_wp2_with (go_at_call 29; refine (bound_walk (j + 1) (by omega) _).mono ?_; rintro e _ ⟨rfl, rfl⟩)
      go_round
      case rel => exact ⟨j + 1, by omega, by go_num⟩
      case measure => simp [intOf]; omega
    · obtain rfl : j = kOf n := by omega
      by_cases h8 : kOf n = 8
      · have h8' : ((kOf n : Nat) : Int) = 8 := by omega
        have H8 := Lib.hid h8
        clear h8 h8'
        have h9 : ¬ ((kOf n : Nat) : Int) < 8 := by have := H8.out; omega
        go_wp2_with fail
        go_ret
        exact ⟨ret_int (by omega), rfl⟩
      · have hb' : ¬ bnd (kOf n + 1) ≤ n := by have := HS.out.2; omega
        have hj8 : ((kOf n : Nat) : Int) < 8 := by omega
        go_wp2_with (go_at_call 29; refine (bound_walk (kOf n + 1) (by omega) _).mono ?_; rintro e _ ⟨rfl, rfl⟩)
        go_ret
        exact ⟨ret_int (by omega), rfl⟩
end Go.Proofs.Ytkogechopdfleaa
