import Derived.Test.YtkogechopdfleaaWo
namespace Go.Proofs.Ytkogechopdfleaa
open Go.RowKit

set_option maxRecDepth 10000 in
set_option maxHeartbeats 1000000 in
theorem short_out (a b : Int) (hout : a < -2305843009213693952 ∨ (¬ a < -2305843009213693952 ∧ 2305843009213693952 < a) ∨ (¬ a < -2305843009213693952 ∧ ¬ 2305843009213693952 < a ∧ b < -2305843009213693952) ∨ (¬ a < -2305843009213693952 ∧ ¬ 2305843009213693952 < a ∧ ¬ b < -2305843009213693952 ∧ 2305843009213693952 < b)) (w : World) : Calls Try.prog 5 #[.int .i64 a, .int .i64 b] w fun e w' => e = .returned (.bool true) ∧ Below w.heap.size w w' := by
  rcases hout with h1 | ⟨h1, h2⟩ | ⟨h1, h2, h3⟩ | ⟨h1, h2, h3, h4⟩
  all_goals
    go_enter Try.func5, Try.ntmps5
    go_wp2_with fail
    refine (awake_walk _).mono ?_; rintro e w0 ⟨rfl, hb0⟩
    have HB0 := Lib.hid hb0
    clear hb0
    go_wp2_with fail
    go_ret
    exact ⟨rfl, HB0.out⟩
theorem far_neg (a : Int) (h : a < 0) : far a = -a := by unfold far; rw [if_pos h]
theorem far_pos (a : Int) (h : ¬ a < 0) : far a = a := by unfold far; rw [if_neg h]
theorem short_law (a b : Int) (w : World) : Calls Try.prog 5 #[.int .i64 a, .int .i64 b] w fun e w' => e = .returned (.bool true) ∧ Below w.heap.size w w' := by
  by_cases hout : a < -2305843009213693952 ∨ (¬ a < -2305843009213693952 ∧ 2305843009213693952 < a) ∨ (¬ a < -2305843009213693952 ∧ ¬ 2305843009213693952 < a ∧ b < -2305843009213693952) ∨ (¬ a < -2305843009213693952 ∧ ¬ 2305843009213693952 < a ∧ ¬ b < -2305843009213693952 ∧ 2305843009213693952 < b)
  · exact short_out a b hout w
  · have h1 : ¬ a < -2305843009213693952 := by omega
    have h2 : ¬ 2305843009213693952 < a := by omega
    have h3 : ¬ b < -2305843009213693952 := by omega
    have h4 : ¬ 2305843009213693952 < b := by omega
    have hle : far a < far b → ¬ ((intB b).length : Int) < (intB a).length := by
      intro h
      have := short_le a b (by omega) (by omega) (by omega) (by omega) h
      unfold lenI at this; omega
    by_cases ha : a < 0
    · have h7 := short_neg a (by omega) (by omega) ha
      rw [far_neg a ha] at hle h7
      have hma : ¬ -a ≤ a := by omega
      by_cases hb : b < 0
      · rw [far_neg b hb] at hle
        have hmb : ¬ -b ≤ b := by omega
        by_cases h6 : sizeN (2 * -a) = (intB a).length
        · by_cases hxy : -a < -b
          · exact short_111 a b h1 h2 h3 h4 _ _ rfl rfl hma ha hmb hxy (hle hxy) h6 w
          · exact short_110 a b h1 h2 h3 h4 _ _ rfl rfl hma ha hmb hxy h6 w
        · by_cases hxy : -a < -b
          · exact short_211 a b h1 h2 h3 h4 _ _ rfl rfl hma ha hmb hxy (hle hxy) _ (fun h => h6 h.symm) rfl h7 w
          · exact short_210 a b h1 h2 h3 h4 _ _ rfl rfl hma ha hmb hxy _ (fun h => h6 h.symm) rfl h7 w
      · rw [far_pos b hb] at hle
        have hmb : -b ≤ b := by omega
        by_cases h6 : sizeN (2 * -a) = (intB a).length
        · by_cases hxy : -a < b
          · exact short_101 a b h1 h2 h3 h4 _ _ rfl rfl hma ha hmb hxy (hle hxy) h6 w
          · exact short_100 a b h1 h2 h3 h4 _ _ rfl rfl hma ha hmb hxy h6 w
        · by_cases hxy : -a < b
          · exact short_201 a b h1 h2 h3 h4 _ _ rfl rfl hma ha hmb hxy (hle hxy) _ (fun h => h6 h.symm) rfl h7 w
          · exact short_200 a b h1 h2 h3 h4 _ _ rfl rfl hma ha hmb hxy _ (fun h => h6 h.symm) rfl h7 w
    · have h6 := short_pos a (by omega) (by omega) ha
      rw [far_pos a ha] at hle h6
      have hma : -a ≤ a := by omega
      by_cases hb : b < 0
      · rw [far_neg b hb] at hle
        have hmb : ¬ -b ≤ b := by omega
        by_cases hxy : a < -b
        · exact short_011 a b h1 h2 h3 h4 _ _ rfl rfl hma ha hmb hxy (hle hxy) h6 w
        · exact short_010 a b h1 h2 h3 h4 _ _ rfl rfl hma ha hmb hxy h6 w
      · rw [far_pos b hb] at hle
        have hmb : -b ≤ b := by omega
        by_cases hxy : a < b
        · exact short_001 a b h1 h2 h3 h4 _ _ rfl rfl hma ha hmb hxy (hle hxy) h6 w
        · exact short_000 a b h1 h2 h3 h4 _ _ rfl rfl hma ha hmb hxy h6 w
theorem short_in (n : Int) (_ : (Lit.int .i64 n).wf = true) (most : Int) (_ : (Lit.int .i64 most).wf = true) (w : World) : Calls Try.prog 5 #[.int .i64 n, .int .i64 most] w fun e w' => e = .returned (.bool true) ∧ Below w.heap.size w w' := short_law n most w
end Go.Proofs.Ytkogechopdfleaa
