import Derived.Test.YtkogechopdfleaaWm
namespace Go.Proofs.Ytkogechopdfleaa
open Go.RowKit

theorem kOf_mono {m n : Nat} (h : m ≤ n) : kOf m ≤ kOf n := by
  rcases Nat.lt_or_ge (kOf n) (kOf m) with h1 | h1
  · exfalso
    have h2 := (kOf_spec m).1
    have h3 := (kOf_spec n).2
    have h4 := kOf_le m
    rcases h3 with h3 | h3
    · omega
    · have : bnd (kOf n + 1) ≤ bnd (kOf m) := by
        rcases Nat.lt_or_ge (kOf n + 1) (kOf m) with h6 | h6
        · exact Nat.le_of_lt (bnd_lt h6 h4)
        · rw [show kOf m = kOf n + 1 by omega]; exact Nat.le_refl _
      omega
  · exact h1
def far (a : Int) : Int := if a < 0 then -a else a
/-- how many bytes an integer has -/
def lenI (a : Int) : Nat := (intB a).length
theorem lenI_eq (a : Int) (h1 : -2305843009213693952 ≤ a) (h2 : a ≤ 2305843009213693952) : lenI a = kOf (zig a) + 1 := by
  unfold lenI intB; rw [if_neg (by omega), if_neg (by omega), num_length]
theorem short_le (a b : Int) (h1 : -2305843009213693952 ≤ a) (h2 : a ≤ 2305843009213693952) (h3 : -2305843009213693952 ≤ b) (h4 : b ≤ 2305843009213693952) (h : far a < far b) : lenI a ≤ lenI b := by
  rw [lenI_eq a h1 h2, lenI_eq b h3 h4]
  have : zig a ≤ zig b := by
    unfold far at h; unfold zig
    by_cases ha : a < 0 <;> by_cases hb : b < 0 <;> simp only [ha, hb, if_true, if_false] at h ⊢ <;> omega
  have := kOf_mono this
  omega
theorem short_pos (a : Int) (h1 : -2305843009213693952 ≤ a) (h2 : a ≤ 2305843009213693952) (h : ¬ a < 0) : sizeN (2 * far a) = (lenI a : Int) := by
  rw [lenI_eq a h1 h2]; unfold sizeN far zig
  rw [if_neg h, if_neg h, if_neg (by omega)]; rfl
theorem short_neg (a : Int) (h1 : -2305843009213693952 ≤ a) (h2 : a ≤ 2305843009213693952) (h : a < 0) : sizeN (2 * far a - 1) = (lenI a : Int) := by
  rw [lenI_eq a h1 h2]; unfold sizeN far zig
  rw [if_pos h, if_pos h, if_neg (by omega), show 2 * -a - 1 = -2 * a - 1 by omega]; rfl
theorem int_len (n : Int) (l : List UInt8) (hl : intB n = l) (w : World) : Calls Try.prog 13 #[.int .i64 n] w fun e w' => e = .returned (.string ⟨l.toArray⟩) ∧ Below w.heap.size w w' := int_walk n l hl w
set_option maxRecDepth 10000 in
set_option maxHeartbeats 1000000 in
theorem short_000 (a b : Int) (h1 : ¬ a < -2305843009213693952) (h2 : ¬ 2305843009213693952 < a) (h3 : ¬ b < -2305843009213693952) (h4 : ¬ 2305843009213693952 < b) (l1 l2 : List UInt8) (hl1 : intB a = l1) (hl2 : intB b = l2) (hma : -a ≤ a) (hsa : ¬ a < 0) (hmb : -b ≤ b) (hxy : ¬ a < b) (h6 : sizeN (2 * a) = l1.length) (w : World) : Calls Try.prog 5 #[.int .i64 a, .int .i64 b] w fun e w' => e = .returned (.bool true) ∧ Below w.heap.size w w' := by
  have Hl1 := Lib.hid hl1
  have Hl2 := Lib.hid hl2
  have H6 := Lib.hid (size_any _ (by omega) _ h6)
  clear hl1 hl2 h6
  go_enter Try.func5, Try.ntmps5
  go_wp2_with fail
  refine (awake_walk _).mono ?_; rintro e w0 ⟨rfl, hb0⟩
  have HB := Lib.hid hb0
  clear hb0
  go_wp2_with fail
  refine (int_len a l1 (by exact Hl1.out) _).mono ?_; rintro e w1 ⟨rfl, hb⟩
  have hb := step_b HB.out hb
  have HB := Lib.hid hb
  clear hb
  go_wp2_with fail
  refine (H6.out _).mono ?_; rintro e _ ⟨rfl, rfl⟩
  go_wp2_with fail
  go_ret
  exact ⟨rfl, HB.out⟩
set_option maxRecDepth 10000 in
set_option maxHeartbeats 1000000 in
theorem short_001 (a b : Int) (h1 : ¬ a < -2305843009213693952) (h2 : ¬ 2305843009213693952 < a) (h3 : ¬ b < -2305843009213693952) (h4 : ¬ 2305843009213693952 < b) (l1 l2 : List UInt8) (hl1 : intB a = l1) (hl2 : intB b = l2) (hma : -a ≤ a) (hsa : ¬ a < 0) (hmb : -b ≤ b) (hxy : a < b) (hle : ¬ (l2.length : Int) < l1.length) (h6 : sizeN (2 * a) = l1.length) (w : World) : Calls Try.prog 5 #[.int .i64 a, .int .i64 b] w fun e w' => e = .returned (.bool true) ∧ Below w.heap.size w w' := by
  have Hl1 := Lib.hid hl1
  have Hl2 := Lib.hid hl2
  have H6 := Lib.hid (size_any _ (by omega) _ h6)
  clear hl1 hl2 h6
  go_enter Try.func5, Try.ntmps5
  go_wp2_with fail
  refine (awake_walk _).mono ?_; rintro e w0 ⟨rfl, hb0⟩
  have HB := Lib.hid hb0
  clear hb0
  go_wp2_with fail
  refine (int_len a l1 (by exact Hl1.out) _).mono ?_; rintro e w1 ⟨rfl, hb⟩
  have hb := step_b HB.out hb
  have HB := Lib.hid hb
  clear hb
  go_wp2_with fail
  refine (int_len b l2 (by exact Hl2.out) _).mono ?_; rintro e w1 ⟨rfl, hb⟩
  have hb := step_b HB.out hb
  have HB := Lib.hid hb
  clear hb
  go_wp2_with fail
  refine (int_len a l1 (by exact Hl1.out) _).mono ?_; rintro e w1 ⟨rfl, hb⟩
  have hb := step_b HB.out hb
  have HB := Lib.hid hb
  clear hb
  go_wp2_with fail
  refine (H6.out _).mono ?_; rintro e _ ⟨rfl, rfl⟩
  go_wp2_with fail
  go_ret
  exact ⟨rfl, HB.out⟩
set_option maxRecDepth 10000 in
set_option maxHeartbeats 1000000 in
theorem short_010 (a b : Int) (h1 : ¬ a < -2305843009213693952) (h2 : ¬ 2305843009213693952 < a) (h3 : ¬ b < -2305843009213693952) (h4 : ¬ 2305843009213693952 < b) (l1 l2 : List UInt8) (hl1 : intB a = l1) (hl2 : intB b = l2) (hma : -a ≤ a) (hsa : ¬ a < 0) (hmb : ¬ -b ≤ b) (hxy : ¬ a < -b) (h6 : sizeN (2 * a) = l1.length) (w : World) : Calls Try.prog 5 #[.int .i64 a, .int .i64 b] w fun e w' => e = .returned (.bool true) ∧ Below w.heap.size w w' := by
  have Hl1 := Lib.hid hl1
  have Hl2 := Lib.hid hl2
  have H6 := Lib.hid (size_any _ (by omega) _ h6)
  clear hl1 hl2 h6
  go_enter Try.func5, Try.ntmps5
  go_wp2_with fail
  refine (awake_walk _).mono ?_; rintro e w0 ⟨rfl, hb0⟩
  have HB := Lib.hid hb0
  clear hb0
  go_wp2_with fail
  refine (int_len a l1 (by exact Hl1.out) _).mono ?_; rintro e w1 ⟨rfl, hb⟩
  have hb := step_b HB.out hb
  have HB := Lib.hid hb
  clear hb
  go_wp2_with fail
  refine (H6.out _).mono ?_; rintro e _ ⟨rfl, rfl⟩
  go_wp2_with fail
  go_ret
  exact ⟨rfl, HB.out⟩
set_option maxRecDepth 10000 in
set_option maxHeartbeats 1000000 in
theorem short_011 (a b : Int) (h1 : ¬ a < -2305843009213693952) (h2 : ¬ 2305843009213693952 < a) (h3 : ¬ b < -2305843009213693952) (h4 : ¬ 2305843009213693952 < b) (l1 l2 : List UInt8) (hl1 : intB a = l1) (hl2 : intB b = l2) (hma : -a ≤ a) (hsa : ¬ a < 0) (hmb : ¬ -b ≤ b) (hxy : a < -b) (hle : ¬ (l2.length : Int) < l1.length) (h6 : sizeN (2 * a) = l1.length) (w : World) : Calls Try.prog 5 #[.int .i64 a, .int .i64 b] w fun e w' => e = .returned (.bool true) ∧ Below w.heap.size w w' := by
  have Hl1 := Lib.hid hl1
  have Hl2 := Lib.hid hl2
  have H6 := Lib.hid (size_any _ (by omega) _ h6)
  clear hl1 hl2 h6
  go_enter Try.func5, Try.ntmps5
  go_wp2_with fail
  refine (awake_walk _).mono ?_; rintro e w0 ⟨rfl, hb0⟩
  have HB := Lib.hid hb0
  clear hb0
  go_wp2_with fail
  refine (int_len a l1 (by exact Hl1.out) _).mono ?_; rintro e w1 ⟨rfl, hb⟩
  have hb := step_b HB.out hb
  have HB := Lib.hid hb
  clear hb
  go_wp2_with fail
  refine (int_len b l2 (by exact Hl2.out) _).mono ?_; rintro e w1 ⟨rfl, hb⟩
  have hb := step_b HB.out hb
  have HB := Lib.hid hb
  clear hb
  go_wp2_with fail
  refine (int_len a l1 (by exact Hl1.out) _).mono ?_; rintro e w1 ⟨rfl, hb⟩
  have hb := step_b HB.out hb
  have HB := Lib.hid hb
  clear hb
  go_wp2_with fail
  refine (H6.out _).mono ?_; rintro e _ ⟨rfl, rfl⟩
  go_wp2_with fail
  go_ret
  exact ⟨rfl, HB.out⟩
set_option maxRecDepth 10000 in
set_option maxHeartbeats 1000000 in
theorem short_100 (a b : Int) (h1 : ¬ a < -2305843009213693952) (h2 : ¬ 2305843009213693952 < a) (h3 : ¬ b < -2305843009213693952) (h4 : ¬ 2305843009213693952 < b) (l1 l2 : List UInt8) (hl1 : intB a = l1) (hl2 : intB b = l2) (hma : ¬ -a ≤ a) (hsa : a < 0) (hmb : -b ≤ b) (hxy : ¬ -a < b) (h6 : sizeN (2 * -a) = l1.length) (w : World) : Calls Try.prog 5 #[.int .i64 a, .int .i64 b] w fun e w' => e = .returned (.bool true) ∧ Below w.heap.size w w' := by
  have Hl1 := Lib.hid hl1
  have Hl2 := Lib.hid hl2
  have H6 := Lib.hid (size_any _ (by omega) _ h6)
  clear hl1 hl2 h6
  go_enter Try.func5, Try.ntmps5
  go_wp2_with fail
  refine (awake_walk _).mono ?_; rintro e w0 ⟨rfl, hb0⟩
  have HB := Lib.hid hb0
  clear hb0
  go_wp2_with fail
  refine (int_len a l1 (by exact Hl1.out) _).mono ?_; rintro e w1 ⟨rfl, hb⟩
  have hb := step_b HB.out hb
  have HB := Lib.hid hb
  clear hb
  go_wp2_with fail
  refine (H6.out _).mono ?_; rintro e _ ⟨rfl, rfl⟩
  go_wp2_with fail
  go_ret
  exact ⟨rfl, HB.out⟩
set_option maxRecDepth 10000 in
set_option maxHeartbeats 1000000 in
theorem short_101 (a b : Int) (h1 : ¬ a < -2305843009213693952) (h2 : ¬ 2305843009213693952 < a) (h3 : ¬ b < -2305843009213693952) (h4 : ¬ 2305843009213693952 < b) (l1 l2 : List UInt8) (hl1 : intB a = l1) (hl2 : intB b = l2) (hma : ¬ -a ≤ a) (hsa : a < 0) (hmb : -b ≤ b) (hxy : -a < b) (hle : ¬ (l2.length : Int) < l1.length) (h6 : sizeN (2 * -a) = l1.length) (w : World) : Calls Try.prog 5 #[.int .i64 a, .int .i64 b] w fun e w' => e = .returned (.bool true) ∧ Below w.heap.size w w' := by
  have Hl1 := Lib.hid hl1
  have Hl2 := Lib.hid hl2
  have H6 := Lib.hid (size_any _ (by omega) _ h6)
  clear hl1 hl2 h6
  go_enter Try.func5, Try.ntmps5
  go_wp2_with fail
  refine (awake_walk _).mono ?_; rintro e w0 ⟨rfl, hb0⟩
  have HB := Lib.hid hb0
  clear hb0
  go_wp2_with fail
  refine (int_len a l1 (by exact Hl1.out) _).mono ?_; rintro e w1 ⟨rfl, hb⟩
  have hb := step_b HB.out hb
  have HB := Lib.hid hb
  clear hb
  go_wp2_with fail
  refine (int_len b l2 (by exact Hl2.out) _).mono ?_; rintro e w1 ⟨rfl, hb⟩
  have hb := step_b HB.out hb
  have HB := Lib.hid hb
  clear hb
  go_wp2_with fail
  refine (int_len a l1 (by exact Hl1.out) _).mono ?_; rintro e w1 ⟨rfl, hb⟩
  have hb := step_b HB.out hb
  have HB := Lib.hid hb
  clear hb
  go_wp2_with fail
  refine (H6.out _).mono ?_; rintro e _ ⟨rfl, rfl⟩
  go_wp2_with fail
  go_ret
  exact ⟨rfl, HB.out⟩
set_option maxRecDepth 10000 in
set_option maxHeartbeats 1000000 in
theorem short_110 (a b : Int) (h1 : ¬ a < -2305843009213693952) (h2 : ¬ 2305843009213693952 < a) (h3 : ¬ b < -2305843009213693952) (h4 : ¬ 2305843009213693952 < b) (l1 l2 : List UInt8) (hl1 : intB a = l1) (hl2 : intB b = l2) (hma : ¬ -a ≤ a) (hsa : a < 0) (hmb : ¬ -b ≤ b) (hxy : ¬ -a < -b) (h6 : sizeN (2 * -a) = l1.length) (w : World) : Calls Try.prog 5 #[.int .i64 a, .int .i64 b] w fun e w' => e = .returned (.bool true) ∧ Below w.heap.size w w' := by
  have Hl1 := Lib.hid hl1
  have Hl2 := Lib.hid hl2
  have H6 := Lib.hid (size_any _ (by omega) _ h6)
  clear hl1 hl2 h6
  go_enter Try.func5, Try.ntmps5
  go_wp2_with fail
  refine (awake_walk _).mono ?_; rintro e w0 ⟨rfl, hb0⟩
  have HB := Lib.hid hb0
  clear hb0
  go_wp2_with fail
  refine (int_len a l1 (by exact Hl1.out) _).mono ?_; rintro e w1 ⟨rfl, hb⟩
  have hb := step_b HB.out hb
  have HB := Lib.hid hb
  clear hb
  go_wp2_with fail
  refine (H6.out _).mono ?_; rintro e _ ⟨rfl, rfl⟩
  go_wp2_with fail
  go_ret
  exact ⟨rfl, HB.out⟩
set_option maxRecDepth 10000 in
set_option maxHeartbeats 1000000 in
theorem short_111 (a b : Int) (h1 : ¬ a < -2305843009213693952) (h2 : ¬ 2305843009213693952 < a) (h3 : ¬ b < -2305843009213693952) (h4 : ¬ 2305843009213693952 < b) (l1 l2 : List UInt8) (hl1 : intB a = l1) (hl2 : intB b = l2) (hma : ¬ -a ≤ a) (hsa : a < 0) (hmb : ¬ -b ≤ b) (hxy : -a < -b) (hle : ¬ (l2.length : Int) < l1.length) (h6 : sizeN (2 * -a) = l1.length) (w : World) : Calls Try.prog 5 #[.int .i64 a, .int .i64 b] w fun e w' => e = .returned (.bool true) ∧ Below w.heap.size w w' := by
  have Hl1 := Lib.hid hl1
  have Hl2 := Lib.hid hl2
  have H6 := Lib.hid (size_any _ (by omega) _ h6)
  clear hl1 hl2 h6
  go_enter Try.func5, Try.ntmps5
  go_wp2_with fail
  refine (awake_walk _).mono ?_; rintro e w0 ⟨rfl, hb0⟩
  have HB := Lib.hid hb0
  clear hb0
  go_wp2_with fail
  refine (int_len a l1 (by exact Hl1.out) _).mono ?_; rintro e w1 ⟨rfl, hb⟩
  have hb := step_b HB.out hb
  have HB := Lib.hid hb
  clear hb
  go_wp2_with fail
  refine (int_len b l2 (by exact Hl2.out) _).mono ?_; rintro e w1 ⟨rfl, hb⟩
  have hb := step_b HB.out hb
  have HB := Lib.hid hb
  clear hb
  go_wp2_with fail
  refine (int_len a l1 (by exact Hl1.out) _).mono ?_; rintro e w1 ⟨rfl, hb⟩
  have hb := step_b HB.out hb
  have HB := Lib.hid hb
  clear hb
  go_wp2_with fail
  refine (H6.out _).mono ?_; rintro e _ ⟨rfl, rfl⟩
  go_wp2_with fail
  go_ret
  exact ⟨rfl, HB.out⟩
set_option maxRecDepth 10000 in
set_option maxHeartbeats 1000000 in
theorem short_200 (a b : Int) (h1 : ¬ a < -2305843009213693952) (h2 : ¬ 2305843009213693952 < a) (h3 : ¬ b < -2305843009213693952) (h4 : ¬ 2305843009213693952 < b) (l1 l2 : List UInt8) (hl1 : intB a = l1) (hl2 : intB b = l2) (hma : ¬ -a ≤ a) (hsa : a < 0) (hmb : -b ≤ b) (hxy : ¬ -a < b) (k : Int) (hk : ¬ (l1.length : Int) = k) (h6 : sizeN (2 * -a) = k) (h7 : sizeN (2 * -a - 1) = l1.length) (w : World) : Calls Try.prog 5 #[.int .i64 a, .int .i64 b] w fun e w' => e = .returned (.bool true) ∧ Below w.heap.size w w' := by
  have Hl1 := Lib.hid hl1
  have Hl2 := Lib.hid hl2
  have H6 := Lib.hid (size_any _ (by omega) _ h6)
  have H7 := Lib.hid (size_any _ (by omega) _ h7)
  clear h7
  clear hl1 hl2 h6
  go_enter Try.func5, Try.ntmps5
  go_wp2_with fail
  refine (awake_walk _).mono ?_; rintro e w0 ⟨rfl, hb0⟩
  have HB := Lib.hid hb0
  clear hb0
  go_wp2_with fail
  refine (int_len a l1 (by exact Hl1.out) _).mono ?_; rintro e w1 ⟨rfl, hb⟩
  have hb := step_b HB.out hb
  have HB := Lib.hid hb
  clear hb
  go_wp2_with fail
  refine (H6.out _).mono ?_; rintro e _ ⟨rfl, rfl⟩
  go_wp2_with fail
  refine (int_len a l1 (by exact Hl1.out) _).mono ?_; rintro e w1 ⟨rfl, hb⟩
  have hb := step_b HB.out hb
  have HB := Lib.hid hb
  clear hb
  go_wp2_with fail
  refine (H7.out _).mono ?_; rintro e _ ⟨rfl, rfl⟩
  go_wp2_with fail
  go_ret
  exact ⟨rfl, HB.out⟩
set_option maxRecDepth 10000 in
set_option maxHeartbeats 1000000 in
theorem short_201 (a b : Int) (h1 : ¬ a < -2305843009213693952) (h2 : ¬ 2305843009213693952 < a) (h3 : ¬ b < -2305843009213693952) (h4 : ¬ 2305843009213693952 < b) (l1 l2 : List UInt8) (hl1 : intB a = l1) (hl2 : intB b = l2) (hma : ¬ -a ≤ a) (hsa : a < 0) (hmb : -b ≤ b) (hxy : -a < b) (hle : ¬ (l2.length : Int) < l1.length) (k : Int) (hk : ¬ (l1.length : Int) = k) (h6 : sizeN (2 * -a) = k) (h7 : sizeN (2 * -a - 1) = l1.length) (w : World) : Calls Try.prog 5 #[.int .i64 a, .int .i64 b] w fun e w' => e = .returned (.bool true) ∧ Below w.heap.size w w' := by
  have Hl1 := Lib.hid hl1
  have Hl2 := Lib.hid hl2
  have H6 := Lib.hid (size_any _ (by omega) _ h6)
  have H7 := Lib.hid (size_any _ (by omega) _ h7)
  clear h7
  clear hl1 hl2 h6
  go_enter Try.func5, Try.ntmps5
  go_wp2_with fail
  refine (awake_walk _).mono ?_; rintro e w0 ⟨rfl, hb0⟩
  have HB := Lib.hid hb0
  clear hb0
  go_wp2_with fail
  refine (int_len a l1 (by exact Hl1.out) _).mono ?_; rintro e w1 ⟨rfl, hb⟩
  have hb := step_b HB.out hb
  have HB := Lib.hid hb
  clear hb
  go_wp2_with fail
  refine (int_len b l2 (by exact Hl2.out) _).mono ?_; rintro e w1 ⟨rfl, hb⟩
  have hb := step_b HB.out hb
  have HB := Lib.hid hb
  clear hb
  go_wp2_with fail
  refine (int_len a l1 (by exact Hl1.out) _).mono ?_; rintro e w1 ⟨rfl, hb⟩
  have hb := step_b HB.out hb
  have HB := Lib.hid hb
  clear hb
  go_wp2_with fail
  refine (H6.out _).mono ?_; rintro e _ ⟨rfl, rfl⟩
  go_wp2_with fail
  refine (int_len a l1 (by exact Hl1.out) _).mono ?_; rintro e w1 ⟨rfl, hb⟩
  have hb := step_b HB.out hb
  have HB := Lib.hid hb
  clear hb
  go_wp2_with fail
  refine (H7.out _).mono ?_; rintro e _ ⟨rfl, rfl⟩
  go_wp2_with fail
  go_ret
  exact ⟨rfl, HB.out⟩
set_option maxRecDepth 10000 in
set_option maxHeartbeats 1000000 in
theorem short_210 (a b : Int) (h1 : ¬ a < -2305843009213693952) (h2 : ¬ 2305843009213693952 < a) (h3 : ¬ b < -2305843009213693952) (h4 : ¬ 2305843009213693952 < b) (l1 l2 : List UInt8) (hl1 : intB a = l1) (hl2 : intB b = l2) (hma : ¬ -a ≤ a) (hsa : a < 0) (hmb : ¬ -b ≤ b) (hxy : ¬ -a < -b) (k : Int) (hk : ¬ (l1.length : Int) = k) (h6 : sizeN (2 * -a) = k) (h7 : sizeN (2 * -a - 1) = l1.length) (w : World) : Calls Try.prog 5 #[.int .i64 a, .int .i64 b] w fun e w' => e = .returned (.bool true) ∧ Below w.heap.size w w' := by
  have Hl1 := Lib.hid hl1
  have Hl2 := Lib.hid hl2
  have H6 := Lib.hid (size_any _ (by omega) _ h6)
  have H7 := Lib.hid (size_any _ (by omega) _ h7)
  clear h7
  clear hl1 hl2 h6
  go_enter Try.func5, Try.ntmps5
  go_wp2_with fail
  refine (awake_walk _).mono ?_; rintro e w0 ⟨rfl, hb0⟩
  have HB := Lib.hid hb0
  clear hb0
  go_wp2_with fail
  refine (int_len a l1 (by exact Hl1.out) _).mono ?_; rintro e w1 ⟨rfl, hb⟩
  have hb := step_b HB.out hb
  have HB := Lib.hid hb
  clear hb
  go_wp2_with fail
  refine (H6.out _).mono ?_; rintro e _ ⟨rfl, rfl⟩
  go_wp2_with fail
  refine (int_len a l1 (by exact Hl1.out) _).mono ?_; rintro e w1 ⟨rfl, hb⟩
  have hb := step_b HB.out hb
  have HB := Lib.hid hb
  clear hb
  go_wp2_with fail
  refine (H7.out _).mono ?_; rintro e _ ⟨rfl, rfl⟩
  go_wp2_with fail
  go_ret
  exact ⟨rfl, HB.out⟩
set_option maxRecDepth 10000 in
set_option maxHeartbeats 1000000 in
theorem short_211 (a b : Int) (h1 : ¬ a < -2305843009213693952) (h2 : ¬ 2305843009213693952 < a) (h3 : ¬ b < -2305843009213693952) (h4 : ¬ 2305843009213693952 < b) (l1 l2 : List UInt8) (hl1 : intB a = l1) (hl2 : intB b = l2) (hma : ¬ -a ≤ a) (hsa : a < 0) (hmb : ¬ -b ≤ b) (hxy : -a < -b) (hle : ¬ (l2.length : Int) < l1.length) (k : Int) (hk : ¬ (l1.length : Int) = k) (h6 : sizeN (2 * -a) = k) (h7 : sizeN (2 * -a - 1) = l1.length) (w : World) : Calls Try.prog 5 #[.int .i64 a, .int .i64 b] w fun e w' => e = .returned (.bool true) ∧ Below w.heap.size w w' := by
  have Hl1 := Lib.hid hl1
  have Hl2 := Lib.hid hl2
  have H6 := Lib.hid (size_any _ (by omega) _ h6)
  have H7 := Lib.hid (size_any _ (by omega) _ h7)
  clear h7
  clear hl1 hl2 h6
  go_enter Try.func5, Try.ntmps5
  go_wp2_with fail
  refine (awake_walk _).mono ?_; rintro e w0 ⟨rfl, hb0⟩
  have HB := Lib.hid hb0
  clear hb0
  go_wp2_with fail
  refine (int_len a l1 (by exact Hl1.out) _).mono ?_; rintro e w1 ⟨rfl, hb⟩
  have hb := step_b HB.out hb
  have HB := Lib.hid hb
  clear hb
  go_wp2_with fail
  refine (int_len b l2 (by exact Hl2.out) _).mono ?_; rintro e w1 ⟨rfl, hb⟩
  have hb := step_b HB.out hb
  have HB := Lib.hid hb
  clear hb
  go_wp2_with fail
  refine (int_len a l1 (by exact Hl1.out) _).mono ?_; rintro e w1 ⟨rfl, hb⟩
  have hb := step_b HB.out hb
  have HB := Lib.hid hb
  clear hb
  go_wp2_with fail
  refine (H6.out _).mono ?_; rintro e _ ⟨rfl, rfl⟩
  go_wp2_with fail
  refine (int_len a l1 (by exact Hl1.out) _).mono ?_; rintro e w1 ⟨rfl, hb⟩
  have hb := step_b HB.out hb
  have HB := Lib.hid hb
  clear hb
  go_wp2_with fail
  refine (H7.out _).mono ?_; rintro e _ ⟨rfl, rfl⟩
  go_wp2_with fail
  go_ret
  exact ⟨rfl, HB.out⟩
end Go.Proofs.Ytkogechopdfleaa
