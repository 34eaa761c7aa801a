import Derived.Test.YtkogechopdfleaaWq
import Derived.ProofKit
namespace Go.Proofs.Ytkogechopdfleaa
open Go.RowKit
theorem numB_neg (a : Int) (h : a < 0) : numB a = [] := by unfold numB; rw [if_pos h]
theorem sizeN_neg (a : Int) (h : a < 0) : sizeN a = 0 := by unfold sizeN; rw [if_pos h]
theorem numB_nat (a : Nat) : numB (a : Int) = num a := by unfold numB; rw [if_neg (by omega)]; simp
theorem sizeN_nat (a : Nat) : sizeN (a : Int) = (num a).length := by unfold sizeN; rw [if_neg (by omega), num_length]; simp
set_option maxRecDepth 10000 in
set_option maxHeartbeats 400000 in
theorem order_neg1 (a b : Int) (ha : a < 0) (hb : a ≤ b) (w : World) : Calls Try.prog 4 #[.int .i64 a, .int .i64 b] w fun e w' => e = .returned (.bool true) ∧ Below w.heap.size w w' := by
  go_enter Try.func4, Try.ntmps4
  go_wp2_with fail
  refine (awake_walk _).mono ?_; rintro e w0 ⟨rfl, hb⟩
  have HB0 := Lib.hid hb
  clear hb
  go_wp2_with fail
  refine (num_any a (by omega) [] (numB_neg a ha) _).mono ?_; rintro e w1 ⟨rfl, hb⟩
  have HB1 := Lib.hid (step_b HB0.out hb)
  clear hb
  go_wp2_with fail
  refine (size_any a (by omega) 0 (sizeN_neg a ha) _).mono ?_; rintro e _ ⟨rfl, rfl⟩
  go_wp2_with fail
  go_ret
  exact ⟨rfl, HB1.out⟩
set_option maxRecDepth 10000 in
set_option maxHeartbeats 400000 in
theorem order_neg2 (a b : Int) (ha : b < 0) (hb : b < a) (w : World) : Calls Try.prog 4 #[.int .i64 a, .int .i64 b] w fun e w' => e = .returned (.bool true) ∧ Below w.heap.size w w' := by
  by_cases h0 : a < 0
  all_goals
    go_enter Try.func4, Try.ntmps4
    go_wp2_with fail
    refine (awake_walk _).mono ?_; rintro e w0 ⟨rfl, hb⟩
    have HB0 := Lib.hid hb
    clear hb
    go_wp2_with fail
    refine (num_any b (by omega) [] (numB_neg b ha) _).mono ?_; rintro e w1 ⟨rfl, hb⟩
    have HB1 := Lib.hid (step_b HB0.out hb)
    clear hb
    go_wp2_with fail
    refine (size_any b (by omega) 0 (sizeN_neg b ha) _).mono ?_; rintro e _ ⟨rfl, rfl⟩
    go_wp2_with fail
    go_ret
    exact ⟨rfl, HB1.out⟩
theorem ne_list {a b : ByteArray} (h : a.data.toList ≠ b.data.toList) : (a.toList == b.toList) = false := by
  rw [ByteArray.toList_eq, ByteArray.toList_eq]
  simpa using h
theorem ne_list' {a : ByteArray} {b : List UInt8} (h : a.data.toList ≠ b) : (a.toList == b) = false := by
  rw [ByteArray.toList_eq]
  simpa using h
theorem eq_list {a b : ByteArray} (h : a.data.toList = b.data.toList) : (a.toList == b.toList) = true := by
  rw [ByteArray.toList_eq, ByteArray.toList_eq]
  simpa using h
theorem num_nat (a : Nat) (x) (HA : Hid (a < 2 ^ 63)) (HX : Hid (num a = x)) (w : World) : Calls Try.prog 11 #[.int .i64 a] w fun e w' => e = .returned (.string ⟨x.toArray⟩) ∧ Below w.heap.size w w' := by
  have := HX.out; subst this; exact number_walk a HA.out w
theorem size_nat (a : Nat) (x : List UInt8) (HA : Hid (a < 2 ^ 63)) (HX : Hid (num a = x)) (w : World) : Calls Try.prog 17 #[.int .i64 a] w fun e w' => e = .returned (.int .i64 x.length) ∧ w = w' := by
  have h := HX.out; subst h; rw [num_length]; exact size_walk a HA.out w
set_option maxRecDepth 10000 in
set_option maxHeartbeats 400000 in
theorem order_lt (a b : Nat) (h : a < b) (hb : b < 2 ^ 63) (w : World) : Calls Try.prog 4 #[.int .i64 a, .int .i64 b] w fun e w' => e = .returned (.bool true) ∧ Below w.heap.size w w' := by
  have hxl := num_length a
  have hyl := num_length b
  have ka := kOf_le a
  have kb := kOf_le b
  obtain ⟨x, hx⟩ : ∃ x, num a = x := ⟨_, rfl⟩
  obtain ⟨y, hy⟩ : ∃ y, num b = y := ⟨_, rfl⟩
  have HX := Lib.hid hx
  have HY := Lib.hid hy
  have hbl : Op.bytesLess x y = true := by
    rw [← hx, ← hy]; exact less_num a b h hb
  have hle : x.length ≤ y.length := by rw [← hx, ← hy, num_length, num_length]; have := kOf_mono h; omega
  have hne : (((⟨y.toArray⟩ : ByteArray).extract 0 x.length).toList == x) = false := by
    apply ne_list' 
    rw [← hx, ← hy]
    simpa using num_nofront a b h hb
  have hl1 : 1 ≤ x.length := by rw [← hx]; omega
  have hl9 : x.length ≤ 9 := by rw [← hx]; omega
  have hba : ¬ (b : Int) < a := by omega
  have hbe : ¬ (a : Int) = b := by omega
  have hal : a < 2 ^ 63 := by omega
  have hbl2 : b < 2 ^ 63 := by omega
  have HAL := Lib.hid hal
  have HBL := Lib.hid hbl2
  clear hx hy hxl hyl ka kb hb hal hbl2
  go_enter Try.func4, Try.ntmps4
  go_wp2_with fail
  refine (awake_walk _).mono ?_; rintro e w0 ⟨rfl, hb⟩
  have HB0 := Lib.hid hb
  clear hb
  go_wp2_with fail
  refine (num_nat a x HAL HX _).mono ?_; rintro e w1 ⟨rfl, hb⟩
  have HB1 := Lib.hid (step_b HB0.out hb)
  clear hb
  go_wp2_with fail
  refine (num_nat b y HBL HY _).mono ?_; rintro e w2 ⟨rfl, hb⟩
  have HB2 := Lib.hid (step_b HB1.out hb)
  clear hb
  go_wp2_with fail
  refine (size_nat a x HAL HX _).mono ?_; rintro e _ ⟨rfl, rfl⟩
  go_wp2_with fail
  go_ret
  exact ⟨rfl, HB2.out⟩
set_option maxRecDepth 10000 in
set_option maxHeartbeats 400000 in
theorem order_gt (a b : Nat) (h : b < a) (ha : a < 2 ^ 63) (w : World) : Calls Try.prog 4 #[.int .i64 a, .int .i64 b] w fun e w' => e = .returned (.bool true) ∧ Below w.heap.size w w' := by
  have hxl := num_length a
  have hyl := num_length b
  have ka := kOf_le a
  have kb := kOf_le b
  obtain ⟨x, hx⟩ : ∃ x, num a = x := ⟨_, rfl⟩
  obtain ⟨y, hy⟩ : ∃ y, num b = y := ⟨_, rfl⟩
  have HX := Lib.hid hx
  have HY := Lib.hid hy
  have hbl : Op.bytesLess y x = true := by
    rw [← hx, ← hy]; exact less_num b a h ha
  have hle : y.length ≤ x.length := by rw [← hx, ← hy, num_length, num_length]; have := kOf_mono h; omega
  have hne : (((⟨x.toArray⟩ : ByteArray).extract 0 y.length).toList == y) = false := by
    apply ne_list' 
    rw [← hx, ← hy]
    simpa using num_nofront b a h ha
  have hl1 : 1 ≤ x.length := by rw [← hx]; omega
  have hl9 : x.length ≤ 9 := by rw [← hx]; omega
  have hba : (b : Int) < a := by omega
  have hbe : ¬ (a : Int) = b := by omega
  have hal : a < 2 ^ 63 := by omega
  have hbl2 : b < 2 ^ 63 := by omega
  have HAL := Lib.hid hal
  have HBL := Lib.hid hbl2
  clear hx hy hxl hyl ka kb ha hal hbl2
  go_enter Try.func4, Try.ntmps4
  go_wp2_with fail
  refine (awake_walk _).mono ?_; rintro e w0 ⟨rfl, hb⟩
  have HB0 := Lib.hid hb
  clear hb
  go_wp2_with fail
  refine (num_nat a x HAL HX _).mono ?_; rintro e w1 ⟨rfl, hb⟩
  have HB1 := Lib.hid (step_b HB0.out hb)
  clear hb
  go_wp2_with fail
  refine (num_nat b y HBL HY _).mono ?_; rintro e w2 ⟨rfl, hb⟩
  have HB2 := Lib.hid (step_b HB1.out hb)
  clear hb
  go_wp2_with fail
  refine (size_nat a x HAL HX _).mono ?_; rintro e _ ⟨rfl, rfl⟩
  go_wp2_with fail
  go_ret
  exact ⟨rfl, HB2.out⟩
set_option maxRecDepth 10000 in
set_option maxHeartbeats 400000 in
theorem order_eq (a : Nat) (ha : a < 2 ^ 63) (w : World) : Calls Try.prog 4 #[.int .i64 a, .int .i64 a] w fun e w' => e = .returned (.bool true) ∧ Below w.heap.size w w' := by
  have hxl := num_length a
  have ka := kOf_le a
  obtain ⟨x, hx⟩ : ∃ x, num a = x := ⟨_, rfl⟩
  have HX := Lib.hid hx
  have hl1 : 1 ≤ x.length := by rw [← hx]; omega
  have hl9 : x.length ≤ 9 := by rw [← hx]; omega
  have hal : a < 2 ^ 63 := by omega
  have HAL := Lib.hid hal
  clear hx hxl ka hal ha
  go_enter Try.func4, Try.ntmps4
  go_wp2_with fail
  refine (awake_walk _).mono ?_; rintro e w0 ⟨rfl, hb⟩
  have HB0 := Lib.hid hb
  clear hb
  go_wp2_with fail
  refine (num_nat a x HAL HX _).mono ?_; rintro e w1 ⟨rfl, hb⟩
  have HB1 := Lib.hid (step_b HB0.out hb)
  clear hb
  go_wp2_with fail
  refine (num_nat a x HAL HX _).mono ?_; rintro e w2 ⟨rfl, hb⟩
  have HB2 := Lib.hid (step_b HB1.out hb)
  clear hb
  go_wp2_with fail
  refine (size_nat a x HAL HX _).mono ?_; rintro e _ ⟨rfl, rfl⟩
  go_wp2_with fail
  go_ret
  exact ⟨rfl, HB2.out⟩
theorem order_in (a : Int) (wa : (Lit.int .i64 a).wf = true) (b : Int) (wb : (Lit.int .i64 b).wf = true) (w : World) : Calls Try.prog 4 #[.int .i64 a, .int .i64 b] w fun e w' => e = .returned (.bool true) ∧ Below w.heap.size w w' := by
  have := bounds_i64 wa
  have := bounds_i64 wb
  by_cases h : a < 0 ∨ b < 0
  · by_cases h1 : a ≤ b
    · exact order_neg1 a b (by omega) h1 w
    · exact order_neg2 a b (by omega) (by omega) w
  · obtain ⟨m, rfl⟩ : ∃ m : Nat, a = m := ⟨a.toNat, by omega⟩
    obtain ⟨n, rfl⟩ : ∃ n : Nat, b = n := ⟨b.toNat, by omega⟩
    rcases Nat.lt_trichotomy m n with h1 | rfl | h1
    · exact order_lt m n h1 (by omega) w
    · exact order_eq m (by omega) w
    · exact order_gt m n h1 (by omega) w
end Go.Proofs.Ytkogechopdfleaa
