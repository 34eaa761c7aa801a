import Derived.Test.YtfaifdmjgkaphaaWf
namespace Go.Proofs.Ytfaifdmjgkaphaa
open Go.RowKit

/-- LogicChars. -/
theorem chars_law (c : Nat) (n : Int) (hc : c < 256) (w : World) : Calls Try.prog 8 #[.int .u8 c, .int .i64 n] w fun e w' => e = .returned (.bool true) ∧ Below w.heap.size w w' := by
  go_enter Try.func8, Try.ntmps8
  go_wp2_with (first
    | (go_at_call 10; refine (awake_walk _).mono ?_; rintro e w0 ⟨rfl, hb0⟩)
    | (go_at_call 28; refine (lower_walk _ hc _).mono ?_; rintro e _ ⟨rfl, rfl⟩)
    | (go_at_call 29; refine (rlower_walk _ _).mono ?_; rintro e _ ⟨rfl, rfl⟩)
    | (go_at_call 30; refine (char_walk _ _).mono ?_; rintro e _ ⟨rfl, rfl⟩)
    | (go_at_call 31; refine (rchar_walk _ _).mono ?_; rintro e _ ⟨rfl, rfl⟩)
    | (go_at_call 15; refine (valid_walk _ hc _).mono ?_; rintro e _ ⟨rfl, rfl⟩)
    | (go_at_call 32; refine (rvalid_walk _ _).mono ?_; rintro e _ ⟨rfl, rfl⟩)
    | (go_at_call 33; refine (code_walk _ hc _).mono ?_; rintro e _ ⟨rfl, rfl⟩)
    | (go_at_call 34; refine (rcode_walk _ _).mono ?_; rintro e _ ⟨rfl, rfl⟩))
  go_ret
  exact ⟨rfl, hb0⟩
theorem chars_in (a : Int) (ha : (Lit.int .u8 a).wf = true) (b : Int) (_ : (Lit.int .i64 b).wf = true) (w : World) : Calls Try.prog 8 #[.int .u8 a, .int .i64 b] w fun e w' => e = .returned (.bool true) ∧ Below w.heap.size w w' := by
  obtain ⟨m, rfl, hm⟩ := u8_nat ha
  exact chars_law m b hm w

theorem bt {a k : Nat} (h : a = k) : ((a : Int) == (k : Int)) = true := by simp [h]
theorem bf {a k : Nat} (h : ¬ a = k) : ((a : Int) == (k : Int)) = false := by simp; omega
/-- LogicCodes: the cases, decided ahead of the walk. -/
theorem chC_lt (n : Int) : chC n < 256 := by unfold chC; (repeat' split) <;> decide
theorem code_chC (n : Int) (h : 0 ≤ n ∧ n ≤ 3) : code (chC n) = n := by
  rcases (by omega : n = 0 ∨ n = 1 ∨ n = 2 ∨ n = 3) with rfl | rfl | rfl | rfl <;> decide
theorem valid_chC (n : Int) (h : 0 ≤ n ∧ n ≤ 3) : rValid (chC n) = true := by
  rcases (by omega : n = 0 ∨ n = 1 ∨ n = 2 ∨ n = 3) with rfl | rfl | rfl | rfl <;> decide
theorem code_nv (c : Nat) (h : rValid c = false) : code c = -1 := by
  have := code_valid c
  rw [h, decide_eq_false_iff_not] at this
  unfold code at *; omega
theorem lowB_nv (c : Nat) (h : rValid c = false) : lowB c = decide (c = 88 ∨ c = 90) := by
  unfold rValid at h; unfold lowB
  rw [decide_eq_false_iff_not] at h
  rw [Bool.eq_iff_iff]; simp only [decide_eq_true_eq]; omega
theorem low_v (c : Nat) (h : rValid c = true) : lowB c = true ∧ lowC c = c := by
  have h2 := h
  unfold rValid at h; rw [decide_eq_true_eq] at h
  exact ⟨by unfold lowB; apply decide_eq_true; omega, by unfold lowC; rw [if_neg (by omega), if_neg (by omega), if_pos h2]⟩
theorem code_v (c : Nat) (h : rValid c = true) : 0 ≤ code c ∧ code c ≤ 3 ∧ chC (code c) = c := by
  unfold rValid at h; rw [decide_eq_true_eq] at h
  rcases h with rfl | rfl | rfl | rfl <;> decide
theorem lowC_valid (c : Nat) (h : lowB c = true) : rValid (lowC c) = true := by
  unfold lowB at h; rw [decide_eq_true_eq] at h
  rcases h with rfl | rfl | rfl | rfl | rfl | rfl <;> decide
theorem lowC_lt (c : Nat) (hc : c < 256) : lowC c < 256 := by unfold lowC; (repeat' split) <;> omega

theorem valid_at (c : Nat) (b : Bool) (hc : c < 256) (h : rValid c = b) (w : World) : Calls Try.prog 15 #[.int .u8 c] w fun e w' => e = .returned (.bool b) ∧ w = w' := by
  subst h; exact valid_walk c hc w
theorem code_at (c : Nat) (n : Int) (hc : c < 256) (h : code c = n) (w : World) : Calls Try.prog 33 #[.int .u8 c] w fun e w' => e = .returned (.int .i64 n) ∧ w = w' := by
  subst h; exact code_walk c hc w
theorem char_at (n : Int) (c : Nat) (b : Bool) (h : chC n = c) (hb : chB n = b) (w : World) : Calls Try.prog 30 #[.int .i64 n] w fun e w' => e = .returned (.tuple #[.int .u8 c, .bool b]) ∧ w = w' := by
  subst h; subst hb; exact char_walk n w
theorem lower_at (c c' : Nat) (b : Bool) (hc : c < 256) (h : lowC c = c') (hb : lowB c = b) (w : World) : Calls Try.prog 28 #[.int .u8 c] w fun e w' => e = .returned (.tuple #[.int .u8 c', .bool b]) ∧ w = w' := by
  subst h; subst hb; exact lower_walk c hc w
theorem chB_in (n : Int) (h : 0 ≤ n ∧ n ≤ 3) : chB n = true := by unfold chB; exact decide_eq_true h
theorem chB_out (n : Int) (h : ¬ (0 ≤ n ∧ n ≤ 3)) : chB n = false := by unfold chB; exact decide_eq_false h

theorem codes_in_v (c : Nat) (n : Int) (hc : c < 256) (hn0 : 0 ≤ n) (hn3 : n ≤ 3) (hv : rValid c = true) (w : World) : Calls Try.prog 9 #[.int .u8 c, .int .i64 n] w fun e w' => e = .returned (.bool true) ∧ Below w.heap.size w w' := by
  have C1 := Lib.hid (chB_in n ⟨hn0, hn3⟩)
  have C2 := Lib.hid (code_chC n ⟨hn0, hn3⟩)
  have C3 := Lib.hid (valid_chC n ⟨hn0, hn3⟩)
  have L := Lib.hid (low_v c hv)
  have K := Lib.hid (code_v c hv)
  have V := Lib.hid hv
  clear hv
  have kb1 := K.out.1
  have kb2 := K.out.2.1
  go_enter Try.func9, Try.ntmps9
  go_wp2_with (go_at_call 10; refine (awake_walk _).mono ?_; rintro e w0 ⟨rfl, hb0⟩)
  refine (char_at n _ _ rfl C1.out _).mono ?_; rintro e _ ⟨rfl, rfl⟩
  go_wp2_with fail
  refine (code_at _ n (chC_lt n) C2.out _).mono ?_; rintro e _ ⟨rfl, rfl⟩
  go_wp2_with fail
  refine (valid_at _ _ (chC_lt n) C3.out _).mono ?_; rintro e _ ⟨rfl, rfl⟩
  go_wp2_with fail
  refine (lower_at c _ _ hc L.out.2 L.out.1 _).mono ?_; rintro e _ ⟨rfl, rfl⟩
  go_wp2_with fail
  refine (valid_at c _ hc V.out _).mono ?_; rintro e _ ⟨rfl, rfl⟩
  go_wp2_with fail
  refine (code_walk c hc _).mono ?_; rintro e _ ⟨rfl, rfl⟩
  go_wp2_with fail
  refine (char_at (code c) _ _ K.out.2.2 (chB_in _ ⟨K.out.1, K.out.2.1⟩) _).mono ?_; rintro e _ ⟨rfl, rfl⟩
  go_wp2_with fail
  go_ret
  exact ⟨rfl, hb0⟩
theorem codes_in_t (c : Nat) (n : Int) (hc : c < 256) (hn0 : 0 ≤ n) (hn3 : n ≤ 3) (hv : ¬ rValid c = true) (hl : lowB c = true) (w : World) : Calls Try.prog 9 #[.int .u8 c, .int .i64 n] w fun e w' => e = .returned (.bool true) ∧ Below w.heap.size w w' := by
  have C1 := Lib.hid (chB_in n ⟨hn0, hn3⟩)
  have C2 := Lib.hid (code_chC n ⟨hn0, hn3⟩)
  have C3 := Lib.hid (valid_chC n ⟨hn0, hn3⟩)
  have V := Lib.hid (show rValid c = false by simpa using hv)
  have K := Lib.hid (code_nv c V.out)
  have L := Lib.hid hl
  have X := Lib.hid (lowB_nv c V.out)
  have X2 : Hid ((decide (c = 88 ∨ c = 90)) = true) := Lib.hid (by rw [← X.out, L.out])
  clear hv hl
  rcases of_decide_eq_true X2.out with h8 | h8
  · have n1 : ((c : Int) == 88) = true := bt (k := 88) h8
    clear h8
    go_enter Try.func9, Try.ntmps9
    go_wp2_with (go_at_call 10; refine (awake_walk _).mono ?_; rintro e w0 ⟨rfl, hb0⟩)
    refine (char_at n _ _ rfl C1.out _).mono ?_; rintro e _ ⟨rfl, rfl⟩
    go_wp2_with fail
    refine (code_at _ n (chC_lt n) C2.out _).mono ?_; rintro e _ ⟨rfl, rfl⟩
    go_wp2_with fail
    refine (valid_at _ _ (chC_lt n) C3.out _).mono ?_; rintro e _ ⟨rfl, rfl⟩
    go_wp2_with fail
    refine (lower_at c _ _ hc rfl L.out _).mono ?_; rintro e _ ⟨rfl, rfl⟩
    go_wp2_with fail
    refine (valid_at c _ hc V.out _).mono ?_; rintro e _ ⟨rfl, rfl⟩
    go_wp2_with fail
    refine (code_at c _ hc K.out _).mono ?_; rintro e _ ⟨rfl, rfl⟩
    go_wp2_with fail
    refine (valid_at _ _ (lowC_lt c hc) (lowC_valid c L.out) _).mono ?_; rintro e _ ⟨rfl, rfl⟩
    go_wp2_with fail
    go_ret
    exact ⟨rfl, hb0⟩
  · have n1 : ((c : Int) == 88) = false := bf (k := 88) (by omega)
    have n2 : ((c : Int) == 90) = true := bt (k := 90) h8
    clear h8
    go_enter Try.func9, Try.ntmps9
    go_wp2_with (go_at_call 10; refine (awake_walk _).mono ?_; rintro e w0 ⟨rfl, hb0⟩)
    refine (char_at n _ _ rfl C1.out _).mono ?_; rintro e _ ⟨rfl, rfl⟩
    go_wp2_with fail
    refine (code_at _ n (chC_lt n) C2.out _).mono ?_; rintro e _ ⟨rfl, rfl⟩
    go_wp2_with fail
    refine (valid_at _ _ (chC_lt n) C3.out _).mono ?_; rintro e _ ⟨rfl, rfl⟩
    go_wp2_with fail
    refine (lower_at c _ _ hc rfl L.out _).mono ?_; rintro e _ ⟨rfl, rfl⟩
    go_wp2_with fail
    refine (valid_at c _ hc V.out _).mono ?_; rintro e _ ⟨rfl, rfl⟩
    go_wp2_with fail
    refine (code_at c _ hc K.out _).mono ?_; rintro e _ ⟨rfl, rfl⟩
    go_wp2_with fail
    refine (valid_at _ _ (lowC_lt c hc) (lowC_valid c L.out) _).mono ?_; rintro e _ ⟨rfl, rfl⟩
    go_wp2_with fail
    go_ret
    exact ⟨rfl, hb0⟩
theorem codes_in_f (c : Nat) (n : Int) (hc : c < 256) (hn0 : 0 ≤ n) (hn3 : n ≤ 3) (hv : ¬ rValid c = true) (hl : ¬ lowB c = true) (w : World) : Calls Try.prog 9 #[.int .u8 c, .int .i64 n] w fun e w' => e = .returned (.bool true) ∧ Below w.heap.size w w' := by
  have C1 := Lib.hid (chB_in n ⟨hn0, hn3⟩)
  have C2 := Lib.hid (code_chC n ⟨hn0, hn3⟩)
  have C3 := Lib.hid (valid_chC n ⟨hn0, hn3⟩)
  have V := Lib.hid (show rValid c = false by simpa using hv)
  have K := Lib.hid (code_nv c V.out)
  have L := Lib.hid (show lowB c = false by simpa using hl)
  have X := Lib.hid (lowB_nv c V.out)
  have X2 : Hid ((decide (c = 88 ∨ c = 90)) = false) := Lib.hid (by rw [← X.out, L.out])
  clear hv hl
  have hc88 : ¬ (c = 88 ∨ c = 90) := of_decide_eq_false X2.out
  have n1 : ((c : Int) == 88) = false := bf (k := 88) (by omega)
  have n2 : ((c : Int) == 90) = false := bf (k := 90) (by omega)
  clear hc88
  go_enter Try.func9, Try.ntmps9
  go_wp2_with (go_at_call 10; refine (awake_walk _).mono ?_; rintro e w0 ⟨rfl, hb0⟩)
  refine (char_at n _ _ rfl C1.out _).mono ?_; rintro e _ ⟨rfl, rfl⟩
  go_wp2_with fail
  refine (code_at _ n (chC_lt n) C2.out _).mono ?_; rintro e _ ⟨rfl, rfl⟩
  go_wp2_with fail
  refine (valid_at _ _ (chC_lt n) C3.out _).mono ?_; rintro e _ ⟨rfl, rfl⟩
  go_wp2_with fail
  refine (lower_at c _ _ hc rfl L.out _).mono ?_; rintro e _ ⟨rfl, rfl⟩
  go_wp2_with fail
  refine (valid_at c _ hc V.out _).mono ?_; rintro e _ ⟨rfl, rfl⟩
  go_wp2_with fail
  refine (code_at c _ hc K.out _).mono ?_; rintro e _ ⟨rfl, rfl⟩
  go_wp2_with fail
  go_ret
  exact ⟨rfl, hb0⟩
theorem codes_lo_v (c : Nat) (n : Int) (hc : c < 256) (hn : n < 0) (hv : rValid c = true) (w : World) : Calls Try.prog 9 #[.int .u8 c, .int .i64 n] w fun e w' => e = .returned (.bool true) ∧ Below w.heap.size w w' := by
  have C1 := Lib.hid (chB_out n (by omega))
  have L := Lib.hid (low_v c hv)
  have K := Lib.hid (code_v c hv)
  have V := Lib.hid hv
  clear hv
  have kb1 := K.out.1
  have kb2 := K.out.2.1
  go_enter Try.func9, Try.ntmps9
  go_wp2_with (go_at_call 10; refine (awake_walk _).mono ?_; rintro e w0 ⟨rfl, hb0⟩)
  refine (char_at n _ _ rfl C1.out _).mono ?_; rintro e _ ⟨rfl, rfl⟩
  go_wp2_with fail
  refine (lower_at c _ _ hc L.out.2 L.out.1 _).mono ?_; rintro e _ ⟨rfl, rfl⟩
  go_wp2_with fail
  refine (valid_at c _ hc V.out _).mono ?_; rintro e _ ⟨rfl, rfl⟩
  go_wp2_with fail
  refine (code_walk c hc _).mono ?_; rintro e _ ⟨rfl, rfl⟩
  go_wp2_with fail
  refine (char_at (code c) _ _ K.out.2.2 (chB_in _ ⟨K.out.1, K.out.2.1⟩) _).mono ?_; rintro e _ ⟨rfl, rfl⟩
  go_wp2_with fail
  go_ret
  exact ⟨rfl, hb0⟩
theorem codes_lo_t (c : Nat) (n : Int) (hc : c < 256) (hn : n < 0) (hv : ¬ rValid c = true) (hl : lowB c = true) (w : World) : Calls Try.prog 9 #[.int .u8 c, .int .i64 n] w fun e w' => e = .returned (.bool true) ∧ Below w.heap.size w w' := by
  have C1 := Lib.hid (chB_out n (by omega))
  have V := Lib.hid (show rValid c = false by simpa using hv)
  have K := Lib.hid (code_nv c V.out)
  have L := Lib.hid hl
  have X := Lib.hid (lowB_nv c V.out)
  have X2 : Hid ((decide (c = 88 ∨ c = 90)) = true) := Lib.hid (by rw [← X.out, L.out])
  clear hv hl
  rcases of_decide_eq_true X2.out with h8 | h8
  · have n1 : ((c : Int) == 88) = true := bt (k := 88) h8
    clear h8
    go_enter Try.func9, Try.ntmps9
    go_wp2_with (go_at_call 10; refine (awake_walk _).mono ?_; rintro e w0 ⟨rfl, hb0⟩)
    refine (char_at n _ _ rfl C1.out _).mono ?_; rintro e _ ⟨rfl, rfl⟩
    go_wp2_with fail
    refine (lower_at c _ _ hc rfl L.out _).mono ?_; rintro e _ ⟨rfl, rfl⟩
    go_wp2_with fail
    refine (valid_at c _ hc V.out _).mono ?_; rintro e _ ⟨rfl, rfl⟩
    go_wp2_with fail
    refine (code_at c _ hc K.out _).mono ?_; rintro e _ ⟨rfl, rfl⟩
    go_wp2_with fail
    refine (valid_at _ _ (lowC_lt c hc) (lowC_valid c L.out) _).mono ?_; rintro e _ ⟨rfl, rfl⟩
    go_wp2_with fail
    go_ret
    exact ⟨rfl, hb0⟩
  · have n1 : ((c : Int) == 88) = false := bf (k := 88) (by omega)
    have n2 : ((c : Int) == 90) = true := bt (k := 90) h8
    clear h8
    go_enter Try.func9, Try.ntmps9
    go_wp2_with (go_at_call 10; refine (awake_walk _).mono ?_; rintro e w0 ⟨rfl, hb0⟩)
    refine (char_at n _ _ rfl C1.out _).mono ?_; rintro e _ ⟨rfl, rfl⟩
    go_wp2_with fail
    refine (lower_at c _ _ hc rfl L.out _).mono ?_; rintro e _ ⟨rfl, rfl⟩
    go_wp2_with fail
    refine (valid_at c _ hc V.out _).mono ?_; rintro e _ ⟨rfl, rfl⟩
    go_wp2_with fail
    refine (code_at c _ hc K.out _).mono ?_; rintro e _ ⟨rfl, rfl⟩
    go_wp2_with fail
    refine (valid_at _ _ (lowC_lt c hc) (lowC_valid c L.out) _).mono ?_; rintro e _ ⟨rfl, rfl⟩
    go_wp2_with fail
    go_ret
    exact ⟨rfl, hb0⟩
theorem codes_lo_f (c : Nat) (n : Int) (hc : c < 256) (hn : n < 0) (hv : ¬ rValid c = true) (hl : ¬ lowB c = true) (w : World) : Calls Try.prog 9 #[.int .u8 c, .int .i64 n] w fun e w' => e = .returned (.bool true) ∧ Below w.heap.size w w' := by
  have C1 := Lib.hid (chB_out n (by omega))
  have V := Lib.hid (show rValid c = false by simpa using hv)
  have K := Lib.hid (code_nv c V.out)
  have L := Lib.hid (show lowB c = false by simpa using hl)
  have X := Lib.hid (lowB_nv c V.out)
  have X2 : Hid ((decide (c = 88 ∨ c = 90)) = false) := Lib.hid (by rw [← X.out, L.out])
  clear hv hl
  have hc88 : ¬ (c = 88 ∨ c = 90) := of_decide_eq_false X2.out
  have n1 : ((c : Int) == 88) = false := bf (k := 88) (by omega)
  have n2 : ((c : Int) == 90) = false := bf (k := 90) (by omega)
  clear hc88
  go_enter Try.func9, Try.ntmps9
  go_wp2_with (go_at_call 10; refine (awake_walk _).mono ?_; rintro e w0 ⟨rfl, hb0⟩)
  refine (char_at n _ _ rfl C1.out _).mono ?_; rintro e _ ⟨rfl, rfl⟩
  go_wp2_with fail
  refine (lower_at c _ _ hc rfl L.out _).mono ?_; rintro e _ ⟨rfl, rfl⟩
  go_wp2_with fail
  refine (valid_at c _ hc V.out _).mono ?_; rintro e _ ⟨rfl, rfl⟩
  go_wp2_with fail
  refine (code_at c _ hc K.out _).mono ?_; rintro e _ ⟨rfl, rfl⟩
  go_wp2_with fail
  go_ret
  exact ⟨rfl, hb0⟩
theorem codes_hi_v (c : Nat) (n : Int) (hc : c < 256) (hn : 3 < n) (hv : rValid c = true) (w : World) : Calls Try.prog 9 #[.int .u8 c, .int .i64 n] w fun e w' => e = .returned (.bool true) ∧ Below w.heap.size w w' := by
  have C1 := Lib.hid (chB_out n (by omega))
  have L := Lib.hid (low_v c hv)
  have K := Lib.hid (code_v c hv)
  have V := Lib.hid hv
  clear hv
  have kb1 := K.out.1
  have kb2 := K.out.2.1
  go_enter Try.func9, Try.ntmps9
  go_wp2_with (go_at_call 10; refine (awake_walk _).mono ?_; rintro e w0 ⟨rfl, hb0⟩)
  refine (char_at n _ _ rfl C1.out _).mono ?_; rintro e _ ⟨rfl, rfl⟩
  go_wp2_with fail
  refine (lower_at c _ _ hc L.out.2 L.out.1 _).mono ?_; rintro e _ ⟨rfl, rfl⟩
  go_wp2_with fail
  refine (valid_at c _ hc V.out _).mono ?_; rintro e _ ⟨rfl, rfl⟩
  go_wp2_with fail
  refine (code_walk c hc _).mono ?_; rintro e _ ⟨rfl, rfl⟩
  go_wp2_with fail
  refine (char_at (code c) _ _ K.out.2.2 (chB_in _ ⟨K.out.1, K.out.2.1⟩) _).mono ?_; rintro e _ ⟨rfl, rfl⟩
  go_wp2_with fail
  go_ret
  exact ⟨rfl, hb0⟩
theorem codes_hi_t (c : Nat) (n : Int) (hc : c < 256) (hn : 3 < n) (hv : ¬ rValid c = true) (hl : lowB c = true) (w : World) : Calls Try.prog 9 #[.int .u8 c, .int .i64 n] w fun e w' => e = .returned (.bool true) ∧ Below w.heap.size w w' := by
  have C1 := Lib.hid (chB_out n (by omega))
  have V := Lib.hid (show rValid c = false by simpa using hv)
  have K := Lib.hid (code_nv c V.out)
  have L := Lib.hid hl
  have X := Lib.hid (lowB_nv c V.out)
  have X2 : Hid ((decide (c = 88 ∨ c = 90)) = true) := Lib.hid (by rw [← X.out, L.out])
  clear hv hl
  rcases of_decide_eq_true X2.out with h8 | h8
  · have n1 : ((c : Int) == 88) = true := bt (k := 88) h8
    clear h8
    go_enter Try.func9, Try.ntmps9
    go_wp2_with (go_at_call 10; refine (awake_walk _).mono ?_; rintro e w0 ⟨rfl, hb0⟩)
    refine (char_at n _ _ rfl C1.out _).mono ?_; rintro e _ ⟨rfl, rfl⟩
    go_wp2_with fail
    refine (lower_at c _ _ hc rfl L.out _).mono ?_; rintro e _ ⟨rfl, rfl⟩
    go_wp2_with fail
    refine (valid_at c _ hc V.out _).mono ?_; rintro e _ ⟨rfl, rfl⟩
    go_wp2_with fail
    refine (code_at c _ hc K.out _).mono ?_; rintro e _ ⟨rfl, rfl⟩
    go_wp2_with fail
    refine (valid_at _ _ (lowC_lt c hc) (lowC_valid c L.out) _).mono ?_; rintro e _ ⟨rfl, rfl⟩
    go_wp2_with fail
    go_ret
    exact ⟨rfl, hb0⟩
  · have n1 : ((c : Int) == 88) = false := bf (k := 88) (by omega)
    have n2 : ((c : Int) == 90) = true := bt (k := 90) h8
    clear h8
    go_enter Try.func9, Try.ntmps9
    go_wp2_with (go_at_call 10; refine (awake_walk _).mono ?_; rintro e w0 ⟨rfl, hb0⟩)
    refine (char_at n _ _ rfl C1.out _).mono ?_; rintro e _ ⟨rfl, rfl⟩
    go_wp2_with fail
    refine (lower_at c _ _ hc rfl L.out _).mono ?_; rintro e _ ⟨rfl, rfl⟩
    go_wp2_with fail
    refine (valid_at c _ hc V.out _).mono ?_; rintro e _ ⟨rfl, rfl⟩
    go_wp2_with fail
    refine (code_at c _ hc K.out _).mono ?_; rintro e _ ⟨rfl, rfl⟩
    go_wp2_with fail
    refine (valid_at _ _ (lowC_lt c hc) (lowC_valid c L.out) _).mono ?_; rintro e _ ⟨rfl, rfl⟩
    go_wp2_with fail
    go_ret
    exact ⟨rfl, hb0⟩
theorem codes_hi_f (c : Nat) (n : Int) (hc : c < 256) (hn : 3 < n) (hv : ¬ rValid c = true) (hl : ¬ lowB c = true) (w : World) : Calls Try.prog 9 #[.int .u8 c, .int .i64 n] w fun e w' => e = .returned (.bool true) ∧ Below w.heap.size w w' := by
  have C1 := Lib.hid (chB_out n (by omega))
  have V := Lib.hid (show rValid c = false by simpa using hv)
  have K := Lib.hid (code_nv c V.out)
  have L := Lib.hid (show lowB c = false by simpa using hl)
  have X := Lib.hid (lowB_nv c V.out)
  have X2 : Hid ((decide (c = 88 ∨ c = 90)) = false) := Lib.hid (by rw [← X.out, L.out])
  clear hv hl
  have hc88 : ¬ (c = 88 ∨ c = 90) := of_decide_eq_false X2.out
  have n1 : ((c : Int) == 88) = false := bf (k := 88) (by omega)
  have n2 : ((c : Int) == 90) = false := bf (k := 90) (by omega)
  clear hc88
  go_enter Try.func9, Try.ntmps9
  go_wp2_with (go_at_call 10; refine (awake_walk _).mono ?_; rintro e w0 ⟨rfl, hb0⟩)
  refine (char_at n _ _ rfl C1.out _).mono ?_; rintro e _ ⟨rfl, rfl⟩
  go_wp2_with fail
  refine (lower_at c _ _ hc rfl L.out _).mono ?_; rintro e _ ⟨rfl, rfl⟩
  go_wp2_with fail
  refine (valid_at c _ hc V.out _).mono ?_; rintro e _ ⟨rfl, rfl⟩
  go_wp2_with fail
  refine (code_at c _ hc K.out _).mono ?_; rintro e _ ⟨rfl, rfl⟩
  go_wp2_with fail
  go_ret
  exact ⟨rfl, hb0⟩
theorem codes_law (c : Nat) (n : Int) (hc : c < 256) (w : World) : Calls Try.prog 9 #[.int .u8 c, .int .i64 n] w fun e w' => e = .returned (.bool true) ∧ Below w.heap.size w w' := by
  by_cases hv : rValid c = true
  · rcases (by omega : n < 0 ∨ 3 < n ∨ (0 ≤ n ∧ n ≤ 3)) with h | h | ⟨h, h'⟩
    · exact codes_lo_v c n hc h hv w
    · exact codes_hi_v c n hc h hv w
    · exact codes_in_v c n hc h h' hv w
  · by_cases hl : lowB c = true
    · rcases (by omega : n < 0 ∨ 3 < n ∨ (0 ≤ n ∧ n ≤ 3)) with h | h | ⟨h, h'⟩
      · exact codes_lo_t c n hc h hv hl w
      · exact codes_hi_t c n hc h hv hl w
      · exact codes_in_t c n hc h h' hv hl w
    · rcases (by omega : n < 0 ∨ 3 < n ∨ (0 ≤ n ∧ n ≤ 3)) with h | h | ⟨h, h'⟩
      · exact codes_lo_f c n hc h hv hl w
      · exact codes_hi_f c n hc h hv hl w
      · exact codes_in_f c n hc h h' hv hl w
theorem codes_in (a : Int) (ha : (Lit.int .u8 a).wf = true) (b : Int) (_ : (Lit.int .i64 b).wf = true) (w : World) : Calls Try.prog 9 #[.int .u8 a, .int .i64 b] w fun e w' => e = .returned (.bool true) ∧ Below w.heap.size w w' := by
  obtain ⟨m, rfl, hm⟩ := u8_nat ha
  exact codes_law m b hm w
end Go.Proofs.Ytfaifdmjgkaphaa
