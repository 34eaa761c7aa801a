import Derived.Test.YtfaifdmjgkaphaaWb
namespace Go.Proofs.Ytfaifdmjgkaphaa
open Go.RowKit

def rNot (a : Nat) : Nat := if a = 48 then 49 else if a = 49 then 48 else 120
def rAnd (a b : Nat) : Nat := if a = 48 ∨ b = 48 then 48 else if a = 49 ∧ b = 49 then 49 else 120
def rOr (a b : Nat) : Nat := if a = 49 ∨ b = 49 then 49 else if a = 48 ∧ b = 48 then 48 else 120
def rXor (a b : Nat) : Nat := if ¬ (a = 48 ∨ a = 49) ∨ ¬ (b = 48 ∨ b = 49) then 120 else if a = b then 48 else 49
def rInv (a : Nat) : Nat := if a = 122 then 122 else rNot a
def rVal (a : Nat) : Nat := if a = 48 ∨ a = 49 ∨ a = 120 ∨ a = 122 then a else 120
def rRes (a b : Nat) : Nat := if rVal a = 122 then rVal b else if rVal b = 122 ∨ rVal a = rVal b then rVal a else 120
def rValid (a : Nat) : Bool := decide (a = 48 ∨ a = 49 ∨ a = 120 ∨ a = 122)
def rBit (a : Nat) : Bool := decide (a = 48 ∨ a = 49)

theorem ret_bool {a b : Bool} (h : a = b) : Ending.returned (.bool a) = .returned (.bool b) := by rw [h]

theorem rnot_walk (a : Nat) (w : World) : Calls Try.prog 18 #[.int .u8 a] w fun e w' => e = .returned (.int .u8 (rNot a)) ∧ w = w' := by
  go_enter Try.func18, Try.ntmps18
  go_wp2
  all_goals (go_ret; refine ⟨ret_int ?_, rfl⟩; go_tidy; (try simp only [beq_iff_eq, beq_eq_false_iff_ne, ne_eq] at *); unfold rNot; (repeat' split) <;> omega)
theorem rand_walk (a b : Nat) (w : World) : Calls Try.prog 19 #[.int .u8 a, .int .u8 b] w fun e w' => e = .returned (.int .u8 (rAnd a b)) ∧ w = w' := by
  go_enter Try.func19, Try.ntmps19
  go_wp2
  all_goals (go_ret; refine ⟨ret_int ?_, rfl⟩; go_tidy; (try simp only [beq_iff_eq, beq_eq_false_iff_ne, ne_eq] at *); unfold rAnd; (repeat' split) <;> omega)
theorem ror_walk (a b : Nat) (w : World) : Calls Try.prog 20 #[.int .u8 a, .int .u8 b] w fun e w' => e = .returned (.int .u8 (rOr a b)) ∧ w = w' := by
  go_enter Try.func20, Try.ntmps20
  go_wp2
  all_goals (go_ret; refine ⟨ret_int ?_, rfl⟩; go_tidy; (try simp only [beq_iff_eq, beq_eq_false_iff_ne, ne_eq] at *); unfold rOr; (repeat' split) <;> omega)
theorem rbit_walk (a : Nat) (w : World) : Calls Try.prog 37 #[.int .u8 a] w fun e w' => e = .returned (.bool (rBit a)) ∧ w = w' := by
  go_enter Try.func37, Try.ntmps37
  go_wp2
  all_goals (go_ret; refine ⟨ret_bool ?_, rfl⟩; go_tidy; unfold rBit; rw [Bool.eq_iff_iff]; simp; try omega)
theorem rvalid_walk (a : Nat) (w : World) : Calls Try.prog 32 #[.int .u8 a] w fun e w' => e = .returned (.bool (rValid a)) ∧ w = w' := by
  go_enter Try.func32, Try.ntmps32
  go_wp2
  all_goals (go_ret; refine ⟨ret_bool ?_, rfl⟩; go_tidy; unfold rValid; rw [Bool.eq_iff_iff]; simp; try omega)
theorem rinv_walk (a : Nat) (w : World) : Calls Try.prog 23 #[.int .u8 a] w fun e w' => e = .returned (.int .u8 (rInv a)) ∧ w = w' := by
  go_enter Try.func23, Try.ntmps23
  go_wp2_with (go_at_call 18; refine (rnot_walk _ _).mono ?_; rintro e w' ⟨rfl, rfl⟩)
  all_goals (go_ret; refine ⟨ret_int ?_, rfl⟩; go_tidy; (try simp only [beq_iff_eq, beq_eq_false_iff_ne, ne_eq] at *); unfold rInv; (repeat' split) <;> omega)
theorem rval_walk (a : Nat) (w : World) : Calls Try.prog 38 #[.int .u8 a] w fun e w' => e = .returned (.int .u8 (rVal a)) ∧ w = w' := by
  go_enter Try.func38, Try.ntmps38
  go_wp2_with (go_at_call 32; refine (rvalid_walk _ _).mono ?_; rintro e w' ⟨rfl, rfl⟩)
  all_goals (go_ret; refine ⟨ret_int ?_, rfl⟩; go_tidy; unfold rVal; simp only [rValid, decide_eq_true_eq, decide_eq_false_iff_not] at *; split <;> omega)
theorem rxor_walk (a b : Nat) (w : World) : Calls Try.prog 21 #[.int .u8 a, .int .u8 b] w fun e w' => e = .returned (.int .u8 (rXor a b)) ∧ w = w' := by
  go_enter Try.func21, Try.ntmps21
  go_wp2_with (go_at_call 37; refine (rbit_walk _ _).mono ?_; rintro e w' ⟨rfl, rfl⟩)
  all_goals (go_ret; refine ⟨ret_int ?_, rfl⟩; go_tidy; simp only [beq_iff_eq, beq_eq_false_iff_ne, ne_eq, rBit, Bool.not_eq_true', Bool.not_eq_false', decide_eq_true_eq, decide_eq_false_iff_not] at *; unfold rXor; (repeat' split) <;> omega)
theorem rres_walk (a b : Nat) (w : World) : Calls Try.prog 25 #[.int .u8 a, .int .u8 b] w fun e w' => e = .returned (.int .u8 (rRes a b)) ∧ w = w' := by
  go_enter Try.func25, Try.ntmps25
  go_wp2_with (go_at_call 38; refine (rval_walk _ _).mono ?_; rintro e w' ⟨rfl, rfl⟩)
  all_goals (go_ret; refine ⟨ret_int ?_, rfl⟩; go_tidy; simp only [beq_iff_eq, beq_eq_false_iff_ne, ne_eq] at *; unfold rRes; (repeat' split) <;> omega)

theorem rcode_walk (c : Nat) (w : World) : Calls Try.prog 34 #[.int .u8 c] w fun e w' => e = .returned (.int .i64 (code c)) ∧ w = w' := by
  go_enter Try.func34, Try.ntmps34
  go_wp2
  all_goals (go_ret; refine ⟨ret_int ?_, rfl⟩; go_tidy; (try simp only [beq_iff_eq, beq_eq_false_iff_ne, ne_eq] at *); unfold code; (repeat' split) <;> omega)
theorem code_valid (c : Nat) : decide (0 ≤ code c) = rValid c := by
  unfold rValid; rw [Bool.eq_iff_iff]; simp only [decide_eq_true_eq]; unfold code; (repeat' split) <;> omega
theorem valid_walk (c : Nat) (hc : c < 256) (w : World) : Calls Try.prog 15 #[.int .u8 c] w fun e w' => e = .returned (.bool (rValid c)) ∧ w = w' := by
  have HV := Lib.hid (code_valid c)
  go_enter Try.func15, Try.ntmps15
  go_wp2_with (go_at_call 33; refine (code_walk c hc _).mono ?_; rintro e w' ⟨rfl, rfl⟩)
  go_ret
  exact ⟨ret_bool HV.out, rfl⟩
def lowC (c : Nat) : Nat := if c = 88 then 120 else if c = 90 then 122 else if rValid c then c else 0
def lowB (c : Nat) : Bool := decide (c = 88 ∨ c = 90 ∨ c = 48 ∨ c = 49 ∨ c = 120 ∨ c = 122)
theorem ret_c_b {a a' : Int} {b b' : Bool} (h : a = a') (h' : b = b') : Ending.returned (.tuple #[.int .u8 a, .bool b]) = .returned (.tuple #[.int .u8 a', .bool b']) := by rw [h, h']
theorem lower_walk (c : Nat) (hc : c < 256) (w : World) : Calls Try.prog 28 #[.int .u8 c] w fun e w' => e = .returned (.tuple #[.int .u8 (lowC c), .bool (lowB c)]) ∧ w = w' := by
  go_enter Try.func28, Try.ntmps28
  go_wp2_with (go_at_call 15; refine (valid_walk c hc _).mono ?_; rintro e w' ⟨rfl, rfl⟩)
  all_goals
    go_ret2
    go_tidy
    refine ⟨ret_c_b ?_ ?_, rfl⟩
    · (try simp only [beq_iff_eq, beq_eq_false_iff_ne, ne_eq, rValid, Bool.not_eq_true', Bool.not_eq_false', decide_eq_true_eq, decide_eq_false_iff_not] at *)
      unfold lowC rValid
      simp only [decide_eq_true_eq]
      (repeat' split) <;> omega
    · (try simp only [beq_iff_eq, beq_eq_false_iff_ne, ne_eq, rValid, Bool.not_eq_true', Bool.not_eq_false', decide_eq_true_eq, decide_eq_false_iff_not] at *)
      unfold lowB
      symm
      first | (apply decide_eq_true; omega) | (apply decide_eq_false; omega)
theorem rlower_walk (c : Nat) (w : World) : Calls Try.prog 29 #[.int .u8 c] w fun e w' => e = .returned (.tuple #[.int .u8 (lowC c), .bool (lowB c)]) ∧ w = w' := by
  go_enter Try.func29, Try.ntmps29
  go_wp2
  all_goals
    go_ret2
    go_tidy
    refine ⟨ret_c_b ?_ ?_, rfl⟩
    · (try simp only [beq_iff_eq, beq_eq_false_iff_ne, ne_eq] at *)
      unfold lowC rValid
      simp only [decide_eq_true_eq]
      (repeat' split) <;> omega
    · (try simp only [beq_iff_eq, beq_eq_false_iff_ne, ne_eq] at *)
      unfold lowB
      symm
      first | (apply decide_eq_true; omega) | (apply decide_eq_false; omega)
def chC (n : Int) : Nat := if n = 0 then 48 else if n = 1 then 49 else if n = 2 then 120 else if n = 3 then 122 else 0
def chB (n : Int) : Bool := decide (0 ≤ n ∧ n ≤ 3)
theorem chC_at (k : Nat) (hk : k < ({ data := #[48, 49, 120, 122] } : ByteArray).size) : ((({ data := #[48, 49, 120, 122] } : ByteArray)[k]'hk).toNat : Int) = (chC (k : Int) : Int) := by
  have : k < 4 := hk
  rcases (by omega : k = 0 ∨ k = 1 ∨ k = 2 ∨ k = 3) with rfl | rfl | rfl | rfl <;> rfl
theorem char_in (k : Nat) (hk : k < 4) (w : World) : Calls Try.prog 30 #[.int .i64 (k : Int)] w fun e w' => e = .returned (.tuple #[.int .u8 (chC k), .bool (chB k)]) ∧ w = w' := by
  go_enter Try.func30, Try.ntmps30
  go_wp2
  go_ret2
  go_tidy
  refine ⟨ret_c_b (chC_at k hk) ?_, rfl⟩
  unfold chB; symm; apply decide_eq_true; omega
theorem char_out (n : Int) (h : n < 0 ∨ 4 ≤ n) (w : World) : Calls Try.prog 30 #[.int .i64 n] w fun e w' => e = .returned (.tuple #[.int .u8 (chC n), .bool (chB n)]) ∧ w = w' := by
  go_enter Try.func30, Try.ntmps30
  go_wp2
  all_goals
    go_ret2
    go_tidy
    refine ⟨ret_c_b (by unfold chC; (repeat' split) <;> omega) ?_, rfl⟩
    unfold chB; symm; apply decide_eq_false; omega
theorem rchar_in (k : Nat) (hk : k < 4) (w : World) : Calls Try.prog 31 #[.int .i64 (k : Int)] w fun e w' => e = .returned (.tuple #[.int .u8 (chC k), .bool (chB k)]) ∧ w = w' := by
  go_enter Try.func31, Try.ntmps31
  go_wp2
  go_ret2
  go_tidy
  refine ⟨ret_c_b (chC_at k hk) ?_, rfl⟩
  unfold chB; symm; apply decide_eq_true; omega
theorem rchar_out (n : Int) (h : n < 0 ∨ 3 < n) (w : World) : Calls Try.prog 31 #[.int .i64 n] w fun e w' => e = .returned (.tuple #[.int .u8 (chC n), .bool (chB n)]) ∧ w = w' := by
  go_enter Try.func31, Try.ntmps31
  go_wp2
  all_goals
    go_ret2
    go_tidy
    refine ⟨ret_c_b (by unfold chC; (repeat' split) <;> omega) ?_, rfl⟩
    unfold chB; symm; apply decide_eq_false; omega
theorem char_walk (n : Int) (w : World) : Calls Try.prog 30 #[.int .i64 n] w fun e w' => e = .returned (.tuple #[.int .u8 (chC n), .bool (chB n)]) ∧ w = w' := by
  by_cases h : n < 0 ∨ 4 ≤ n
  · exact char_out n h w
  · obtain ⟨k, rfl⟩ := Int.eq_ofNat_of_zero_le (show 0 ≤ n by omega)
    exact char_in k (by omega) w
theorem rchar_walk (n : Int) (w : World) : Calls Try.prog 31 #[.int .i64 n] w fun e w' => e = .returned (.tuple #[.int .u8 (chC n), .bool (chB n)]) ∧ w = w' := by
  by_cases h : n < 0 ∨ 3 < n
  · exact rchar_out n h w
  · obtain ⟨k, rfl⟩ := Int.eq_ofNat_of_zero_le (show 0 ≤ n by omega)
    exact rchar_in k (by omega) w

end Go.Proofs.Ytfaifdmjgkaphaa
