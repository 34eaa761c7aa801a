import Derived.Test.YtfaifdmjgkaphaaWg
namespace Go.Proofs.Ytfaifdmjgkaphaa
open Go.RowKit

theorem fin_comm : ∀ n i j : Fin 4, tv n i j = tv n j i := by decide
theorem fin_assoc : ∀ n i j l : Fin 4, tv n (kn (tv n i j)) l = tv n i (kn (tv n j l)) := by decide
theorem fin_valid : ∀ n i j : Fin 4, rValid (tv n i j) = true := by decide
def nt (i : Nat) : Nat := [49, 48, 120, 120].getD i 0
theorem fin_and : ∀ i j : Fin 4, nt (kn (tv 0 i j)) = tv 1 (kn (nt i)) (kn (nt j)) := by decide
theorem fin_or : ∀ i j : Fin 4, nt (kn (tv 1 i j)) = tv 0 (kn (nt i)) (kn (nt j)) := by decide
theorem pOp_comm (n a b : Nat) (hn : n < 4) : pOp n b a = pOp n a b := fin_comm ⟨n, hn⟩ ⟨kn b, kn_lt b⟩ ⟨kn a, kn_lt a⟩
theorem pOp_assoc (n a b c : Nat) (hn : n < 4) : pOp n a (pOp n b c) = pOp n (pOp n a b) c := (fin_assoc ⟨n, hn⟩ ⟨kn a, kn_lt a⟩ ⟨kn b, kn_lt b⟩ ⟨kn c, kn_lt c⟩).symm
theorem pOp_valid (n a b : Nat) (hn : n < 4) : rValid (pOp n a b) = true := fin_valid ⟨n, hn⟩ ⟨kn a, kn_lt a⟩ ⟨kn b, kn_lt b⟩
theorem not_and (a b : Nat) : pOp 1 (pNot a) (pNot b) = pNot (pOp 0 a b) := (fin_and ⟨kn a, kn_lt a⟩ ⟨kn b, kn_lt b⟩).symm
theorem not_or (a b : Nat) : pOp 0 (pNot a) (pNot b) = pNot (pOp 1 a b) := (fin_or ⟨kn a, kn_lt a⟩ ⟨kn b, kn_lt b⟩).symm
theorem notv_at (c r : Nat) (hc : c < 256) (h : pNot c = r) (w : World) : Calls Try.prog 17 #[.int .u8 c] w fun e w' => e = .returned (.int .u8 r) ∧ w = w' := by
  subst h; exact not_walk c hc w
theorem pNot_lt (a : Nat) : pNot a < 256 := by
  rw [pNot_eq]; unfold rNot; (repeat' split) <;> decide
def funcs4 : Array Value := #[.func (.func 11) #[] #[], .func (.func 12) #[] #[], .func (.func 13) #[] #[], .func (.func 24) #[] #[]]

set_option maxHeartbeats 1000000 in
theorem algebra_law (a b c : Nat) (ha : a < 256) (hb : b < 256) (hc : c < 256) (w : World) : Calls Try.prog 6 #[.int .u8 a, .int .u8 b, .int .u8 c] w fun e w' => e = .returned (.bool true) ∧ Below w.heap.size w w' := by
  go_enter Try.func6, Try.ntmps6
  go_wp2_with (go_at_call 10; refine (awake_walk _).mono ?_; rintro e w0 ⟨rfl, hb0⟩)
  have HB0 := Lib.hid hb0
  clear hb0
  go_loopw [13] (fun i wr => ∃ k : Nat, k ≤ 4 ∧ i = .int .i64 k ∧ Below w.heap.size w wr ∧ wr.heap[w0.heap.size]? = some (.cells funcs4 23 (0, 0)) ∧ w0.heap.size < wr.heap.size) (fun i _ => 4 - (intOf i).toNat)
  case atStart => exact ⟨0, by omega, rfl, HB0.out.alloc HB0.out.size _, heap_alloc_new _ _, by simp⟩
  case round =>
    obtain ⟨k, hk, rfl, hb1, hF, hlt0⟩ := hrel
    have HB1 := Lib.hid hb1
    have HF := Lib.hid hF
    have HL := Lib.hid hlt0
    clear hb1 hF hlt0
    obtain ⟨wo, rfl⟩ : ∃ wo : World, wo = wr := ⟨_, rfl⟩
    rcases (by omega : k = 0 ∨ k = 1 ∨ k = 2 ∨ k = 3 ∨ k = 4) with rfl | rfl | rfl | rfl | rfl
    · have hcell : wo.cell? ⟨w0.heap.size, 0, none⟩ = some (.func (.func 11) #[] #[]) := cell_of_row _ _ 0 _ _ _ HF.out
      obtain ⟨x, hx⟩ : ∃ x, pOp 0 a b = x := ⟨_, rfl⟩
      obtain ⟨y, hy⟩ : ∃ y, pOp 0 x c = y := ⟨_, rfl⟩
      obtain ⟨z, hz⟩ : ∃ z, pOp 0 b c = z := ⟨_, rfl⟩
      have hx2 : pOp 0 b a = x := (pOp_comm 0 a b (by decide)).trans hx
      have hy2 : pOp 0 a z = y := by rw [← hz, pOp_assoc 0 a b c (by decide), hx, hy]
      have hv : rValid x = true := by rw [← hx]; exact pOp_valid 0 a b (by decide)
      have hxl : x < 256 := by rw [← hx]; exact pOp_lt ..
      have hzl : z < 256 := by rw [← hz]; exact pOp_lt ..
      have HX := Lib.hid hx
      have HY := Lib.hid hy
      have HZ := Lib.hid hz
      have HX2 := Lib.hid hx2
      have HY2 := Lib.hid hy2
      have HV := Lib.hid hv
      clear hx hy hz hx2 hy2 hv
      go_wp2_with fail
      refine (and_at a b x ha hb HX.out _).mono ?_; rintro e w1 ⟨rfl, hw1⟩
      go_wp2_with fail
      refine (and_at b a x hb ha HX2.out _).mono ?_; rintro e w2 ⟨rfl, hw2⟩
      go_wp2_with fail
      refine (and_at a b x ha hb HX.out _).mono ?_; rintro e w3 ⟨rfl, hw3⟩
      go_wp2_with fail
      refine (and_at x c y hxl hc HY.out _).mono ?_; rintro e w4 ⟨rfl, hw4⟩
      go_wp2_with fail
      refine (and_at b c z hb hc HZ.out _).mono ?_; rintro e w5 ⟨rfl, hw5⟩
      go_wp2_with fail
      refine (and_at a z y ha hzl HY2.out _).mono ?_; rintro e w6 ⟨rfl, hw6⟩
      go_wp2_with fail
      refine (and_at a b x ha hb HX.out _).mono ?_; rintro e w7 ⟨rfl, hw7⟩
      go_wp2_with fail
      refine (valid_at x true hxl HV.out _).mono ?_; rintro e _ ⟨rfl, rfl⟩
      go_wp2_with fail
      have hall : Below wo.heap.size wo w7 := bstep (bstep (bstep (bstep (bstep (bstep hw1 (Nat.le_refl _) hw2) (Nat.le_refl _) hw3) (Nat.le_refl _) hw4) (Nat.le_refl _) hw5) (Nat.le_refl _) hw6) (Nat.le_refl _) hw7
      go_roundw
      case rel => exact ⟨0+1, by omega, rfl, bstep HB1.out (Nat.le_refl _) (hall.mono (Nat.le_refl _)), (hall.block _ HL.out).trans HF.out, Nat.lt_of_lt_of_le HL.out hall.size⟩
      case measure => simp [intOf]
    · have hcell : wo.cell? ⟨w0.heap.size, 1, none⟩ = some (.func (.func 12) #[] #[]) := cell_of_row _ _ 1 _ _ _ HF.out
      obtain ⟨x, hx⟩ : ∃ x, pOp 1 a b = x := ⟨_, rfl⟩
      obtain ⟨y, hy⟩ : ∃ y, pOp 1 x c = y := ⟨_, rfl⟩
      obtain ⟨z, hz⟩ : ∃ z, pOp 1 b c = z := ⟨_, rfl⟩
      have hx2 : pOp 1 b a = x := (pOp_comm 1 a b (by decide)).trans hx
      have hy2 : pOp 1 a z = y := by rw [← hz, pOp_assoc 1 a b c (by decide), hx, hy]
      have hv : rValid x = true := by rw [← hx]; exact pOp_valid 1 a b (by decide)
      have hxl : x < 256 := by rw [← hx]; exact pOp_lt ..
      have hzl : z < 256 := by rw [← hz]; exact pOp_lt ..
      have HX := Lib.hid hx
      have HY := Lib.hid hy
      have HZ := Lib.hid hz
      have HX2 := Lib.hid hx2
      have HY2 := Lib.hid hy2
      have HV := Lib.hid hv
      clear hx hy hz hx2 hy2 hv
      go_wp2_with fail
      refine (or_at a b x ha hb HX.out _).mono ?_; rintro e w1 ⟨rfl, hw1⟩
      go_wp2_with fail
      refine (or_at b a x hb ha HX2.out _).mono ?_; rintro e w2 ⟨rfl, hw2⟩
      go_wp2_with fail
      refine (or_at a b x ha hb HX.out _).mono ?_; rintro e w3 ⟨rfl, hw3⟩
      go_wp2_with fail
      refine (or_at x c y hxl hc HY.out _).mono ?_; rintro e w4 ⟨rfl, hw4⟩
      go_wp2_with fail
      refine (or_at b c z hb hc HZ.out _).mono ?_; rintro e w5 ⟨rfl, hw5⟩
      go_wp2_with fail
      refine (or_at a z y ha hzl HY2.out _).mono ?_; rintro e w6 ⟨rfl, hw6⟩
      go_wp2_with fail
      refine (or_at a b x ha hb HX.out _).mono ?_; rintro e w7 ⟨rfl, hw7⟩
      go_wp2_with fail
      refine (valid_at x true hxl HV.out _).mono ?_; rintro e _ ⟨rfl, rfl⟩
      go_wp2_with fail
      have hall : Below wo.heap.size wo w7 := bstep (bstep (bstep (bstep (bstep (bstep hw1 (Nat.le_refl _) hw2) (Nat.le_refl _) hw3) (Nat.le_refl _) hw4) (Nat.le_refl _) hw5) (Nat.le_refl _) hw6) (Nat.le_refl _) hw7
      go_roundw
      case rel => exact ⟨1+1, by omega, rfl, bstep HB1.out (Nat.le_refl _) (hall.mono (Nat.le_refl _)), (hall.block _ HL.out).trans HF.out, Nat.lt_of_lt_of_le HL.out hall.size⟩
      case measure => simp [intOf]
    · have hcell : wo.cell? ⟨w0.heap.size, 2, none⟩ = some (.func (.func 13) #[] #[]) := cell_of_row _ _ 2 _ _ _ HF.out
      obtain ⟨x, hx⟩ : ∃ x, pOp 2 a b = x := ⟨_, rfl⟩
      obtain ⟨y, hy⟩ : ∃ y, pOp 2 x c = y := ⟨_, rfl⟩
      obtain ⟨z, hz⟩ : ∃ z, pOp 2 b c = z := ⟨_, rfl⟩
      have hx2 : pOp 2 b a = x := (pOp_comm 2 a b (by decide)).trans hx
      have hy2 : pOp 2 a z = y := by rw [← hz, pOp_assoc 2 a b c (by decide), hx, hy]
      have hv : rValid x = true := by rw [← hx]; exact pOp_valid 2 a b (by decide)
      have hxl : x < 256 := by rw [← hx]; exact pOp_lt ..
      have hzl : z < 256 := by rw [← hz]; exact pOp_lt ..
      have HX := Lib.hid hx
      have HY := Lib.hid hy
      have HZ := Lib.hid hz
      have HX2 := Lib.hid hx2
      have HY2 := Lib.hid hy2
      have HV := Lib.hid hv
      clear hx hy hz hx2 hy2 hv
      go_wp2_with fail
      refine (xor_at a b x ha hb HX.out _).mono ?_; rintro e w1 ⟨rfl, hw1⟩
      go_wp2_with fail
      refine (xor_at b a x hb ha HX2.out _).mono ?_; rintro e w2 ⟨rfl, hw2⟩
      go_wp2_with fail
      refine (xor_at a b x ha hb HX.out _).mono ?_; rintro e w3 ⟨rfl, hw3⟩
      go_wp2_with fail
      refine (xor_at x c y hxl hc HY.out _).mono ?_; rintro e w4 ⟨rfl, hw4⟩
      go_wp2_with fail
      refine (xor_at b c z hb hc HZ.out _).mono ?_; rintro e w5 ⟨rfl, hw5⟩
      go_wp2_with fail
      refine (xor_at a z y ha hzl HY2.out _).mono ?_; rintro e w6 ⟨rfl, hw6⟩
      go_wp2_with fail
      refine (xor_at a b x ha hb HX.out _).mono ?_; rintro e w7 ⟨rfl, hw7⟩
      go_wp2_with fail
      refine (valid_at x true hxl HV.out _).mono ?_; rintro e _ ⟨rfl, rfl⟩
      go_wp2_with fail
      have hall : Below wo.heap.size wo w7 := bstep (bstep (bstep (bstep (bstep (bstep hw1 (Nat.le_refl _) hw2) (Nat.le_refl _) hw3) (Nat.le_refl _) hw4) (Nat.le_refl _) hw5) (Nat.le_refl _) hw6) (Nat.le_refl _) hw7
      go_roundw
      case rel => exact ⟨2+1, by omega, rfl, bstep HB1.out (Nat.le_refl _) (hall.mono (Nat.le_refl _)), (hall.block _ HL.out).trans HF.out, Nat.lt_of_lt_of_le HL.out hall.size⟩
      case measure => simp [intOf]
    · have hcell : wo.cell? ⟨w0.heap.size, 3, none⟩ = some (.func (.func 24) #[] #[]) := cell_of_row _ _ 3 _ _ _ HF.out
      obtain ⟨x, hx⟩ : ∃ x, pOp 3 a b = x := ⟨_, rfl⟩
      obtain ⟨y, hy⟩ : ∃ y, pOp 3 x c = y := ⟨_, rfl⟩
      obtain ⟨z, hz⟩ : ∃ z, pOp 3 b c = z := ⟨_, rfl⟩
      have hx2 : pOp 3 b a = x := (pOp_comm 3 a b (by decide)).trans hx
      have hy2 : pOp 3 a z = y := by rw [← hz, pOp_assoc 3 a b c (by decide), hx, hy]
      have hv : rValid x = true := by rw [← hx]; exact pOp_valid 3 a b (by decide)
      have hxl : x < 256 := by rw [← hx]; exact pOp_lt ..
      have hzl : z < 256 := by rw [← hz]; exact pOp_lt ..
      have HX := Lib.hid hx
      have HY := Lib.hid hy
      have HZ := Lib.hid hz
      have HX2 := Lib.hid hx2
      have HY2 := Lib.hid hy2
      have HV := Lib.hid hv
      clear hx hy hz hx2 hy2 hv
      go_wp2_with fail
      refine (res_at a b x ha hb HX.out _).mono ?_; rintro e w1 ⟨rfl, hw1⟩
      go_wp2_with fail
      refine (res_at b a x hb ha HX2.out _).mono ?_; rintro e w2 ⟨rfl, hw2⟩
      go_wp2_with fail
      refine (res_at a b x ha hb HX.out _).mono ?_; rintro e w3 ⟨rfl, hw3⟩
      go_wp2_with fail
      refine (res_at x c y hxl hc HY.out _).mono ?_; rintro e w4 ⟨rfl, hw4⟩
      go_wp2_with fail
      refine (res_at b c z hb hc HZ.out _).mono ?_; rintro e w5 ⟨rfl, hw5⟩
      go_wp2_with fail
      refine (res_at a z y ha hzl HY2.out _).mono ?_; rintro e w6 ⟨rfl, hw6⟩
      go_wp2_with fail
      refine (res_at a b x ha hb HX.out _).mono ?_; rintro e w7 ⟨rfl, hw7⟩
      go_wp2_with fail
      refine (valid_at x true hxl HV.out _).mono ?_; rintro e _ ⟨rfl, rfl⟩
      go_wp2_with fail
      have hall : Below wo.heap.size wo w7 := bstep (bstep (bstep (bstep (bstep (bstep hw1 (Nat.le_refl _) hw2) (Nat.le_refl _) hw3) (Nat.le_refl _) hw4) (Nat.le_refl _) hw5) (Nat.le_refl _) hw6) (Nat.le_refl _) hw7
      go_roundw
      case rel => exact ⟨3+1, by omega, rfl, bstep HB1.out (Nat.le_refl _) (hall.mono (Nat.le_refl _)), (hall.block _ HL.out).trans HF.out, Nat.lt_of_lt_of_le HL.out hall.size⟩
      case measure => simp [intOf]
    · go_wp2_with fail
      have hn1 := pNot_lt a
      have hn2 := pNot_lt b
      obtain ⟨x, hx⟩ : ∃ x, pNot (pOp 0 a b) = x := ⟨_, rfl⟩
      obtain ⟨y, hy⟩ : ∃ y, pNot (pOp 1 a b) = y := ⟨_, rfl⟩
      have hx2 : pOp 1 (pNot a) (pNot b) = x := (not_and a b).trans hx
      have hy2 : pOp 0 (pNot a) (pNot b) = y := (not_or a b).trans hy
      have HX := Lib.hid hx
      have HY := Lib.hid hy
      have HX2 := Lib.hid hx2
      have HY2 := Lib.hid hy2
      clear hx hy hx2 hy2
      refine (and_at a b _ ha hb rfl _).mono ?_; rintro e w1 ⟨rfl, hw1⟩
      go_wp2_with fail
      refine (notv_at _ x (pOp_lt ..) HX.out _).mono ?_; rintro e _ ⟨rfl, rfl⟩
      go_wp2_with fail
      refine (notv_at a _ ha rfl _).mono ?_; rintro e _ ⟨rfl, rfl⟩
      go_wp2_with fail
      refine (notv_at b _ hb rfl _).mono ?_; rintro e _ ⟨rfl, rfl⟩
      go_wp2_with fail
      refine (or_at _ _ x hn1 hn2 HX2.out _).mono ?_; rintro e w2 ⟨rfl, hw2⟩
      go_wp2_with fail
      refine (or_at a b _ ha hb rfl _).mono ?_; rintro e w3 ⟨rfl, hw3⟩
      go_wp2_with fail
      refine (notv_at _ y (pOp_lt ..) HY.out _).mono ?_; rintro e _ ⟨rfl, rfl⟩
      go_wp2_with fail
      refine (notv_at a _ ha rfl _).mono ?_; rintro e _ ⟨rfl, rfl⟩
      go_wp2_with fail
      refine (notv_at b _ hb rfl _).mono ?_; rintro e _ ⟨rfl, rfl⟩
      go_wp2_with fail
      refine (and_at _ _ y hn1 hn2 HY2.out _).mono ?_; rintro e w4 ⟨rfl, hw4⟩
      go_wp2_with fail
      go_ret
      exact ⟨rfl, bstep (bstep (bstep (bstep HB1.out (Nat.le_refl _) hw1) (Nat.le_refl _) hw2) (Nat.le_refl _) hw3) (Nat.le_refl _) hw4⟩
theorem algebra_in (a : Int) (wa : (Lit.int .u8 a).wf = true) (b : Int) (wb : (Lit.int .u8 b).wf = true) (c : Int) (wc : (Lit.int .u8 c).wf = true) (w : World) : Calls Try.prog 6 #[.int .u8 a, .int .u8 b, .int .u8 c] w fun e w' => e = .returned (.bool true) ∧ Below w.heap.size w w' := by
  obtain ⟨x, rfl, hx⟩ := u8_nat wa
  obtain ⟨y, rfl, hy⟩ := u8_nat wb
  obtain ⟨z, rfl, hz⟩ := u8_nat wc
  exact algebra_law x y z hx hy hz w
end Go.Proofs.Ytfaifdmjgkaphaa
