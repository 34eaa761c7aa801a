/- A part of the proofs of TopCounter and TopStrict: what the functions of the program do, each walked once, and plain laws about it. No condition. -/
import Derived.Test.YtlmjefjimoghcaaGreatA04
namespace Go.Proofs.YtlmjefjimoghcaaGreat.L
set_option linter.unusedSimpArgs false
set_option linter.unnecessarySimpa false
set_option linter.unusedVariables false
open Go.RowKit
def code (c : Nat) : Int := if c = 48 then 0 else if c = 49 then 1 else if c = 120 then 2 else if c = 122 then 3 else -1
theorem code_hit (c k : Nat) (hk : k < 4) (h : (((({ data := #[48, 49, 120, 122] } : ByteArray)[k]'hk).toNat : Int) == (c : Int)) = true) : code c = k := by
 rcases (by omega : k = 0 ∨ k = 1 ∨ k = 2 ∨ k = 3) with rfl | rfl | rfl | rfl <;> simp [ByteArray.getElem_eq_getElem_data] at h <;> unfold code <;> omega
theorem code_miss (c k : Nat) (hk : k < 4) (hr : code c = -1 ∨ (k : Int) ≤ code c) (h : (((({ data := #[48, 49, 120, 122] } : ByteArray)[k]'hk).toNat : Int) == (c : Int)) = false) :
  code c = -1 ∨ ((k + 1 : Nat) : Int) ≤ code c := by
 rcases (by omega : k = 0 ∨ k = 1 ∨ k = 2 ∨ k = 3) with rfl | rfl | rfl | rfl <;> simp [ByteArray.getElem_eq_getElem_data] at h <;> unfold code at * <;> omega
theorem code_end (c k : Nat) (hk : 4 ≤ k) (hr : code c = -1 ∨ (k : Int) ≤ code c) : code c = -1 := by
 unfold code at *; omega
theorem code_walk (c : Nat) (_hc : c < 256) (w : World) : Calls Tryz.prog 120 #[.int .u8 c] w fun e w' => e = .returned (.int .i64 (code c)) ∧ w = w' := by
 go_enter Tryz.func120, Tryz.ntmps120
 go_wp2
 go_loop [4] (fun i => ∃ k : Nat, k ≤ 4 ∧ i = .int .i64 k ∧ (code c = -1 ∨ (k : Int) ≤ code c)) (fun i => 4 - (intOf i).toNat)
 case atStart => exact ⟨0, by omega, rfl, by unfold code; omega⟩
 case round =>
  obtain ⟨k, hk, rfl, hrel⟩ := hrel
  have HR := Lib.hid hrel
  clear hrel
  go_wp2
  ·go_ret
   exact ⟨ret_int (code_hit c k (by omega) (by assumption)).symm, rfl⟩
  ·go_round
   case rel => exact ⟨k + 1, by omega, by go_num, code_miss c k (by omega) HR.out (by assumption)⟩
   case measure => simp [intOf]; omega
  ·go_ret
   exact ⟨ret_int (code_end c k (by omega) HR.out).symm, rfl⟩
def kn (c : Nat) : Nat := if c = 48 then 0 else if c = 49 then 1 else if c = 122 then 3 else 2
theorem kn_cast (c : Nat) : ((kn c : Nat) : Int) = if c = 48 then 0 else if c = 49 then 1 else if c = 122 then 3 else 2 := by
 unfold kn; (repeat' split) <;> rfl
theorem known_walk (c : Nat) (hc : c < 256) (w : World) : Calls Tryz.prog 235 #[.int .u8 c] w fun e w' => e = .returned (.int .i64 (kn c)) ∧ w = w' := by
 by_cases h : 0 ≤ code c
 ·have HK : Hid (code c = kn c) := Lib.hid (by rw [kn_cast]; unfold code at *; omega)
  go_enter Tryz.func235, Tryz.ntmps235
  go_wp2_with (go_at_call 120; refine (code_walk c hc _).mono ?_; rintro e w' ⟨rfl, rfl⟩)
  go_ret
  exact ⟨ret_int HK.out, rfl⟩
 ·have HK : Hid ((2 : Int) = kn c) := Lib.hid (by rw [kn_cast]; unfold code at *; omega)
  go_enter Tryz.func235, Tryz.ntmps235
  go_wp2_with (go_at_call 120; refine (code_walk c hc _).mono ?_; rintro e w' ⟨rfl, rfl⟩)
  go_ret
  exact ⟨ret_int HK.out, rfl⟩
theorem kn_lt (c : Nat) : kn c < 4 := by unfold kn; (repeat' split) <;> omega
def rValid (a : Nat) : Bool := decide (a = 48 ∨ a = 49 ∨ a = 120 ∨ a = 122)
theorem ret_bool {a b : Bool} (h : a = b) : Ending.returned (.bool a) = .returned (.bool b) := by rw [h]
theorem rcode_walk (c : Nat) (w : World) : Calls Tryz.prog 71 #[.int .u8 c] w fun e w' => e = .returned (.int .i64 (code c)) ∧ w = w' := by
 go_enter Tryz.func71, Tryz.ntmps71
 go_wp2
 all_goals (go_ret; refine ⟨ret_int ?_, rfl⟩; go_tidy; (try simp only [beq_iff_eq, beq_eq_false_iff_ne, ne_eq] at *); unfold code; (repeat' split) <;> omega)
theorem code_valid (c : Nat) : decide (0 ≤ code c) = rValid c := by
 unfold rValid; rw [Bool.eq_iff_iff]; simp only [decide_eq_true_eq]; unfold code; (repeat' split) <;> omega
theorem valid_walk (c : Nat) (hc : c < 256) (w : World) : Calls Tryz.prog 172 #[.int .u8 c] w fun e w' => e = .returned (.bool (rValid c)) ∧ w = w' := by
 have HV := Lib.hid (code_valid c)
 go_enter Tryz.func172, Tryz.ntmps172
 go_wp2_with (go_at_call 120; refine (code_walk c hc _).mono ?_; rintro e w' ⟨rfl, rfl⟩)
 go_ret
 exact ⟨ret_bool HV.out, rfl⟩
theorem ret_c_b {a a' : Int} {b b' : Bool} (h : a = a') (h' : b = b') : Ending.returned (.tuple #[.int .u8 a, .bool b]) = .returned (.tuple #[.int .u8 a', .bool b']) := by rw [h, h']
def chC (n : Int) : Nat := if n = 0 then 48 else if n = 1 then 49 else if n = 2 then 120 else if n = 3 then 122 else 0
def chB (n : Int) : Bool := decide (0 ≤ n ∧ n ≤ 3)
theorem chC_at (k : Nat) (hk : k < ({ data := #[48, 49, 120, 122] } : ByteArray).size) : ((({ data := #[48, 49, 120, 122] } : ByteArray)[k]'hk).toNat : Int) = (chC (k : Int) : Int) := by
 have : k < 4 := hk
 rcases (by omega : k = 0 ∨ k = 1 ∨ k = 2 ∨ k = 3) with rfl | rfl | rfl | rfl <;> rfl
theorem char_in (k : Nat) (hk : k < 4) (w : World) : Calls Tryz.prog 147 #[.int .i64 (k : Int)] w fun e w' => e = .returned (.tuple #[.int .u8 (chC k), .bool (chB k)]) ∧ w = w' := by
 go_enter Tryz.func147, Tryz.ntmps147
 go_wp2
 go_ret2
 go_tidy
 refine ⟨ret_c_b (chC_at k hk) ?_, rfl⟩
 unfold chB; symm; apply decide_eq_true; omega
theorem char_out (n : Int) (h : n < 0 ∨ 4 ≤ n) (w : World) : Calls Tryz.prog 147 #[.int .i64 n] w fun e w' => e = .returned (.tuple #[.int .u8 (chC n), .bool (chB n)]) ∧ w = w' := by
 go_enter Tryz.func147, Tryz.ntmps147
 go_wp2
 all_goals
  go_ret2
  go_tidy
  refine ⟨ret_c_b (by unfold chC; (repeat' split) <;> omega) ?_, rfl⟩
  unfold chB; symm; apply decide_eq_false; omega
theorem char_walk (n : Int) (w : World) : Calls Tryz.prog 147 #[.int .i64 n] w fun e w' => e = .returned (.tuple #[.int .u8 (chC n), .bool (chB n)]) ∧ w = w' := by
 by_cases h : n < 0 ∨ 4 ≤ n
 ·exact char_out n h w
 ·obtain ⟨k, rfl⟩ := Int.eq_ofNat_of_zero_le (show 0 ≤ n by omega)
  exact char_in k (by omega) w
def pInv (c : Nat) : Nat := [49, 48, 120, 122].getD (kn c) 0
theorem idxInv (k : Nat) (hk : k < 4) (w : World) : (Instr.index 161 (.agg #[.int .u8 49, .int .u8 48, .int .u8 120, .int .u8 122]) (.int .i64 (k : Int))).run Tryz.prog w = .ok (.int .u8 (([49, 48, 120, 122].getD k 0 : Nat) : Int)) w := by
 rcases (by omega : k = 0 ∨ k = 1 ∨ k = 2 ∨ k = 3) with rfl | rfl | rfl | rfl <;> kernel_rfl
theorem inv_walk (c : Nat) (hc : c < 256) (w : World) : Calls Tryz.prog 231 #[.int .u8 c] w fun e w' => e = .returned (.int .u8 (pInv c)) ∧ w = w' := by
 have hi : ∀ w, (Instr.index 161 (.agg #[.int .u8 49, .int .u8 48, .int .u8 120, .int .u8 122]) (.int .i64 (kn c : Int))).run Tryz.prog w = .ok (.int .u8 (pInv c)) w := idxInv (kn c) (kn_lt c)
 go_enter Tryz.func231, Tryz.ntmps231
 go_wp2_with (go_at_call 235; refine (known_walk c hc _).mono ?_; rintro e w' ⟨rfl, rfl⟩)
 go_ret
 exact ⟨rfl, rfl⟩
attribute [local go_sem ↓] Go.wp_at_zero Go.wp_at_succ
/-- how many bytes have a code -/
theorem take_snoc (s : ByteArray) (k : Nat) (h : k < s.size) : s.data.toList.take (k + 1) = s.data.toList.take k ++ [s[k]] := by
 rw [List.take_succ_eq_append_getElem (by simpa using h)]; rfl
def cnt (l : List UInt8) (i : Int) : Nat := (l.filter fun b => code b.toNat == i).length
theorem cnt_snoc (l : List UInt8) (b : UInt8) (i : Int) : cnt (l ++ [b]) i = cnt l i + if code b.toNat = i then 1 else 0 := by
 unfold cnt
 rw [List.filter_append]
 by_cases h : code b.toNat = i <;> simp [List.filter_cons, h]
theorem cnt_le (l : List UInt8) (i : Int) : cnt l i ≤ l.length := List.length_filter_le _ _
def C4 (w : World) (B : Nat) (a b c d : Int) : Prop := w.heap[B]? = some (.cells #[.int .i64 a, .int .i64 b, .int .i64 c, .int .i64 d] 60 (0, 0))
theorem C4.c0 {w B a b c d} (h : C4 w B a b c d) : w.cell? ⟨B, 0, none⟩ = some (.int .i64 a) := by rw [cell_of_row w B 0 _ _ _ h]; rfl
theorem C4.c1 {w B a b c d} (h : C4 w B a b c d) : w.cell? ⟨B, 1, none⟩ = some (.int .i64 b) := by rw [cell_of_row w B 1 _ _ _ h]; rfl
theorem C4.c2 {w B a b c d} (h : C4 w B a b c d) : w.cell? ⟨B, 2, none⟩ = some (.int .i64 c) := by rw [cell_of_row w B 2 _ _ _ h]; rfl
theorem C4.c3 {w B a b c d} (h : C4 w B a b c d) : w.cell? ⟨B, 3, none⟩ = some (.int .i64 d) := by rw [cell_of_row w B 3 _ _ _ h]; rfl
theorem C4.fr {w B a b c d} (h : C4 w B a b c d) (i : Nat) : w.frozen? ⟨B, i, none⟩ = false := by
 have h' : w.heap[B]? = some (.cells #[.int .i64 a, .int .i64 b, .int .i64 c, .int .i64 d] 60 (0, 0)) := h
 simp [World.frozen?, h']
theorem C4.lt {w B a b c d} (h : C4 w B a b c d) : B < w.heap.size := (Array.getElem?_eq_some_iff.1 h).1
theorem C4.below {w w' B a b c d} {N : Nat} (h : C4 w B a b c d) (hb : Below N w w') (hN : B < N) : C4 w' B a b c d := (hb.block B hN).trans h
theorem C4.alloc {w B a b c d} (h : C4 w B a b c d) (o : Obj) : C4 (w.alloc o) B a b c d := (Below.heap_alloc w o B h.lt).trans h
theorem C4.set0 {w B a b c d} (h : C4 w B a b c d) (x : Int) : C4 (w.setCell ⟨B, 0, none⟩ (.int .i64 x)) B x b c d := heap_setCell_any w B 0 _ _ _ (.int .i64 x) h
theorem C4.set1 {w B a b c d} (h : C4 w B a b c d) (x : Int) : C4 (w.setCell ⟨B, 1, none⟩ (.int .i64 x)) B a x c d := heap_setCell_any w B 1 _ _ _ (.int .i64 x) h
theorem C4.set2 {w B a b c d} (h : C4 w B a b c d) (x : Int) : C4 (w.setCell ⟨B, 2, none⟩ (.int .i64 x)) B a b x d := heap_setCell_any w B 2 _ _ _ (.int .i64 x) h
theorem C4.set3 {w B a b c d} (h : C4 w B a b c d) (x : Int) : C4 (w.setCell ⟨B, 3, none⟩ (.int .i64 x)) B a b c x := heap_setCell_any w B 3 _ _ _ (.int .i64 x) h
theorem C4.far {w B a b c d} (h : C4 w B a b c d) {p : Addr} (hp : B ≠ p.block) (v : Value) : C4 (w.setCell p v) B a b c d := (Below.heap_setCell w p v B hp).trans h
theorem code_range (c : Nat) : code c = -1 ∨ code c = 0 ∨ code c = 1 ∨ code c = 2 ∨ code c = 3 := by unfold code; (repeat' split) <;> omega
theorem code_at (c : Nat) (r : Int) (hr : code c = r) (hc : c < 256) (w : World) : Calls Tryz.prog 120 #[.int .u8 c] w fun e w' => e = .returned (.int .i64 r) ∧ w = w' := by subst hr; exact code_walk c hc w
theorem rcode_at (c : Nat) (r : Int) (hr : code c = r) (hc : c < 256) (w : World) : Calls Tryz.prog 71 #[.int .u8 c] w fun e w' => e = .returned (.int .i64 r) ∧ w = w' := by subst hr; exact rcode_walk c w
set_option maxRecDepth 100000 in
set_option maxHeartbeats 2000000 in
theorem count_walk (s : ByteArray) (hs : s.size ≤ maxLen) (w : World) : Calls Tryz.prog 74 #[.string s] w fun e w' => e = .returned (.agg #[.int .i64 (cnt s.data.toList 0 : Nat), .int .i64 (cnt s.data.toList 1 : Nat), .int .i64 (cnt s.data.toList 2 : Nat), .int .i64 (cnt s.data.toList 3 : Nat)]) ∧ Below w.heap.size w w' := by
 unfold maxLen at hs
 go_enter Tryz.func74, Tryz.ntmps74
 go_wp2_with fail
 go_loopw [8] (fun i wr => ∃ k : Nat, k ≤ s.size ∧ i = .int .i64 k ∧ C4 wr w.heap.size 0 0 0 0 ∧ C4 wr (w.heap.size + 1) (cnt (s.data.toList.take k) 0 : Nat) (cnt (s.data.toList.take k) 1 : Nat) (cnt (s.data.toList.take k) 2 : Nat) (cnt (s.data.toList.take k) 3 : Nat) ∧ Below w.heap.size w wr) (fun i _ => s.size - (intOf i).toNat)
 case atStart =>
  refine ⟨0, by omega, rfl, (Below.heap_alloc _ _ _ (by simp)).trans (heap_alloc_new _ _), ?_, ((Below.refl _ _).alloc (Nat.le_refl _) _).alloc (by simp) _⟩
  rw [show w.heap.size + 1 = (w.alloc (.cells #[.int .i64 0, .int .i64 0, .int .i64 0, .int .i64 0] 60)).heap.size by simp]; exact heap_alloc_new _ _
 case round =>
  obtain ⟨k, hk, rfl, hR, hO, hb⟩ := hrel
  have HB := Lib.hid hb
  have HR := Lib.hid hR
  have hcl : ∀ i, cnt (s.data.toList.take k) i ≤ k := fun i => by
   have h1 := cnt_le (s.data.toList.take k) i
   have h2 : (s.data.toList.take k).length ≤ k := List.length_take_le _ _
   omega
  have HT : Hid (∀ h : k < s.size, ∀ i, cnt (s.data.toList.take (k + 1)) i = cnt (s.data.toList.take k) i + if code (s[k]'h).toNat = i then 1 else 0) := Lib.hid fun h i => by
   rw [take_snoc s k h, cnt_snoc]
  obtain ⟨c0, e0⟩ : ∃ c, cnt (s.data.toList.take k) 0 = c := ⟨_, rfl⟩
  obtain ⟨c1, e1⟩ : ∃ c, cnt (s.data.toList.take k) 1 = c := ⟨_, rfl⟩
  obtain ⟨c2, e2⟩ : ∃ c, cnt (s.data.toList.take k) 2 = c := ⟨_, rfl⟩
  obtain ⟨c3, e3⟩ : ∃ c, cnt (s.data.toList.take k) 3 = c := ⟨_, rfl⟩
  have b0 : c0 ≤ k := by rw [← e0]; exact hcl 0
  have b1 : c1 ≤ k := by rw [← e1]; exact hcl 1
  have b2 : c2 ≤ k := by rw [← e2]; exact hcl 2
  have b3 : c3 ≤ k := by rw [← e3]; exact hcl 3
  rw [e0, e1, e2, e3] at hO
  have HO := Lib.hid hO
  have HE : Hid (cnt (s.data.toList.take k) 0 = c0 ∧ cnt (s.data.toList.take k) 1 = c1 ∧ cnt (s.data.toList.take k) 2 = c2 ∧ cnt (s.data.toList.take k) 3 = c3) := Lib.hid ⟨e0, e1, e2, e3⟩
  have o0 := hO.c0
  have o1 := hO.c1
  have o2 := hO.c2
  have o3 := hO.c3
  have of_ := hO.fr
  have ol := hO.lt
  clear hb hcl e0 e1 e2 e3
  by_cases hlt : k < s.size
  ·obtain ⟨x, hx⟩ : ∃ x, s[k] = x := ⟨_, rfl⟩
   have hxl := x.toNat_lt
   have HTT : Hid (∀ i, cnt (s.data.toList.take (k + 1)) i = cnt (s.data.toList.take k) i + if code x.toNat = i then 1 else 0) := Lib.hid fun i => by
    rw [HT.out hlt i, hx]
   clear hR hO
   rcases code_range x.toNat with hc | hc | hc | hc | hc
   ·have HC := Lib.hid hc
    clear hc
    go_wp2_with fail
    refine (code_at x.toNat (-1) HC.out hxl _).mono ?_; rintro e _ ⟨rfl, rfl⟩
    go_wp2_with fail
    go_roundw
    case rel =>
     refine ⟨k + 1, by omega, by go_num, HR.out, ?_, HB.out⟩
     obtain ⟨q0, q1, q2, q3⟩ := HE.out
     rw [HTT.out, HTT.out, HTT.out, HTT.out, HC.out, q0, q1, q2, q3]; exact HO.out
    case measure => simp [intOf]; omega
   ·have HC := Lib.hid hc
    clear hc
    go_wp2_with fail
    refine (code_at x.toNat 0 HC.out hxl _).mono ?_; rintro e _ ⟨rfl, rfl⟩
    go_wp2_with fail
    go_roundw
    case rel =>
     refine ⟨k + 1, by omega, by go_num, HR.out.far (by simp) _, ?_, HB.out.setCell (by simp) _⟩
     obtain ⟨q0, q1, q2, q3⟩ := HE.out
     rw [HTT.out, HTT.out, HTT.out, HTT.out, HC.out, q0, q1, q2, q3]; exact HO.out.set0 _
    case measure => simp [intOf]; omega
   ·have HC := Lib.hid hc
    clear hc
    go_wp2_with fail
    refine (code_at x.toNat 1 HC.out hxl _).mono ?_; rintro e _ ⟨rfl, rfl⟩
    go_wp2_with fail
    go_roundw
    case rel =>
     refine ⟨k + 1, by omega, by go_num, HR.out.far (by simp) _, ?_, HB.out.setCell (by simp) _⟩
     obtain ⟨q0, q1, q2, q3⟩ := HE.out
     rw [HTT.out, HTT.out, HTT.out, HTT.out, HC.out, q0, q1, q2, q3]; exact HO.out.set1 _
    case measure => simp [intOf]; omega
   ·have HC := Lib.hid hc
    clear hc
    go_wp2_with fail
    refine (code_at x.toNat 2 HC.out hxl _).mono ?_; rintro e _ ⟨rfl, rfl⟩
    go_wp2_with fail
    go_roundw
    case rel =>
     refine ⟨k + 1, by omega, by go_num, HR.out.far (by simp) _, ?_, HB.out.setCell (by simp) _⟩
     obtain ⟨q0, q1, q2, q3⟩ := HE.out
     rw [HTT.out, HTT.out, HTT.out, HTT.out, HC.out, q0, q1, q2, q3]; exact HO.out.set2 _
    case measure => simp [intOf]; omega
   ·have HC := Lib.hid hc
    clear hc
    go_wp2_with fail
    refine (code_at x.toNat 3 HC.out hxl _).mono ?_; rintro e _ ⟨rfl, rfl⟩
    go_wp2_with fail
    go_roundw
    case rel =>
     refine ⟨k + 1, by omega, by go_num, HR.out.far (by simp) _, ?_, HB.out.setCell (by simp) _⟩
     obtain ⟨q0, q1, q2, q3⟩ := HE.out
     rw [HTT.out, HTT.out, HTT.out, HTT.out, HC.out, q0, q1, q2, q3]; exact HO.out.set3 _
    case measure => simp [intOf]; omega
  ·obtain rfl : s.size = k := by omega
   have HTA : Hid (s.data.toList.take s.size = s.data.toList) := Lib.hid (List.take_of_length_le (by simp))
   have r0 := hR.c0
   have r1 := hR.c1
   have r2 := hR.c2
   have r3 := hR.c3
   have rf := hR.fr
   clear hR hO
   go_wp2_with fail
   obtain ⟨q0, q1, q2, q3⟩ := HE.out
   rw [HTA.out] at q0 q1 q2 q3
   subst q0 q1 q2 q3
   exact bodyPost_ret (v := .agg #[.int .i64 (cnt s.data.toList 0 : Nat), .int .i64 (cnt s.data.toList 1 : Nat), .int .i64 (cnt s.data.toList 2 : Nat), .int .i64 (cnt s.data.toList 3 : Nat)]) (by simp [results, Tryz.results74, go_sem, r0, r1, r2, r3]) rfl ⟨rfl, (((HB.out.setCell (by simp) _).setCell (by simp) _).setCell (by simp) _).setCell (by simp) _⟩
set_option maxRecDepth 100000 in
set_option maxHeartbeats 2000000 in
theorem rcount_walk (s : ByteArray) (hs : s.size ≤ maxLen) (w : World) : Calls Tryz.prog 29 #[.string s] w fun e w' => e = .returned (.agg #[.int .i64 (cnt s.data.toList 0 : Nat), .int .i64 (cnt s.data.toList 1 : Nat), .int .i64 (cnt s.data.toList 2 : Nat), .int .i64 (cnt s.data.toList 3 : Nat)]) ∧ Below w.heap.size w w' := by
 unfold maxLen at hs
 go_enter Tryz.func29, Tryz.ntmps29
 go_wp2_with fail
 go_loopw [4] (fun i wr => ∃ k : Nat, k ≤ s.size ∧ i = .int .i64 k ∧ C4 wr w.heap.size 0 0 0 0 ∧ C4 wr (w.heap.size + 1) (cnt (s.data.toList.take k) 0 : Nat) (cnt (s.data.toList.take k) 1 : Nat) (cnt (s.data.toList.take k) 2 : Nat) (cnt (s.data.toList.take k) 3 : Nat) ∧ Below w.heap.size w wr) (fun i _ => s.size - (intOf i).toNat)
 case atStart =>
  refine ⟨0, by omega, rfl, (Below.heap_alloc _ _ _ (by simp)).trans (heap_alloc_new _ _), ?_, ((Below.refl _ _).alloc (Nat.le_refl _) _).alloc (by simp) _⟩
  rw [show w.heap.size + 1 = (w.alloc (.cells #[.int .i64 0, .int .i64 0, .int .i64 0, .int .i64 0] 60)).heap.size by simp]; exact heap_alloc_new _ _
 case round =>
  obtain ⟨k, hk, rfl, hR, hO, hb⟩ := hrel
  have HB := Lib.hid hb
  have HR := Lib.hid hR
  have hcl : ∀ i, cnt (s.data.toList.take k) i ≤ k := fun i => by
   have h1 := cnt_le (s.data.toList.take k) i
   have h2 : (s.data.toList.take k).length ≤ k := List.length_take_le _ _
   omega
  have HT : Hid (∀ h : k < s.size, ∀ i, cnt (s.data.toList.take (k + 1)) i = cnt (s.data.toList.take k) i + if code (s[k]'h).toNat = i then 1 else 0) := Lib.hid fun h i => by
   rw [take_snoc s k h, cnt_snoc]
  obtain ⟨c0, e0⟩ : ∃ c, cnt (s.data.toList.take k) 0 = c := ⟨_, rfl⟩
  obtain ⟨c1, e1⟩ : ∃ c, cnt (s.data.toList.take k) 1 = c := ⟨_, rfl⟩
  obtain ⟨c2, e2⟩ : ∃ c, cnt (s.data.toList.take k) 2 = c := ⟨_, rfl⟩
  obtain ⟨c3, e3⟩ : ∃ c, cnt (s.data.toList.take k) 3 = c := ⟨_, rfl⟩
  have b0 : c0 ≤ k := by rw [← e0]; exact hcl 0
  have b1 : c1 ≤ k := by rw [← e1]; exact hcl 1
  have b2 : c2 ≤ k := by rw [← e2]; exact hcl 2
  have b3 : c3 ≤ k := by rw [← e3]; exact hcl 3
  rw [e0, e1, e2, e3] at hO
  have HO := Lib.hid hO
  have HE : Hid (cnt (s.data.toList.take k) 0 = c0 ∧ cnt (s.data.toList.take k) 1 = c1 ∧ cnt (s.data.toList.take k) 2 = c2 ∧ cnt (s.data.toList.take k) 3 = c3) := Lib.hid ⟨e0, e1, e2, e3⟩
  have o0 := hO.c0
  have o1 := hO.c1
  have o2 := hO.c2
  have o3 := hO.c3
  have of_ := hO.fr
  have ol := hO.lt
  clear hb hcl e0 e1 e2 e3
  by_cases hlt : k < s.size
  ·obtain ⟨x, hx⟩ : ∃ x, s[k] = x := ⟨_, rfl⟩
   have hxl := x.toNat_lt
   have HTT : Hid (∀ i, cnt (s.data.toList.take (k + 1)) i = cnt (s.data.toList.take k) i + if code x.toNat = i then 1 else 0) := Lib.hid fun i => by
    rw [HT.out hlt i, hx]
   clear hR hO
   rcases code_range x.toNat with hc | hc | hc | hc | hc
   ·have HC := Lib.hid hc
    clear hc
    go_wp2_with fail
    refine (rcode_at x.toNat (-1) HC.out hxl _).mono ?_; rintro e _ ⟨rfl, rfl⟩
    go_wp2_with fail
    go_roundw
    case rel =>
     refine ⟨k + 1, by omega, by go_num, HR.out, ?_, HB.out⟩
     obtain ⟨q0, q1, q2, q3⟩ := HE.out
     rw [HTT.out, HTT.out, HTT.out, HTT.out, HC.out, q0, q1, q2, q3]; exact HO.out
    case measure => simp [intOf]; omega
   ·have HC := Lib.hid hc
    clear hc
    go_wp2_with fail
    refine (rcode_at x.toNat 0 HC.out hxl _).mono ?_; rintro e _ ⟨rfl, rfl⟩
    go_wp2_with fail
    go_roundw
    case rel =>
     refine ⟨k + 1, by omega, by go_num, HR.out.far (by simp) _, ?_, HB.out.setCell (by simp) _⟩
     obtain ⟨q0, q1, q2, q3⟩ := HE.out
     rw [HTT.out, HTT.out, HTT.out, HTT.out, HC.out, q0, q1, q2, q3]; exact HO.out.set0 _
    case measure => simp [intOf]; omega
   ·have HC := Lib.hid hc
    clear hc
    go_wp2_with fail
    refine (rcode_at x.toNat 1 HC.out hxl _).mono ?_; rintro e _ ⟨rfl, rfl⟩
    go_wp2_with fail
    go_roundw
    case rel =>
     refine ⟨k + 1, by omega, by go_num, HR.out.far (by simp) _, ?_, HB.out.setCell (by simp) _⟩
     obtain ⟨q0, q1, q2, q3⟩ := HE.out
     rw [HTT.out, HTT.out, HTT.out, HTT.out, HC.out, q0, q1, q2, q3]; exact HO.out.set1 _
    case measure => simp [intOf]; omega
   ·have HC := Lib.hid hc
    clear hc
    go_wp2_with fail
    refine (rcode_at x.toNat 2 HC.out hxl _).mono ?_; rintro e _ ⟨rfl, rfl⟩
    go_wp2_with fail
    go_roundw
    case rel =>
     refine ⟨k + 1, by omega, by go_num, HR.out.far (by simp) _, ?_, HB.out.setCell (by simp) _⟩
     obtain ⟨q0, q1, q2, q3⟩ := HE.out
     rw [HTT.out, HTT.out, HTT.out, HTT.out, HC.out, q0, q1, q2, q3]; exact HO.out.set2 _
    case measure => simp [intOf]; omega
   ·have HC := Lib.hid hc
    clear hc
    go_wp2_with fail
    refine (rcode_at x.toNat 3 HC.out hxl _).mono ?_; rintro e _ ⟨rfl, rfl⟩
    go_wp2_with fail
    go_roundw
    case rel =>
     refine ⟨k + 1, by omega, by go_num, HR.out.far (by simp) _, ?_, HB.out.setCell (by simp) _⟩
     obtain ⟨q0, q1, q2, q3⟩ := HE.out
     rw [HTT.out, HTT.out, HTT.out, HTT.out, HC.out, q0, q1, q2, q3]; exact HO.out.set3 _
    case measure => simp [intOf]; omega
  ·obtain rfl : s.size = k := by omega
   have HTA : Hid (s.data.toList.take s.size = s.data.toList) := Lib.hid (List.take_of_length_le (by simp))
   have r0 := hR.c0
   have r1 := hR.c1
   have r2 := hR.c2
   have r3 := hR.c3
   have rf := hR.fr
   clear hR hO
   go_wp2_with fail
   obtain ⟨q0, q1, q2, q3⟩ := HE.out
   rw [HTA.out] at q0 q1 q2 q3
   subst q0 q1 q2 q3
   exact bodyPost_ret (v := .agg #[.int .i64 (cnt s.data.toList 0 : Nat), .int .i64 (cnt s.data.toList 1 : Nat), .int .i64 (cnt s.data.toList 2 : Nat), .int .i64 (cnt s.data.toList 3 : Nat)]) (by simp [results, Tryz.results29, go_sem, r0, r1, r2, r3]) rfl ⟨rfl, (((HB.out.setCell (by simp) _).setCell (by simp) _).setCell (by simp) _).setCell (by simp) _⟩
end Go.Proofs.YtlmjefjimoghcaaGreat.L
namespace Go.Proofs.YtlmjefjimoghcaaGreat
set_option linter.unusedSimpArgs false
set_option linter.unnecessarySimpa false
set_option linter.unusedVariables false
def okC (c : UInt8) : Bool := c == 48 || c == 49 || c == 120 || c == 122
def isV (l : List UInt8) : Bool := !l.isEmpty && decide (l.length ≤ 128) && l.all okC
def bitC (c : UInt8) : Bool := c == 48 || c == 49
def knownV (l : List UInt8) : Bool := isV l && l.all bitC
theorem code_ok (c : UInt8) : (0 ≤ L.code c.toNat) = (okC c = true) := by
 have h : ∀ n : Nat, n < 256 → c.toNat = n → (c = UInt8.ofNat n) := fun n _ h => by rw [← h]; simp
 unfold okC L.code
 have e : ∀ k : UInt8, (c == k) = decide (c.toNat = k.toNat) := fun k => by
  rw [Bool.eq_iff_iff]; simp [UInt8.toNat_inj]
 simp only [e, Bool.or_eq_true, decide_eq_true_eq]
 have e1 : (48 : UInt8).toNat = 48 := rfl
 have e2 : (49 : UInt8).toNat = 49 := rfl
 have e3 : (120 : UInt8).toNat = 120 := rfl
 have e4 : (122 : UInt8).toNat = 122 := rfl
 rw [e1, e2, e3, e4]
 apply propext
 constructor
 ·intro h; (repeat' split at h) <;> omega
 ·intro h; (repeat' split) <;> omega
theorem cnt4 (l : List UInt8) : L.cnt l 0 + L.cnt l 1 + L.cnt l 2 + L.cnt l 3 = (l.filter okC).length := by
 induction l with
 | nil => rfl
 | cons c l ih =>
  have h0 := code_ok c
  have hr := L.code_range c.toNat
  have e : ∀ i, L.cnt (c :: l) i = L.cnt l i + if L.code c.toNat = i then 1 else 0 := fun i => by
   unfold L.cnt
   rw [List.filter_cons]
   by_cases h : L.code c.toNat = i
   ·simp [h]
   ·simp [h]
  rw [e, e, e, e, List.filter_cons]
  by_cases h : okC c = true
  ·have h1 : 0 ≤ L.code c.toNat := by rw [h0]; exact h
   rw [if_pos h, List.length_cons]
   rcases hr with h | h | h | h | h <;> rw [h] at h1 ⊢ <;> simp <;> omega
  ·have h1 : ¬ 0 ≤ L.code c.toNat := by rw [h0]; exact h
   rw [if_neg h]
   rcases hr with h | h | h | h | h <;> rw [h] at h1 ⊢ <;> simp <;> omega
theorem cnt_le4 (l : List UInt8) : L.cnt l 0 + L.cnt l 1 + L.cnt l 2 + L.cnt l 3 ≤ l.length := by rw [cnt4]; exact List.length_filter_le _ _
theorem cnt_all (l : List UInt8) : (L.cnt l 0 + L.cnt l 1 + L.cnt l 2 + L.cnt l 3 = l.length) = (l.all okC = true) := by
 rw [cnt4]
 apply propext
 rw [List.all_eq_true, List.length_filter_eq_length_iff]
theorem code_bit (c : UInt8) : (L.code c.toNat = 0 ∨ L.code c.toNat = 1) = (bitC c = true) := by
 unfold bitC L.code
 have e : ∀ k : UInt8, (c == k) = decide (c.toNat = k.toNat) := fun k => by
  rw [Bool.eq_iff_iff]; simp [UInt8.toNat_inj]
 simp only [e, Bool.or_eq_true, decide_eq_true_eq]
 have e1 : (48 : UInt8).toNat = 48 := rfl
 have e2 : (49 : UInt8).toNat = 49 := rfl
 rw [e1, e2]
 apply propext
 constructor
 ·intro h; (repeat' split at h) <;> omega
 ·intro h; (repeat' split) <;> omega
theorem cnt2 (l : List UInt8) : L.cnt l 0 + L.cnt l 1 = (l.filter bitC).length := by
 induction l with
 | nil => rfl
 | cons c l ih =>
  have h0 := code_bit c
  have e : ∀ i, L.cnt (c :: l) i = L.cnt l i + if L.code c.toNat = i then 1 else 0 := fun i => by
   unfold L.cnt
   rw [List.filter_cons]
   by_cases h : L.code c.toNat = i
   ·simp [h]
   ·simp [h]
  rw [e, e, List.filter_cons]
  by_cases h : bitC c = true
  ·rw [if_pos h, List.length_cons]
   rw [h] at h0
   have h1 : L.code c.toNat = 0 ∨ L.code c.toNat = 1 := by rw [h0]
   rcases h1 with h | h <;> rw [h] <;> simp <;> omega
  ·rw [if_neg h]
   have h1 : ¬ (L.code c.toNat = 0 ∨ L.code c.toNat = 1) := by rw [h0]; exact h
   have h2 : L.code c.toNat ≠ 0 := fun h => h1 (.inl h)
   have h3 : L.code c.toNat ≠ 1 := fun h => h1 (.inr h)
   rw [if_neg h2, if_neg h3]; omega
/-- of a value: it is known if there is no x and no z -/
theorem known_cnt {l : List UInt8} (h : isV l = true) : (L.cnt l 2 + L.cnt l 3 = 0) = (l.all bitC = true) := by
 have h1 : l.all okC = true := by unfold isV at h; simp only [Bool.and_eq_true] at h; exact h.2
 rw [← cnt_all] at h1
 have h2 := cnt2 l
 apply propext
 rw [List.all_eq_true, ← List.length_filter_eq_length_iff, ← h2]
 omega
/-- the sum of two known values, from the front, and the carry -/
def sumS : List UInt8 → List UInt8 → Nat → List UInt8 × Nat
 | x :: a, y :: b, c => let r := sumS a b c; let n := (x.toNat - 48) + (y.toNat - 48) + r.2; (UInt8.ofNat (48 + n % 2) :: r.1, n / 2)
 | _, _, c => ([], c)
def addV (a b : List UInt8) : List UInt8 := (sumS a b 0).1
def invC (c : UInt8) : UInt8 := if c = 48 then 49 else if c = 49 then 48 else c
def invV (l : List UInt8) : List UInt8 := l.map invC
def diffV (a b : List UInt8) : List UInt8 := (sumS b (invV a) 1).1
def shortL : List UInt8 → List UInt8
 | x :: y :: r => if (x == y && x != 49) || (x == 48 && y == 49) then shortL (y :: r) else x :: y :: r
 | l => l
def shortV (l : List UInt8) : List UInt8 := if isV l then shortL l else []
theorem shortL_length : ∀ l : List UInt8, (shortL l).length ≤ l.length
 | [] => Nat.le_refl _
 | [_] => Nat.le_refl _
 | x :: y :: r => by
  unfold shortL
  split
  ·exact Nat.le_succ_of_le (shortL_length (y :: r))
  ·exact Nat.le_refl _
theorem shortV_length (l : List UInt8) : (shortV l).length ≤ l.length := by
 unfold shortV; split
 ·exact shortL_length l
 ·simp
theorem isV_parts {l : List UInt8} (h : isV l = true) : l ≠ [] ∧ l.length ≤ 128 ∧ l.all okC = true := by
 unfold isV at h
 simp only [Bool.and_eq_true, decide_eq_true_eq, Bool.not_eq_true'] at h
 exact ⟨fun e => by rw [e] at h; simp at h, h.1.2, h.2⟩
theorem sumS_length : ∀ (a b : List UInt8) (c : Nat), a.length = b.length → (sumS a b c).1.length = a.length
 | [], _, _, _ => rfl
 | x :: a, [], _, h => by simp at h
 | x :: a, y :: b, c, h => by
  have := sumS_length a b c (by simpa using h)
  simp [sumS, this]
/-- the number that known digits are -/
def numV (l : List UInt8) : Nat := l.foldl (fun n c => 2 * n + (c.toNat - 48)) 0
def numA (n : Nat) (l : List UInt8) : Nat := l.foldl (fun n c => 2 * n + (c.toNat - 48)) n
theorem numA_eq (l : List UInt8) : ∀ n, numA n l = n * 2 ^ l.length + numV l := by
 induction l with
 | nil => intro n; simp [numA, numV]
 | cons c l ih =>
  intro n
  have h1 : numA n (c :: l) = numA (2 * n + (c.toNat - 48)) l := rfl
  have h2 : numV (c :: l) = numA (2 * 0 + (c.toNat - 48)) l := rfl
  rw [h1, h2, ih, ih, List.length_cons, Nat.pow_succ, Nat.mul_zero, Nat.zero_add, Nat.add_mul]
  have e : 2 * n * 2 ^ l.length = n * (2 ^ l.length * 2) := by rw [Nat.mul_comm 2 n, Nat.mul_assoc, Nat.mul_comm 2]
  rw [e]; omega
theorem numV_cons (c : UInt8) (l : List UInt8) : numV (c :: l) = (c.toNat - 48) * 2 ^ l.length + numV l := by
 have h2 : numV (c :: l) = numA (2 * 0 + (c.toNat - 48)) l := rfl
 rw [h2, numA_eq]; simp
theorem bitC_val {c : UInt8} (h : bitC c = true) : c.toNat - 48 ≤ 1 ∧ 48 ≤ c.toNat := by
 unfold bitC at h
 simp only [Bool.or_eq_true, beq_iff_eq] at h
 rcases h with rfl | rfl <;> decide
theorem numV_lt : ∀ l : List UInt8, l.all bitC = true → numV l < 2 ^ l.length
 | [], _ => by decide
 | c :: l, h => by
  simp only [List.all_cons, Bool.and_eq_true] at h
  have h1 := numV_lt l h.2
  have h2 := (bitC_val h.1).1
  rw [numV_cons, List.length_cons, Nat.pow_succ]
  have : (c.toNat - 48) * 2 ^ l.length ≤ 1 * 2 ^ l.length := Nat.mul_le_mul_right _ h2
  omega
theorem invV_length (l : List UInt8) : (invV l).length = l.length := by simp [invV]
theorem invV_num : ∀ l : List UInt8, l.all bitC = true → numV (invV l) + numV l + 1 = 2 ^ l.length ∧ (invV l).all bitC = true
 | [], _ => by decide
 | c :: l, h => by
  simp only [List.all_cons, Bool.and_eq_true] at h
  obtain ⟨h1, h2⟩ := invV_num l h.2
  have hc := h.1
  have e : invV (c :: l) = invC c :: invV l := rfl
  rw [e, numV_cons, numV_cons, invV_length, List.length_cons, Nat.pow_succ]
  unfold bitC at hc
  simp only [Bool.or_eq_true, beq_iff_eq] at hc
  have e48 : (48 : UInt8).toNat = 48 := rfl
  have e49 : (49 : UInt8).toNat = 49 := rfl
  rcases hc with rfl | rfl
  ·have : invC 48 = 49 := rfl
   rw [this, e48, e49]
   refine ⟨by simp only [Nat.sub_self, Nat.zero_mul]; omega, ?_⟩
   simp only [List.all_cons, Bool.and_eq_true]; exact ⟨rfl, h2⟩
  ·have : invC 49 = 48 := rfl
   rw [this, e48, e49]
   refine ⟨by simp only [Nat.sub_self, Nat.zero_mul]; omega, ?_⟩
   simp only [List.all_cons, Bool.and_eq_true]; exact ⟨rfl, h2⟩
/-- digits extended to a width -/
def extC (c : UInt8) : UInt8 := if c == 49 then 48 else c
def extV (w : Int) (d : List UInt8) : List UInt8 × Int :=
 if w < 1 ∨ 128 < w then ([], 1) else if d.isEmpty || !d.all okC then ([], 3) else if w < d.length then ([], 8) else (List.replicate (w.toNat - d.length) (extC (d.getD 0 0)) ++ d, 0)
def codeN (c : UInt8) : Nat := if c = 48 then 0 else if c = 49 then 1 else if c = 120 then 2 else 3
def charN (n : Nat) : UInt8 := if n = 0 then 48 else if n = 1 then 49 else if n = 2 then 120 else 122
def mixC (a b : UInt8) : UInt8 := charN (codeN a ^^^ codeN b)
end Go.Proofs.YtlmjefjimoghcaaGreat
