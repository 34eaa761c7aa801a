/- A part of the proofs of TopCounter and TopStrict: what the functions of the program do, each walked once, and plain laws about it. No condition. -/
import Derived.Test.YtlmjefjimoghcaaGreatA31
namespace Go.Proofs.YtlmjefjimoghcaaGreat
set_option linter.unusedSimpArgs false
set_option linter.unnecessarySimpa false
set_option linter.unusedVariables false
open Go.RowKit
attribute [local go_sem ↓] Go.wp_at_zero Go.wp_at_succ
def bitI (s : List UInt8) (p : Nat) : Nat := (s.getD (p / 8) 0).toNat / 2 ^ (7 - p % 8) % 2
def accV (s : List UInt8) (p : Nat) : Nat → Nat
 | 0 => 0
 | k + 1 => accV s p k * 2 + bitI s (p + k)
def TakR (w : World) (R p : Nat) (n : Int) (s : List UInt8) (v i : Value) (wr : World) : Prop := ∃ (k : Nat), i = .int .i64 (k : Int) ∧ v = .int .i64 ((accV s p k : Nat) : Int) ∧ k ≤ 2 ∧ RdB wr R s (p + k) n ∧ Touch (fun b => b = R) w wr
theorem accV_lt (s : List UInt8) (p k : Nat) : accV s p k < 2 ^ k := by
 induction k with
 | zero => exact Nat.one_pos
 | succ k ih =>
  have h : bitI s (p + k) < 2 := Nat.mod_lt _ (by decide)
  unfold accV; rw [Nat.pow_succ]; omega
theorem touch_drewN {S : Nat → Prop} {a b : World} (h : Touch S a b) (q : Nat) : Touch S a (b.drewN q) := h.trans (.of_below (S := fun _ => False) (below_drewN (.refl _ _) _)) fun _ _ h => h.elim
theorem bit_run : ∀ (a : Fin 256) (m : Fin 8), wrap64 (bits BinOp.and IntKind.u8 ((a.val : Int) / 2 ^ m.val) 1) = ((a.val / 2 ^ m.val % 2 : Nat) : Int) := by decide +kernel
theorem or_two0 : ∀ (a b : Fin 2), bits BinOp.or IntKind.i64 (wrap64 ((a.val : Int) * 2)) (b.val : Int) = ((a.val * 2 + b.val : Nat) : Int) := by decide +kernel
theorem or_two {a b : Nat} (ha : a < 2) (hb : b < 2) : bits BinOp.or IntKind.i64 (wrap64 ((a : Int) * 2)) (b : Int) = ((a * 2 + b : Nat) : Int) := or_two0 ⟨a, ha⟩ ⟨b, hb⟩
set_option maxRecDepth 100000 in
set_option maxHeartbeats 1000000 in
theorem take_two {w : World} {R p : Nat} {n : Int} {s : List UInt8} (h : RdB w R s p n) (hp : (p : Int) + 2 ≤ n) (hn : n < 8 * (s.length : Int)) (hs : s.length ≤ 10000) : Calls Tryz.prog 207 #[.pointer (some ⟨R, 0, none⟩), .int .i64 2] w fun e w' => e = .returned (.tuple #[.int .i64 ((accV s p 2 : Nat) : Int), .int .i64 0]) ∧ RdB w' R s (p + 2) n ∧ Touch (fun b => b = R) w w' := by
 have HL := Lib.hid (left_walk h (by omega) (by omega))
 have H := Lib.hid h
 have hsz := sB_size s
 clear h
 go_enter Tryz.func207, Tryz.ntmps207
 go_wp2_with fail
 refine (HL.out).mono ?_
 rintro x _ ⟨rfl, q, rfl⟩
 go_wp2_with fail
 go_loopw [6, 12] (fun v i wr => TakR w R p n s v i wr) (fun _ i _ => (2 - intOf i).toNat)
 case atStart => exact ⟨0, rfl, rfl, by decide, H.out, touch_drewN (.refl _ w) _⟩
 case round =>
  obtain ⟨k, rfl, rfl, hk, hr, ht⟩ := hrel
  have HR := Lib.hid hr
  have HT := Lib.hid ht
  rcases (by omega : k < 2 ∨ k = 2) with hk2 | rfl
  ·have c0 : wr.cell? ⟨R, 0, none⟩ = some (.string (sB s)) := by rw [cell_of_row wr R 0 _ _ _ hr]; rfl
   have c1 : wr.cell? ⟨R, 1, none⟩ = some (.int .i64 ((p + k : Nat) : Int)) := by rw [cell_of_row wr R 1 _ _ _ hr]; rfl
   obtain ⟨N, hN⟩ : ∃ N : Nat, p + k = N := ⟨_, rfl⟩
   rw [hN] at c1
   have hqd := td8 N
   have hrd := tm8 N
   obtain ⟨q, hq⟩ : ∃ q : Nat, N / 8 = q := ⟨_, rfl⟩
   obtain ⟨r, hrr⟩ : ∃ r : Nat, N % 8 = r := ⟨_, rfl⟩
   rw [hq] at hqd
   rw [hrr] at hrd
   have hql : q < s.length := by omega
   have hqi : (q : Int) < s.length := by omega
   have hwq : IntKind.i64.wrap (q : Int) = q := IntWalk.i64_in _ (by omega)
   have hwr2 : IntKind.i64.wrap (r : Int) = r := IntWalk.i64_in _ (by omega)
   obtain ⟨m, hm⟩ : ∃ m : Nat, 7 - r = m := ⟨_, rfl⟩
   have hwr : IntKind.i64.wrap (7 - (r : Int)) = (m : Int) := (IntWalk.i64_in _ (by omega)).trans (by omega)
   obtain ⟨x, hx⟩ : ∃ x, s.getD q 0 = x := ⟨_, rfl⟩
   have hgx : ∀ h, (sB s)[q]'h = x := fun h => by
    rw [← hx, List.getD_eq_getElem?_getD, List.getElem?_eq_getElem hql]; rfl
   have hki : (k : Int) < 2 := by omega
   have hal := accV_lt s p k
   have ha2 : accV s p k < 2 := by
    rcases (by omega : k = 0 ∨ k = 1) with rfl | rfl
    ·omega
    ·simpa using hal
   have hb1 : wrap64 (bits BinOp.and IntKind.u8 ((x.toNat : Int) / 2 ^ m) 1) = ((bitI s (p + k) : Nat) : Int) := by
    rw [hN]
    unfold bitI
    rw [hq, hrr, hm, hx]
    exact bit_run ⟨x.toNat, x.toNat_lt⟩ ⟨m, by omega⟩
   have hor : bits BinOp.or IntKind.i64 (wrap64 ((accV s p k : Int) * 2)) ((bitI s (p + k) : Nat) : Int) = ((accV s p (k + 1) : Nat) : Int) := or_two ha2 (Nat.mod_lt _ (by decide))
   have HV : Hid (bits BinOp.or IntKind.i64 (wrap64 ((accV s p k : Int) * 2)) (wrap64 (bits BinOp.and IntKind.u8 ((x.toNat : Int) / 2 ^ min m 8) 1)) = ((accV s p (k + 1) : Nat) : Int)) := Lib.hid (by rw [show min m 8 = m by omega, hb1, hor])
   have hset := heap_setCell_any wr R 1 _ _ _ (.int .i64 ((N + 1 : Nat) : Int)) hr
   have hwn : IntKind.i64.wrap ((N : Int) + 1) = ((N + 1 : Nat) : Int) := (IntWalk.i64_in _ (by omega)).trans (by omega)
   have HSet : Hid (RdB (wr.setCell ⟨R, 1, none⟩ (.int .i64 ((N + 1 : Nat) : Int))) R s (p + (k + 1)) n) := Lib.hid (by unfold RdB; rw [show p + (k + 1) = N + 1 by omega]; exact hset)
   have HTc : Hid (Touch (fun b => b = R) w (wr.setCell ⟨R, 1, none⟩ (.int .i64 ((N + 1 : Nat) : Int)))) := Lib.hid (ht.setCell (p := ⟨R, 1, none⟩) (.inl rfl) _)
   have hrf : ∀ i, wr.frozen? ⟨R, i, none⟩ = false := fun i => by
    have := HR.out
    unfold RdB at this
    simp [World.frozen?, this]
   clear hr ht hset hal ha2 hq hrr hm hx hN
   go_upto_region 6 with (fail)
   go_quiet (fail)
   clear hb1 hor hgx
   go_wp2_with fail
   go_roundw
   case rel => exact ⟨k + 1, by go_num, by rw [HV.out], by omega, HSet.out, touch_drewN HTc.out nq⟩
   case measure => simp [intOf]; omega
  ·clear hr ht
   go_wp2_with fail
   go_ret2
   exact ⟨rfl, HR.out, HT.out⟩
theorem get6_two {w : World} {R p : Nat} {n : Int} {s : List UInt8} (h : RdB w R s p n) (hp : (p : Int) + 2 ≤ n) (hn : n < 8 * (s.length : Int)) (hs : s.length ≤ 10000) : Calls Tryz.prog 206 #[.pointer (some ⟨R, 0, none⟩), .int .i64 2] w fun e w' => e = .returned (.tuple #[.int .i64 ((accV s p 2 : Nat) : Int), .int .i64 0]) ∧ RdB w' R s (p + 2) n ∧ Touch (fun b => b = R) w w' := by
 have H := Lib.hid (take_two h hp hn hs)
 clear h
 go_enter Tryz.func206, Tryz.ntmps206
 go_wp2_with fail
 refine (H.out).mono ?_
 rintro x w1 ⟨rfl, h1, h2⟩
 have H1 := Lib.hid h1
 have H2 := Lib.hid h2
 clear h1 h2 H
 go_wp2_with fail
 go_ret2
 exact ⟨rfl, H1.out, H2.out⟩
set_option maxRecDepth 1000000 in
set_option maxHeartbeats 1000000 in
theorem get_two {w : World} {R p : Nat} {n : Int} {s : List UInt8} (h : RdB w R s p n) (hp : (p : Int) + 2 ≤ n) (hn : n < 8 * (s.length : Int)) (hs : s.length ≤ 10000) : Calls Tryz.prog 146 #[.pointer (some ⟨R, 0, none⟩), .int .i64 0, .int .i64 2, .int .i64 3] w fun e w' => e = .returned (.tuple #[.int .i64 ((accV s p 2 : Nat) : Int), .int .i64 0]) ∧ RdB w' R s (p + 2) n ∧ Touch (fun b => b = R) w w' := by
 have H := Lib.hid h
 have HFi := Lib.hid (find_walk w)
 have HG := Lib.hid fun (w : World) (h : RdB w R s p n) => get6_two h hp hn hs
 have hacc := accV_lt s p 2
 clear h hp hn hs
 go_enter Tryz.func146, Tryz.ntmps146
 go_wp2_with fail
 refine (HFi.out).mono ?_
 rintro x w1 ⟨rfl, hb1⟩
 have hk2 := heap_alloc_new w1 (.cells #[Value.int .i64 0, Value.int .i64 62, Value.func (.func 203) #[] #[], Value.func (.func 204) #[] #[], Value.func (.func 205) #[] #[], Value.func (.func 206) #[] #[]] 237)
 have hb2 : Below w.heap.size w (w1.alloc (.cells #[Value.int .i64 0, Value.int .i64 62, Value.func (.func 203) #[] #[], Value.func (.func 204) #[] #[], Value.func (.func 205) #[] #[], Value.func (.func 206) #[] #[]] 237)) := hb1.alloc hb1.size _
 have h2 : RdB (w1.alloc (.cells #[Value.int .i64 0, Value.int .i64 62, Value.func (.func 203) #[] #[], Value.func (.func 204) #[] #[], Value.func (.func 205) #[] #[], Value.func (.func 206) #[] #[]] 237)) R s p n := (hb2.block R (Array.getElem?_eq_some_iff.1 H.out).1).trans H.out
 obtain ⟨W2, hW2⟩ : ∃ W, w1.alloc (.cells #[Value.int .i64 0, Value.int .i64 62, Value.func (.func 203) #[] #[], Value.func (.func 204) #[] #[], Value.func (.func 205) #[] #[], Value.func (.func 206) #[] #[]] 237) = W := ⟨_, rfl⟩
 obtain ⟨D, hD⟩ : ∃ D, w1.heap.size = D := ⟨_, rfl⟩
 rw [hW2] at hk2 h2 hb2
 rw [hD] at hk2
 have d5 : W2.cell? ⟨D, 5, none⟩ = some (.func (.func 206) #[] #[]) := by rw [cell_of_row W2 D 5 _ _ _ hk2]; rfl
 have c1 : W2.cell? ⟨R, 1, none⟩ = some (.int .i64 (p : Int)) := by rw [cell_of_row W2 R 1 _ _ _ h2]; rfl
 have HG2 := Lib.hid (HG.out W2 h2)
 have HB2 := Lib.hid hb2
 clear hb1 hk2 hb2 h2 HG
 unfold kindV fn
 go_wp2_with fail
 refine (HG2.out).mono ?_
 rintro x w3 ⟨rfl, h3, t3⟩
 have H3 := Lib.hid h3
 have T3 : Hid (Touch (fun b => b = R) w w3) := Lib.hid ((Touch.of_below (S := fun b => b = R) HB2.out).trans t3 fun _ _ h => h)
 obtain ⟨a, ha⟩ : ∃ a, accV s p 2 = a := ⟨_, rfl⟩
 rw [ha] at hacc ⊢
 have hai : (a : Int) ≤ 3 := by omega
 have HA := Lib.hid ha
 clear h3 t3 HG2 ha
 go_wp2_with fail
 go_ret2
 rw [HA.out]
 exact ⟨rfl, H3.out, T3.out⟩
end Go.Proofs.YtlmjefjimoghcaaGreat
