/- A part of the proofs of TopCounter and TopStrict: what the functions of the program do, each walked once, and plain laws about it. No condition. -/
import Derived.Test.YtlmjefjimoghcaaGreatA30
import Derived.Test.YtlmjefjimoghcaaGreatA28
namespace Go.Proofs.YtlmjefjimoghcaaGreat
set_option linter.unusedSimpArgs false
set_option linter.unnecessarySimpa false
set_option linter.unusedVariables false
open Go.RowKit
attribute [local go_sem ↓] Go.wp_at_zero Go.wp_at_succ
def put2 (l : List UInt8) (n v : Nat) : List UInt8 := wbit (wbit l n (v / 2)) (n + 1) (v % 2)
theorem fits_walk (v : Nat) (hv : v < 4) (w : World) : Calls Tryz.prog 203 #[.int .i64 2, .int .i64 (v : Int)] w fun e w' => e = .returned (.bool true) ∧ w = w' := by
 rcases (by omega : v = 0 ∨ v = 1 ∨ v = 2 ∨ v = 3) with rfl | rfl | rfl | rfl
 all_goals
  go_enter Tryz.func203, Tryz.ntmps203
  go_wp2_with fail
  go_ret
  exact ⟨rfl, rfl⟩
theorem size_walk (a b : Int) (w : World) : Calls Tryz.prog 204 #[.int .i64 a, .int .i64 b] w fun e w' => e = .returned (.int .i64 a) ∧ w = w' := by
 go_enter Tryz.func204, Tryz.ntmps204
 go_wp2_with fail
 go_ret
 exact ⟨rfl, rfl⟩
theorem WrO.below2 {w0 w w' : World} {B n : Nat} {l : List UInt8} (h : WrO w0 B l n w) (hb : Below w.heap.size w w') : WrO w0 B l n w' := by
 obtain ⟨⟨A, c, h1, h2, h3⟩, h4, h5, h6⟩ := h
 exact ⟨⟨A, c, (hb.block B (Array.getElem?_eq_some_iff.1 h1).1).trans h1, h2.below hb, h3⟩, h4, h5, bstep h6 (Nat.le_refl _) hb⟩
set_option maxRecDepth 100000 in
theorem put5_walk {w0 w : World} {B n : Nat} {l : List UInt8} (h : WrO w0 B l n w) (hn : n ≤ 100000) (v : Nat) (hv : v < 4) : Calls Tryz.prog 205 #[.pointer (some ⟨B, 0, none⟩), .int .i64 2, .int .i64 (v : Int)] w fun e w' => e = .returned (.tuple #[]) ∧ WrO w0 B (put2 l n v) (n + 2) w' := by
 have HP := Lib.hid (put_walk h hn v hv)
 clear h hv hn
 go_enter Tryz.func205, Tryz.ntmps205
 go_wp2_with fail
 refine (HP.out).mono ?_
 rintro x w1 ⟨rfl, h1⟩
 have H1 := Lib.hid h1
 clear h1
 go_wp2_with fail
 refine bodyPost_end (results_none rfl _ _ _) rfl ?_
 exact ⟨rfl, H1.out⟩
theorem new_wr (w0 w : World) (hb : Below w0.heap.size w0 w) : Calls Tryz.prog 155 #[] w fun e w' => ∃ B, e = .returned (.pointer (some ⟨B, 0, none⟩)) ∧ WrO w0 B [] 0 w' := by
 have HB := Lib.hid hb
 clear hb
 go_enter Tryz.func155, Tryz.ntmps155
 go_wp2_with fail
 go_ret
 have hb := HB.out
 exact ⟨w.heap.size, rfl, ⟨none, 0, heap_alloc_new _ _, .nil _ _ _ _, fun e => by cases e⟩, rfl, hb.size, hb.alloc hb.size _⟩
set_option maxRecDepth 1000000 in
set_option maxHeartbeats 1000000 in
theorem wput_walk {w0 w : World} {B n : Nat} {l : List UInt8} (h : WrO w0 B l n w) (hn : n ≤ 65534) (v : Nat) (hv : v < 4) : Calls Tryz.prog 156 #[.pointer (some ⟨B, 0, none⟩), .agg #[.int .i64 0, .int .i64 2, .int .i64 (v : Int)]] w fun e w' => e = .returned (.int .i64 0) ∧ WrO w0 B (put2 l n v) (n + 2) w' := by
 have H := Lib.hid h
 have HFi := Lib.hid fun w => find_walk w
 have HFt := Lib.hid fun w => fits_walk v hv w
 have HSz := Lib.hid fun a b w => size_walk a b w
 have HPt := Lib.hid fun (w : World) (h : WrO w0 B l n w) => put5_walk h (by omega) v hv
 have hni : (n : Int) ≤ 66000 := by omega
 clear h
 go_enter Tryz.func156, Tryz.ntmps156
 go_wp2_with fail
 refine (HFi.out _).mono ?_
 rintro x w1 ⟨rfl, hb1⟩
 have hp0 := heap_alloc_new w (.cells #[.int .i64 0, .int .i64 2, .int .i64 (v : Int)] 221)
 have hp1 := (hb1.block w.heap.size (by rw [World.size_alloc]; omega)).trans hp0
 have hp2 := (Below.heap_alloc w1 (.cells #[Value.int .i64 0, Value.int .i64 62, Value.func (.func 203) #[] #[], Value.func (.func 204) #[] #[], Value.func (.func 205) #[] #[], Value.func (.func 206) #[] #[]] 237) w.heap.size (Array.getElem?_eq_some_iff.1 hp1).1).trans hp1
 have hk2 := heap_alloc_new w1 (.cells #[Value.int .i64 0, Value.int .i64 62, Value.func (.func 203) #[] #[], Value.func (.func 204) #[] #[], Value.func (.func 205) #[] #[], Value.func (.func 206) #[] #[]] 237)
 have h2 := ((H.out.below2 ((Below.refl _ _).alloc (Nat.le_refl _) _)).below2 hb1).below2 ((Below.refl _ _).alloc (Nat.le_refl _) (.cells #[Value.int .i64 0, Value.int .i64 62, Value.func (.func 203) #[] #[], Value.func (.func 204) #[] #[], Value.func (.func 205) #[] #[], Value.func (.func 206) #[] #[]] 237))
 obtain ⟨W2, hW2⟩ : ∃ W, w1.alloc (.cells #[Value.int .i64 0, Value.int .i64 62, Value.func (.func 203) #[] #[], Value.func (.func 204) #[] #[], Value.func (.func 205) #[] #[], Value.func (.func 206) #[] #[]] 237) = W := ⟨_, rfl⟩
 obtain ⟨P, hP⟩ : ∃ P, w.heap.size = P := ⟨_, rfl⟩
 obtain ⟨D, hD⟩ : ∃ D, w1.heap.size = D := ⟨_, rfl⟩
 rw [hW2] at hp2 hk2 h2
 rw [hP] at hp2
 rw [hD] at hk2
 have p1 : W2.cell? ⟨P, 1, none⟩ = some (.int .i64 2) := by rw [cell_of_row W2 P 1 _ _ _ hp2]; rfl
 have p2 : W2.cell? ⟨P, 2, none⟩ = some (.int .i64 (v : Int)) := by rw [cell_of_row W2 P 2 _ _ _ hp2]; rfl
 have d2 : W2.cell? ⟨D, 2, none⟩ = some (.func (.func 203) #[] #[]) := by rw [cell_of_row W2 D 2 _ _ _ hk2]; rfl
 have d3 : W2.cell? ⟨D, 3, none⟩ = some (.func (.func 204) #[] #[]) := by rw [cell_of_row W2 D 3 _ _ _ hk2]; rfl
 have d4 : W2.cell? ⟨D, 4, none⟩ = some (.func (.func 205) #[] #[]) := by rw [cell_of_row W2 D 4 _ _ _ hk2]; rfl
 have bc : W2.cell? ⟨B, 1, none⟩ = some (.int .i64 (n : Int)) := by
  obtain ⟨A, c, hbb, _⟩ := h2.ex
  rw [cell_of_row W2 B 1 _ _ _ hbb]; rfl
 have H2 := Lib.hid h2
 have hwn : IntKind.i64.wrap ((n : Int) + 2) = (n : Int) + 2 := IntWalk.i64_in _ (by omega)
 clear hb1 hp0 hp1 hp2 hk2 h2
 unfold kindV fn
 go_wp2_with fail
 refine (HFt.out _).mono ?_
 rintro x _ ⟨rfl, rfl⟩
 go_wp2_with fail
 go_quiet (first | (go_at_call 204; refine qeq (HSz.out _ _ _)))
 obtain ⟨W3, hW3⟩ : ∃ W, W2.drewN nq = W := ⟨_, rfl⟩
 have h3 : WrO w0 B l n W3 := by rw [← hW3]; exact H2.out.below2 (below_drewN (.refl _ _) _)
 have H3 := Lib.hid (HPt.out W3 h3)
 have q1 : W3.cell? ⟨P, 1, none⟩ = some (.int .i64 2) := by rw [← hW3]; exact p1
 have q2 : W3.cell? ⟨P, 2, none⟩ = some (.int .i64 (v : Int)) := by rw [← hW3]; exact p2
 have q4 : W3.cell? ⟨D, 4, none⟩ = some (.func (.func 205) #[] #[]) := by rw [← hW3]; exact d4
 rw [hW3]
 have hdec : decide (65536 < (n : Int) + 2) = false := by simp; omega
 rw [hdec]
 clear hW3 p1 p2 d2 d3 d4 bc h3 hdec hwn hni hP hD hW2
 go_wp2_with fail
 refine (H3.out).mono ?_
 rintro x w4 ⟨rfl, h4⟩
 have H4 := Lib.hid h4
 clear h4 H3
 go_wp2_with fail
 go_ret
 exact ⟨rfl, H4.out⟩
set_option maxRecDepth 1000000 in
set_option maxHeartbeats 1000000 in
theorem wput_full {w0 w : World} {B n : Nat} {l : List UInt8} (h : WrO w0 B l n w) (hn : n = 65536) (v : Nat) (hv : v < 4) : Calls Tryz.prog 156 #[.pointer (some ⟨B, 0, none⟩), .agg #[.int .i64 0, .int .i64 2, .int .i64 (v : Int)]] w fun e w' => e = .returned (.int .i64 9) ∧ WrO w0 B l n w' := by
 have hgt := Nat.le_of_eq hn.symm
 replace hn := Nat.le_of_eq hn
 have H := Lib.hid h
 have HFi := Lib.hid fun w => find_walk w
 have HFt := Lib.hid fun w => fits_walk v hv w
 have HSz := Lib.hid fun a b w => size_walk a b w
 have HPt := Lib.hid fun (w : World) (h : WrO w0 B l n w) => put5_walk h (by omega) v hv
 have hni : (n : Int) ≤ 66000 := by omega
 clear h
 go_enter Tryz.func156, Tryz.ntmps156
 go_wp2_with fail
 refine (HFi.out _).mono ?_
 rintro x w1 ⟨rfl, hb1⟩
 have hp0 := heap_alloc_new w (.cells #[.int .i64 0, .int .i64 2, .int .i64 (v : Int)] 221)
 have hp1 := (hb1.block w.heap.size (by rw [World.size_alloc]; omega)).trans hp0
 have hp2 := (Below.heap_alloc w1 (.cells #[Value.int .i64 0, Value.int .i64 62, Value.func (.func 203) #[] #[], Value.func (.func 204) #[] #[], Value.func (.func 205) #[] #[], Value.func (.func 206) #[] #[]] 237) w.heap.size (Array.getElem?_eq_some_iff.1 hp1).1).trans hp1
 have hk2 := heap_alloc_new w1 (.cells #[Value.int .i64 0, Value.int .i64 62, Value.func (.func 203) #[] #[], Value.func (.func 204) #[] #[], Value.func (.func 205) #[] #[], Value.func (.func 206) #[] #[]] 237)
 have h2 := ((H.out.below2 ((Below.refl _ _).alloc (Nat.le_refl _) _)).below2 hb1).below2 ((Below.refl _ _).alloc (Nat.le_refl _) (.cells #[Value.int .i64 0, Value.int .i64 62, Value.func (.func 203) #[] #[], Value.func (.func 204) #[] #[], Value.func (.func 205) #[] #[], Value.func (.func 206) #[] #[]] 237))
 obtain ⟨W2, hW2⟩ : ∃ W, w1.alloc (.cells #[Value.int .i64 0, Value.int .i64 62, Value.func (.func 203) #[] #[], Value.func (.func 204) #[] #[], Value.func (.func 205) #[] #[], Value.func (.func 206) #[] #[]] 237) = W := ⟨_, rfl⟩
 obtain ⟨P, hP⟩ : ∃ P, w.heap.size = P := ⟨_, rfl⟩
 obtain ⟨D, hD⟩ : ∃ D, w1.heap.size = D := ⟨_, rfl⟩
 rw [hW2] at hp2 hk2 h2
 rw [hP] at hp2
 rw [hD] at hk2
 have p1 : W2.cell? ⟨P, 1, none⟩ = some (.int .i64 2) := by rw [cell_of_row W2 P 1 _ _ _ hp2]; rfl
 have p2 : W2.cell? ⟨P, 2, none⟩ = some (.int .i64 (v : Int)) := by rw [cell_of_row W2 P 2 _ _ _ hp2]; rfl
 have d2 : W2.cell? ⟨D, 2, none⟩ = some (.func (.func 203) #[] #[]) := by rw [cell_of_row W2 D 2 _ _ _ hk2]; rfl
 have d3 : W2.cell? ⟨D, 3, none⟩ = some (.func (.func 204) #[] #[]) := by rw [cell_of_row W2 D 3 _ _ _ hk2]; rfl
 have d4 : W2.cell? ⟨D, 4, none⟩ = some (.func (.func 205) #[] #[]) := by rw [cell_of_row W2 D 4 _ _ _ hk2]; rfl
 have bc : W2.cell? ⟨B, 1, none⟩ = some (.int .i64 (n : Int)) := by
  obtain ⟨A, c, hbb, _⟩ := h2.ex
  rw [cell_of_row W2 B 1 _ _ _ hbb]; rfl
 have H2 := Lib.hid h2
 have hwn : IntKind.i64.wrap ((n : Int) + 2) = (n : Int) + 2 := IntWalk.i64_in _ (by omega)
 clear hb1 hp0 hp1 hp2 hk2 h2
 unfold kindV fn
 go_wp2_with fail
 refine (HFt.out _).mono ?_
 rintro x _ ⟨rfl, rfl⟩
 go_wp2_with fail
 go_quiet (first | (go_at_call 204; refine qeq (HSz.out _ _ _)))
 obtain ⟨W3, hW3⟩ : ∃ W, W2.drewN nq = W := ⟨_, rfl⟩
 have h3 : WrO w0 B l n W3 := by rw [← hW3]; exact H2.out.below2 (below_drewN (.refl _ _) _)
 have H3 := Lib.hid (HPt.out W3 h3)
 have q1 : W3.cell? ⟨P, 1, none⟩ = some (.int .i64 2) := by rw [← hW3]; exact p1
 have q2 : W3.cell? ⟨P, 2, none⟩ = some (.int .i64 (v : Int)) := by rw [← hW3]; exact p2
 have q4 : W3.cell? ⟨D, 4, none⟩ = some (.func (.func 205) #[] #[]) := by rw [← hW3]; exact d4
 rw [hW3]
 have hdec : decide (65536 < (n : Int) + 2) = true := by simp; omega
 rw [hdec]
 have H4 := Lib.hid h3
 clear hW3 p1 p2 d2 d3 d4 bc h3 hdec hwn hni hP hD hW2 hgt
 go_wp2_with fail
 go_ret
 exact ⟨rfl, H4.out⟩
def Put1R (w0 : World) (B : Nat) (l : List UInt8) (n v : Nat) (i : Value) (wr : World) : Prop :=
 (i = .int .i64 0 ∧ WrO w0 B l n wr) ∨ (i = .int .i64 (-1) ∧ WrO w0 B (wbit l n (v % 2)) (n + 1) wr)
set_option maxRecDepth 100000 in
set_option maxHeartbeats 2000000 in
theorem put1_walk {w0 w : World} {B n : Nat} {l : List UInt8} (h : WrO w0 B l n w) (hn : n ≤ 100000) (v : Nat) (hv : v < 4) : Calls Tryz.prog 176 #[.pointer (some ⟨B, 0, none⟩), .int .i64 1, .int .i64 (v : Int)] w fun e w' => e = .returned (.tuple #[]) ∧ WrO w0 B (wbit l n (v % 2)) (n + 1) w' := by
 go_enter Tryz.func176, Tryz.ntmps176
 go_wp2_with fail
 go_loopw [6] (fun i wr => Put1R w0 B l n v i wr) (fun i _ => (intOf i + 1).toNat)
 case atStart => exact .inl ⟨rfl, h⟩
 case round =>
  rcases hrel with ⟨rfl, hst⟩ | ⟨rfl, hst⟩
  ·obtain ⟨N, hN⟩ : ∃ N : Nat, n = N := ⟨_, rfl⟩
   rw [hN] at hst
   obtain ⟨L, hL⟩ : ∃ L, l = L := ⟨_, rfl⟩
   rw [hL] at hst
   obtain ⟨⟨A, c, hb, ho, hne⟩, hlen, hge, hbe⟩ := hst
   have b0 : wr.cell? ⟨B, 0, none⟩ = some (.slice A L.length c) := by rw [cell_of_row wr B 0 _ _ _ hb]; rfl
   have b1 : wr.cell? ⟨B, 1, none⟩ = some (.int .i64 (N : Int)) := by rw [cell_of_row wr B 1 _ _ _ hb]; rfl
   have HNn : Hid (N ≤ 100010) := Lib.hid (by omega)
   have HNe := Lib.hid hN
   have HLe := Lib.hid hL
   clear hN hL
   by_cases h8 : N % 8 = 0
   ·have h8i : (N : Int).tmod 8 = 0 := by rw [tm8]; omega
    have hx := heap_alloc_new wr (.cells #[.int .u8 0] 5)
    have hox := ho.below ((Below.refl _ _).alloc (Nat.le_refl _) (.cells #[.int .u8 0] 5))
    obtain ⟨v', W3, hrun, hrow, hgr, hbl⟩ := push_byte (wr.alloc (.cells #[.int .u8 0] 5)) _ L L.length hox.row (by have := HNn.out; omega) wr.heap.size 0 hx
    obtain ⟨A3, c3, rfl⟩ := row_sl hrow
    obtain ⟨g, rfl⟩ := row_g (w0 := w0) (e := 5) ⟨hrow, fun g hg => by
     rcases hbl with e | ⟨e, _⟩
     ·exact hox.new g (e ▸ hg)
     ·rw [e] at hg; injection hg with hg; have := hbe.size; rw [World.size_alloc] at hg; omega⟩ (by omega)
    have hBl : B < wr.heap.size := (Array.getElem?_eq_some_iff.1 hb).1
    have hgB : g ≠ B := by
     rintro rfl
     rcases hbl with e | ⟨e, _⟩
     ·exact hne (e ▸ rfl)
     ·have e : some g = _ := e
      injection e with e; rw [World.size_alloc] at e; omega
    have hg0 : w0.heap.size ≤ g := by
     rcases hbl with e | ⟨e, _⟩
     ·exact hox.new g (e ▸ rfl)
     ·have e : some g = _ := e
      injection e with e; have := hbe.size; rw [World.size_alloc] at e; omega
    have hb3 : W3.heap[B]? = some (.cells #[.slice A L.length c, .int .i64 (N : Int)] 243 (0, 0)) := (hgr.block B (by rw [World.size_alloc]; omega) fun e => hne e.symm).trans ((Below.heap_alloc wr _ B hBl).trans hb)
    have hbe3 := below_grown (hbe.alloc hbe.size (.cells #[.int .u8 0] 5)) (by rw [World.size_alloc]; have := hbe.size; omega) hgr ho.new
    have e0 : W3.cell? ⟨B, 0, none⟩ = some (.slice A L.length c) := by rw [cell_of_row W3 B 0 _ _ _ hb3]; rfl
    have ef : ∀ i, W3.frozen? ⟨B, i, none⟩ = false := fun i => by simp [World.frozen?, hb3]
    have hset := heap_setCell_any W3 B 0 _ _ _ (.slice (some ⟨g, 0, none⟩) (L.length + 1) c3) hb3
    have ho4 := (⟨hrow, fun g' hg => by injection hg with hg; have hg : g = g' := hg; omega⟩ : OwnR w0 5 1 (.slice (some ⟨g, 0, none⟩) (L.length + 1) c3) (L.length + 1) (bcells (L ++ [0])) W3).frame (w' := W3.setCell ⟨B, 0, none⟩ (.slice (some ⟨g, 0, none⟩) (L.length + 1) c3)) (fun g' hg => Below.heap_setCell W3 ⟨B, 0, none⟩ _ g' (by injection hg with hg; have hg : g = g' := hg; show g' ≠ B; omega))
    have hpush : wpush L N = L ++ [0] := by unfold wpush; rw [if_pos h8]
    obtain ⟨W4, hW4⟩ : ∃ W, W3.setCell ⟨B, 0, none⟩ (.slice (some ⟨g, 0, none⟩) (L.length + 1) c3) = W := ⟨_, rfl⟩
    obtain ⟨l1, hl1⟩ : ∃ l, wpush L N = l := ⟨_, rfl⟩
    have hll : l1.length = L.length + 1 := by rw [← hl1, hpush]; simp
    have HPs : Hid (WrP w0 B l1 N W4) := Lib.hid ⟨⟨g, c3, by rw [← hW4, hll]; exact hset, by rw [← hW4, hll, ← hl1, hpush]; exact ho4, hgB⟩, by omega, hge, by rw [← hW4]; exact hbe3.setCell (p := ⟨B, 0, none⟩) hge _⟩
    have HW4 := Lib.hid hW4
    have HL1 := Lib.hid hl1
    have HRUN := Lib.hid hrun
    clear hb ho hne hlen hge hbe hx hox hrow hgr hbl hBl hgB hg0 hb3 hbe3 hset ho4 hpush hl1 hll hrun
    go_wp2_with (at_builtin; refine wpList_append_eq rfl _ _ _ rfl _ _ rfl rfl HRUN.out ?_)
    clear h8i
    obtain ⟨⟨g, c2, hb2, ho2, hg2⟩, hlen2, hge2, hbe2⟩ := HPs.out
    have d0 : (W4).cell? ⟨B, 0, none⟩ = some (.slice (some ⟨g, 0, none⟩) l1.length c2) := by rw [cell_of_row (W4) B 0 _ _ _ hb2]; rfl
    have d1 : (W4).cell? ⟨B, 1, none⟩ = some (.int .i64 (N : Int)) := by rw [cell_of_row (W4) B 1 _ _ _ hb2]; rfl
    have hqd := td8 N
    have hrd := tm8 N
    obtain ⟨q, hq⟩ : ∃ q : Nat, N / 8 = q := ⟨_, rfl⟩
    obtain ⟨r, hr⟩ : ∃ r : Nat, N % 8 = r := ⟨_, rfl⟩
    rw [hq] at hqd
    rw [hr] at hrd
    have hql : q < l1.length := by omega
    have hqi : (q : Int) < l1.length := by omega
    have hr8 : (r : Int) ≤ 7 := by omega
    obtain ⟨x, hx⟩ : ∃ x, l1.getD q 0 = x := ⟨_, rfl⟩
    have p := own_cell ho2 hql hx
    obtain ⟨k, hk⟩ : ∃ k : Nat, 7 - r = k := ⟨_, rfl⟩
    have hwr : IntKind.i64.wrap (7 - (r : Int)) = (k : Int) := (IntWalk.i64_in _ (by omega)).trans (by omega)
    have hbw := bit_lo hv
    obtain ⟨bt, hbt⟩ : ∃ bt : Nat, v % 2 = bt := ⟨_, rfl⟩
    rw [hbt] at hbw
    have HBt := Lib.hid hbt
    obtain ⟨hb5, hw5⟩ := wr_done (b := bt) hb2 ho2 hg2 hlen2 hge2 hbe2
    have hfz : ∀ i, (W4).frozen? ⟨g, i, none⟩ = false := fun i => ho2.row.frozenAt i
    rw [hq, hr, hx, hk] at hb5 hw5
    obtain ⟨W5, hW5⟩ : ∃ W5, ((W4).setCell ⟨g, q, none⟩ (.int .u8 ((wor x bt k).toNat : Int))).drew = W5 := ⟨_, rfl⟩
    rw [show ((W4).drew.setCell ⟨g, q, none⟩ (.int .u8 ((wor x bt k).toNat : Int))) = W5 from hW5] at hb5 hw5
    have j1 : W5.cell? ⟨B, 1, none⟩ = some (.int .i64 (N : Int)) := by rw [cell_of_row W5 B 1 _ _ _ hb5]; rfl
    have jf : ∀ i, W5.frozen? ⟨B, i, none⟩ = false := fun i => by simp [World.frozen?, hb5]
    obtain ⟨W6, hW6⟩ : ∃ W6, W5.setCell ⟨B, 1, none⟩ (.int .i64 ((N + 1 : Nat) : Int)) = W6 := ⟨_, rfl⟩
    rw [hW6] at hw5
    rw [show ((N + 1 : Nat) : Int) = (N : Int) + 1 by omega] at hW6
    have HW6 := Lib.hid hw5
    have hwn : IntKind.i64.wrap ((N : Int) + 1) = (N : Int) + 1 := IntWalk.i64_in _ (by have := HNn.out; omega)
    have hor := or_run x bt k
    rw [← shl_eq bt k (by omega) (by omega)] at hor
    have hwq : IntKind.i64.wrap (q : Int) = q := IntWalk.i64_in _ (by have := HNn.out; omega)
    have hwr2 : IntKind.i64.wrap (r : Int) = r := IntWalk.i64_in _ (by omega)
    clear hb2 ho2 hg2 hlen2 hge2 hbe2 hq hr hx hk hbt hb5 hw5
    go_upto_region 5 with (fail)
    go_still_tail 25, (by kernel_rfl)
    go_wp2_with fail
    have hz := HW6.out
    rw [← HBt.out, ← HL1.out, ← HLe.out, ← HNe.out] at hz
    have hz := Lib.hid hz
    clear HW6 HBt
    go_roundw
    case rel => exact .inr <| And.intro rfl hz.out
    case measure => exact (by decide)
   ·have h8i : ¬ (N : Int).tmod 8 = 0 := by rw [tm8]; omega
    obtain ⟨g, rfl⟩ := row_g ho (by omega)
    have hgB : g ≠ B := fun e => hne (congrArg some e)
    obtain ⟨l1, hl1⟩ : ∃ l, wpush L N = l := ⟨_, rfl⟩
    have hpush : wpush L N = L := by unfold wpush; rw [if_neg h8]
    have hle : L = l1 := by rw [← hl1, hpush]
    have HPs : Hid (WrP w0 B l1 N wr) := Lib.hid ⟨⟨g, c, by rw [← hle]; exact hb, by rw [← hle]; exact ho, hgB⟩, by rw [← hle]; omega, hge, hbe⟩
    have HL1 := Lib.hid hl1
    clear hb ho hne hlen hge hbe hgB hl1 hpush hle
    go_wp2_with fail
    clear h8i b0 b1
    obtain ⟨⟨g, c2, hb2, ho2, hg2⟩, hlen2, hge2, hbe2⟩ := HPs.out
    have d0 : (wr).cell? ⟨B, 0, none⟩ = some (.slice (some ⟨g, 0, none⟩) l1.length c2) := by rw [cell_of_row (wr) B 0 _ _ _ hb2]; rfl
    have d1 : (wr).cell? ⟨B, 1, none⟩ = some (.int .i64 (N : Int)) := by rw [cell_of_row (wr) B 1 _ _ _ hb2]; rfl
    have hqd := td8 N
    have hrd := tm8 N
    obtain ⟨q, hq⟩ : ∃ q : Nat, N / 8 = q := ⟨_, rfl⟩
    obtain ⟨r, hr⟩ : ∃ r : Nat, N % 8 = r := ⟨_, rfl⟩
    rw [hq] at hqd
    rw [hr] at hrd
    have hql : q < l1.length := by omega
    have hqi : (q : Int) < l1.length := by omega
    have hr8 : (r : Int) ≤ 7 := by omega
    obtain ⟨x, hx⟩ : ∃ x, l1.getD q 0 = x := ⟨_, rfl⟩
    have p := own_cell ho2 hql hx
    obtain ⟨k, hk⟩ : ∃ k : Nat, 7 - r = k := ⟨_, rfl⟩
    have hwr : IntKind.i64.wrap (7 - (r : Int)) = (k : Int) := (IntWalk.i64_in _ (by omega)).trans (by omega)
    have hbw := bit_lo hv
    obtain ⟨bt, hbt⟩ : ∃ bt : Nat, v % 2 = bt := ⟨_, rfl⟩
    rw [hbt] at hbw
    have HBt := Lib.hid hbt
    obtain ⟨hb5, hw5⟩ := wr_done (b := bt) hb2 ho2 hg2 hlen2 hge2 hbe2
    have hfz : ∀ i, (wr).frozen? ⟨g, i, none⟩ = false := fun i => ho2.row.frozenAt i
    rw [hq, hr, hx, hk] at hb5 hw5
    obtain ⟨W5, hW5⟩ : ∃ W5, ((wr).setCell ⟨g, q, none⟩ (.int .u8 ((wor x bt k).toNat : Int))).drew = W5 := ⟨_, rfl⟩
    rw [show ((wr).drew.setCell ⟨g, q, none⟩ (.int .u8 ((wor x bt k).toNat : Int))) = W5 from hW5] at hb5 hw5
    have j1 : W5.cell? ⟨B, 1, none⟩ = some (.int .i64 (N : Int)) := by rw [cell_of_row W5 B 1 _ _ _ hb5]; rfl
    have jf : ∀ i, W5.frozen? ⟨B, i, none⟩ = false := fun i => by simp [World.frozen?, hb5]
    obtain ⟨W6, hW6⟩ : ∃ W6, W5.setCell ⟨B, 1, none⟩ (.int .i64 ((N + 1 : Nat) : Int)) = W6 := ⟨_, rfl⟩
    rw [hW6] at hw5
    rw [show ((N + 1 : Nat) : Int) = (N : Int) + 1 by omega] at hW6
    have HW6 := Lib.hid hw5
    have hwn : IntKind.i64.wrap ((N : Int) + 1) = (N : Int) + 1 := IntWalk.i64_in _ (by have := HNn.out; omega)
    have hor := or_run x bt k
    rw [← shl_eq bt k (by omega) (by omega)] at hor
    have hwq : IntKind.i64.wrap (q : Int) = q := IntWalk.i64_in _ (by have := HNn.out; omega)
    have hwr2 : IntKind.i64.wrap (r : Int) = r := IntWalk.i64_in _ (by omega)
    clear hb2 ho2 hg2 hlen2 hge2 hbe2 hq hr hx hk hbt hb5 hw5
    go_upto_region 5 with (fail)
    go_still_tail 25, (by kernel_rfl)
    go_wp2_with fail
    have hz := HW6.out
    rw [← HBt.out, ← HL1.out, ← HLe.out, ← HNe.out] at hz
    have hz := Lib.hid hz
    clear HW6 HBt
    go_roundw
    case rel => exact .inr <| And.intro rfl hz.out
    case measure => exact (by decide)
  ·have HS := Lib.hid hst
   clear hst
   go_wp2_with fail
   refine bodyPost_end (results_none rfl _ _ _) rfl ?_
   exact ⟨rfl, HS.out⟩
theorem stop_walk {w0 w : World} {B n : Nat} {l : List UInt8} (h : WrO w0 B l n w) (hn : n ≤ 100000) : Calls Tryz.prog 176 #[.pointer (some ⟨B, 0, none⟩), .int .i64 1, .int .i64 1] w fun e w' => e = .returned (.tuple #[]) ∧ WrO w0 B (wbit l n 1) (n + 1) w' := put1_walk h hn 1 (by decide)
set_option maxRecDepth 100000 in
set_option maxHeartbeats 1000000 in
theorem wbytes_walk {w0 w : World} {B n : Nat} {l : List UInt8} (h : WrO w0 B l n w) (hn : n ≤ 65536) : Calls Tryz.prog 157 #[.pointer (some ⟨B, 0, none⟩)] w fun e w' => e = .returned (.string (sB (wbit l n 1))) ∧ Below w.heap.size w w' := by
 obtain ⟨⟨A, c, hb, ho, hne⟩, hlen, hge, hbe⟩ := h
 have hBl : B < w.heap.size := (Array.getElem?_eq_some_iff.1 hb).1
 have c0 : w.cell? ⟨B, 0, none⟩ = some (.slice A l.length c) := by rw [cell_of_row w B 0 _ _ _ hb]; rfl
 have c1 : w.cell? ⟨B, 1, none⟩ = some (.int .i64 (n : Int)) := by rw [cell_of_row w B 1 _ _ _ hb]; rfl
 have he0 := heap_alloc_new w.drew (.cells #[] 5)
 have hr0 : (w.drew.alloc (.cells #[] 5)).ownsRow 0 5 1 (.slice (some ⟨w.heap.size, 0, none⟩) 0 0) 0 [] := ⟨rfl, .inr ⟨w.heap.size, 0, #[], rfl, Nat.zero_le _, he0, Nat.le_refl _, Nat.zero_le _, rfl, rfl⟩⟩
 obtain ⟨A2, c2, W2, hrun, ho2, hb2⟩ : ∃ A2 c2 W2, (Builtin.append_ #[70, 70] 70 #[.slice (some ⟨w.heap.size, 0, none⟩) 0 0, .slice A l.length c]).run Tryz.prog (w.drew.alloc (.cells #[] 5)) = .ok (.slice A2 l.length c2) W2 ∧ OwnR w 5 1 (.slice A2 l.length c2) l.length (bcells l) W2 ∧ Below w.heap.size w W2 := by
  have hbb : Below w.heap.size w (w.drew.alloc (.cells #[] 5)) := ((Below.refl w.heap.size w).drew).alloc (Nat.le_refl _) _
  rcases Nat.eq_zero_or_pos l.length with h0 | h0
  ·have hz : l = [] := List.length_eq_zero_iff.1 h0
   subst hz
   exact ⟨_, _, _, append_zero _ 70 70 5 _ Tryz.underlying70 rfl _ 0 [] 1 hr0 A c, ⟨hr0, fun g hg => by injection hg with hg; have hg : w.heap.size = g := hg; omega⟩, hbb⟩
  ·obtain ⟨g, rfl⟩ := row_g ho h0
   have hox := ho.below hbb
   obtain ⟨v', w', hr, hrow, hg, hbl⟩ := append_at (P := Tryz.prog) (w.drew.alloc (.cells #[] 5)) 70 70 (e := 5) _ _ 1 _ Tryz.underlying70 rfl rfl rfl rfl rfl (by decide) _ 0 [] hr0 ⟨g, 0, none⟩ l.length c (bcells l) (by rw [bcells_length, Nat.mul_one]) (hox.row.cells rfl) (one_bc l) (by omega) (by decide) h0
   rw [Nat.zero_add, List.nil_append] at hrow
   obtain ⟨A', c', rfl⟩ := row_sl hrow
   refine ⟨A', c', w', hr, ⟨hrow, fun g hg2 => ?_⟩, below_grown hbb hbb.size hg fun g hg2 => ?_⟩
   ·rcases hbl with hbl | ⟨hbl, _⟩
    ·rw [hbl] at hg2; injection hg2 with hg2; have hg2 : w.heap.size = g := hg2; omega
    ·rw [hbl] at hg2; injection hg2 with hg2; have := hbb.size; omega
   ·injection hg2 with hg2; have hg2 : w.heap.size = g := hg2; omega
 have HRUN := Lib.hid hrun
 have hK : ∀ W, Below w.heap.size w W → (fun w' : World => w'.cell? ⟨B, 0, none⟩ = some (.slice A l.length c) ∧ w'.cell? ⟨B, 1, none⟩ = some (.int .i64 (n : Int))) W := fun W hW => ⟨(World.cell?_of_block (hW.block B hBl)).trans c0, (World.cell?_of_block (hW.block B hBl)).trans c1⟩
 have HK1 := Lib.hid (hK (w.drew.alloc (.cells #[] 5)) (((Below.refl w.heap.size w).drew).alloc (Nat.le_refl _) _))
 have HK2 := Lib.hid (hK W2 hb2)
 have HK3 := Lib.hid (hK (W2.alloc (.cells #[.slice A2 l.length c2, .int .i64 (n : Int)] 243)) (hb2.alloc hb2.size _))
 have HF : Hid (WrO w W2.heap.size l n (W2.alloc (.cells #[.slice A2 l.length c2, .int .i64 (n : Int)] 243))) := Lib.hid ⟨⟨A2, c2, heap_alloc_new _ _, ho2.below ((Below.refl _ _).alloc (Nat.le_refl _) _), fun e => by have := ho2.lt e; omega⟩, hlen, hb2.size, hb2.alloc hb2.size _⟩
 have HN := Lib.hid hn
 clear hb ho hne hlen hge hbe hBl he0 hr0 hrun ho2 hb2 hK hn
 go_enter Tryz.func157, Tryz.ntmps157
 go_upto_region 1 with (fail)
 refine wp_region_noPanic ?_
 refine wp_region_D 13 (fun w' : World => w'.cell? ⟨B, 0, none⟩ = some (.slice A l.length c) ∧ w'.cell? ⟨B, 1, none⟩ = some (.int .i64 (n : Int))) (by kernel_rfl) ⟨c0, c1⟩ (fun hU => ?_)
 have hC : (fun w' : World => w'.cell? ⟨B, 0, none⟩ = some (.slice A l.length c) ∧ w'.cell? ⟨B, 1, none⟩ = some (.int .i64 (n : Int))) w.drew := ⟨c0, c1⟩
 clear hU
 refine tk 1 5 12 rfl rfl (.inr hC) ?_
 simp only [Act.put, zA, zB, zC]
 refine tk 2 6 11 rfl rfl (.inr hC) ?_
 simp only [Act.put, zA, zB, zC]
 refine tk 3 7 10 rfl rfl (.inr hC) ?_
 simp only [Act.put, zA, zB, zC]
 refine tl 4 8 9 rfl rfl (.inr hC) ?_
 simp only [Act.put, zA, zB, zC]
 refine tk 6 10 8 rfl rfl (.inr hC) ?_
 simp only [Act.put, zA, zB, zC]
 refine tk 7 11 7 rfl rfl (.inr hC) ?_
 simp only [Act.put, zA, zB, zC]
 refine tk 8 12 6 rfl rfl (.inr hC) ?_
 simp only [Act.put, zA, zB, zC]
 refine tl 9 13 5 rfl rfl (.inr hC) ?_
 simp only [Act.put, zA, zB, zC]
 refine ry 4 [0] ?_
 refine rn rfl (fun K hK => ?_) ?_
 ·go_simp
  refine shut_C hK ?_ (fun hC => ?_)
  ·first
   | exact hC
   | exact HK1.out
   | exact HK2.out
   | exact HK3.out
  clear hK K
  try simp only [Act.put, zA, zB, zC]
  refine ry 3 [5] ?_
  refine rn rfl (fun K hK => ?_) ?_
  ·refine step_append_eq rfl (.tmp 4) (.tmp 8) 70 rfl _ _ _ _ rfl rfl HRUN.out ?_
   refine shut_C hK ?_ (fun hC => ?_)
   ·first
    | exact hC
    | exact HK1.out
    | exact HK2.out
    | exact HK3.out
   clear hK K
   try simp only [Act.put, zA, zB, zC]
   refine tk 10 14 2 rfl rfl (.inr hC) ?_
   simp only [Act.put, zA, zB, zC]
   refine ry 1 [11] ?_
   refine rn rfl (fun K hK => ?_) ?_
   ·go_simp
    refine shut_C hK ?_ (fun hC => ?_)
    ·first
     | exact hC
     | exact HK1.out
     | exact HK2.out
     | exact HK3.out
    clear hK K
    try simp only [Act.put, zA, zB, zC]
    refine tk 12 3 0 rfl rfl (.inr hC) ?_
    simp only [Act.put, zA, zB, zC]
    refine wpAnyD_done (by kernel_rfl) ?_ _
    refine NoPanic.normal ?_
    have hn9 := HN.out
    have HS := Lib.hid (stop_walk HF.out (by omega))
    obtain ⟨R, hR⟩ : ∃ R, W2.heap.size = R := ⟨_, rfl⟩
    rw [hR] at HS ⊢
    obtain ⟨W3, hW3⟩ : ∃ W, W2.alloc (.cells #[.slice A2 l.length c2, .int .i64 (n : Int)] 243) = W := ⟨_, rfl⟩
    rw [hW3] at HS ⊢
    clear hR hW3 hC hn9 c0 c1
    go_wp2_with fail
    refine (HS.out).mono ?_
    rintro x w4 ⟨rfl, h4⟩
    obtain ⟨⟨A4, c4, hb4, ho4, -⟩, -, -, hbe4⟩ := h4
    have k0 : w4.cell? ⟨R, 0, none⟩ = some (.slice A4 (wbit l n 1).length c4) := by rw [cell_of_row w4 R 0 _ _ _ hb4]; rfl
    have hstr := str_row ho4.row
    have HB4 := Lib.hid hbe4
    clear hb4 ho4 hbe4 HS
    go_wp2_with fail
    go_ret
    exact ⟨rfl, HB4.out⟩
   exact rz
  exact rz
 exact rz
theorem tz_b (x : UInt8) (hx : x ≠ 0) : (Lib.trailingZeros8 x.toNat : Int) ≤ 7 ∧ 0 ≤ (Lib.trailingZeros8 x.toNat : Int) := by
 have h : ∀ a : Fin 256, a.val ≠ 0 → (Lib.trailingZeros8 a.val : Int) ≤ 7 ∧ 0 ≤ (Lib.trailingZeros8 a.val : Int) := by decide +kernel
 exact h ⟨x.toNat, x.toNat_lt⟩ fun e => hx (UInt8.toNat_inj.1 e)
/-- how many bits a text of bits holds -/
def bitsN (s : List UInt8) : Int := 8 * (s.length : Int) - 1 - (Lib.trailingZeros8 (s.getD (s.length - 1) 0).toNat : Int)
def bitsOk (s : List UInt8) : Bool := decide (s ≠ []) && decide (s.getD (s.length - 1) 0 ≠ 0) && decide (bitsN s ≤ 65536)
def RdB (w : World) (R : Nat) (s : List UInt8) (p : Nat) (n : Int) : Prop := w.heap[R]? = some (.cells #[.string (sB s), .int .i64 (p : Int), .int .i64 n] 233 (0, 0))
theorem newbits_walk (s : List UInt8) (hs : s.length ≤ 100000) (w : World) : Calls Tryz.prog 144 #[.string (sB s)] w fun x w' => Below w.heap.size w w' ∧ if bitsOk s then ∃ R, w.heap.size ≤ R ∧ x = .returned (.tuple #[.pointer (some ⟨R, 0, none⟩), .int .i64 0]) ∧ RdB w' R s 0 (bitsN s) else x = .returned (.tuple #[.pointer none, .int .i64 12]) := by
 have hsz := sB_size s
 by_cases h0 : s = []
 ·have hk : bitsOk s = false := by subst h0; rfl
  rw [hk]
  have e : sB s = ⟨#[]⟩ := by rw [h0]; rfl
  rw [e]
  clear hk e hsz h0
  go_enter Tryz.func144, Tryz.ntmps144
  go_wp2_with fail
  go_ret2
  exact ⟨.refl _ _, rfl⟩
 ·have hlp : 0 < s.length := List.length_pos_iff.2 h0
  obtain ⟨m, hm⟩ : ∃ m, s.length - 1 = m := ⟨_, rfl⟩
  obtain ⟨x, hx⟩ : ∃ x, s.getD m 0 = x := ⟨_, rfl⟩
  have hmi : (s.length : Int) - 1 = m := by omega
  have hne : ((sB s).toList == ([] : List UInt8)) = false := by
   rw [sB_toList]; simpa using h0
  have hwm : IntKind.i64.wrap ((s.length : Int) - 1) = (m : Int) := (IntWalk.i64_in _ (by omega)).trans hmi
  have hgx : ∀ h, (sB s)[m]'h = x := fun h => by
   rw [← hx, List.getD_eq_getElem?_getD, List.getElem?_eq_getElem (by omega)]; rfl
  have hbn : bitsN s = 8 * (s.length : Int) - 1 - (Lib.trailingZeros8 x.toNat : Int) := by unfold bitsN; rw [hm, hx]
  by_cases hx0 : x = 0
  ·have hk : bitsOk s = false := by unfold bitsOk; rw [hm, hx, hx0]; simp
   rw [hk]
   subst hx0
   clear hk hbn h0 hx
   go_enter Tryz.func144, Tryz.ntmps144
   go_wp2_with fail
   go_ret2
   exact ⟨.refl _ _, rfl⟩
  ·obtain ⟨ht1, ht2⟩ := tz_b x hx0
   have HT := Lib.hid (Tryz.bits_TrailingZeros8 (x.toNat : Int) w (by omega) (by have := x.toNat_lt; omega))
   rw [Int.toNat_natCast] at HT
   obtain ⟨t, ht⟩ : ∃ t : Nat, Lib.trailingZeros8 x.toNat = t := ⟨_, rfl⟩
   rw [ht] at HT hbn ht1 ht2
   have hxz : ¬ (x.toNat : Int) = 0 := fun e => hx0 (UInt8.toNat_inj.1 (by show x.toNat = 0; omega))
   have hxb : ((x.toNat : Int) == 0) = false := by simpa using hxz
   by_cases hbig : bitsN s ≤ 65536
   ·have hk : bitsOk s = true := by unfold bitsOk; rw [hm, hx, decide_eq_true h0, decide_eq_true hx0, decide_eq_true hbig]; rfl
    rw [hk, hbn]
    rw [hbn] at hbig
    clear hk hbn h0 hx ht hx0
    go_enter Tryz.func144, Tryz.ntmps144
    go_wp2_with fail
    refine (HT.out).mono ?_
    rintro y _ ⟨rfl, rfl⟩
    go_wp2_with fail
    go_ret2
    refine ⟨(Below.refl _ _).alloc (Nat.le_refl _) _, ?_⟩
    exact ⟨_, Nat.le_refl _, rfl, heap_alloc_new _ _⟩
   ·have hk : bitsOk s = false := by unfold bitsOk; rw [decide_eq_false hbig]; simp
    rw [hk]
    rw [hbn] at hbig
    clear hk hbn h0 hx ht hx0
    go_enter Tryz.func144, Tryz.ntmps144
    go_wp2_with fail
    refine (HT.out).mono ?_
    rintro y _ ⟨rfl, rfl⟩
    go_wp2_with fail
    go_ret2
    exact ⟨.refl _ _, rfl⟩
theorem left_walk {w : World} {R p : Nat} {n : Int} {s : List UInt8} (h : RdB w R s p n) (hp : (p : Int) ≤ n) (hn : n ≤ 100000) : Calls Tryz.prog 145 #[.pointer (some ⟨R, 0, none⟩)] w fun e w' => e = .returned (.int .i64 (n - p)) ∧ ∃ q, w' = w.drewN q := by
 have c1 : w.cell? ⟨R, 1, none⟩ = some (.int .i64 (p : Int)) := by rw [cell_of_row w R 1 _ _ _ h]; rfl
 have c2 : w.cell? ⟨R, 2, none⟩ = some (.int .i64 n) := by rw [cell_of_row w R 2 _ _ _ h]; rfl
 have hw : IntKind.i64.wrap (n - p) = n - p := IntWalk.i64_in _ (by omega)
 clear h
 go_enter Tryz.func145, Tryz.ntmps145
 go_upto_region 1 with (fail)
 go_quiet (fail)
 go_wp2_with fail
 go_ret
 exact ⟨rfl, _, rfl⟩
end Go.Proofs.YtlmjefjimoghcaaGreat
