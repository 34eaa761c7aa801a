/- A part of the proofs of TopCounter and TopStrict: what the functions of the program do, each walked once, and plain laws about it. No condition. -/
import Derived.Test.YtlmjefjimoghcaaGreatA24
namespace Go.Proofs.YtlmjefjimoghcaaGreat
set_option linter.unusedSimpArgs false
set_option linter.unnecessarySimpa false
set_option linter.unusedVariables false
open Go.RowKit
attribute [local go_sem ↓] Go.wp_at_zero Go.wp_at_succ
def detN : Nat → Clk → Int → Int → Int
 | 0, _, n, _ => n
 | k + 1, c, n, last => if atF c n ≤ last then detN k c (n + 1) last else n
def det0 (l : List Int) : Clk := ⟨l.getD 0 default, l.getD 1 default - l.getD 0 default, if 2 < l.length then l.getD 2 default - l.getD 1 default else l.getD 1 default - l.getD 0 default, 1⟩
def detF (l : List Int) : Clk := { det0 l with n := detN 4095 (det0 l) 1 (l.getD (l.length - 1) default) }
theorem atF_n (c : Clk) (n : Int) (i : Int) : atF { c with n := n } i = atF c i := rfl
theorem incB_at : ∀ (l : List Int) (last : Int) (i : Nat), incB last l = true → i < l.length → last < l.getD i default ∧ l.getD i default ≤ 1099511627776 ∧ (∀ j, i < j → j < l.length → l.getD i default < l.getD j default)
 | [], _, i, _, h => by simp at h
 | t :: r, last, i, h, hi => by
  unfold incB at h
  simp only [Bool.and_eq_true, Bool.not_eq_true', decide_eq_false_iff_not] at h
  obtain ⟨⟨h1, h2⟩, h3⟩ := h
  have h2' : t ≤ 1099511627776 := by have : MX = 1099511627776 := rfl; omega
  match i, hi with
  | 0, _ =>
   refine ⟨by simp; omega, by simpa using h2', fun j hj hjl => ?_⟩
   obtain ⟨m, rfl⟩ : ∃ m, j = m + 1 := ⟨j - 1, by omega⟩
   have := (incB_at r t m h3 (by simpa using hjl)).1
   simpa using this
  | i + 1, hi =>
   have hil : i < r.length := by simpa using hi
   obtain ⟨k1, k2, k3⟩ := incB_at r t i h3 hil
   refine ⟨by simp only [List.getD_cons_succ]; omega, by simpa using k2, fun j hj hjl => ?_⟩
   obtain ⟨m, rfl⟩ : ∃ m, j = m + 1 := ⟨j - 1, by omega⟩
   have := k3 m (by omega) (by simpa using hjl)
   simpa using this
theorem validT_b {l : List Int} (h : validT l = true) : l.length ≤ 4096 ∧ ∀ i, i < l.length → (0 ≤ l.getD i default ∧ l.getD i default ≤ 1099511627776) ∧ ∀ j, i < j → j < l.length → l.getD i default < l.getD j default := by
 unfold validT at h
 simp only [Bool.and_eq_true, decide_eq_true_eq] at h
 refine ⟨h.2, fun i hi => ?_⟩
 obtain ⟨h1, h2, h3⟩ := incB_at l (-1) i h.1 hi
 exact ⟨⟨by omega, h2⟩, h3⟩
theorem det0_b {l : List Int} (h : validT l = true) (h2 : 2 ≤ l.length) : ClkB (det0 l) ∧ 1 ≤ (det0 l).f ∧ 1 ≤ (det0 l).g := by
 obtain ⟨hl, hv⟩ := validT_b h
 have a0 := hv 0 (by omega)
 have a1 := hv 1 (by omega)
 have a01 := a0.2 1 (by decide) (by omega)
 have hf : 1 ≤ (det0 l).f ∧ (det0 l).f ≤ 1099511627776 := by show 1 ≤ l.getD 1 default - l.getD 0 default ∧ l.getD 1 default - l.getD 0 default ≤ _; omega
 have hg : 1 ≤ (det0 l).g ∧ (det0 l).g ≤ 1099511627776 := by
  unfold det0
  simp only
  split
  ·rename_i h3
   have a2 := hv 2 h3
   have a12 := a1.2 2 (by decide) h3
   omega
  ·omega
 exact ⟨⟨a0.1, ⟨by omega, hf.2⟩, ⟨by omega, hg.2⟩⟩, hf.1, hg.1⟩
theorem cell_ob {w w' : World} (b o : Nat) (h : w'.heap[b]? = w.heap[b]?) : w'.cell? ⟨b, o, none⟩ = w.cell? ⟨b, o, none⟩ := World.cell?_of_block h
structure DetI (w : World) (c : Clk) (D R : Nat) (k : Nat) (wr : World) : Prop where
 blk : wr.heap[D]? = some (.cells #[.int .i64 c.s, .int .i64 c.f, .int .i64 c.g, .int .i64 (k : Int)] 23 (0, 0))
 res : wr.heap[R]? = some (.cells #[.int .i64 0, .int .i64 0, .int .i64 0, .int .i64 0] 23 (0, 0))
 below : Below w.heap.size w wr
def DetR (w : World) (c : Clk) (D R : Nat) (last : Int) (wr : World) : Prop := ∃ k : Nat, 1 ≤ k ∧ k ≤ 4096 ∧ detN (4096 - k) c (k : Int) last = detN 4095 c 1 last ∧ DetI w c D R k wr
def ckM (D : Nat) (wr : World) : Nat := match wr.cell? ⟨D, 3, none⟩ with
 | some (.int _ t) => (4096 - t).toNat
 | _ => 0
set_option maxRecDepth 100000 in
set_option maxHeartbeats 4000000 in
theorem detect_walk (l : List Int) (hv : validT l = true) (h2 : 2 ≤ l.length) (w : World) (A : Option Addr) (c : Nat) (hF : InI w A l) : Calls Tryz.prog 80 #[.slice A l.length c] w fun e w' => e = .returned (detF l).val ∧ Below w.heap.size w w' := by
 obtain ⟨hl4, hvb⟩ := validT_b hv
 have HF := Lib.hid hF
 have HV := Lib.hid fun W (hb : Below w.heap.size w W) => validT_walk l (by omega) W A c (hF.mono hb) true hv
 obtain ⟨a, rfl, c0⟩ := hF.at (.refl _ _) (show 0 < l.length by omega)
 obtain ⟨a', ha', c1⟩ := hF.at (.refl _ _) (show 1 < l.length by omega)
 injection ha' with ha'
 rw [← ha'] at c1
 obtain ⟨x0, hx0⟩ : ∃ x, l.getD 0 default = x := ⟨_, rfl⟩
 obtain ⟨x1, hx1⟩ : ∃ x, l.getD 1 default = x := ⟨_, rfl⟩
 have b0 := hvb 0 (by omega)
 have b1 := hvb 1 (by omega)
 rw [hx0] at c0 b0
 rw [hx1] at c1 b1
 have e0 : a.add 0 = a := by simp [Addr.add]
 rw [e0] at c0
 have e1 : a.add 1 = ⟨a.block, a.off + 1, none⟩ := by simp [Addr.add]
 rw [e1] at c1
 have h0l : 0 < l.length := by omega
 have h1l : (1 : Int) < l.length := by omega
 have b0' := b0.1
 have b1' := b1.1
 have hli : (2 : Int) ≤ l.length := by omega
 have hli4 : (l.length : Int) ≤ 4096 := by omega
 have HA0 : Hid (a.block < w.heap.size) := Lib.hid (World.block_lt_of_cell? w _ c0)
 have hw1 : IntKind.i64.wrap (x1 - x0) = x1 - x0 := IntWalk.i64_in _ (by omega)
 obtain ⟨m, hm⟩ : ∃ m, l.length - 1 = m := ⟨_, rfl⟩
 obtain ⟨am, ham, cm⟩ := hF.at (.refl _ _) (show m < l.length by omega)
 injection ham with ham
 rw [← ham] at cm
 obtain ⟨last, hlast⟩ : ∃ last, l.getD m default = last := ⟨_, rfl⟩
 rw [hlast] at cm
 have HLast := Lib.hid cm
 have HLe : Hid (l.getD (l.length - 1) default = last) := Lib.hid (by rw [hm]; exact hlast)
 have hwm : IntKind.i64.wrap ((l.length : Int) - 1) = (m : Int) := by rw [IntWalk.i64_in _ (by omega)]; omega
 have hml : m < l.length := by omega
 have hmli : (m : Int) < l.length := by omega
 have HX := Lib.hid (And.intro hx0 hx1)
 have HDb := Lib.hid (det0_b hv h2)
 have HAt2 : Hid (2 < l.length → w.cell? ⟨a.block, a.off + 2, none⟩ = some (.int .i64 (l.getD 2 default))) := Lib.hid fun h => by
  obtain ⟨a3, ha3, c3⟩ := hF.at (.refl _ _) h
  injection ha3 with ha3
  rw [← ha3, show a.add 2 = ⟨a.block, a.off + 2, none⟩ by simp [Addr.add]] at c3
  exact c3
 have HBd : Hid (∀ i, i < l.length → 0 ≤ l.getD i default ∧ l.getD i default ≤ 1099511627776) := Lib.hid fun i hi => (hvb i hi).1
 clear hF b0 b1 ha' e0 e1 hvb hm ham cm hlast hx0 hx1
 go_enter Tryz.func80, Tryz.ntmps80
 go_wp2_with fail
 refine (HV.out _ ((Below.refl w.heap.size w).alloc (Nat.le_refl _) _)).mono ?_
 rintro x _ ⟨rfl, rfl⟩
 obtain ⟨W1, hW1⟩ : ∃ W, w.alloc (.cells #[.int .i64 0, .int .i64 0, .int .i64 0, .int .i64 0] 23) = W := ⟨_, rfl⟩
 obtain ⟨R, hR⟩ : ∃ R, w.heap.size = R := ⟨_, rfl⟩
 have HB1 : Hid (Below w.heap.size w W1) := Lib.hid (by rw [← hW1]; exact (Below.refl _ _).alloc (Nat.le_refl _) _)
 have HRs : Hid (W1.heap[R]? = some (.cells #[.int .i64 0, .int .i64 0, .int .i64 0, .int .i64 0] 23 (0, 0))) := Lib.hid (by rw [← hW1, ← hR]; exact heap_alloc_new _ _)
 have q0 : W1.cell? a = some (.int .i64 x0) := (World.cell?_of_block (HB1.out.block _ HA0.out)).trans c0
 have q1 : W1.cell? ⟨a.block, a.off + 1, none⟩ = some (.int .i64 x1) := (cell_ob _ _ (HB1.out.block _ HA0.out)).trans c1
 have HA1 : Hid (a.block < W1.heap.size) := Lib.hid (Nat.lt_of_lt_of_le HA0.out HB1.out.size)
 have HRR := Lib.hid hR
 rw [hW1, hR]
 clear hW1 hR c0 c1
 have c0 := q0
 have c1 := q1
 clear q0 q1
 have HKp : Hid (∀ o, (W1.alloc o).drew.cell? a = some (.int .i64 x0) ∧ (W1.alloc o).drew.cell? ⟨a.block, a.off + 1, none⟩ = some (.int .i64 x1)) := Lib.hid fun o => ⟨(World.cell?_of_block (w := W1) (w' := (W1.alloc o).drew) (Below.heap_alloc W1 o _ HA1.out)).trans c0, (cell_ob (w := W1) (w' := (W1.alloc o).drew) _ _ (Below.heap_alloc W1 o _ HA1.out)).trans c1⟩
 go_upto_region 3 with (fail)
 refine wp_region_noPanic ?_
 refine wp_region_D 13 (fun w' => w'.cell? a = some (.int .i64 x0) ∧ w'.cell? ⟨a.block, a.off + 1, none⟩ = some (.int .i64 x1)) (by kernel_rfl) ⟨c0, c1⟩ (fun hU => ?_)
 have hC : (fun w' : World => w'.cell? a = some (.int .i64 x0) ∧ w'.cell? ⟨a.block, a.off + 1, none⟩ = some (.int .i64 x1)) W1.drew := ⟨c0, c1⟩
 clear hU
 refine tk 0 13 12 rfl rfl (.inr hC) ?_
 simp only [Act.put, zA, zB, zC]
 refine tk 1 14 11 rfl rfl (.inr hC) ?_
 simp only [Act.put, zA, zB, zC]
 refine tl 2 15 10 rfl rfl (.inr hC) ?_
 simp only [Act.put, zA, zB, zC]
 refine tk 3 16 9 rfl rfl (.inr hC) ?_
 simp only [Act.put, zA, zB, zC]
 refine tk 4 17 8 rfl rfl (.inr hC) ?_
 simp only [Act.put, zA, zB, zC]
 refine tl 5 18 7 rfl rfl (.inr hC) ?_
 simp only [Act.put, zA, zB, zC]
 refine tk 6 19 6 rfl rfl (.inr hC) ?_
 simp only [Act.put, zA, zB, zC]
 refine tk 7 20 5 rfl rfl (.inr hC) ?_
 simp only [Act.put, zA, zB, zC]
 refine tl 8 21 4 rfl rfl (.inr hC) ?_
 simp only [Act.put, zA, zB, zC]
 refine tk 9 22 3 rfl rfl (.inr hC) ?_
 simp only [Act.put, zA, zB, zC]
 refine tk 10 23 2 rfl rfl (.inr hC) ?_
 simp only [Act.put, zA, zB, zC]
 refine ry 1 [11] ?_
 refine rn rfl (fun K hK => ?_) ?_
 ·go_simp
  refine shut_C hK ?_ (fun hC => ?_)
  ·first
   | exact hC
   | exact HKp.out _
  clear hK K
  try simp only [Act.put, zA, zB, zC]
  refine ry 0 [12] ?_
  refine rn rfl (fun K hK => ?_) ?_
  ·go_simp
   refine shut_C hK ?_ (fun hC => ?_)
   ·first
    | exact hC
    | exact HKp.out _
   clear hK K
   try simp only [Act.put, zA, zB, zC]
   refine wpAnyD_done (by kernel_rfl) ?_ _
   refine NoPanic.normal ?_
   obtain ⟨W2, hW2⟩ : ∃ W, (W1.alloc (.cells #[.int .i64 x0, .int .i64 (x1 - x0), .int .i64 0, .int .i64 1] 23)).drew = W := ⟨_, rfl⟩
   obtain ⟨D, hD⟩ : ∃ D, W1.heap.size = D := ⟨_, rfl⟩
   have hRl := (Array.getElem?_eq_some_iff.1 HRs.out).1
   have hB2 : Below w.heap.size w W2 := by rw [← hW2]; exact (HB1.out.alloc HB1.out.size _).drew
   have hD2 : W2.heap[D]? = some (.cells #[.int .i64 x0, .int .i64 (x1 - x0), .int .i64 0, .int .i64 1] 23 (0, 0)) := by rw [← hW2, ← hD]; exact heap_alloc_new _ _
   have hR2 : W2.heap[R]? = some (.cells #[.int .i64 0, .int .i64 0, .int .i64 0, .int .i64 0] 23 (0, 0)) := by rw [← hW2]; exact (Below.heap_alloc W1 _ R hRl).trans HRs.out
   have HDR : Hid (R < D) := Lib.hid (by rw [← hD]; exact hRl)
   have hk := HKp.out (.cells #[.int .i64 x0, .int .i64 (x1 - x0), .int .i64 0, .int .i64 1] 23)
   rw [hW2] at hk ⊢
   rw [hD]
   clear c0 c1 hC hRl hW2 hD
   have c1 := hk.2
   have d1 : W2.cell? ⟨D, 1, none⟩ = some (.int .i64 (x1 - x0)) := by rw [cell_of_row W2 D 1 _ _ _ hD2]; rfl
   have d2 : W2.cell? ⟨D, 2, none⟩ = some (.int .i64 0) := by rw [cell_of_row W2 D 2 _ _ _ hD2]; rfl
   have df : ∀ i, W2.frozen? ⟨D, i, none⟩ = false := fun i => by simp [World.frozen?, hD2]
   have hset := heap_setCell_any W2 D 2 _ _ _ (.int .i64 (x1 - x0)) hD2
   have hRD := HDR.out
   have hR3 : (W2.setCell ⟨D, 2, none⟩ (.int .i64 (x1 - x0))).heap[R]? = _ := (Below.heap_setCell W2 ⟨D, 2, none⟩ _ R (by show R ≠ D; omega)).trans hR2
   have hRw := HRR.out
   have hB3 : Below w.heap.size w (W2.setCell ⟨D, 2, none⟩ (.int .i64 (x1 - x0))) := hB2.setCell (p := ⟨D, 2, none⟩) (by show _ ≤ D; omega) _
   have haD : a.block ≠ D := by have := HA0.out; omega
   have c1' : (W2.setCell ⟨D, 2, none⟩ (.int .i64 (x1 - x0))).cell? ⟨a.block, a.off + 1, none⟩ = some (.int .i64 x1) := (cell_ob _ _ (Below.heap_setCell W2 ⟨D, 2, none⟩ _ a.block haD)).trans c1
   by_cases h3l : 2 < l.length
   ·have h3i : (2 : Int) < l.length := by omega
    obtain ⟨x2, hx2⟩ : ∃ x, l.getD 2 default = x := ⟨_, rfl⟩
    have hcx := HAt2.out h3l
    rw [hx2] at hcx
    have b2 := HBd.out 2 h3l
    rw [hx2] at b2
    have hb20 := b2.1
    have hb21 := b2.2
    have HD0 : Hid (det0 l = ⟨x0, x1 - x0, x2 - x1, 1⟩) := Lib.hid (by unfold det0; rw [if_pos h3l, HX.out.1, HX.out.2, hx2])
    obtain ⟨W3, hW3⟩ : ∃ W, W2.setCell ⟨D, 2, none⟩ (.int .i64 (x1 - x0)) = W := ⟨_, rfl⟩
    rw [hW3] at hset hR3 hB3 c1'
    have c2' : W3.cell? ⟨a.block, a.off + 2, none⟩ = some (.int .i64 x2) := (cell_ob (w := w) _ _ (hB3.block _ HA0.out)).trans hcx
    have hset' : W3.heap[D]? = some (.cells #[.int .i64 x0, .int .i64 (x1 - x0), .int .i64 (x1 - x0), .int .i64 1] 23 (0, 0)) := hset
    have d2' : W3.cell? ⟨D, 2, none⟩ = some (.int .i64 (x1 - x0)) := by rw [cell_of_row W3 D 2 _ _ _ hset']; rfl
    have df' : ∀ i, W3.frozen? ⟨D, i, none⟩ = false := fun i => by simp [World.frozen?, hset']
    have hset2 := heap_setCell_any W3 D 2 _ _ _ (.int .i64 (x2 - x1)) hset'
    have HI2 : Hid (DetI w ⟨x0, x1 - x0, x2 - x1, 1⟩ D R 1 (W3.setCell ⟨D, 2, none⟩ (.int .i64 (x2 - x1))).drew) := Lib.hid ⟨hset2, (Below.heap_setCell W3.drew ⟨D, 2, none⟩ _ R (by show R ≠ D; omega)).trans hR3, hB3.drew.setCell (p := ⟨D, 2, none⟩) (by show _ ≤ D; omega) _⟩
    have HW3 := Lib.hid hW3
    have hwx : IntKind.i64.wrap (x2 - x1) = x2 - x1 := IntWalk.i64_in _ (by omega)
    clear hset hR3 hB3 hB2 hD2 hR2 hk haD hRD hRw hx2 hcx b2 hset' hset2 hW3
    go_upto_region 6 with (fail)
    rw [HW3.out]
    go_still_tail 8, (by kernel_rfl)
    go_wp2_with fail
    obtain ⟨W4, hW4⟩ : ∃ W, (W3.setCell ⟨D, 2, none⟩ (.int .i64 (x2 - x1))).drew = W := ⟨_, rfl⟩
    rw [hW4] at HI2 ⊢
    clear hW4 c2' d2' df' c1' hb20 hb21 hwx c1 d1 d2 df
    obtain ⟨W3, hW3⟩ : ∃ W, W4 = W := ⟨_, rfl⟩
    rw [hW3] at HI2 ⊢
    clear hW3
    obtain ⟨g, hg⟩ : ∃ g, (x2 - x1) = g := ⟨_, rfl⟩
    have HI2 : Hid (DetI w ⟨x0, x1 - x0, g, 1⟩ D R 1 W3) := Lib.hid (by rw [← hg]; exact HI2.out)
    have HDet : Hid (det0 l = ⟨x0, x1 - x0, g, 1⟩) := Lib.hid (by
     have := HD0.out
     rw [this, ← hg])
    have HCB : Hid (ClkB ⟨x0, x1 - x0, g, 1⟩) := Lib.hid (by rw [← HDet.out]; exact HDb.out.1)
    clear hg
    go_loopw [] (fun wr => DetR w ⟨x0, x1 - x0, g, 1⟩ D R last wr) (fun wr => ckM D wr)
    case atStart => exact ⟨1, Nat.le_refl _, by decide, rfl, HI2.out⟩
    case round =>
     obtain ⟨k, hk1, hk4, hdn, hI⟩ := hrel
     have HI := Lib.hid hI
     have HDn := Lib.hid hdn
     have HDl : Hid (D < wr.heap.size) := Lib.hid (Array.getElem?_eq_some_iff.1 hI.blk).1
     have HRl : Hid (R < wr.heap.size) := Lib.hid (Array.getElem?_eq_some_iff.1 hI.res).1
     have d0 : wr.cell? ⟨D, 0, none⟩ = some (.int .i64 x0) := by rw [cell_of_row wr D 0 _ _ _ hI.blk]; rfl
     have d1 : wr.cell? ⟨D, 1, none⟩ = some (.int .i64 (x1 - x0)) := by rw [cell_of_row wr D 1 _ _ _ hI.blk]; rfl
     have d2 : wr.cell? ⟨D, 2, none⟩ = some (.int .i64 g) := by rw [cell_of_row wr D 2 _ _ _ hI.blk]; rfl
     have d3 : wr.cell? ⟨D, 3, none⟩ = some (.int .i64 (k : Int)) := by rw [cell_of_row wr D 3 _ _ _ hI.blk]; rfl
     have dm : wr.cell? (a.add m) = some (.int .i64 last) := (World.cell?_of_block (hI.below.block _ (by rw [add_block]; exact HA0.out))).trans HLast.out
     have HLl : Hid ((a.add m).block < wr.heap.size) := Lib.hid (by rw [add_block]; exact Nat.lt_of_lt_of_le HA0.out hI.below.size)
     have hkm : ckM D wr = 4096 - k := by unfold ckM; rw [d3]; simp only; omega
     have HKm := Lib.hid hkm
     clear hdn hI hkm
     by_cases hk : k < 4096
     ·have hki : (k : Int) < 4096 := by omega
      have hki0 : (0 : Int) ≤ k := by omega
      obtain ⟨t, ht⟩ : ∃ t, atF ⟨x0, x1 - x0, g, (k : Int)⟩ (k : Int) = t := ⟨_, rfl⟩
      have hat := fun w => at_walk ⟨x0, x1 - x0, g, (k : Int)⟩ ⟨HCB.out.s, HCB.out.f, HCB.out.g⟩ (k : Int) (by omega) (by omega) w
      rw [ht] at hat
      have HAt : Hid (∀ w : World, Calls Tryz.prog 32 #[.agg #[.int .i64 x0, .int .i64 (x1 - x0), .int .i64 g, .int .i64 (k : Int)], .int .i64 (k : Int)] w fun e w' => e = .returned (.int .i64 t) ∧ Below w.heap.size w w') := Lib.hid hat
      have HSt : Hid (detN (4096 - k) ⟨x0, x1 - x0, g, 1⟩ (k : Int) last = if t ≤ last then detN (4096 - (k + 1)) ⟨x0, x1 - x0, g, 1⟩ ((k + 1 : Nat) : Int) last else (k : Int)) := Lib.hid (by
       rw [show 4096 - k = (4096 - (k + 1)) + 1 by omega, ← ht]; rfl)
      clear ht hat
      by_cases htl : t ≤ last
      ·go_upto_region 7 with (fail)
       refine wp_region_noPanic ?_
       refine wp_region_D 16 (fun w' => w'.cell? ⟨D, 0, none⟩ = some (.int .i64 x0) ∧ w'.cell? ⟨D, 1, none⟩ = some (.int .i64 (x1 - x0)) ∧ w'.cell? ⟨D, 2, none⟩ = some (.int .i64 g) ∧ w'.cell? ⟨D, 3, none⟩ = some (.int .i64 (k : Int)) ∧ w'.cell? (a.add m) = some (.int .i64 last)) (by kernel_rfl) ⟨d0, d1, d2, d3, dm⟩ (fun hU => ?_)
       have hC : (fun w' : World => w'.cell? ⟨D, 0, none⟩ = some (.int .i64 x0) ∧ w'.cell? ⟨D, 1, none⟩ = some (.int .i64 (x1 - x0)) ∧ w'.cell? ⟨D, 2, none⟩ = some (.int .i64 g) ∧ w'.cell? ⟨D, 3, none⟩ = some (.int .i64 (k : Int)) ∧ w'.cell? (a.add m) = some (.int .i64 last)) wr.drew := ⟨d0, d1, d2, d3, dm⟩
       clear hU
       refine tk 0 38 15 rfl rfl (.inr hC) ?_
       simp only [Act.put, zA, zB, zC]
       refine tl 1 39 14 rfl rfl (.inr hC) ?_
       simp only [Act.put, zA, zB, zC]
       refine tk 2 40 13 rfl rfl (.inr hC) ?_
       simp only [Act.put, zA, zB, zC]
       refine tk 3 41 12 rfl rfl (.inr hC) ?_
       simp only [Act.put, zA, zB, zC]
       refine tl 4 42 11 rfl rfl (.inr hC) ?_
       simp only [Act.put, zA, zB, zC]
       refine tk 5 43 10 rfl rfl (.inr hC) ?_
       simp only [Act.put, zA, zB, zC]
       refine tl 6 44 9 rfl rfl (.inr hC) ?_
       simp only [Act.put, zA, zB, zC]
       refine tk 8 46 8 rfl rfl (.inr hC) ?_
       simp only [Act.put, zA, zB, zC]
       refine tk 9 47 7 rfl rfl (.inr hC) ?_
       simp only [Act.put, zA, zB, zC]
       refine tk 10 48 6 rfl rfl (.inr hC) ?_
       simp only [Act.put, zA, zB, zC]
       refine tk 11 49 5 rfl rfl (.inr hC) ?_
       simp only [Act.put, zA, zB, zC]
       refine tk 12 50 4 rfl rfl (.inr hC) ?_
       simp only [Act.put, zA, zB, zC]
       refine tl 13 51 3 rfl rfl (.inr hC) ?_
       simp only [Act.put, zA, zB, zC]
       refine ry 2 [7] ?_
       refine rn rfl (fun K hK => ?_) ?_
       ·go_simp
        go_at_call 32
        with_reducible refine (HAt.out _).mono ?_
        rintro x w4 ⟨rfl, hb4⟩
        have HB4 := Lib.hid hb4
        clear hb4
        go_wp2_with fail
        refine shut_C hK ?_ (fun hC => ?_)
        ·exact ⟨(cell_ob _ _ (HB4.out.block D HDl.out)).trans hC.1, (cell_ob _ _ (HB4.out.block D HDl.out)).trans hC.2.1, (cell_ob _ _ (HB4.out.block D HDl.out)).trans hC.2.2.1, (cell_ob _ _ (HB4.out.block D HDl.out)).trans hC.2.2.2.1, (World.cell?_of_block (HB4.out.block _ HLl.out)).trans hC.2.2.2.2⟩
        clear hK K
        try simp only [Act.put, zA, zB, zC]
        refine tk 14 52 1 rfl rfl (.inr hC) ?_
        simp only [Act.put, zA, zB, zC]
        refine tk 15 53 0 rfl rfl (.inr hC) ?_
        simp only [Act.put, zA, zB, zC]
        refine wpAnyD_done (by kernel_rfl) ?_ _
        refine NoPanic.normal ?_
        have hDD := HDl.out
        have HI4 : Hid (DetI w ⟨x0, x1 - x0, g, 1⟩ D R k w4) := Lib.hid ⟨(HB4.out.block D HDl.out).trans HI.out.blk, (HB4.out.block R HRl.out).trans HI.out.res, HI.out.below.trans ((⟨rfl, rfl, rfl, Nat.le_refl _, fun _ _ => rfl⟩ : Below w.heap.size wr wr.drew).trans (HB4.out.mono HI.out.below.size))⟩
        clear hC hDD
        have e3 : w4.cell? ⟨D, 3, none⟩ = some (.int .i64 (k : Int)) := by rw [cell_of_row w4 D 3 _ _ _ HI4.out.blk]; rfl
        have ef : ∀ i, w4.frozen? ⟨D, i, none⟩ = false := fun i => by
         have := HI4.out.blk
         simp [World.frozen?, this]
        have hset := heap_setCell_any w4 D 3 _ _ _ (.int .i64 ((k + 1 : Nat) : Int)) HI4.out.blk
        have hdr := HDR.out
        have hrw := HRR.out
        have HI5 : Hid (DetI w ⟨x0, x1 - x0, g, 1⟩ D R (k + 1) (w4.setCell ⟨D, 3, none⟩ (.int .i64 ((k + 1 : Nat) : Int)))) := Lib.hid ⟨hset, (Below.heap_setCell w4 ⟨D, 3, none⟩ _ R (by show R ≠ D; omega)).trans HI4.out.res, HI4.out.below.setCell (p := ⟨D, 3, none⟩) (by show _ ≤ D; omega) _⟩
        have HE5 : Hid ((w4.setCell ⟨D, 3, none⟩ (.int .i64 ((k + 1 : Nat) : Int))).cell? ⟨D, 3, none⟩ = some (.int .i64 ((k + 1 : Nat) : Int))) := Lib.hid (by rw [cell_of_row _ D 3 _ _ _ hset]; rfl)
        have hk1c : (k : Int) + 1 = ((k + 1 : Nat) : Int) := by omega
        have HK1 := Lib.hid hk1c
        clear hset hdr hrw hk1c d0 d1 d2 d3 dm
        go_wp2_with fail
        go_roundw
        case rel => exact ⟨k + 1, by omega, by omega, by rw [← HDn.out, HSt.out, if_pos htl], by rw [HK1.out]; exact HI5.out⟩
        case measure => rw [HKm.out]; unfold ckM; rw [HK1.out, HE5.out]; simp only; omega
       exact rz
      ·go_upto_region 7 with (fail)
       refine wp_region_noPanic ?_
       refine wp_region_D 16 (fun w' => w'.cell? ⟨D, 0, none⟩ = some (.int .i64 x0) ∧ w'.cell? ⟨D, 1, none⟩ = some (.int .i64 (x1 - x0)) ∧ w'.cell? ⟨D, 2, none⟩ = some (.int .i64 g) ∧ w'.cell? ⟨D, 3, none⟩ = some (.int .i64 (k : Int)) ∧ w'.cell? (a.add m) = some (.int .i64 last)) (by kernel_rfl) ⟨d0, d1, d2, d3, dm⟩ (fun hU => ?_)
       have hC : (fun w' : World => w'.cell? ⟨D, 0, none⟩ = some (.int .i64 x0) ∧ w'.cell? ⟨D, 1, none⟩ = some (.int .i64 (x1 - x0)) ∧ w'.cell? ⟨D, 2, none⟩ = some (.int .i64 g) ∧ w'.cell? ⟨D, 3, none⟩ = some (.int .i64 (k : Int)) ∧ w'.cell? (a.add m) = some (.int .i64 last)) wr.drew := ⟨d0, d1, d2, d3, dm⟩
       clear hU
       refine tk 0 38 15 rfl rfl (.inr hC) ?_
       simp only [Act.put, zA, zB, zC]
       refine tl 1 39 14 rfl rfl (.inr hC) ?_
       simp only [Act.put, zA, zB, zC]
       refine tk 2 40 13 rfl rfl (.inr hC) ?_
       simp only [Act.put, zA, zB, zC]
       refine tk 3 41 12 rfl rfl (.inr hC) ?_
       simp only [Act.put, zA, zB, zC]
       refine tl 4 42 11 rfl rfl (.inr hC) ?_
       simp only [Act.put, zA, zB, zC]
       refine tk 5 43 10 rfl rfl (.inr hC) ?_
       simp only [Act.put, zA, zB, zC]
       refine tl 6 44 9 rfl rfl (.inr hC) ?_
       simp only [Act.put, zA, zB, zC]
       refine tk 8 46 8 rfl rfl (.inr hC) ?_
       simp only [Act.put, zA, zB, zC]
       refine tk 9 47 7 rfl rfl (.inr hC) ?_
       simp only [Act.put, zA, zB, zC]
       refine tk 10 48 6 rfl rfl (.inr hC) ?_
       simp only [Act.put, zA, zB, zC]
       refine tk 11 49 5 rfl rfl (.inr hC) ?_
       simp only [Act.put, zA, zB, zC]
       refine tk 12 50 4 rfl rfl (.inr hC) ?_
       simp only [Act.put, zA, zB, zC]
       refine tl 13 51 3 rfl rfl (.inr hC) ?_
       simp only [Act.put, zA, zB, zC]
       refine ry 2 [7] ?_
       refine rn rfl (fun K hK => ?_) ?_
       ·go_simp
        go_at_call 32
        with_reducible refine (HAt.out _).mono ?_
        rintro x w4 ⟨rfl, hb4⟩
        have HB4 := Lib.hid hb4
        clear hb4
        go_wp2_with fail
        refine shut_C hK ?_ (fun hC => ?_)
        ·exact ⟨(cell_ob _ _ (HB4.out.block D HDl.out)).trans hC.1, (cell_ob _ _ (HB4.out.block D HDl.out)).trans hC.2.1, (cell_ob _ _ (HB4.out.block D HDl.out)).trans hC.2.2.1, (cell_ob _ _ (HB4.out.block D HDl.out)).trans hC.2.2.2.1, (World.cell?_of_block (HB4.out.block _ HLl.out)).trans hC.2.2.2.2⟩
        clear hK K
        try simp only [Act.put, zA, zB, zC]
        refine tk 14 52 1 rfl rfl (.inr hC) ?_
        simp only [Act.put, zA, zB, zC]
        refine tk 15 53 0 rfl rfl (.inr hC) ?_
        simp only [Act.put, zA, zB, zC]
        refine wpAnyD_done (by kernel_rfl) ?_ _
        refine NoPanic.normal ?_
        have hDD := HDl.out
        have HI4 : Hid (DetI w ⟨x0, x1 - x0, g, 1⟩ D R k w4) := Lib.hid ⟨(HB4.out.block D HDl.out).trans HI.out.blk, (HB4.out.block R HRl.out).trans HI.out.res, HI.out.below.trans ((⟨rfl, rfl, rfl, Nat.le_refl _, fun _ _ => rfl⟩ : Below w.heap.size wr wr.drew).trans (HB4.out.mono HI.out.below.size))⟩
        clear hC hDD
        have HFin : Hid ((detF l).val = .agg #[.int .i64 x0, .int .i64 (x1 - x0), .int .i64 g, .int .i64 (k : Int)]) := Lib.hid (by
         have h := HDn.out
         have h2 := HDet.out
         have h3 := HSt.out
         rw [if_neg (by omega)] at h3
         rw [h3] at h
         unfold detF
         rw [h2, HLe.out, ← h]
         rfl)
        have HI3 := HI4
        clear d0 d1 d2 d3 dm
        have hb := HI3.out.blk
        have hr := HI3.out.res
        have q0 : (w4).cell? ⟨D, 0, none⟩ = some (.int .i64 x0) := by rw [cell_of_row _ D 0 _ _ _ hb]; rfl
        have q1 : (w4).cell? ⟨D, 1, none⟩ = some (.int .i64 (x1 - x0)) := by rw [cell_of_row _ D 1 _ _ _ hb]; rfl
        have q2 : (w4).cell? ⟨D, 2, none⟩ = some (.int .i64 g) := by rw [cell_of_row _ D 2 _ _ _ hb]; rfl
        have q3 : (w4).cell? ⟨D, 3, none⟩ = some (.int .i64 (k : Int)) := by rw [cell_of_row _ D 3 _ _ _ hb]; rfl
        have r0 : (w4).cell? ⟨R, 0, none⟩ = some (.int .i64 0) := by rw [cell_of_row _ R 0 _ _ _ hr]; rfl
        have r1 : (w4).cell? ⟨R, 1, none⟩ = some (.int .i64 0) := by rw [cell_of_row _ R 1 _ _ _ hr]; rfl
        have r2 : (w4).cell? ⟨R, 2, none⟩ = some (.int .i64 0) := by rw [cell_of_row _ R 2 _ _ _ hr]; rfl
        have r3 : (w4).cell? ⟨R, 3, none⟩ = some (.int .i64 0) := by rw [cell_of_row _ R 3 _ _ _ hr]; rfl
        have rf : ∀ i, (w4).frozen? ⟨R, i, none⟩ = false := fun i => by simp [World.frozen?, hr]
        clear hb hr
        go_wp2_with fail
        refine bodyPost_ret (v := .agg #[.int .i64 x0, .int .i64 (x1 - x0), .int .i64 g, .int .i64 (k : Int)]) (by simp [results, Tryz.results80, go_sem, r0, r1, r2, r3]) rfl ?_
        refine ⟨by rw [HFin.out], ?_⟩
        have hRw := HRR.out
        exact ((((HI3.out.below.setCell (p := ⟨R, 0, none⟩) (by show _ ≤ R; omega) _).setCell (p := ⟨R, 1, none⟩) (by show _ ≤ R; omega) _).setCell (p := ⟨R, 2, none⟩) (by show _ ≤ R; omega) _).setCell (p := ⟨R, 3, none⟩) (by show _ ≤ R; omega) _)
       exact rz
     ·have hke : k = 4096 := by omega
      have hk9 : ¬ (k : Int) < 4096 := by omega
      have HFin : Hid ((detF l).val = .agg #[.int .i64 x0, .int .i64 (x1 - x0), .int .i64 g, .int .i64 (k : Int)]) := Lib.hid (by
       have h := HDn.out
       have h2 := HDet.out
       rw [hke] at h ⊢
       unfold detF
       rw [h2, HLe.out, ← h]
       rfl)
      clear hke
      go_upto_region 7 with (fail)
      go_quiet (fail)
      obtain ⟨w4, hw4⟩ : ∃ W, wr.drewN nq = W := ⟨_, rfl⟩
      have HI3 : Hid (DetI w ⟨x0, x1 - x0, g, 1⟩ D R k w4) := Lib.hid (by rw [← hw4]; exact ⟨HI.out.blk, HI.out.res, below_drewN HI.out.below _⟩)
      rw [hw4]
      clear hw4 d0 d1 d2 d3 dm
      have hb := HI3.out.blk
      have hr := HI3.out.res
      have q0 : (w4).cell? ⟨D, 0, none⟩ = some (.int .i64 x0) := by rw [cell_of_row _ D 0 _ _ _ hb]; rfl
      have q1 : (w4).cell? ⟨D, 1, none⟩ = some (.int .i64 (x1 - x0)) := by rw [cell_of_row _ D 1 _ _ _ hb]; rfl
      have q2 : (w4).cell? ⟨D, 2, none⟩ = some (.int .i64 g) := by rw [cell_of_row _ D 2 _ _ _ hb]; rfl
      have q3 : (w4).cell? ⟨D, 3, none⟩ = some (.int .i64 (k : Int)) := by rw [cell_of_row _ D 3 _ _ _ hb]; rfl
      have r0 : (w4).cell? ⟨R, 0, none⟩ = some (.int .i64 0) := by rw [cell_of_row _ R 0 _ _ _ hr]; rfl
      have r1 : (w4).cell? ⟨R, 1, none⟩ = some (.int .i64 0) := by rw [cell_of_row _ R 1 _ _ _ hr]; rfl
      have r2 : (w4).cell? ⟨R, 2, none⟩ = some (.int .i64 0) := by rw [cell_of_row _ R 2 _ _ _ hr]; rfl
      have r3 : (w4).cell? ⟨R, 3, none⟩ = some (.int .i64 0) := by rw [cell_of_row _ R 3 _ _ _ hr]; rfl
      have rf : ∀ i, (w4).frozen? ⟨R, i, none⟩ = false := fun i => by simp [World.frozen?, hr]
      clear hb hr
      go_wp2_with fail
      refine bodyPost_ret (v := .agg #[.int .i64 x0, .int .i64 (x1 - x0), .int .i64 g, .int .i64 (k : Int)]) (by simp [results, Tryz.results80, go_sem, r0, r1, r2, r3]) rfl ?_
      refine ⟨by rw [HFin.out], ?_⟩
      have hRw := HRR.out
      exact ((((HI3.out.below.setCell (p := ⟨R, 0, none⟩) (by show _ ≤ R; omega) _).setCell (p := ⟨R, 1, none⟩) (by show _ ≤ R; omega) _).setCell (p := ⟨R, 2, none⟩) (by show _ ≤ R; omega) _).setCell (p := ⟨R, 3, none⟩) (by show _ ≤ R; omega) _)
   ·have h3i : ¬ (2 : Int) < l.length := by omega
    have HI2 : Hid (DetI w ⟨x0, x1 - x0, x1 - x0, 1⟩ D R 1 (W2.setCell ⟨D, 2, none⟩ (.int .i64 (x1 - x0)))) := Lib.hid ⟨hset, hR3, hB3⟩
    clear hset hR3 hB3 hB2 hD2 hR2 hk haD hRD hRw
    obtain ⟨W3, hW3⟩ : ∃ W, W2.setCell ⟨D, 2, none⟩ (.int .i64 (x1 - x0)) = W := ⟨_, rfl⟩
    rw [hW3] at HI2
    have HW3 := Lib.hid hW3
    clear hW3
    go_wp2_with fail
    rw [HW3.out]
    have HD0 : Hid (det0 l = ⟨x0, x1 - x0, x1 - x0, 1⟩) := Lib.hid (by unfold det0; rw [if_neg h3l, HX.out.1, HX.out.2])
    obtain ⟨g, hg⟩ : ∃ g, (x1 - x0) = g := ⟨_, rfl⟩
    have HI2 : Hid (DetI w ⟨x0, x1 - x0, g, 1⟩ D R 1 W3) := Lib.hid (by rw [← hg]; exact HI2.out)
    have HDet : Hid (det0 l = ⟨x0, x1 - x0, g, 1⟩) := Lib.hid (by
     have := HD0.out
     rw [this, ← hg])
    have HCB : Hid (ClkB ⟨x0, x1 - x0, g, 1⟩) := Lib.hid (by rw [← HDet.out]; exact HDb.out.1)
    clear hg
    go_loopw [] (fun wr => DetR w ⟨x0, x1 - x0, g, 1⟩ D R last wr) (fun wr => ckM D wr)
    case atStart => exact ⟨1, Nat.le_refl _, by decide, rfl, HI2.out⟩
    case round =>
     obtain ⟨k, hk1, hk4, hdn, hI⟩ := hrel
     have HI := Lib.hid hI
     have HDn := Lib.hid hdn
     have HDl : Hid (D < wr.heap.size) := Lib.hid (Array.getElem?_eq_some_iff.1 hI.blk).1
     have HRl : Hid (R < wr.heap.size) := Lib.hid (Array.getElem?_eq_some_iff.1 hI.res).1
     have d0 : wr.cell? ⟨D, 0, none⟩ = some (.int .i64 x0) := by rw [cell_of_row wr D 0 _ _ _ hI.blk]; rfl
     have d1 : wr.cell? ⟨D, 1, none⟩ = some (.int .i64 (x1 - x0)) := by rw [cell_of_row wr D 1 _ _ _ hI.blk]; rfl
     have d2 : wr.cell? ⟨D, 2, none⟩ = some (.int .i64 g) := by rw [cell_of_row wr D 2 _ _ _ hI.blk]; rfl
     have d3 : wr.cell? ⟨D, 3, none⟩ = some (.int .i64 (k : Int)) := by rw [cell_of_row wr D 3 _ _ _ hI.blk]; rfl
     have dm : wr.cell? (a.add m) = some (.int .i64 last) := (World.cell?_of_block (hI.below.block _ (by rw [add_block]; exact HA0.out))).trans HLast.out
     have HLl : Hid ((a.add m).block < wr.heap.size) := Lib.hid (by rw [add_block]; exact Nat.lt_of_lt_of_le HA0.out hI.below.size)
     have hkm : ckM D wr = 4096 - k := by unfold ckM; rw [d3]; simp only; omega
     have HKm := Lib.hid hkm
     clear hdn hI hkm
     by_cases hk : k < 4096
     ·have hki : (k : Int) < 4096 := by omega
      have hki0 : (0 : Int) ≤ k := by omega
      obtain ⟨t, ht⟩ : ∃ t, atF ⟨x0, x1 - x0, g, (k : Int)⟩ (k : Int) = t := ⟨_, rfl⟩
      have hat := fun w => at_walk ⟨x0, x1 - x0, g, (k : Int)⟩ ⟨HCB.out.s, HCB.out.f, HCB.out.g⟩ (k : Int) (by omega) (by omega) w
      rw [ht] at hat
      have HAt : Hid (∀ w : World, Calls Tryz.prog 32 #[.agg #[.int .i64 x0, .int .i64 (x1 - x0), .int .i64 g, .int .i64 (k : Int)], .int .i64 (k : Int)] w fun e w' => e = .returned (.int .i64 t) ∧ Below w.heap.size w w') := Lib.hid hat
      have HSt : Hid (detN (4096 - k) ⟨x0, x1 - x0, g, 1⟩ (k : Int) last = if t ≤ last then detN (4096 - (k + 1)) ⟨x0, x1 - x0, g, 1⟩ ((k + 1 : Nat) : Int) last else (k : Int)) := Lib.hid (by
       rw [show 4096 - k = (4096 - (k + 1)) + 1 by omega, ← ht]; rfl)
      clear ht hat
      by_cases htl : t ≤ last
      ·go_upto_region 7 with (fail)
       refine wp_region_noPanic ?_
       refine wp_region_D 16 (fun w' => w'.cell? ⟨D, 0, none⟩ = some (.int .i64 x0) ∧ w'.cell? ⟨D, 1, none⟩ = some (.int .i64 (x1 - x0)) ∧ w'.cell? ⟨D, 2, none⟩ = some (.int .i64 g) ∧ w'.cell? ⟨D, 3, none⟩ = some (.int .i64 (k : Int)) ∧ w'.cell? (a.add m) = some (.int .i64 last)) (by kernel_rfl) ⟨d0, d1, d2, d3, dm⟩ (fun hU => ?_)
       have hC : (fun w' : World => w'.cell? ⟨D, 0, none⟩ = some (.int .i64 x0) ∧ w'.cell? ⟨D, 1, none⟩ = some (.int .i64 (x1 - x0)) ∧ w'.cell? ⟨D, 2, none⟩ = some (.int .i64 g) ∧ w'.cell? ⟨D, 3, none⟩ = some (.int .i64 (k : Int)) ∧ w'.cell? (a.add m) = some (.int .i64 last)) wr.drew := ⟨d0, d1, d2, d3, dm⟩
       clear hU
       refine tk 0 38 15 rfl rfl (.inr hC) ?_
       simp only [Act.put, zA, zB, zC]
       refine tl 1 39 14 rfl rfl (.inr hC) ?_
       simp only [Act.put, zA, zB, zC]
       refine tk 2 40 13 rfl rfl (.inr hC) ?_
       simp only [Act.put, zA, zB, zC]
       refine tk 3 41 12 rfl rfl (.inr hC) ?_
       simp only [Act.put, zA, zB, zC]
       refine tl 4 42 11 rfl rfl (.inr hC) ?_
       simp only [Act.put, zA, zB, zC]
       refine tk 5 43 10 rfl rfl (.inr hC) ?_
       simp only [Act.put, zA, zB, zC]
       refine tl 6 44 9 rfl rfl (.inr hC) ?_
       simp only [Act.put, zA, zB, zC]
       refine tk 8 46 8 rfl rfl (.inr hC) ?_
       simp only [Act.put, zA, zB, zC]
       refine tk 9 47 7 rfl rfl (.inr hC) ?_
       simp only [Act.put, zA, zB, zC]
       refine tk 10 48 6 rfl rfl (.inr hC) ?_
       simp only [Act.put, zA, zB, zC]
       refine tk 11 49 5 rfl rfl (.inr hC) ?_
       simp only [Act.put, zA, zB, zC]
       refine tk 12 50 4 rfl rfl (.inr hC) ?_
       simp only [Act.put, zA, zB, zC]
       refine tl 13 51 3 rfl rfl (.inr hC) ?_
       simp only [Act.put, zA, zB, zC]
       refine ry 2 [7] ?_
       refine rn rfl (fun K hK => ?_) ?_
       ·go_simp
        go_at_call 32
        with_reducible refine (HAt.out _).mono ?_
        rintro x w4 ⟨rfl, hb4⟩
        have HB4 := Lib.hid hb4
        clear hb4
        go_wp2_with fail
        refine shut_C hK ?_ (fun hC => ?_)
        ·exact ⟨(cell_ob _ _ (HB4.out.block D HDl.out)).trans hC.1, (cell_ob _ _ (HB4.out.block D HDl.out)).trans hC.2.1, (cell_ob _ _ (HB4.out.block D HDl.out)).trans hC.2.2.1, (cell_ob _ _ (HB4.out.block D HDl.out)).trans hC.2.2.2.1, (World.cell?_of_block (HB4.out.block _ HLl.out)).trans hC.2.2.2.2⟩
        clear hK K
        try simp only [Act.put, zA, zB, zC]
        refine tk 14 52 1 rfl rfl (.inr hC) ?_
        simp only [Act.put, zA, zB, zC]
        refine tk 15 53 0 rfl rfl (.inr hC) ?_
        simp only [Act.put, zA, zB, zC]
        refine wpAnyD_done (by kernel_rfl) ?_ _
        refine NoPanic.normal ?_
        have hDD := HDl.out
        have HI4 : Hid (DetI w ⟨x0, x1 - x0, g, 1⟩ D R k w4) := Lib.hid ⟨(HB4.out.block D HDl.out).trans HI.out.blk, (HB4.out.block R HRl.out).trans HI.out.res, HI.out.below.trans ((⟨rfl, rfl, rfl, Nat.le_refl _, fun _ _ => rfl⟩ : Below w.heap.size wr wr.drew).trans (HB4.out.mono HI.out.below.size))⟩
        clear hC hDD
        have e3 : w4.cell? ⟨D, 3, none⟩ = some (.int .i64 (k : Int)) := by rw [cell_of_row w4 D 3 _ _ _ HI4.out.blk]; rfl
        have ef : ∀ i, w4.frozen? ⟨D, i, none⟩ = false := fun i => by
         have := HI4.out.blk
         simp [World.frozen?, this]
        have hset := heap_setCell_any w4 D 3 _ _ _ (.int .i64 ((k + 1 : Nat) : Int)) HI4.out.blk
        have hdr := HDR.out
        have hrw := HRR.out
        have HI5 : Hid (DetI w ⟨x0, x1 - x0, g, 1⟩ D R (k + 1) (w4.setCell ⟨D, 3, none⟩ (.int .i64 ((k + 1 : Nat) : Int)))) := Lib.hid ⟨hset, (Below.heap_setCell w4 ⟨D, 3, none⟩ _ R (by show R ≠ D; omega)).trans HI4.out.res, HI4.out.below.setCell (p := ⟨D, 3, none⟩) (by show _ ≤ D; omega) _⟩
        have HE5 : Hid ((w4.setCell ⟨D, 3, none⟩ (.int .i64 ((k + 1 : Nat) : Int))).cell? ⟨D, 3, none⟩ = some (.int .i64 ((k + 1 : Nat) : Int))) := Lib.hid (by rw [cell_of_row _ D 3 _ _ _ hset]; rfl)
        have hk1c : (k : Int) + 1 = ((k + 1 : Nat) : Int) := by omega
        have HK1 := Lib.hid hk1c
        clear hset hdr hrw hk1c d0 d1 d2 d3 dm
        go_wp2_with fail
        go_roundw
        case rel => exact ⟨k + 1, by omega, by omega, by rw [← HDn.out, HSt.out, if_pos htl], by rw [HK1.out]; exact HI5.out⟩
        case measure => rw [HKm.out]; unfold ckM; rw [HK1.out, HE5.out]; simp only; omega
       exact rz
      ·go_upto_region 7 with (fail)
       refine wp_region_noPanic ?_
       refine wp_region_D 16 (fun w' => w'.cell? ⟨D, 0, none⟩ = some (.int .i64 x0) ∧ w'.cell? ⟨D, 1, none⟩ = some (.int .i64 (x1 - x0)) ∧ w'.cell? ⟨D, 2, none⟩ = some (.int .i64 g) ∧ w'.cell? ⟨D, 3, none⟩ = some (.int .i64 (k : Int)) ∧ w'.cell? (a.add m) = some (.int .i64 last)) (by kernel_rfl) ⟨d0, d1, d2, d3, dm⟩ (fun hU => ?_)
       have hC : (fun w' : World => w'.cell? ⟨D, 0, none⟩ = some (.int .i64 x0) ∧ w'.cell? ⟨D, 1, none⟩ = some (.int .i64 (x1 - x0)) ∧ w'.cell? ⟨D, 2, none⟩ = some (.int .i64 g) ∧ w'.cell? ⟨D, 3, none⟩ = some (.int .i64 (k : Int)) ∧ w'.cell? (a.add m) = some (.int .i64 last)) wr.drew := ⟨d0, d1, d2, d3, dm⟩
       clear hU
       refine tk 0 38 15 rfl rfl (.inr hC) ?_
       simp only [Act.put, zA, zB, zC]
       refine tl 1 39 14 rfl rfl (.inr hC) ?_
       simp only [Act.put, zA, zB, zC]
       refine tk 2 40 13 rfl rfl (.inr hC) ?_
       simp only [Act.put, zA, zB, zC]
       refine tk 3 41 12 rfl rfl (.inr hC) ?_
       simp only [Act.put, zA, zB, zC]
       refine tl 4 42 11 rfl rfl (.inr hC) ?_
       simp only [Act.put, zA, zB, zC]
       refine tk 5 43 10 rfl rfl (.inr hC) ?_
       simp only [Act.put, zA, zB, zC]
       refine tl 6 44 9 rfl rfl (.inr hC) ?_
       simp only [Act.put, zA, zB, zC]
       refine tk 8 46 8 rfl rfl (.inr hC) ?_
       simp only [Act.put, zA, zB, zC]
       refine tk 9 47 7 rfl rfl (.inr hC) ?_
       simp only [Act.put, zA, zB, zC]
       refine tk 10 48 6 rfl rfl (.inr hC) ?_
       simp only [Act.put, zA, zB, zC]
       refine tk 11 49 5 rfl rfl (.inr hC) ?_
       simp only [Act.put, zA, zB, zC]
       refine tk 12 50 4 rfl rfl (.inr hC) ?_
       simp only [Act.put, zA, zB, zC]
       refine tl 13 51 3 rfl rfl (.inr hC) ?_
       simp only [Act.put, zA, zB, zC]
       refine ry 2 [7] ?_
       refine rn rfl (fun K hK => ?_) ?_
       ·go_simp
        go_at_call 32
        with_reducible refine (HAt.out _).mono ?_
        rintro x w4 ⟨rfl, hb4⟩
        have HB4 := Lib.hid hb4
        clear hb4
        go_wp2_with fail
        refine shut_C hK ?_ (fun hC => ?_)
        ·exact ⟨(cell_ob _ _ (HB4.out.block D HDl.out)).trans hC.1, (cell_ob _ _ (HB4.out.block D HDl.out)).trans hC.2.1, (cell_ob _ _ (HB4.out.block D HDl.out)).trans hC.2.2.1, (cell_ob _ _ (HB4.out.block D HDl.out)).trans hC.2.2.2.1, (World.cell?_of_block (HB4.out.block _ HLl.out)).trans hC.2.2.2.2⟩
        clear hK K
        try simp only [Act.put, zA, zB, zC]
        refine tk 14 52 1 rfl rfl (.inr hC) ?_
        simp only [Act.put, zA, zB, zC]
        refine tk 15 53 0 rfl rfl (.inr hC) ?_
        simp only [Act.put, zA, zB, zC]
        refine wpAnyD_done (by kernel_rfl) ?_ _
        refine NoPanic.normal ?_
        have hDD := HDl.out
        have HI4 : Hid (DetI w ⟨x0, x1 - x0, g, 1⟩ D R k w4) := Lib.hid ⟨(HB4.out.block D HDl.out).trans HI.out.blk, (HB4.out.block R HRl.out).trans HI.out.res, HI.out.below.trans ((⟨rfl, rfl, rfl, Nat.le_refl _, fun _ _ => rfl⟩ : Below w.heap.size wr wr.drew).trans (HB4.out.mono HI.out.below.size))⟩
        clear hC hDD
        have HFin : Hid ((detF l).val = .agg #[.int .i64 x0, .int .i64 (x1 - x0), .int .i64 g, .int .i64 (k : Int)]) := Lib.hid (by
         have h := HDn.out
         have h2 := HDet.out
         have h3 := HSt.out
         rw [if_neg (by omega)] at h3
         rw [h3] at h
         unfold detF
         rw [h2, HLe.out, ← h]
         rfl)
        have HI3 := HI4
        clear d0 d1 d2 d3 dm
        have hb := HI3.out.blk
        have hr := HI3.out.res
        have q0 : (w4).cell? ⟨D, 0, none⟩ = some (.int .i64 x0) := by rw [cell_of_row _ D 0 _ _ _ hb]; rfl
        have q1 : (w4).cell? ⟨D, 1, none⟩ = some (.int .i64 (x1 - x0)) := by rw [cell_of_row _ D 1 _ _ _ hb]; rfl
        have q2 : (w4).cell? ⟨D, 2, none⟩ = some (.int .i64 g) := by rw [cell_of_row _ D 2 _ _ _ hb]; rfl
        have q3 : (w4).cell? ⟨D, 3, none⟩ = some (.int .i64 (k : Int)) := by rw [cell_of_row _ D 3 _ _ _ hb]; rfl
        have r0 : (w4).cell? ⟨R, 0, none⟩ = some (.int .i64 0) := by rw [cell_of_row _ R 0 _ _ _ hr]; rfl
        have r1 : (w4).cell? ⟨R, 1, none⟩ = some (.int .i64 0) := by rw [cell_of_row _ R 1 _ _ _ hr]; rfl
        have r2 : (w4).cell? ⟨R, 2, none⟩ = some (.int .i64 0) := by rw [cell_of_row _ R 2 _ _ _ hr]; rfl
        have r3 : (w4).cell? ⟨R, 3, none⟩ = some (.int .i64 0) := by rw [cell_of_row _ R 3 _ _ _ hr]; rfl
        have rf : ∀ i, (w4).frozen? ⟨R, i, none⟩ = false := fun i => by simp [World.frozen?, hr]
        clear hb hr
        go_wp2_with fail
        refine bodyPost_ret (v := .agg #[.int .i64 x0, .int .i64 (x1 - x0), .int .i64 g, .int .i64 (k : Int)]) (by simp [results, Tryz.results80, go_sem, r0, r1, r2, r3]) rfl ?_
        refine ⟨by rw [HFin.out], ?_⟩
        have hRw := HRR.out
        exact ((((HI3.out.below.setCell (p := ⟨R, 0, none⟩) (by show _ ≤ R; omega) _).setCell (p := ⟨R, 1, none⟩) (by show _ ≤ R; omega) _).setCell (p := ⟨R, 2, none⟩) (by show _ ≤ R; omega) _).setCell (p := ⟨R, 3, none⟩) (by show _ ≤ R; omega) _)
       exact rz
     ·have hke : k = 4096 := by omega
      have hk9 : ¬ (k : Int) < 4096 := by omega
      have HFin : Hid ((detF l).val = .agg #[.int .i64 x0, .int .i64 (x1 - x0), .int .i64 g, .int .i64 (k : Int)]) := Lib.hid (by
       have h := HDn.out
       have h2 := HDet.out
       rw [hke] at h ⊢
       unfold detF
       rw [h2, HLe.out, ← h]
       rfl)
      clear hke
      go_upto_region 7 with (fail)
      go_quiet (fail)
      obtain ⟨w4, hw4⟩ : ∃ W, wr.drewN nq = W := ⟨_, rfl⟩
      have HI3 : Hid (DetI w ⟨x0, x1 - x0, g, 1⟩ D R k w4) := Lib.hid (by rw [← hw4]; exact ⟨HI.out.blk, HI.out.res, below_drewN HI.out.below _⟩)
      rw [hw4]
      clear hw4 d0 d1 d2 d3 dm
      have hb := HI3.out.blk
      have hr := HI3.out.res
      have q0 : (w4).cell? ⟨D, 0, none⟩ = some (.int .i64 x0) := by rw [cell_of_row _ D 0 _ _ _ hb]; rfl
      have q1 : (w4).cell? ⟨D, 1, none⟩ = some (.int .i64 (x1 - x0)) := by rw [cell_of_row _ D 1 _ _ _ hb]; rfl
      have q2 : (w4).cell? ⟨D, 2, none⟩ = some (.int .i64 g) := by rw [cell_of_row _ D 2 _ _ _ hb]; rfl
      have q3 : (w4).cell? ⟨D, 3, none⟩ = some (.int .i64 (k : Int)) := by rw [cell_of_row _ D 3 _ _ _ hb]; rfl
      have r0 : (w4).cell? ⟨R, 0, none⟩ = some (.int .i64 0) := by rw [cell_of_row _ R 0 _ _ _ hr]; rfl
      have r1 : (w4).cell? ⟨R, 1, none⟩ = some (.int .i64 0) := by rw [cell_of_row _ R 1 _ _ _ hr]; rfl
      have r2 : (w4).cell? ⟨R, 2, none⟩ = some (.int .i64 0) := by rw [cell_of_row _ R 2 _ _ _ hr]; rfl
      have r3 : (w4).cell? ⟨R, 3, none⟩ = some (.int .i64 0) := by rw [cell_of_row _ R 3 _ _ _ hr]; rfl
      have rf : ∀ i, (w4).frozen? ⟨R, i, none⟩ = false := fun i => by simp [World.frozen?, hr]
      clear hb hr
      go_wp2_with fail
      refine bodyPost_ret (v := .agg #[.int .i64 x0, .int .i64 (x1 - x0), .int .i64 g, .int .i64 (k : Int)]) (by simp [results, Tryz.results80, go_sem, r0, r1, r2, r3]) rfl ?_
      refine ⟨by rw [HFin.out], ?_⟩
      have hRw := HRR.out
      exact ((((HI3.out.below.setCell (p := ⟨R, 0, none⟩) (by show _ ≤ R; omega) _).setCell (p := ⟨R, 1, none⟩) (by show _ ≤ R; omega) _).setCell (p := ⟨R, 2, none⟩) (by show _ ≤ R; omega) _).setCell (p := ⟨R, 3, none⟩) (by show _ ≤ R; omega) _)
  exact rz
 exact rz
end Go.Proofs.YtlmjefjimoghcaaGreat
