import Derived.Test.YtagfnobchdfhfaaWf
import Derived.Test.YtagfnobchdfhfaaRg
namespace Go.Proofs.Ytagfnobchdfhfaa
set_option linter.unusedSimpArgs false
set_option linter.unnecessarySimpa false
set_option linter.unusedVariables false
open Go.RowKit
attribute [local go_sem ↓] Go.wp_at_zero Go.wp_at_succ

theorem step_eq {P : Program} {ops : Array Oper} {o : Oper} {a : Act} {w : World} {K : Act → World → Prop} {Q : Exit → Act → World → Prop} {E : Prop}
    (hg : o.guard = none) (v' : Value) (w' : World) (hrun : (execOp a.eval o).run P w = .ok (.value v') w') (hK : K (a.put o.dst v') w') : if Region.wanted o (yielded ops a.tmps) = true then Oper.wp P o a w K Q else E := by
  have hw : Region.wanted o (yielded ops a.tmps) = true := by simp [Region.wanted, hg]
  rw [if_pos hw]
  unfold Oper.wp
  rw [hrun]
  exact hK
theorem set_same (l : List (List UInt8)) (k : Nat) (b : List UInt8) (h : l[k]? = some b) : l.set k b = l := by
  apply List.ext_getElem?
  intro i
  rw [List.getElem?_set]
  by_cases hi : k = i
  · subst hi
    have hl := (List.getElem?_eq_some_iff.1 h).1
    rw [if_pos rfl, if_pos hl, h]
  · rw [if_neg hi]
section
variable {S : Nat → Prop} {D : Nat} {d : DM} {w : World} {vd vb vp : Value} {dl : List Value}
def clampN (x : Int) : Nat := (min (max x 0) 64).toNat
set_option maxHeartbeats 3000000 in
theorem end_crash (h : DkO S D d w vd vb vp dl) (hp : d.pend.length ≤ 1000) (X : Nat) (f : Nat → Int) (hclo : ∀ w' : World, Touch S w w' → ∀ j : Nat, Calls Try.prog 34 #[.int .i64 (j : Int), .pointer (some ⟨X, 0, none⟩)] w' fun e w'' => e = .returned (.int .i64 (f j)) ∧ w' = w'') : Calls Try.prog 32 #[.pointer (some ⟨D, 0, none⟩), .func (.func 34) #[] #[.pointer (some ⟨X, 0, none⟩)]] w fun e w' => e = .returned (.tuple #[]) ∧ Touch S w w' ∧ Dk S D (endF d fun j => clampN (f j)) w' := by
  obtain ⟨ap, cp, rfl⟩ := row_slice h.rp
  obtain ⟨gd, cd, e, _⟩ := row_some h.rd h.len
  subst e
  have x2 := h.c2
  have HCL := Lib.hid hclo
  clear hclo
  have H := Lib.hid h
  clear h
  go_enter Try.func32, Try.ntmps32
  go_wp2_with fail
  go_loopw [11] (fun i wr => ∃ j : Nat, j ≤ d.pend.length ∧ i = .int .i64 j ∧ Touch S w wr ∧ DkO S D { d with secs := endN (fun j => clampN (f j)) d.secs d.pend j } wr (.slice (some ⟨gd, 0, none⟩) d.secs.length cd) vb (.slice ap d.pend.length cp) dl) (fun i _ => d.pend.length - (intOf i).toNat)
  case atStart => exact ⟨0, by omega, rfl, Touch.refl _ _, H.out⟩
  case round =>
    obtain ⟨j, hj, rfl, ht, h1⟩ := hrel
    have HT := Lib.hid ht
    have H1 := Lib.hid h1
    by_cases hlt : j < d.pend.length
    · obtain ⟨gp, c, e, hgp, hcp, hpc, hpf⟩ := row_some h1.rp (by show 0 < d.pend.length; omega)
      injection e with e1 e2 e3
      subst e1 e3
      obtain ⟨p, hpj⟩ : ∃ p, d.pend[j]? = some p := ⟨_, List.getElem?_eq_getElem hlt⟩
      obtain ⟨q1, q2⟩ := pcells_get d.pend j p hpj
      have z1 := hpc _ _ q1
      have z2 := hpc _ _ q2
      obtain ⟨hk, hs⟩ := h1.fit p (by exact List.mem_of_getElem? hpj)
      clear hpc q1 q2 hpf ht h1
      obtain ⟨x, hx⟩ : ∃ x, f j = x := ⟨_, rfl⟩
      have HF := Lib.hid hx
      rcases (by omega : x < 0 ∨ (0 ≤ x ∧ x ≤ 64) ∨ 64 < x) with hx0 | hx0 | hx0
      · have HM : Hid (clampN (f j) = 0) := Lib.hid (by rw [hx]; unfold clampN; omega)
        clear hx
        obtain ⟨b, hb⟩ : ∃ b, (endN (fun j => clampN (f j)) d.secs d.pend j)[p.1]? = some b := ⟨_, List.getElem?_eq_getElem hk⟩
        have h2 : DkO S D { d with secs := endN (fun j => clampN (f j)) d.secs d.pend j } (wr.alloc (.cells #[.int .i64 (p.1 : Int), .string p.2] 71)).drew (.slice (some ⟨gd, 0, none⟩) d.secs.length cd) vb (.slice (some ⟨gp, 0, none⟩) d.pend.length cp) dl := H1.out.frame fun k _ hlt => Below.heap_alloc _ _ k hlt
        obtain ⟨v, hv1, hv2, g, hv3, hv4⟩ := h2.sec p.1 b hb
        have hb64 : b.length = 64 := by have := hv2.1; simpa [bcells] using this
        rcases hv2.2 with ⟨e, _⟩ | ⟨g', cs, cur, rfl, _, hcur, h64, _, hsz, htk⟩
        · subst e; cases hv3
        obtain rfl : g' = g := by injection hv3
        have hS' := hv4
        have hcopy := fun (s : ByteArray) (h0 : s.size = 0) => Lib.run_copy_empty_string (P := Try.prog) (wr.alloc (.cells #[.int .i64 (p.1 : Int), .string p.2] 71)).drew 74 9 3 5 (some ⟨g', 0, none⟩) 64 cs s Try.underlying74 rfl h0
        have hcopy1 := hcopy (p.2.extract 0 0) (by rw [ByteArray.size_extract]; omega)
        have hcopy2 := hcopy ByteArray.empty rfl
        clear hcopy
        obtain ⟨gd', cd', ed, _, _, hdc, _⟩ := row_some h2.rd h2.len
        injection ed with ed1 ed2 ed3
        injection ed1 with ed1
        injection ed1 with ed1
        subst ed1 ed3
        have k3 := hdc p.1 _ hv1
        have k0 := h2.c0
        have k1 : (wr.alloc (.cells #[.int .i64 (p.1 : Int), .string p.2] 71)).drew.cell? ⟨wr.heap.size, 0, none⟩ = some (.int .i64 (p.1 : Int)) := by rw [World.cell?_drew]; exact World.cell?_alloc_mark ..
        have k2 : (wr.alloc (.cells #[.int .i64 (p.1 : Int), .string p.2] 71)).drew.cell? ⟨wr.heap.size, 1, none⟩ = some (.string p.2) := by rw [World.cell?_drew]; exact World.cell?_alloc_mark ..
        have hsl := fun wx => run_slice_string_h (P := Try.prog) (w := wx) 9 p.2 Try.underlying9 .i64 0 (by omega) (by omega)
        have hcl := HCL.out (wr.alloc (.cells #[.int .i64 (p.1 : Int), .string p.2] 71)).drew (HT.out.alloc _).drew j
        rw [HF.out] at hcl
        have HN : Hid (endN (fun j => clampN (f j)) d.secs d.pend (j + 1) = endN (fun j => clampN (f j)) d.secs d.pend j) := Lib.hid (by
          rw [endN, hpj]; show (endN _ _ _ j).modify p.1 _ = _; rw [modify_set _ _ _ _ hb, HM.out]; show (endN _ _ _ j).set p.1 (List.take 0 _ ++ List.drop 0 b) = _; rw [List.take_zero, List.drop_zero, List.nil_append]; exact set_same _ _ _ hb)
        have hX : (wr.alloc (.cells #[.int .i64 (p.1 : Int), .string p.2] 71)).drew.heap[wr.heap.size]? = some (.cells #[.int .i64 (p.1 : Int), .string p.2] 71 (0, 0)) := heap_alloc_new _ _
        have hne : wr.heap.size ≠ g' := fun e => by
          rw [e, hcur] at hX
          injection hX with hX; injection hX with _ hX _; exact absurd hX (by decide)
        have HT2 : Hid (Touch S w (wr.alloc (.cells #[.int .i64 (p.1 : Int), .string p.2] 71)).drew) := Lib.hid ((HT.out.alloc _).drew)
        have H3 := Lib.hid h2
        have hkl : (p.1 : Int) < d.secs.length := by rw [endN_length] at hk; omega
        clear h2 hdc hv1 hv2 hv3 hv4 hX hcur hsz htk hb
        go_wp2_with fail
        go_region_held3 (fun w' => w'.cell? ⟨D, 0, none⟩ = some (.slice (some ⟨gd, 0, none⟩) d.secs.length cd) ∧ w'.cell? ⟨wr.heap.size, 0, none⟩ = some (.int .i64 (p.1 : Int)) ∧ w'.cell? ⟨wr.heap.size, 1, none⟩ = some (.string p.2) ∧ w'.cell? ⟨gd, p.1, none⟩ = some (.slice (some ⟨g', 0, none⟩) 64 cs)) (first | exact ⟨k0, k1, k2, k3⟩) (first | (go_at_call 34; (with_reducible refine hcl.mono ?_); rintro e _ ⟨rfl, rfl⟩))
        go_wp2_with fail
        go_roundw
        case rel => exact ⟨j + 1, by omega, by go_num, HT2.out, by rw [HN.out]; exact H3.out⟩
        case measure => simp [intOf]; omega
      · obtain ⟨m, rfl⟩ : ∃ m : Nat, x = m := ⟨x.toNat, by omega⟩
        have hx1 : (m : Int) ≤ 64 := hx0.2
        have hx2 : m ≤ 64 := by omega
        have q1 : ¬ (m : Int) < 0 := by omega
        have q2 : ¬ (64 : Int) < m := by omega
        have HM : Hid (clampN (f j) = m) := Lib.hid (by rw [hx]; unfold clampN; omega)
        clear hx
        obtain ⟨b, hb⟩ : ∃ b, (endN (fun j => clampN (f j)) d.secs d.pend j)[p.1]? = some b := ⟨_, List.getElem?_eq_getElem hk⟩
        have h2 : DkO S D { d with secs := endN (fun j => clampN (f j)) d.secs d.pend j } (wr.alloc (.cells #[.int .i64 (p.1 : Int), .string p.2] 71)).drew (.slice (some ⟨gd, 0, none⟩) d.secs.length cd) vb (.slice (some ⟨gp, 0, none⟩) d.pend.length cp) dl := H1.out.frame fun k _ hlt => Below.heap_alloc _ _ k hlt
        obtain ⟨v, hv1, hv2, g, hv3, hv4⟩ := h2.sec p.1 b hb
        have hb64 : b.length = 64 := by have := hv2.1; simpa [bcells] using this
        rcases hv2.2 with ⟨e, _⟩ | ⟨g', cs, cur, rfl, _, hcur, h64, _, hsz, htk⟩
        · subst e; cases hv3
        obtain rfl : g' = g := by injection hv3
        have hS' := hv4
        obtain ⟨t1, t2, t3, t4, t5⟩ := torn_cells cur b p.2 m cs hs (by omega) hsz h64 htk
        have hcopy := Lib.run_copy_row_string (P := Try.prog) (wr.alloc (.cells #[.int .i64 (p.1 : Int), .string p.2] 71)).drew 74 9 3 5 g' 0 64 cs (p.2.extract 0 m) cur 5 Try.underlying74 rfl hcur (by omega) t4
        obtain ⟨cur', hcur'⟩ : ∃ c, (cur.toList.take 0 ++ Lib.byteCells (p.2.extract 0 m).data.toList ++ cur.toList.drop (0 + (p.2.extract 0 m).size)).toArray = c := ⟨_, rfl⟩
        rw [hcur'] at t1 t2 hcopy
        obtain ⟨gd', cd', ed, _, _, hdc, _⟩ := row_some h2.rd h2.len
        injection ed with ed1 ed2 ed3
        injection ed1 with ed1
        injection ed1 with ed1
        subst ed1 ed3
        have k3 := hdc p.1 _ hv1
        have k0 := h2.c0
        have k1 : (wr.alloc (.cells #[.int .i64 (p.1 : Int), .string p.2] 71)).drew.cell? ⟨wr.heap.size, 0, none⟩ = some (.int .i64 (p.1 : Int)) := by rw [World.cell?_drew]; exact World.cell?_alloc_mark ..
        have k2 : (wr.alloc (.cells #[.int .i64 (p.1 : Int), .string p.2] 71)).drew.cell? ⟨wr.heap.size, 1, none⟩ = some (.string p.2) := by rw [World.cell?_drew]; exact World.cell?_alloc_mark ..
        have hsl := fun wx => run_slice_string_h (P := Try.prog) (w := wx) 9 p.2 Try.underlying9 .i64 (m : Int) (by omega) (by omega)
        have hcl := HCL.out (wr.alloc (.cells #[.int .i64 (p.1 : Int), .string p.2] 71)).drew (HT.out.alloc _).drew j
        rw [HF.out] at hcl
        have h3 := h2.sector hb hv1 (t5 hb64) hcur (setRow_heap _ g' cur _ 5 _ hcur) t1 t2 (fun i hi _ => setRow_other _ g' i _ hi)
        have HN : Hid (endN (fun j => clampN (f j)) d.secs d.pend (j + 1) = (endN (fun j => clampN (f j)) d.secs d.pend j).set p.1 (torn b p.2.data.toList m)) := Lib.hid (by
          rw [endN, hpj, ← HM.out]; exact modify_set _ _ _ _ hb)
        have hX : (wr.alloc (.cells #[.int .i64 (p.1 : Int), .string p.2] 71)).drew.heap[wr.heap.size]? = some (.cells #[.int .i64 (p.1 : Int), .string p.2] 71 (0, 0)) := heap_alloc_new _ _
        have hne : wr.heap.size ≠ g' := fun e => by
          rw [e, hcur] at hX
          injection hX with hX; injection hX with _ hX _; exact absurd hX (by decide)
        have hX3 : ((wr.alloc (.cells #[.int .i64 (p.1 : Int), .string p.2] 71)).drew.setRow g' cur').heap[wr.heap.size]? = some (.cells #[.int .i64 (p.1 : Int), .string p.2] 71 (0, 0)) := (setRow_other _ g' _ _ hne).trans hX
        have j0 := h3.c0
        have j1 := cell_of_row _ wr.heap.size 0 _ _ _ hX3
        have j2 := cell_of_row _ wr.heap.size 1 _ _ _ hX3
        obtain ⟨gd2, cd2, ed, _, _, hdc2, _⟩ := row_some h3.rd h3.len
        injection ed with ed1 ed2 ed3
        injection ed1 with ed1
        injection ed1 with ed1
        subst ed1 ed3
        have j3 := hdc2 p.1 _ hv1
        have HT2 : Hid (Touch S w ((wr.alloc (.cells #[.int .i64 (p.1 : Int), .string p.2] 71)).drew.setRow g' cur')) := Lib.hid (by
          exact ((HT.out.alloc _).drew).setRow hS' _)
        have H3 := Lib.hid h3
        have hkl : (p.1 : Int) < d.secs.length := by rw [endN_length] at hk; omega
        clear h3 h2 hdc hdc2 hv1 hv2 hv3 hv4 hX hX3 hcur hsz htk t1 t2 t5 hb
        go_wp2_with fail
        refine wp_region_noPanic ?_
        refine wp_region_D 17 (fun w' => w'.cell? ⟨D, 0, none⟩ = some (.slice (some ⟨gd, 0, none⟩) d.secs.length cd) ∧ w'.cell? ⟨wr.heap.size, 0, none⟩ = some (.int .i64 (p.1 : Int)) ∧ w'.cell? ⟨wr.heap.size, 1, none⟩ = some (.string p.2) ∧ w'.cell? ⟨gd, p.1, none⟩ = some (.slice (some ⟨g', 0, none⟩) 64 cs)) (by kernel_rfl) ⟨k0, k1, k2, k3⟩ (fun hU => ?_)
        have hC : (fun w' : World => w'.cell? ⟨D, 0, none⟩ = some (.slice (some ⟨gd, 0, none⟩) d.secs.length cd) ∧ w'.cell? ⟨wr.heap.size, 0, none⟩ = some (.int .i64 (p.1 : Int)) ∧ w'.cell? ⟨wr.heap.size, 1, none⟩ = some (.string p.2) ∧ w'.cell? ⟨gd, p.1, none⟩ = some (.slice (some ⟨g', 0, none⟩) 64 cs)) (wr.alloc (.cells #[.int .i64 (p.1 : Int), .string p.2] 71)).drew := ⟨k0, k1, k2, k3⟩
        clear hU
        have hv13 : (if (m : Int) < 0 then (0 : Int) else (m : Int)) = (m : Int) := by split <;> omega
        have hv14 : (if 64 < (m : Int) then (64 : Int) else (m : Int)) = (m : Int) := by split <;> omega
        refine wpAnyD_take (i := 0) (dst := some 16) (v := ?_) (fuel := 16) rfl rfl (by kernel_rfl) (fun _ _ _ h => h) (by rfl) ?_ (.inr hC) ?_
        rotate_left
        · (intro w; go_simp; try with_reducible rfl)
        simp only [Act.put, List.setIfInBounds_toArray, List.set_cons_zero, List.set_cons_succ]
        refine wpAnyD_take (i := 1) (dst := some 17) (v := ?_) (fuel := 15) rfl rfl (by kernel_rfl) (fun _ _ _ h => h) (by rfl) ?_ (.inr hC) ?_
        rotate_left
        · (intro w; go_simp; try with_reducible rfl)
        simp only [Act.put, List.setIfInBounds_toArray, List.set_cons_zero, List.set_cons_succ]
        refine wpAnyD_take (i := 2) (dst := some 18) (v := ?_) (fuel := 14) rfl rfl (by kernel_rfl) (fun _ _ _ h => h) (by rfl) ?_ (.inr hC) ?_
        rotate_left
        · (intro w; go_simp; try with_reducible rfl)
        simp only [Act.put, List.setIfInBounds_toArray, List.set_cons_zero, List.set_cons_succ]
        refine wpAnyD_load (i := 3) (dst := some 19) (v := ?_) (fuel := 13) rfl rfl (by kernel_rfl) (fun _ _ _ h => h) (by rfl) ?_ (.inr hC) ?_
        rotate_left
        · intro w hSw
          try dsimp only at hSw
          go_simp
          try with_reducible rfl
        simp only [Act.put, List.setIfInBounds_toArray, List.set_cons_zero, List.set_cons_succ]
        refine wpAnyD_take (i := 4) (dst := some 20) (v := ?_) (fuel := 12) rfl rfl (by kernel_rfl) (fun _ _ _ h => h) (by rfl) ?_ (.inr hC) ?_
        rotate_left
        · (intro w; go_simp; try with_reducible rfl)
        simp only [Act.put, List.setIfInBounds_toArray, List.set_cons_zero, List.set_cons_succ]
        refine wpAnyD_load (i := 5) (dst := some 21) (v := ?_) (fuel := 11) rfl rfl (by kernel_rfl) (fun _ _ _ h => h) (by rfl) ?_ (.inr hC) ?_
        rotate_left
        · intro w hSw
          try dsimp only at hSw
          go_simp
          try with_reducible rfl
        simp only [Act.put, List.setIfInBounds_toArray, List.set_cons_zero, List.set_cons_succ]
        refine wpAnyD_take (i := 6) (dst := some 22) (v := ?_) (fuel := 10) rfl rfl (by kernel_rfl) (fun _ _ _ h => h) (by rfl) ?_ (.inr hC) ?_
        rotate_left
        · (intro w; go_simp; try with_reducible rfl)
        simp only [Act.put, List.setIfInBounds_toArray, List.set_cons_zero, List.set_cons_succ]
        refine wpAnyD_load (i := 7) (dst := some 23) (v := ?_) (fuel := 9) rfl rfl (by kernel_rfl) (fun _ _ _ h => h) (by rfl) ?_ (.inr hC) ?_
        rotate_left
        · intro w hSw
          try dsimp only at hSw
          go_simp
          try with_reducible rfl
        simp only [Act.put, List.setIfInBounds_toArray, List.set_cons_zero, List.set_cons_succ]
        refine wpAnyD_take (i := 8) (dst := some 24) (v := ?_) (fuel := 8) rfl rfl (by kernel_rfl) (fun _ _ _ h => h) (by rfl) ?_ (.inr hC) ?_
        rotate_left
        · (intro w; go_simp; try with_reducible rfl)
        simp only [Act.put, List.setIfInBounds_toArray, List.set_cons_zero, List.set_cons_succ]
        refine wpAnyD_load (i := 9) (dst := some 25) (v := ?_) (fuel := 7) rfl rfl (by kernel_rfl) (fun _ _ _ h => h) (by rfl) ?_ (.inr hC) ?_
        rotate_left
        · intro w hSw
          try dsimp only at hSw
          go_simp
          try with_reducible rfl
        simp only [Act.put, List.setIfInBounds_toArray, List.set_cons_zero, List.set_cons_succ]
        refine wpAnyD_take (i := 10) (dst := some 26) (v := ?_) (fuel := 6) rfl rfl (by kernel_rfl) (fun _ _ _ h => h) (by rfl) ?_ (.inr hC) ?_
        rotate_left
        · (intro w; go_simp; try with_reducible rfl)
        simp only [Act.put, List.setIfInBounds_toArray, List.set_cons_zero, List.set_cons_succ]
        refine wpAnyD_take (i := 11) (dst := some 27) (v := ?_) (fuel := 5) rfl rfl (by kernel_rfl) (fun _ _ _ h => h) (by rfl) ?_ (.inr hC) ?_
        rotate_left
        · (intro w; go_simp; try with_reducible rfl)
        simp only [Act.put, List.setIfInBounds_toArray, List.set_cons_zero, List.set_cons_succ]
        refine wpAnyD_ready (fuel := 4) (rs := [12]) (by kernel_rfl) (by simp) ?_
        refine AllReadyD.cons (o := _) rfl (fun K hK => ?_) ?_
        · go_simp
          go_at_call 34
          with_reducible refine hcl.mono ?_
          rintro e _ ⟨rfl, rfl⟩
          go_wp2_with fail
          refine shut_C hK ?_ (fun hC => ?_)
          · first | exact ⟨k0, k1, k2, k3⟩ | exact ⟨j0, j1, j2, j3⟩
          clear hK K
          try simp only [Act.put, List.setIfInBounds_toArray, List.set_cons_zero, List.set_cons_succ]
          refine wpAnyD_ready (fuel := 3) (rs := [13]) (by kernel_rfl) (by simp) ?_
          refine AllReadyD.cons (o := _) rfl (fun K hK => ?_) ?_
          · go_simp
            refine shut_C hK ?_ (fun hC => ?_)
            · first | exact ⟨k0, k1, k2, k3⟩ | exact ⟨j0, j1, j2, j3⟩
            clear hK K
            try simp only [Act.put, List.setIfInBounds_toArray, List.set_cons_zero, List.set_cons_succ]
            refine wpAnyD_ready (fuel := 2) (rs := [14]) (by kernel_rfl) (by simp) ?_
            refine AllReadyD.cons (o := _) rfl (fun K hK => ?_) ?_
            · go_simp
              refine shut_C hK ?_ (fun hC => ?_)
              · first | exact ⟨k0, k1, k2, k3⟩ | exact ⟨j0, j1, j2, j3⟩
              clear hK K
              try simp only [Act.put, List.setIfInBounds_toArray, List.set_cons_zero, List.set_cons_succ]
              refine wpAnyD_take (i := 15) (dst := some 31) (v := ?_) (fuel := 1) rfl rfl (by kernel_rfl) (fun _ _ _ h => h) (by rfl) ?_ (.inr hC) ?_
              rotate_left
              · (intro w; go_simp; try with_reducible rfl)
              simp only [Act.put, List.setIfInBounds_toArray, List.set_cons_zero, List.set_cons_succ]
              refine wpAnyD_ready (fuel := 0) (rs := [16]) (by kernel_rfl) (by simp) ?_
              refine AllReadyD.cons (o := _) rfl (fun K hK => ?_) ?_
              · refine step_copy_eq rfl _ _ _ _ rfl _ _ _ _ rfl rfl hcopy ?_
                refine shut_C hK ?_ (fun hC => ?_)
                · first | exact ⟨k0, k1, k2, k3⟩ | exact ⟨j0, j1, j2, j3⟩
                clear hK K
                try simp only [Act.put, List.setIfInBounds_toArray, List.set_cons_zero, List.set_cons_succ]
                refine wpAnyD_done (by kernel_rfl) ?_ _
                refine NoPanic.normal ?_
                go_wp2_with fail
                go_roundw
                case rel => exact ⟨j + 1, by omega, by go_num, HT2.out, by rw [HN.out]; exact H3.out⟩
                case measure => simp [intOf]; omega
              exact AllReadyD.nil
            exact AllReadyD.nil
          exact AllReadyD.nil
        exact AllReadyD.nil
      · have HM : Hid (clampN (f j) = 64) := Lib.hid (by rw [hx]; unfold clampN; omega)
        have q1 : ¬ x < 0 := by omega
        have q2 : ¬ x ≤ 64 := by omega
        clear hx
        obtain ⟨b, hb⟩ : ∃ b, (endN (fun j => clampN (f j)) d.secs d.pend j)[p.1]? = some b := ⟨_, List.getElem?_eq_getElem hk⟩
        have h2 : DkO S D { d with secs := endN (fun j => clampN (f j)) d.secs d.pend j } (wr.alloc (.cells #[.int .i64 (p.1 : Int), .string p.2] 71)).drew (.slice (some ⟨gd, 0, none⟩) d.secs.length cd) vb (.slice (some ⟨gp, 0, none⟩) d.pend.length cp) dl := H1.out.frame fun k _ hlt => Below.heap_alloc _ _ k hlt
        obtain ⟨v, hv1, hv2, g, hv3, hv4⟩ := h2.sec p.1 b hb
        have hb64 : b.length = 64 := by have := hv2.1; simpa [bcells] using this
        rcases hv2.2 with ⟨e, _⟩ | ⟨g', cs, cur, rfl, _, hcur, h64, _, hsz, htk⟩
        · subst e; cases hv3
        obtain rfl : g' = g := by injection hv3
        have hS' := hv4
        obtain ⟨t1, t2, t3, t4, t5⟩ := torn_cells cur b p.2 64 cs hs (by omega) hsz h64 htk
        have hcopy := Lib.run_copy_row_string (P := Try.prog) (wr.alloc (.cells #[.int .i64 (p.1 : Int), .string p.2] 71)).drew 74 9 3 5 g' 0 64 cs (p.2.extract 0 64) cur 5 Try.underlying74 rfl hcur (by omega) t4
        obtain ⟨cur', hcur'⟩ : ∃ c, (cur.toList.take 0 ++ Lib.byteCells (p.2.extract 0 64).data.toList ++ cur.toList.drop (0 + (p.2.extract 0 64).size)).toArray = c := ⟨_, rfl⟩
        rw [hcur'] at t1 t2 hcopy
        obtain ⟨gd', cd', ed, _, _, hdc, _⟩ := row_some h2.rd h2.len
        injection ed with ed1 ed2 ed3
        injection ed1 with ed1
        injection ed1 with ed1
        subst ed1 ed3
        have k3 := hdc p.1 _ hv1
        have k0 := h2.c0
        have k1 : (wr.alloc (.cells #[.int .i64 (p.1 : Int), .string p.2] 71)).drew.cell? ⟨wr.heap.size, 0, none⟩ = some (.int .i64 (p.1 : Int)) := by rw [World.cell?_drew]; exact World.cell?_alloc_mark ..
        have k2 : (wr.alloc (.cells #[.int .i64 (p.1 : Int), .string p.2] 71)).drew.cell? ⟨wr.heap.size, 1, none⟩ = some (.string p.2) := by rw [World.cell?_drew]; exact World.cell?_alloc_mark ..
        have hsl := fun wx => run_slice_string_h (P := Try.prog) (w := wx) 9 p.2 Try.underlying9 .i64 64 (by omega) (by omega)
        have hcl := HCL.out (wr.alloc (.cells #[.int .i64 (p.1 : Int), .string p.2] 71)).drew (HT.out.alloc _).drew j
        rw [HF.out] at hcl
        have h3 := h2.sector hb hv1 (t5 hb64) hcur (setRow_heap _ g' cur _ 5 _ hcur) t1 t2 (fun i hi _ => setRow_other _ g' i _ hi)
        have HN : Hid (endN (fun j => clampN (f j)) d.secs d.pend (j + 1) = (endN (fun j => clampN (f j)) d.secs d.pend j).set p.1 (torn b p.2.data.toList 64)) := Lib.hid (by
          rw [endN, hpj, ← HM.out]; exact modify_set _ _ _ _ hb)
        have hX : (wr.alloc (.cells #[.int .i64 (p.1 : Int), .string p.2] 71)).drew.heap[wr.heap.size]? = some (.cells #[.int .i64 (p.1 : Int), .string p.2] 71 (0, 0)) := heap_alloc_new _ _
        have hne : wr.heap.size ≠ g' := fun e => by
          rw [e, hcur] at hX
          injection hX with hX; injection hX with _ hX _; exact absurd hX (by decide)
        have hX3 : ((wr.alloc (.cells #[.int .i64 (p.1 : Int), .string p.2] 71)).drew.setRow g' cur').heap[wr.heap.size]? = some (.cells #[.int .i64 (p.1 : Int), .string p.2] 71 (0, 0)) := (setRow_other _ g' _ _ hne).trans hX
        have j0 := h3.c0
        have j1 := cell_of_row _ wr.heap.size 0 _ _ _ hX3
        have j2 := cell_of_row _ wr.heap.size 1 _ _ _ hX3
        obtain ⟨gd2, cd2, ed, _, _, hdc2, _⟩ := row_some h3.rd h3.len
        injection ed with ed1 ed2 ed3
        injection ed1 with ed1
        injection ed1 with ed1
        subst ed1 ed3
        have j3 := hdc2 p.1 _ hv1
        have HT2 : Hid (Touch S w ((wr.alloc (.cells #[.int .i64 (p.1 : Int), .string p.2] 71)).drew.setRow g' cur')) := Lib.hid (by
          exact ((HT.out.alloc _).drew).setRow hS' _)
        have H3 := Lib.hid h3
        have hkl : (p.1 : Int) < d.secs.length := by rw [endN_length] at hk; omega
        clear h3 h2 hdc hdc2 hv1 hv2 hv3 hv4 hX hX3 hcur hsz htk t1 t2 t5 hb
        go_wp2_with fail
        refine wp_region_noPanic ?_
        refine wp_region_D 17 (fun w' => w'.cell? ⟨D, 0, none⟩ = some (.slice (some ⟨gd, 0, none⟩) d.secs.length cd) ∧ w'.cell? ⟨wr.heap.size, 0, none⟩ = some (.int .i64 (p.1 : Int)) ∧ w'.cell? ⟨wr.heap.size, 1, none⟩ = some (.string p.2) ∧ w'.cell? ⟨gd, p.1, none⟩ = some (.slice (some ⟨g', 0, none⟩) 64 cs)) (by kernel_rfl) ⟨k0, k1, k2, k3⟩ (fun hU => ?_)
        have hC : (fun w' : World => w'.cell? ⟨D, 0, none⟩ = some (.slice (some ⟨gd, 0, none⟩) d.secs.length cd) ∧ w'.cell? ⟨wr.heap.size, 0, none⟩ = some (.int .i64 (p.1 : Int)) ∧ w'.cell? ⟨wr.heap.size, 1, none⟩ = some (.string p.2) ∧ w'.cell? ⟨gd, p.1, none⟩ = some (.slice (some ⟨g', 0, none⟩) 64 cs)) (wr.alloc (.cells #[.int .i64 (p.1 : Int), .string p.2] 71)).drew := ⟨k0, k1, k2, k3⟩
        clear hU
        have hv13 : (if x < 0 then (0 : Int) else x) = x := by split <;> omega
        have hv14 : (if 64 < x then (64 : Int) else x) = 64 := by split <;> omega
        refine wpAnyD_take (i := 0) (dst := some 16) (v := ?_) (fuel := 16) rfl rfl (by kernel_rfl) (fun _ _ _ h => h) (by rfl) ?_ (.inr hC) ?_
        rotate_left
        · (intro w; go_simp; try with_reducible rfl)
        simp only [Act.put, List.setIfInBounds_toArray, List.set_cons_zero, List.set_cons_succ]
        refine wpAnyD_take (i := 1) (dst := some 17) (v := ?_) (fuel := 15) rfl rfl (by kernel_rfl) (fun _ _ _ h => h) (by rfl) ?_ (.inr hC) ?_
        rotate_left
        · (intro w; go_simp; try with_reducible rfl)
        simp only [Act.put, List.setIfInBounds_toArray, List.set_cons_zero, List.set_cons_succ]
        refine wpAnyD_take (i := 2) (dst := some 18) (v := ?_) (fuel := 14) rfl rfl (by kernel_rfl) (fun _ _ _ h => h) (by rfl) ?_ (.inr hC) ?_
        rotate_left
        · (intro w; go_simp; try with_reducible rfl)
        simp only [Act.put, List.setIfInBounds_toArray, List.set_cons_zero, List.set_cons_succ]
        refine wpAnyD_load (i := 3) (dst := some 19) (v := ?_) (fuel := 13) rfl rfl (by kernel_rfl) (fun _ _ _ h => h) (by rfl) ?_ (.inr hC) ?_
        rotate_left
        · intro w hSw
          try dsimp only at hSw
          go_simp
          try with_reducible rfl
        simp only [Act.put, List.setIfInBounds_toArray, List.set_cons_zero, List.set_cons_succ]
        refine wpAnyD_take (i := 4) (dst := some 20) (v := ?_) (fuel := 12) rfl rfl (by kernel_rfl) (fun _ _ _ h => h) (by rfl) ?_ (.inr hC) ?_
        rotate_left
        · (intro w; go_simp; try with_reducible rfl)
        simp only [Act.put, List.setIfInBounds_toArray, List.set_cons_zero, List.set_cons_succ]
        refine wpAnyD_load (i := 5) (dst := some 21) (v := ?_) (fuel := 11) rfl rfl (by kernel_rfl) (fun _ _ _ h => h) (by rfl) ?_ (.inr hC) ?_
        rotate_left
        · intro w hSw
          try dsimp only at hSw
          go_simp
          try with_reducible rfl
        simp only [Act.put, List.setIfInBounds_toArray, List.set_cons_zero, List.set_cons_succ]
        refine wpAnyD_take (i := 6) (dst := some 22) (v := ?_) (fuel := 10) rfl rfl (by kernel_rfl) (fun _ _ _ h => h) (by rfl) ?_ (.inr hC) ?_
        rotate_left
        · (intro w; go_simp; try with_reducible rfl)
        simp only [Act.put, List.setIfInBounds_toArray, List.set_cons_zero, List.set_cons_succ]
        refine wpAnyD_load (i := 7) (dst := some 23) (v := ?_) (fuel := 9) rfl rfl (by kernel_rfl) (fun _ _ _ h => h) (by rfl) ?_ (.inr hC) ?_
        rotate_left
        · intro w hSw
          try dsimp only at hSw
          go_simp
          try with_reducible rfl
        simp only [Act.put, List.setIfInBounds_toArray, List.set_cons_zero, List.set_cons_succ]
        refine wpAnyD_take (i := 8) (dst := some 24) (v := ?_) (fuel := 8) rfl rfl (by kernel_rfl) (fun _ _ _ h => h) (by rfl) ?_ (.inr hC) ?_
        rotate_left
        · (intro w; go_simp; try with_reducible rfl)
        simp only [Act.put, List.setIfInBounds_toArray, List.set_cons_zero, List.set_cons_succ]
        refine wpAnyD_load (i := 9) (dst := some 25) (v := ?_) (fuel := 7) rfl rfl (by kernel_rfl) (fun _ _ _ h => h) (by rfl) ?_ (.inr hC) ?_
        rotate_left
        · intro w hSw
          try dsimp only at hSw
          go_simp
          try with_reducible rfl
        simp only [Act.put, List.setIfInBounds_toArray, List.set_cons_zero, List.set_cons_succ]
        refine wpAnyD_take (i := 10) (dst := some 26) (v := ?_) (fuel := 6) rfl rfl (by kernel_rfl) (fun _ _ _ h => h) (by rfl) ?_ (.inr hC) ?_
        rotate_left
        · (intro w; go_simp; try with_reducible rfl)
        simp only [Act.put, List.setIfInBounds_toArray, List.set_cons_zero, List.set_cons_succ]
        refine wpAnyD_take (i := 11) (dst := some 27) (v := ?_) (fuel := 5) rfl rfl (by kernel_rfl) (fun _ _ _ h => h) (by rfl) ?_ (.inr hC) ?_
        rotate_left
        · (intro w; go_simp; try with_reducible rfl)
        simp only [Act.put, List.setIfInBounds_toArray, List.set_cons_zero, List.set_cons_succ]
        refine wpAnyD_ready (fuel := 4) (rs := [12]) (by kernel_rfl) (by simp) ?_
        refine AllReadyD.cons (o := _) rfl (fun K hK => ?_) ?_
        · go_simp
          go_at_call 34
          with_reducible refine hcl.mono ?_
          rintro e _ ⟨rfl, rfl⟩
          go_wp2_with fail
          refine shut_C hK ?_ (fun hC => ?_)
          · first | exact ⟨k0, k1, k2, k3⟩ | exact ⟨j0, j1, j2, j3⟩
          clear hK K
          try simp only [Act.put, List.setIfInBounds_toArray, List.set_cons_zero, List.set_cons_succ]
          refine wpAnyD_ready (fuel := 3) (rs := [13]) (by kernel_rfl) (by simp) ?_
          refine AllReadyD.cons (o := _) rfl (fun K hK => ?_) ?_
          · go_simp
            refine shut_C hK ?_ (fun hC => ?_)
            · first | exact ⟨k0, k1, k2, k3⟩ | exact ⟨j0, j1, j2, j3⟩
            clear hK K
            try simp only [Act.put, List.setIfInBounds_toArray, List.set_cons_zero, List.set_cons_succ]
            refine wpAnyD_ready (fuel := 2) (rs := [14]) (by kernel_rfl) (by simp) ?_
            refine AllReadyD.cons (o := _) rfl (fun K hK => ?_) ?_
            · go_simp
              refine shut_C hK ?_ (fun hC => ?_)
              · first | exact ⟨k0, k1, k2, k3⟩ | exact ⟨j0, j1, j2, j3⟩
              clear hK K
              try simp only [Act.put, List.setIfInBounds_toArray, List.set_cons_zero, List.set_cons_succ]
              refine wpAnyD_take (i := 15) (dst := some 31) (v := ?_) (fuel := 1) rfl rfl (by kernel_rfl) (fun _ _ _ h => h) (by rfl) ?_ (.inr hC) ?_
              rotate_left
              · (intro w; go_simp; try with_reducible rfl)
              simp only [Act.put, List.setIfInBounds_toArray, List.set_cons_zero, List.set_cons_succ]
              refine wpAnyD_ready (fuel := 0) (rs := [16]) (by kernel_rfl) (by simp) ?_
              refine AllReadyD.cons (o := _) rfl (fun K hK => ?_) ?_
              · refine step_copy_eq rfl _ _ _ _ rfl _ _ _ _ rfl rfl hcopy ?_
                refine shut_C hK ?_ (fun hC => ?_)
                · first | exact ⟨k0, k1, k2, k3⟩ | exact ⟨j0, j1, j2, j3⟩
                clear hK K
                try simp only [Act.put, List.setIfInBounds_toArray, List.set_cons_zero, List.set_cons_succ]
                refine wpAnyD_done (by kernel_rfl) ?_ _
                refine NoPanic.normal ?_
                go_wp2_with fail
                go_roundw
                case rel => exact ⟨j + 1, by omega, by go_num, HT2.out, by rw [HN.out]; exact H3.out⟩
                case measure => simp [intOf]; omega
              exact AllReadyD.nil
            exact AllReadyD.nil
          exact AllReadyD.nil
        exact AllReadyD.nil
    · obtain rfl : d.pend.length = j := by omega
      have y2 := h1.c2
      have yf := h1.fr
      have h2 := h1.clear
      have H2 := Lib.hid h2
      clear h1 h2
      go_wp2_with fail
      (refine bodyPost_end (results_none rfl _ _ _) rfl ?_)
      exact ⟨rfl, HT.out.setCell (.inl H.out.sD) _, _, _, _, _, H2.out⟩
end
end Go.Proofs.Ytagfnobchdfhfaa
