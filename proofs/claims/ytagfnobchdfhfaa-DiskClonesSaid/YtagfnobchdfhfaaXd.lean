import Derived.Test.YtagfnobchdfhfaaXc
namespace Go.Proofs.Ytagfnobchdfhfaa
set_option linter.unusedSimpArgs false
set_option linter.unnecessarySimpa false
set_option linter.unusedVariables false
open Go.RowKit Go.ChangeShapes Go.WideShapes Go.ChangeAt
attribute [local go_sem ↓] Go.wp_at_zero Go.wp_at_succ
attribute [local go_sem ↓] bs27 bs28 bs29

section
variable {T : Nat → Prop} {d : DM} {w : World} {vd vb vp : Value}
set_option maxHeartbeats 400000 in
theorem setBad_ref (n : Int) (b : Bool) (h : RfO T d w vd vb vp) (hl : d.secs.length ≤ 2000) (r : Int) (d' : DM) (hr : badF d n b = (r, d')) : Calls Try.prog 41 #[rv d vd vb vp, .int .i64 n, .bool b] w (Res T d' w fun v' => .returned (.tuple #[v', .int .i64 r])) := by
  obtain ⟨gd, cd, rfl, hgd, _, hdc, _⟩ := row_some h.rd h.len
  obtain ⟨gb, cb, rfl, hgb, _, hbc, _⟩ := row_some h.rb h.len
  obtain ⟨ap, cp, rfl⟩ := row_slice h.rp
  have HR := Lib.hid h
  clear hdc hbc
  obtain ⟨w1, hW1⟩ : ∃ W, (w.alloc (.cells #[.slice (some ⟨gd, 0, none⟩) d.secs.length cd, .slice (some ⟨gb, 0, none⟩) d.secs.length cb, .slice ap d.pend.length cp, .int .i64 d.after, .bool d.failed, .int .i64 d.r, .int .i64 d.wn, .int .i64 d.sy] 33)).alloc (.cells zr33 33) = W := ⟨_, rfl⟩
  have hs1 : w1.heap.size = w.heap.size + 2 := by rw [← hW1]; simp
  have hb1 : Below w.heap.size w w1 := by rw [← hW1]; exact ((Below.refl _ _).alloc (Nat.le_refl _) _).alloc (by simp) _
  have hX1 : w1.heap[w.heap.size]? = some (.cells #[.slice (some ⟨gd, 0, none⟩) d.secs.length cd, .slice (some ⟨gb, 0, none⟩) d.secs.length cb, .slice ap d.pend.length cp, .int .i64 d.after, .bool d.failed, .int .i64 d.r, .int .i64 d.wn, .int .i64 d.sy] 33 (0, 0)) := by rw [← hW1, Below.heap_alloc _ _ _ (by simp)]; exact heap_alloc_new w _
  have hZ1 : w1.heap[w.heap.size + 1]? = some (.cells zr33 33 (0, 0)) := by
    have := heap_alloc_new (w.alloc (.cells #[.slice (some ⟨gd, 0, none⟩) d.secs.length cd, .slice (some ⟨gb, 0, none⟩) d.secs.length cb, .slice ap d.pend.length cp, .int .i64 d.after, .bool d.failed, .int .i64 d.r, .int .i64 d.wn, .int .i64 d.sy] 33)) (.cells zr33 33)
    rw [hW1] at this
    simpa using this
  have HB1 := Lib.hid hb1
  have HX1 := Lib.hid hX1
  have HZ1 := Lib.hid hZ1
  have HW1 := Lib.hid hW1
  clear hs1 hb1 hX1 hZ1 hW1
  cases hin : inside d n with
  | false =>
    have HI := Lib.hid hin
    have HRR : Hid ((2, d) = (r, d')) := Lib.hid (by rw [← hr]; unfold badF; rw [if_pos hin])
    clear h hr hin
    unfold rv
    go_enter Try.func41, Try.ntmps41
    go_wp2_with fail
    rw [show (w.alloc (.cells #[.slice (some ⟨gd, 0, none⟩) d.secs.length cd, .slice (some ⟨gb, 0, none⟩) d.secs.length cb, .slice ap d.pend.length cp, .int .i64 d.after, .bool d.failed, .int .i64 d.r, .int .i64 d.wn, .int .i64 d.sy] 33)).alloc (.cells #[.slice none 0 0, .slice none 0 0, .slice none 0 0, .int .i64 0, .bool false, .int .i64 0, .int .i64 0, .int .i64 0] 33) = w1 from HW1.out]
    refine (there_any _ _ _ _ _ _ _ _ _ _ _ _ _ _ _ _ (inside_eq d _) _).mono ?_; rintro e w2 ⟨rfl, hb⟩
    rw [HI.out]
    have hbl := hb
    have hX := (hbl.block w.heap.size (Array.getElem?_eq_some_iff.1 HX1.out).1).trans HX1.out
    have hZ := (hbl.block (w.heap.size + 1) (Array.getElem?_eq_some_iff.1 HZ1.out).1).trans HZ1.out
    have HB2 := Lib.hid (HB1.out.trans (hbl.mono HB1.out.size))
    obtain ⟨x0, x1, x2, x3, x4, x5, x6, x7, xf⟩ := c33 hX
    obtain ⟨z0, z1, z2, z3, z4, z5, z6, z7, zf⟩ := z33 hZ
    have HX2 := Lib.hid hX
    have HZ2 := Lib.hid hZ
    clear hbl hX hZ
    go_wp2_with fail
    refine bodyPost_ret (v := .tuple #[rv d (.slice (some ⟨gd, 0, none⟩) d.secs.length cd) (.slice (some ⟨gb, 0, none⟩) d.secs.length cb) (.slice ap d.pend.length cp), .int .i64 2]) (by simp [rv, results, Try.results41, go_sem, z0, z1, z2, z3, z4, z5, z6, z7]) rfl ?_
    have e := HRR.out
    injection e with e1 e2
    subst e1 e2
    exact res_same (mk := fun v' => .returned (.tuple #[v', .int .i64 2])) HR.out (below_set8 HB2.out (Nat.le_succ _) _ _ _ _ _ _ _ _) rfl rfl rfl
  | true =>
    have HI := Lib.hid hin
    obtain ⟨k, rfl, hk⟩ : ∃ k : Nat, n = (k : Int) ∧ k < d.secs.length := by
      have := of_decide_eq_true hin
      exact ⟨n.toNat, by omega, by omega⟩
    have HRR : Hid ((0, { d with bad := d.bad.set k b }) = (r, d')) := Lib.hid (by rw [← hr]; unfold badF; rw [hin]; rfl)
    have hbl : d.bad.length = d.secs.length := by have := h.rb.1; simpa using this
    have hn0 := h.len
    have hkl : (k : Int) < d.secs.length := by omega
    clear h hr hin
    unfold rv
    go_enter Try.func41, Try.ntmps41
    go_wp2_with fail
    rw [show (w.alloc (.cells #[.slice (some ⟨gd, 0, none⟩) d.secs.length cd, .slice (some ⟨gb, 0, none⟩) d.secs.length cb, .slice ap d.pend.length cp, .int .i64 d.after, .bool d.failed, .int .i64 d.r, .int .i64 d.wn, .int .i64 d.sy] 33)).alloc (.cells #[.slice none 0 0, .slice none 0 0, .slice none 0 0, .int .i64 0, .bool false, .int .i64 0, .int .i64 0, .int .i64 0] 33) = w1 from HW1.out]
    refine (there_any _ _ _ _ _ _ _ _ _ _ _ _ _ _ _ _ (inside_eq d _) _).mono ?_; rintro e w2 ⟨rfl, hb⟩
    rw [HI.out]
    have hbl := hb
    have hX := (hbl.block w.heap.size (Array.getElem?_eq_some_iff.1 HX1.out).1).trans HX1.out
    have hZ := (hbl.block (w.heap.size + 1) (Array.getElem?_eq_some_iff.1 HZ1.out).1).trans HZ1.out
    have HB2 := Lib.hid (HB1.out.trans (hbl.mono HB1.out.size))
    obtain ⟨x0, x1, x2, x3, x4, x5, x6, x7, xf⟩ := c33 hX
    obtain ⟨z0, z1, z2, z3, z4, z5, z6, z7, zf⟩ := z33 hZ
    have HX2 := Lib.hid hX
    have HZ2 := Lib.hid hZ
    clear hbl hX hZ
    obtain ⟨w4, hw4⟩ : ∃ W, w2.alloc (.cells #[] 4) = W := ⟨_, rfl⟩
    have hl1 : w.heap.size + 1 < w2.heap.size := (Array.getElem?_eq_some_iff.1 HZ2.out).1
    have hs4 : w4.heap.size = w2.heap.size + 1 := by rw [← hw4]; simp
    have o4 : ∀ i, i < w2.heap.size → w4.heap[i]? = w2.heap[i]? := fun i hi => by rw [← hw4]; exact Below.heap_alloc _ _ i hi
    have row4 : w4.ownsRow 0 4 1 (.slice (some ⟨w2.heap.size, 0, none⟩) 0 0) 0 [] := ⟨rfl, .inr ⟨w2.heap.size, 0, #[], rfl, Nat.zero_le _, by rw [← hw4]; exact heap_alloc_new w2 _, Nat.le_refl _, Nat.zero_le _, rfl, rfl⟩⟩
    have hB4 : Below w.heap.size w w4 := by rw [← hw4]; exact HB2.out.alloc (by omega) _
    have rb4 := (HR.out.frame (w' := w4) fun k _ hk => hB4.block k hk).rb
    obtain ⟨v6, w6, run6, row6, gr6, bl6⟩ := append_row (P := Try.prog) w4 28 28 4 _ _ 1 1 Try.underlying28 rfl rfl rfl rfl rfl (by decide) (.slice (some ⟨w2.heap.size, 0, none⟩) 0 0) 0 [] row4 4 _ _ _ rb4 (by intro u hu; simp at hu; rcases hu with ⟨_, rfl⟩ | ⟨_, rfl⟩ <;> rfl) (by omega) (by decide)
    rw [Nat.zero_add, List.nil_append] at row6
    obtain ⟨g6, c6, rfl, hg6, hc6, cell6, fr6⟩ := row_some row6 hn0
    have hb6 : w2.heap.size ≤ g6 := by
      rcases bl6 with e | ⟨e, _⟩ <;> simp [Value.ownBlock] at e <;> omega
    have o6 : ∀ i, i < w2.heap.size → w6.heap[i]? = w2.heap[i]? := fun i hi => (gr6.block i (by omega) (by simp [Value.ownBlock]; omega)).trans (o4 i hi)
    have hB6 : Below w.heap.size w w6 := HB2.out.trans ⟨gr6.os.trans (by rw [← hw4]; rfl), gr6.tape.trans (by rw [← hw4]; rfl), gr6.output.trans (by rw [← hw4]; rfl), by have := gr6.size; omega, fun i hi => o6 i (by omega)⟩
    have hX6 := (o6 w.heap.size (by omega)).trans HX2.out
    have hZ6 := (o6 (w.heap.size + 1) hl1).trans HZ2.out
    have hX4 := (o4 w.heap.size (by omega)).trans HX2.out
    have p1 : w4.cell? ⟨w.heap.size, 1, none⟩ = some (.slice (some ⟨gb, 0, none⟩) d.secs.length cb) := by rw [cell_of_row w4 _ 1 _ _ _ hX4]; rfl
    have hX7 : (w6.setCell ⟨w.heap.size, 1, none⟩ (.slice (some ⟨g6, 0, none⟩) d.secs.length c6)).heap[w.heap.size]? = some (.cells #[.slice (some ⟨gd, 0, none⟩) d.secs.length cd, .slice (some ⟨g6, 0, none⟩) d.secs.length c6, .slice ap d.pend.length cp, .int .i64 d.after, .bool d.failed, .int .i64 d.r, .int .i64 d.wn, .int .i64 d.sy] 33 (0, 0)) := by rw [heap_setCell_any w6 w.heap.size 1 _ _ _ _ hX6]; rfl
    have row7 : (w6.setCell ⟨w.heap.size, 1, none⟩ (.slice (some ⟨g6, 0, none⟩) d.secs.length c6)).ownsRow 0 4 1 (.slice (some ⟨g6, 0, none⟩) d.secs.length c6) d.secs.length (d.bad.map Value.bool) := row_of row6 fun g hg => Below.heap_setCell w6 ⟨w.heap.size, 1, none⟩ _ g (by simp [Value.ownBlock] at hg; show g ≠ w.heap.size; omega)
    have cell7 : (w6.setCell ⟨w.heap.size, 1, none⟩ (.slice (some ⟨g6, 0, none⟩) d.secs.length c6)).cell? ⟨g6, k, none⟩ = some (.bool (d.bad.getD k false)) := by
      rw [row7.cellAt k (by omega), List.getElem?_map, List.getElem?_eq_getElem (by omega), List.getD_eq_getElem?_getD, List.getElem?_eq_getElem (by omega)]; rfl
    have fr7 := row7.frozenAt k
    have row8 := (row7.stored k (.bool b)).1
    obtain ⟨w9, hw9⟩ : ∃ W, (w6.setCell ⟨w.heap.size, 1, none⟩ (.slice (some ⟨g6, 0, none⟩) d.secs.length c6)).setCell ⟨g6, k, none⟩ (.bool b) = W := ⟨_, rfl⟩
    rw [hw9] at row8
    have hX9 : w9.heap[w.heap.size]? = some (.cells #[.slice (some ⟨gd, 0, none⟩) d.secs.length cd, .slice (some ⟨g6, 0, none⟩) d.secs.length c6, .slice ap d.pend.length cp, .int .i64 d.after, .bool d.failed, .int .i64 d.r, .int .i64 d.wn, .int .i64 d.sy] 33 (0, 0)) := by rw [← hw9, Below.heap_setCell _ ⟨g6, k, none⟩ _ _ (by show w.heap.size ≠ g6; omega)]; exact hX7
    have hZ9 : w9.heap[w.heap.size + 1]? = some (.cells zr33 33 (0, 0)) := by rw [← hw9, Below.heap_setCell _ ⟨g6, k, none⟩ _ _ (by show w.heap.size + 1 ≠ g6; omega), Below.heap_setCell _ ⟨w.heap.size, 1, none⟩ _ _ (by show w.heap.size + 1 ≠ w.heap.size; omega)]; exact hZ6
    obtain ⟨y0, y1, y2, y3, y4, y5, y6, y7, yf⟩ := c33 hX9
    obtain ⟨q0, q1, q2, q3, q4, q5, q6, q7, qf⟩ := z33 hZ9
    have u1 : w6.cell? ⟨w.heap.size, 1, none⟩ = some (.slice (some ⟨gb, 0, none⟩) d.secs.length cb) := by rw [cell_of_row w6 _ 1 _ _ _ hX6]; rfl
    have uf : ∀ i, w6.frozen? ⟨w.heap.size, i, none⟩ = false := fun i => by simp [World.frozen?, hX6]
    have HB9 : Hid (Below w.heap.size w w9) := Lib.hid (by rw [← hw9]; exact (hB6.setCell (Nat.le_refl _) _).setCell (by show w.heap.size ≤ g6; omega) _)
    have ROW8 := Lib.hid row8
    have HG6 : Hid (w.heap.size + 2 ≤ g6) := Lib.hid (by omega)
    have HW9 := Lib.hid hw9
    clear hb6 o6 hB6 hX6 hZ6 hX4 hX7 row7 row8 hX9 hZ9 row4 hB4 rb4 row6 gr6 bl6 cell6 fr6 o4 hs4 hl1 hbl
    subst hw4
    subst hw9
    go_wp2_with (at_builtin; (refine wpList_append_eq rfl _ _ _ rfl _ _ rfl rfl run6 ?_; clear run6))
    refine bodyPost_ret (v := .tuple #[.agg #[.slice (some ⟨gd, 0, none⟩) d.secs.length cd, .slice (some ⟨g6, 0, none⟩) d.secs.length c6, .slice ap d.pend.length cp, .int .i64 d.after, .bool d.failed, .int .i64 d.r, .int .i64 d.wn, .int .i64 d.sy], .int .i64 0]) (by simp [results, Try.results41, go_sem, q0, q1, q2, q3, q4, q5, q6, q7]) rfl ?_
    have e := HRR.out
    injection e with e1 e2
    subst e1 e2
    obtain ⟨w9, hw9⟩ : ∃ W, (w6.setCell ⟨w.heap.size, 1, none⟩ (.slice (some ⟨g6, 0, none⟩) d.secs.length c6)).setCell ⟨g6, k, none⟩ (.bool b) = W := ⟨_, rfl⟩
    rw [hw9] at HB9 ROW8
    obtain ⟨W, hW⟩ : ∃ W, set8 w9 (w.heap.size + 1) (.slice (some ⟨gd, 0, none⟩) d.secs.length cd) (.slice (some ⟨g6, 0, none⟩) d.secs.length c6) (.slice ap d.pend.length cp) (.int .i64 d.after) (.bool d.failed) (.int .i64 d.r) (.int .i64 d.wn) (.int .i64 d.sy) = W := ⟨_, rfl⟩
    suffices key : Res T { d with bad := d.bad.set k b } w (fun v' => .returned (.tuple #[v', .int .i64 0])) (.returned (.tuple #[.agg #[.slice (some ⟨gd, 0, none⟩) d.secs.length cd, .slice (some ⟨g6, 0, none⟩) d.secs.length c6, .slice ap d.pend.length cp, .int .i64 d.after, .bool d.failed, .int .i64 d.r, .int .i64 d.wn, .int .i64 d.sy], .int .i64 0])) W by
      rw [← hW, ← hw9] at key; exact key
    have hBW : Below w.heap.size w W := by rw [← hW]; exact below_set8 HB9.out (Nat.le_succ _) _ _ _ _ _ _ _ _
    have hSW : W.heap.size = w9.heap.size := by rw [← hW]; simp [set8]
    have h1 := HR.out.frame (w' := W) fun k _ hk => hBW.block k hk
    have hg6 := HG6.out
    have hl9 : g6 < w9.heap.size := (ROW8.out.lt g6 rfl).2
    have rowW : W.ownsRow 0 4 1 (.slice (some ⟨g6, 0, none⟩) d.secs.length c6) d.secs.length ((d.bad.map Value.bool).set k (.bool b)) := row_of ROW8.out fun g hg => by
      have hgg : g = g6 := by simp [Value.ownBlock] at hg; exact hg.symm
      rw [← hW, set8_far _ _ _ _ _ _ _ _ _ _ _ (by omega)]
    refine ⟨_, rfl, hBW, _, _, _, rfl, h1.rd, fun k hk => .inl (h1.sd k hk), ?_, fun g hg => ?_, h1.rp, fun k hk => .inl (h1.sp k hk), h1.l64, h1.len, h1.fit⟩
    · show W.ownsRow 0 4 1 _ d.secs.length ((d.bad.set k b).map Value.bool)
      rw [List.map_set]; exact rowW
    · have hgg : g = g6 := by simp [Value.ownBlock] at hg; exact hg.symm
      right
      rw [hSW]; omega
end
end Go.Proofs.Ytagfnobchdfhfaa
