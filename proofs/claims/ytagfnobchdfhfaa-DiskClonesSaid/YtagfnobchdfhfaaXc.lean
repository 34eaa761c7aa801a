import Derived.Test.YtagfnobchdfhfaaXb
namespace Go.Proofs.Ytagfnobchdfhfaa
set_option linter.unusedSimpArgs false
set_option linter.unnecessarySimpa false
set_option linter.unusedVariables false
open Go.RowKit Go.ChangeShapes Go.WideShapes Go.ChangeAt
attribute [local go_sem ↓] Go.wp_at_zero Go.wp_at_succ

theorem bs29 (W : World) : (Instr.buildSlice 29 0 #[]).run Try.prog W = .ok (.slice (some ⟨W.heap.size, 0, none⟩) 0 0) (W.alloc (.cells #[] 87)) := by
  have e : Array.map (fun _ : Nat => (default : Value)) (Array.range 0) = #[] := by simp
  simp [Instr.buildSlice, e, Instr.fill, go_sem]
theorem bs28 (W : World) : (Instr.buildSlice 28 0 #[]).run Try.prog W = .ok (.slice (some ⟨W.heap.size, 0, none⟩) 0 0) (W.alloc (.cells #[] 4)) := by
  have e : Array.map (fun _ : Nat => (default : Value)) (Array.range 0) = #[] := by simp
  simp [Instr.buildSlice, e, Instr.fill, go_sem]
theorem bs27 (W : World) : (Instr.buildSlice 27 0 #[]).run Try.prog W = .ok (.slice (some ⟨W.heap.size, 0, none⟩) 0 0) (W.alloc (.cells #[] 9)) := by
  have e : Array.map (fun _ : Nat => (default : Value)) (Array.range 0) = #[] := by simp
  simp [Instr.buildSlice, e, Instr.fill, go_sem]
attribute [local go_sem ↓] bs27 bs28 bs29
theorem set8_at {w : World} {B : Nat} {u0 u1 u2 u3 u4 u5 u6 u7 : Value} (h : w.heap[B]? = some (.cells #[u0, u1, u2, u3, u4, u5, u6, u7] 33 (0, 0))) (v0 v1 v2 v3 v4 v5 v6 v7 : Value) : (set8 w B v0 v1 v2 v3 v4 v5 v6 v7).heap[B]? = some (.cells #[v0, v1, v2, v3, v4, v5, v6, v7] 33 (0, 0)) := by
  unfold set8
  rw [heap_setCell_any _ B 7 _ _ _ v7 (heap_setCell_any _ B 6 _ _ _ v6 (heap_setCell_any _ B 5 _ _ _ v5 (heap_setCell_any _ B 4 _ _ _ v4 (heap_setCell_any _ B 3 _ _ _ v3 (heap_setCell_any _ B 2 _ _ _ v2 (heap_setCell_any _ B 1 _ _ _ v1 (heap_setCell_any w B 0 _ _ _ v0 h)))))))]
  simp only [List.setIfInBounds_toArray, List.set_cons_zero, List.set_cons_succ]
section
variable {T : Nat → Prop} {d : DM} {w : World} {vd vb vp : Value}
set_option maxHeartbeats 1000000 in
theorem write_ref (n : Int) (s : ByteArray) (h : RfO T d w vd vb vp) (ha : d.after ≤ 9223372036854775807) (hp : d.pend.length ≤ 1000) (r : Int) (d' : DM) (hr : writeF d n s = (r, d')) : Calls Try.prog 37 #[rv d vd vb vp, .int .i64 n, .string s] w (Res T d' w fun v' => .returned (.tuple #[v', .int .i64 r])) := by
  obtain ⟨gd, cd, rfl, hgd, _, hdc, _⟩ := row_some h.rd h.len
  obtain ⟨gb, cb, rfl, hgb, _, hbc, _⟩ := row_some h.rb h.len
  obtain ⟨ap, cp, rfl⟩ := row_slice h.rp
  have HR := Lib.hid h
  clear hdc hbc
  obtain ⟨w1, hW1⟩ : ∃ W, (w.alloc (.cells #[.slice (some ⟨gd, 0, none⟩) d.secs.length cd, .slice (some ⟨gb, 0, none⟩) d.secs.length cb, .slice ap d.pend.length cp, .int .i64 d.after, .bool d.failed, .int .i64 d.r, .int .i64 d.wn, .int .i64 d.sy] 33)).alloc (.cells zr33 33) = W := ⟨_, rfl⟩
  have hs1 : w1.heap.size = w.heap.size + 2 := by rw [← hW1]; simp
  have hb1 : Below w.heap.size w w1 := by rw [← hW1]; exact ((Below.refl _ _).alloc (Nat.le_refl _) _).alloc (by simp) _
  have hX1 : w1.heap[w.heap.size]? = some (.cells #[.slice (some ⟨gd, 0, none⟩) d.secs.length cd, .slice (some ⟨gb, 0, none⟩) d.secs.length cb, .slice ap d.pend.length cp, .int .i64 d.after, .bool d.failed, .int .i64 d.r, .int .i64 d.wn, .int .i64 d.sy] 33 (0, 0)) := by rw [← hW1, Below.heap_alloc _ _ _ (by simp)]; exact heap_alloc_new w _
  have hZ1 : w1.heap[w.heap.size + 1]? = some (.cells zr33 33 (0, 0)) := by
    have := heap_alloc_new (w.alloc (.cells #[.slice (some ⟨gd, 0, none⟩) d.secs.length cd, .slice (some ⟨gb, 0, none⟩) d.secs.length cb, .slice ap d.pend.length cp, .int .i64 d.after, .bool d.failed, .int .i64 d.r, .int .i64 d.wn, .int .i64 d.sy] 33)) (.cells zr33 33)
    rw [hW1] at this
    simpa using this
  have HB1 := Lib.hid hb1
  have HX1 := Lib.hid hX1
  have HZ1 := Lib.hid hZ1
  have HW1 := Lib.hid hW1
  clear hs1 hb1 hX1 hZ1 hW1
  cases hin : inside d n with
  | false =>
    have HI := Lib.hid hin
    have HRR : Hid ((2, d) = (r, d')) := Lib.hid (by rw [← hr]; unfold writeF; rw [if_pos hin])
    clear h hr hin
    unfold rv
    go_enter Try.func37, Try.ntmps37
    go_wp2_with fail
    rw [show (w.alloc (.cells #[.slice (some ⟨gd, 0, none⟩) d.secs.length cd, .slice (some ⟨gb, 0, none⟩) d.secs.length cb, .slice ap d.pend.length cp, .int .i64 d.after, .bool d.failed, .int .i64 d.r, .int .i64 d.wn, .int .i64 d.sy] 33)).alloc (.cells #[.slice none 0 0, .slice none 0 0, .slice none 0 0, .int .i64 0, .bool false, .int .i64 0, .int .i64 0, .int .i64 0] 33) = w1 from HW1.out]
    refine (there_any _ _ _ _ _ _ _ _ _ _ _ _ _ _ _ _ (inside_eq d _) _).mono ?_; rintro e w2 ⟨rfl, hb⟩
    rw [HI.out]
    have hbl := hb
    have hX := (hbl.block w.heap.size (Array.getElem?_eq_some_iff.1 HX1.out).1).trans HX1.out
    have hZ := (hbl.block (w.heap.size + 1) (Array.getElem?_eq_some_iff.1 HZ1.out).1).trans HZ1.out
    have HB2 := Lib.hid (HB1.out.trans (hbl.mono HB1.out.size))
    obtain ⟨x0, x1, x2, x3, x4, x5, x6, x7, xf⟩ := c33 hX
    obtain ⟨z0, z1, z2, z3, z4, z5, z6, z7, zf⟩ := z33 hZ
    have HX2 := Lib.hid hX
    have HZ2 := Lib.hid hZ
    clear hbl hX hZ
    go_wp2_with fail
    refine bodyPost_ret (v := .tuple #[rv d (.slice (some ⟨gd, 0, none⟩) d.secs.length cd) (.slice (some ⟨gb, 0, none⟩) d.secs.length cb) (.slice ap d.pend.length cp), .int .i64 2]) (by simp [rv, results, Try.results37, go_sem, z0, z1, z2, z3, z4, z5, z6, z7]) rfl ?_
    have e := HRR.out
    injection e with e1 e2
    subst e1 e2
    exact res_same (mk := fun v' => .returned (.tuple #[v', .int .i64 2])) HR.out (below_set8 HB2.out (Nat.le_succ _) _ _ _ _ _ _ _ _) rfl rfl rfl
  | true =>
    have HI := Lib.hid hin
    by_cases hs : s.size = 64
    · obtain ⟨ok, d1, hst⟩ : ∃ ok d1, stepF d = (ok, d1) := ⟨_, _, rfl⟩
      obtain ⟨f', fl', hsv⟩ : ∃ f' fl', stepV d.after d.failed = (ok, f', fl') := ⟨(stepV d.after d.failed).2.1, (stepV d.after d.failed).2.2, by have := stepF_V d; rw [hst] at this; injection this with e1 _; rw [e1]⟩
      have hd1 : d1 = { d with after := f', failed := fl' } := by have := stepF_V d; rw [hst, hsv] at this; injection this
      have hs' : (s.size : Int) = 64 := by omega
      subst hd1
      have HU := Lib.hid (use_any (some ⟨gd, 0, none⟩) (some ⟨gb, 0, none⟩) ap d.secs.length cd d.secs.length cb d.pend.length cp d.after d.failed d.r d.wn d.sy ha ok f' fl' hsv)
      cases ok with
      | false =>
        have HRR : Hid ((11, { d with after := f', failed := fl' }) = (r, d')) := Lib.hid (by rw [← hr]; unfold writeF; rw [hst]; simp [hin, hs])
        clear h hr hin hst hsv hs
        unfold rv
        go_enter Try.func37, Try.ntmps37
        go_wp2_with fail
        rw [show (w.alloc (.cells #[.slice (some ⟨gd, 0, none⟩) d.secs.length cd, .slice (some ⟨gb, 0, none⟩) d.secs.length cb, .slice ap d.pend.length cp, .int .i64 d.after, .bool d.failed, .int .i64 d.r, .int .i64 d.wn, .int .i64 d.sy] 33)).alloc (.cells #[.slice none 0 0, .slice none 0 0, .slice none 0 0, .int .i64 0, .bool false, .int .i64 0, .int .i64 0, .int .i64 0] 33) = w1 from HW1.out]
        refine (there_any _ _ _ _ _ _ _ _ _ _ _ _ _ _ _ _ (inside_eq d _) _).mono ?_; rintro e w2 ⟨rfl, hb⟩
        rw [HI.out]
        have hbl := hb
        have hX := (hbl.block w.heap.size (Array.getElem?_eq_some_iff.1 HX1.out).1).trans HX1.out
        have hZ := (hbl.block (w.heap.size + 1) (Array.getElem?_eq_some_iff.1 HZ1.out).1).trans HZ1.out
        have HB2 := Lib.hid (HB1.out.trans (hbl.mono HB1.out.size))
        obtain ⟨x0, x1, x2, x3, x4, x5, x6, x7, xf⟩ := c33 hX
        obtain ⟨z0, z1, z2, z3, z4, z5, z6, z7, zf⟩ := z33 hZ
        have HX2 := Lib.hid hX
        have HZ2 := Lib.hid hZ
        clear hbl hX hZ
        go_wp2_with fail
        refine (HU.out _).mono ?_; rintro e w3 ⟨rfl, hb3⟩
        clear x0 x1 x2 x3 x4 x5 x6 x7 xf z0 z1 z2 z3 z4 z5 z6 z7 zf
        have hbl := hb3
        have hX := (hbl.block w.heap.size (Array.getElem?_eq_some_iff.1 HX2.out).1).trans HX2.out
        have hZ := (hbl.block (w.heap.size + 1) (Array.getElem?_eq_some_iff.1 HZ2.out).1).trans HZ2.out
        have HB3 := Lib.hid (HB2.out.trans (hbl.mono HB2.out.size))
        obtain ⟨x0, x1, x2, x3, x4, x5, x6, x7, xf⟩ := c33 hX
        obtain ⟨z0, z1, z2, z3, z4, z5, z6, z7, zf⟩ := z33 hZ
        have HX3 := Lib.hid hX
        have HZ3 := Lib.hid hZ
        clear hbl hX hZ
        have hX4 := set8_at HX3.out (.slice (some ⟨gd, 0, none⟩) d.secs.length cd) (.slice (some ⟨gb, 0, none⟩) d.secs.length cb) (.slice ap d.pend.length cp) (.int .i64 f') (.bool fl') (.int .i64 d.r) (.int .i64 d.wn) (.int .i64 d.sy)
        have HX4 := Lib.hid hX4
        clear hX4
        go_wp2_with fail
        refine bodyPost_ret (v := .tuple #[rv { d with after := f', failed := fl' } (.slice (some ⟨gd, 0, none⟩) d.secs.length cd) (.slice (some ⟨gb, 0, none⟩) d.secs.length cb) (.slice ap d.pend.length cp), .int .i64 11]) (by simp [rv, results, Try.results37, go_sem, z0, z1, z2, z3, z4, z5, z6, z7]) rfl ?_
        have e := HRR.out
        injection e with e1 e2
        subst e1 e2
        exact res_same (d' := { d with after := f', failed := fl' }) (mk := fun v' => .returned (.tuple #[v', .int .i64 11])) HR.out (below_set8 (below_set8 HB3.out (Nat.le_refl _) _ _ _ _ _ _ _ _) (Nat.le_succ _) _ _ _ _ _ _ _ _) rfl rfl rfl
      | true =>
        obtain ⟨k, rfl, hk⟩ : ∃ k : Nat, n = (k : Int) ∧ k < d.secs.length := by
          have := of_decide_eq_true hin
          exact ⟨n.toNat, by omega, by omega⟩
        obtain ⟨x, hx⟩ : ∃ x, IntKind.i64.wrap (d.wn + 1) = x := ⟨_, rfl⟩
        have HRR : Hid ((0, { d with after := f', failed := fl', wn := x, pend := d.pend ++ [(k, s)] }) = (r, d')) := Lib.hid (by rw [← hr, ← hx]; unfold writeF; rw [hst]; simp [hin, hs])
        have HS64 := Lib.hid hs
        clear h hr hin hst hsv hs
        unfold rv
        go_enter Try.func37, Try.ntmps37
        go_wp2_with fail
        rw [show (w.alloc (.cells #[.slice (some ⟨gd, 0, none⟩) d.secs.length cd, .slice (some ⟨gb, 0, none⟩) d.secs.length cb, .slice ap d.pend.length cp, .int .i64 d.after, .bool d.failed, .int .i64 d.r, .int .i64 d.wn, .int .i64 d.sy] 33)).alloc (.cells #[.slice none 0 0, .slice none 0 0, .slice none 0 0, .int .i64 0, .bool false, .int .i64 0, .int .i64 0, .int .i64 0] 33) = w1 from HW1.out]
        refine (there_any _ _ _ _ _ _ _ _ _ _ _ _ _ _ _ _ (inside_eq d _) _).mono ?_; rintro e w2 ⟨rfl, hb⟩
        rw [HI.out]
        have hbl := hb
        have hX := (hbl.block w.heap.size (Array.getElem?_eq_some_iff.1 HX1.out).1).trans HX1.out
        have hZ := (hbl.block (w.heap.size + 1) (Array.getElem?_eq_some_iff.1 HZ1.out).1).trans HZ1.out
        have HB2 := Lib.hid (HB1.out.trans (hbl.mono HB1.out.size))
        obtain ⟨x0, x1, x2, x3, x4, x5, x6, x7, xf⟩ := c33 hX
        obtain ⟨z0, z1, z2, z3, z4, z5, z6, z7, zf⟩ := z33 hZ
        have HX2 := Lib.hid hX
        have HZ2 := Lib.hid hZ
        clear hbl hX hZ
        go_wp2_with fail
        refine (HU.out _).mono ?_; rintro e w3 ⟨rfl, hb3⟩
        clear x0 x1 x2 x3 x4 x5 x6 x7 xf z0 z1 z2 z3 z4 z5 z6 z7 zf
        have hbl := hb3
        have hX := (hbl.block w.heap.size (Array.getElem?_eq_some_iff.1 HX2.out).1).trans HX2.out
        have hZ := (hbl.block (w.heap.size + 1) (Array.getElem?_eq_some_iff.1 HZ2.out).1).trans HZ2.out
        have HB3 := Lib.hid (HB2.out.trans (hbl.mono HB2.out.size))
        obtain ⟨x0, x1, x2, x3, x4, x5, x6, x7, xf⟩ := c33 hX
        obtain ⟨z0, z1, z2, z3, z4, z5, z6, z7, zf⟩ := z33 hZ
        have HX3 := Lib.hid hX
        have HZ3 := Lib.hid hZ
        clear hbl hX hZ
        obtain ⟨ws, hws⟩ : ∃ W, (set8 w3 w.heap.size (.slice (some ⟨gd, 0, none⟩) d.secs.length cd) (.slice (some ⟨gb, 0, none⟩) d.secs.length cb) (.slice ap d.pend.length cp) (.int .i64 f') (.bool fl') (.int .i64 d.r) (.int .i64 d.wn) (.int .i64 d.sy)).setCell ⟨w.heap.size, 6, none⟩ (.int .i64 x) = W := ⟨_, rfl⟩
        have hsz : ws.heap.size = w3.heap.size := by rw [← hws]; simp [set8]
        have hXs : ws.heap[w.heap.size]? = some (.cells #[.slice (some ⟨gd, 0, none⟩) d.secs.length cd, .slice (some ⟨gb, 0, none⟩) d.secs.length cb, .slice ap d.pend.length cp, .int .i64 f', .bool fl', .int .i64 d.r, .int .i64 x, .int .i64 d.sy] 33 (0, 0)) := by
          rw [← hws, heap_setCell_any _ w.heap.size 6 _ _ _ _ (set8_at HX3.out (.slice (some ⟨gd, 0, none⟩) d.secs.length cd) (.slice (some ⟨gb, 0, none⟩) d.secs.length cb) (.slice ap d.pend.length cp) (.int .i64 f') (.bool fl') (.int .i64 d.r) (.int .i64 d.wn) (.int .i64 d.sy))]; rfl
        have hZs : ws.heap[w.heap.size + 1]? = some (.cells zr33 33 (0, 0)) := by
          rw [← hws, Below.heap_setCell _ ⟨w.heap.size, 6, none⟩ _ _ (by show w.heap.size + 1 ≠ w.heap.size; omega), set8_far _ _ _ _ _ _ _ _ _ _ _ (by omega)]; exact HZ3.out
        have hBs : Below w.heap.size w ws := by rw [← hws]; exact (below_set8 HB3.out (Nat.le_refl _) _ _ _ _ _ _ _ _).setCell (Nat.le_refl _) _
        have hl1 : w.heap.size + 1 < ws.heap.size := (Array.getElem?_eq_some_iff.1 hZs).1
        obtain ⟨w4, hw4⟩ : ∃ W, ws.alloc (.cells #[] 87) = W := ⟨_, rfl⟩
        have hs4 : w4.heap.size = ws.heap.size + 1 := by rw [← hw4]; simp
        have o4 : ∀ i, i < ws.heap.size → w4.heap[i]? = ws.heap[i]? := fun i hi => by rw [← hw4]; exact Below.heap_alloc _ _ i hi
        have row4 : w4.ownsRow 0 87 2 (.slice (some ⟨ws.heap.size, 0, none⟩) 0 0) 0 [] := ⟨rfl, .inr ⟨ws.heap.size, 0, #[], rfl, Nat.zero_le _, by rw [← hw4]; exact heap_alloc_new ws _, Nat.le_refl _, Nat.zero_le _, rfl, rfl⟩⟩
        have hB4 : Below w.heap.size w w4 := by rw [← hw4]; exact hBs.alloc (by omega) _
        have rp4 := (HR.out.frame (w' := w4) fun k _ hk => hB4.block k hk).rp
        obtain ⟨v6, w6, run6, row6, gr6, bl6⟩ := append_row (P := Try.prog) w4 29 29 87 _ _ 2 24 Try.underlying29 rfl rfl rfl rfl rfl (by decide) (.slice (some ⟨ws.heap.size, 0, none⟩) 0 0) 0 [] row4 87 _ _ _ rp4 (by
          intro u hu
          unfold pcells at hu
          simp at hu
          obtain ⟨a, b, _, rfl | rfl⟩ := hu <;> rfl) (by omega) (by decide)
        rw [Nat.zero_add, List.nil_append] at row6
        have hb6 : ∀ g, v6.ownBlock = some g → ws.heap.size ≤ g := fun g hg => by
          rcases bl6 with e | ⟨e, _⟩ <;> rw [e] at hg
          · simp [Value.ownBlock] at hg; omega
          · simp at hg; omega
        have o6 : ∀ i, i < ws.heap.size → w6.heap[i]? = ws.heap[i]? := fun i hi => (gr6.block i (by omega) (by simp [Value.ownBlock]; omega)).trans (o4 i hi)
        have hs6 : w4.heap.size ≤ w6.heap.size := gr6.size
        obtain ⟨w7, hw7⟩ : ∃ W, w6.alloc (.cells #[.int .i64 (k : Int), .string s] 87) = W := ⟨_, rfl⟩
        have hs7 : w7.heap.size = w6.heap.size + 1 := by rw [← hw7]; simp
        have o7 : ∀ i, i < w6.heap.size → w7.heap[i]? = w6.heap[i]? := fun i hi => by rw [← hw7]; exact Below.heap_alloc _ _ i hi
        have row7 : w7.ownsRow 0 87 2 v6 d.pend.length (pcells d.pend) := row_of row6 fun g hg => o7 g (row6.lt g hg).2
        obtain ⟨v8, w8, run8, row8, gr8, bl8⟩ := append_at (P := Try.prog) w7 29 29 (e := 87) _ _ 2 24 Try.underlying29 rfl rfl rfl rfl rfl (by decide) v6 d.pend.length (pcells d.pend) row7 ⟨w6.heap.size, 0, none⟩ 1 1 [.int .i64 (k : Int), .string s] rfl (by rw [← hw7]; exact cell_two_new w6 (.int .i64 (k : Int)) (.string s) 87) (by
          intro u hu
          simp at hu
          rcases hu with rfl | rfl <;> rfl) (by omega) (by decide) (by decide)
        have o8 : ∀ i, i < ws.heap.size → w8.heap[i]? = ws.heap[i]? := fun i hi => (gr8.block i (by omega) (fun e => by have := hb6 i e.symm; omega)).trans ((o7 i (by omega)).trans (o6 i hi))
        have hs8 : w7.heap.size ≤ w8.heap.size := gr8.size
        have hb8 : ∀ g, v8.ownBlock = some g → ws.heap.size ≤ g := fun g hg => by
          rcases bl8 with e | ⟨e, _⟩ <;> rw [e] at hg
          · exact hb6 g hg
          · simp at hg; omega
        have hB8 : Below w.heap.size w w8 := hBs.trans ⟨gr8.os.trans ((show w7.os = w6.os by rw [← hw7]; rfl).trans (gr6.os.trans (show w4.os = ws.os by rw [← hw4]; rfl))), gr8.tape.trans ((show w7.tape = w6.tape by rw [← hw7]; rfl).trans (gr6.tape.trans (show w4.tape = ws.tape by rw [← hw4]; rfl))), gr8.output.trans ((show w7.output = w6.output by rw [← hw7]; rfl).trans (gr6.output.trans (show w4.output = ws.output by rw [← hw4]; rfl))), by omega, fun i hi => o8 i (by omega)⟩
        have hX8 := (o8 w.heap.size (by omega)).trans hXs
        have hZ8 := (o8 (w.heap.size + 1) hl1).trans hZs
        have hX4 := (o4 w.heap.size (by omega)).trans hXs
        obtain ⟨y0, y1, y2, y3, y4, y5, y6, y7, yf⟩ := c33 hX8
        obtain ⟨q0, q1, q2, q3, q4, q5, q6, q7, qf⟩ := z33 hZ8
        have p2 : w4.cell? ⟨w.heap.size, 2, none⟩ = some (.slice ap d.pend.length cp) := by rw [cell_of_row w4 _ 2 _ _ _ hX4]; rfl
        obtain ⟨a8, c8, rfl⟩ := row_slice row8
        obtain ⟨a6, c6, rfl⟩ := row_slice row6
        have HB8 := Lib.hid hB8
        have ROW8 := Lib.hid row8
        have HBB := Lib.hid hb8
        have HSS : Hid (w.heap.size + 1 < w8.heap.size) := Lib.hid (by omega)
        have HSL : Hid (w.heap.size + 2 ≤ ws.heap.size) := Lib.hid (by omega)
        clear hXs hZs hBs hB4 rp4 row4 row6 gr6 bl6 hb6 o6 hs6 o7 row7 row8 gr8 bl8 o8 hs8 hb8 hB8 hX8 hZ8 hX4 o4 hs7 hs4 hl1
        subst hw4 hw7
        rw [hsz] at run6
        subst hws
        unfold set8 at run6 p2
        go_wp2_with (at_builtin; first | (refine wpList_append_eq rfl _ _ _ rfl _ _ rfl rfl run6 ?_; clear run6) | (refine wpList_append_eq rfl _ _ _ rfl _ _ rfl rfl run8 ?_; clear run8))
        refine bodyPost_ret (v := .tuple #[.agg #[.slice (some ⟨gd, 0, none⟩) d.secs.length cd, .slice (some ⟨gb, 0, none⟩) d.secs.length cb, .slice a8 (d.pend.length + 1) c8, .int .i64 f', .bool fl', .int .i64 d.r, .int .i64 x, .int .i64 d.sy], .int .i64 0]) (by simp [results, Try.results37, go_sem, q0, q1, q2, q3, q4, q5, q6, q7]) rfl ?_
        have e := HRR.out
        injection e with e1 e2
        subst e1 e2
        obtain ⟨W, hW⟩ : ∃ W, set8 (w8.setCell ⟨w.heap.size, 2, none⟩ (.slice a8 (d.pend.length + 1) c8)) (w.heap.size + 1) (.slice (some ⟨gd, 0, none⟩) d.secs.length cd) (.slice (some ⟨gb, 0, none⟩) d.secs.length cb) (.slice a8 (d.pend.length + 1) c8) (.int .i64 f') (.bool fl') (.int .i64 d.r) (.int .i64 x) (.int .i64 d.sy) = W := ⟨_, rfl⟩
        suffices key : Res T { d with after := f', failed := fl', wn := x, pend := d.pend ++ [(k, s)] } w (fun v' => .returned (.tuple #[v', .int .i64 0])) (.returned (.tuple #[.agg #[.slice (some ⟨gd, 0, none⟩) d.secs.length cd, .slice (some ⟨gb, 0, none⟩) d.secs.length cb, .slice a8 (d.pend.length + 1) c8, .int .i64 f', .bool fl', .int .i64 d.r, .int .i64 x, .int .i64 d.sy], .int .i64 0])) W by
          rw [← hW] at key; exact key
        have hBW : Below w.heap.size w W := by rw [← hW]; exact below_set8 (HB8.out.setCell (Nat.le_refl _) _) (Nat.le_succ _) _ _ _ _ _ _ _ _
        have hSW : W.heap.size = w8.heap.size := by rw [← hW]; simp [set8]
        have h1 := HR.out.frame (w' := W) fun k _ hk => hBW.block k hk
        have hg8 : ∀ g, (Value.slice a8 (d.pend.length + 1) c8).ownBlock = some g → w.heap.size + 2 ≤ g ∧ g < w8.heap.size := fun g hg => by
          have h2 := HBB.out g hg
          have h3 := (ROW8.out.lt g hg).2
          have := HSL.out
          omega
        have rowW : W.ownsRow 0 87 2 (.slice a8 (d.pend.length + 1) c8) (d.pend.length + 1) (pcells d.pend ++ [.int .i64 (k : Int), .string s]) := row_of ROW8.out fun g hg => by
          have := hg8 g hg
          rw [← hW, set8_far _ _ _ _ _ _ _ _ _ _ _ (by omega)]
          exact Below.heap_setCell w8 ⟨w.heap.size, 2, none⟩ _ _ (by show g ≠ w.heap.size; omega)
        refine ⟨_, rfl, hBW, _, _, _, rfl, h1.rd, fun k hk => .inl (h1.sd k hk), h1.rb, fun k hk => .inl (h1.sb k hk), ?_, fun g hg => ?_, h1.l64, h1.len, ?_⟩
        · simpa [pcells] using rowW
        · right
          have := hg8 g hg
          rw [hSW]; omega
        · intro p hp
          simp only [List.mem_append, List.mem_singleton] at hp
          rcases hp with hp | rfl
          · exact HR.out.fit p hp
          · exact ⟨hk, HS64.out⟩
    · have hs' : ((s.size : Int) == 64) = false := by rw [Bool.eq_false_iff]; simp; omega
      have HRR : Hid ((1, d) = (r, d')) := Lib.hid (by rw [← hr]; unfold writeF; simp [hin, hs])
      clear h hr hin hs
      unfold rv
      go_enter Try.func37, Try.ntmps37
      go_wp2_with fail
      rw [show (w.alloc (.cells #[.slice (some ⟨gd, 0, none⟩) d.secs.length cd, .slice (some ⟨gb, 0, none⟩) d.secs.length cb, .slice ap d.pend.length cp, .int .i64 d.after, .bool d.failed, .int .i64 d.r, .int .i64 d.wn, .int .i64 d.sy] 33)).alloc (.cells #[.slice none 0 0, .slice none 0 0, .slice none 0 0, .int .i64 0, .bool false, .int .i64 0, .int .i64 0, .int .i64 0] 33) = w1 from HW1.out]
      refine (there_any _ _ _ _ _ _ _ _ _ _ _ _ _ _ _ _ (inside_eq d _) _).mono ?_; rintro e w2 ⟨rfl, hb⟩
      rw [HI.out]
      have hbl := hb
      have hX := (hbl.block w.heap.size (Array.getElem?_eq_some_iff.1 HX1.out).1).trans HX1.out
      have hZ := (hbl.block (w.heap.size + 1) (Array.getElem?_eq_some_iff.1 HZ1.out).1).trans HZ1.out
      have HB2 := Lib.hid (HB1.out.trans (hbl.mono HB1.out.size))
      obtain ⟨x0, x1, x2, x3, x4, x5, x6, x7, xf⟩ := c33 hX
      obtain ⟨z0, z1, z2, z3, z4, z5, z6, z7, zf⟩ := z33 hZ
      have HX2 := Lib.hid hX
      have HZ2 := Lib.hid hZ
      clear hbl hX hZ
      go_wp2_with fail
      refine bodyPost_ret (v := .tuple #[rv d (.slice (some ⟨gd, 0, none⟩) d.secs.length cd) (.slice (some ⟨gb, 0, none⟩) d.secs.length cb) (.slice ap d.pend.length cp), .int .i64 1]) (by simp [rv, results, Try.results37, go_sem, z0, z1, z2, z3, z4, z5, z6, z7]) rfl ?_
      have e := HRR.out
      injection e with e1 e2
      subst e1 e2
      exact res_same (mk := fun v' => .returned (.tuple #[v', .int .i64 1])) HR.out (below_set8 HB2.out (Nat.le_succ _) _ _ _ _ _ _ _ _) rfl rfl rfl
end
end Go.Proofs.Ytagfnobchdfhfaa
