import Derived.Test.YtagfnobchdfhfaaXe
namespace Go.Proofs.Ytagfnobchdfhfaa
set_option linter.unusedSimpArgs false
set_option linter.unnecessarySimpa false
set_option linter.unusedVariables false
open Go.RowKit Go.ChangeShapes Go.WideShapes Go.ChangeAt
attribute [local go_sem ↓] Go.wp_at_zero Go.wp_at_succ
attribute [local go_sem ↓] bs27 bs28 bs29

def sCells (l : List (List UInt8)) : List Value := l.map fun b => Value.string (sB b)
/-- the end of pending writes, under way -/
structure EnO (w : World) (d : DM) (gd gb g7 cd cb cp c7 : Nat) (ap : Option Addr) (m : Nat → Nat) (j : Nat) (W : World) : Prop where
  bel : Below w.heap.size w W
  x0 : W.heap[w.heap.size]? = some (.cells #[.slice (some ⟨gd, 0, none⟩) d.secs.length cd, .slice (some ⟨gb, 0, none⟩) d.secs.length cb, .slice ap d.pend.length cp, .int .i64 d.after, .bool d.failed, .int .i64 d.r, .int .i64 d.wn, .int .i64 d.sy] 33 (0, 0))
  z : W.heap[w.heap.size + 1]? = some (.cells zr33 33 (0, 0))
  row : W.ownsRow 0 9 1 (.slice (some ⟨g7, 0, none⟩) d.secs.length c7) d.secs.length (sCells (endN m d.secs d.pend j))
theorem EnO.step {w : World} {d : DM} {gd gb g7 cd cb cp c7 : Nat} {ap : Option Addr} {m : Nat → Nat} {j : Nat} {W : World} (h : EnO w d gd gb g7 cd cb cp c7 ap m j W) (hg : w.heap.size + 2 ≤ g7) (p : Nat × ByteArray) (hp : d.pend[j]? = some p) (b : List UInt8) (hb : (endN m d.secs d.pend j)[p.1]? = some b) (z : ByteArray) (hz : z = sB (torn b p.2.data.toList (m j))) :
    EnO w d gd gb g7 cd cb cp c7 ap m (j + 1) (W.drew.setCell ⟨g7, p.1, none⟩ (.string z)) := by
  have far : ∀ i, i ≠ g7 → (W.drew.setCell ⟨g7, p.1, none⟩ (.string z)).heap[i]? = W.heap[i]? := fun i hi => Below.heap_setCell W.drew ⟨g7, p.1, none⟩ _ i hi
  refine ⟨(below_drewN h.bel 1).setCell (by show w.heap.size ≤ g7; omega) _, (far _ (by omega)).trans h.x0, (far _ (by omega)).trans h.z, ?_⟩
  have h1 := (World.ownsRow.stored (w := W.drew) h.row p.1 (.string z)).1
  have e : endN m d.secs d.pend (j + 1) = (endN m d.secs d.pend j).set p.1 (torn b p.2.data.toList (m j)) := by
    rw [endN, hp]; exact modify_set _ _ _ _ hb
  rw [e]
  unfold sCells
  rw [List.map_set, ← hz]
  exact h1
theorem endN_64 (m : Nat → Nat) (secs : List (List UInt8)) (l : List (Nat × ByteArray)) (h : ∀ (i : Nat) (b : List UInt8), secs[i]? = some b → b.length = 64) (hl : ∀ p ∈ l, p.2.size = 64) : ∀ (j i : Nat) (b : List UInt8), (endN m secs l j)[i]? = some b → b.length = 64 := by
  intro j
  induction j with
  | zero => exact h
  | succ j ih =>
    intro i b hb
    unfold endN at hb
    split at hb
    · rename_i p hp
      rw [List.getElem?_modify] at hb
      cases hc : (endN m secs l j)[i]? with
      | none => rw [hc] at hb; simp at hb
      | some c =>
        rw [hc] at hb
        have h1 := ih i c hc
        simp at hb
        split at hb
        · have h2 := hl p (List.mem_of_getElem? hp)
          have h3 : p.2.data.toList.length = 64 := by rw [Array.length_toList]; exact h2
          rw [← hb]; unfold torn; simp [h1]; omega
        · rw [← hb]; exact h1
    · exact ih i b hb
theorem end_res {T : Nat → Prop} {d : DM} {w wr : World} {gd gb g7 cd cb cp c7 : Nat} {ap : Option Addr} {vp0 : Value} {M : Nat → Nat} (h : RfO T d w (.slice (some ⟨gd, 0, none⟩) d.secs.length cd) (.slice (some ⟨gb, 0, none⟩) d.secs.length cb) vp0) (he : EnO w d gd gb g7 cd cb cp c7 ap M d.pend.length wr) (hg : w.heap.size + 2 ≤ g7) :
    Res T (endF d M) w (fun v' => .returned v') (.returned (.agg #[.slice (some ⟨g7, 0, none⟩) d.secs.length c7, .slice (some ⟨gb, 0, none⟩) d.secs.length cb, .slice none 0 0, .int .i64 d.after, .bool d.failed, .int .i64 d.r, .int .i64 d.wn, .int .i64 d.sy])) (set8 ((wr.setCell ⟨w.heap.size, 0, none⟩ (.slice (some ⟨g7, 0, none⟩) d.secs.length c7)).setCell ⟨w.heap.size, 2, none⟩ (.slice none 0 0)) (w.heap.size + 1) (.slice (some ⟨g7, 0, none⟩) d.secs.length c7) (.slice (some ⟨gb, 0, none⟩) d.secs.length cb) (.slice none 0 0) (.int .i64 d.after) (.bool d.failed) (.int .i64 d.r) (.int .i64 d.wn) (.int .i64 d.sy)) := by
  obtain ⟨W, hW⟩ : ∃ W, set8 ((wr.setCell ⟨w.heap.size, 0, none⟩ (.slice (some ⟨g7, 0, none⟩) d.secs.length c7)).setCell ⟨w.heap.size, 2, none⟩ (.slice none 0 0)) (w.heap.size + 1) (.slice (some ⟨g7, 0, none⟩) d.secs.length c7) (.slice (some ⟨gb, 0, none⟩) d.secs.length cb) (.slice none 0 0) (.int .i64 d.after) (.bool d.failed) (.int .i64 d.r) (.int .i64 d.wn) (.int .i64 d.sy) = W := ⟨_, rfl⟩
  rw [hW]
  have hBW : Below w.heap.size w W := by rw [← hW]; exact below_set8 ((he.bel.setCell (Nat.le_refl _) _).setCell (Nat.le_refl _) _) (Nat.le_succ _) _ _ _ _ _ _ _ _
  have far : ∀ i, i ≠ w.heap.size → i ≠ w.heap.size + 1 → W.heap[i]? = wr.heap[i]? := fun i h1 h2 => by
    rw [← hW, set8_far _ _ _ _ _ _ _ _ _ _ _ h2]
    exact (Below.heap_setCell _ ⟨w.heap.size, 2, none⟩ _ i h1).trans (Below.heap_setCell wr ⟨w.heap.size, 0, none⟩ _ i h1)
  have hSW : W.heap.size = wr.heap.size := by rw [← hW]; simp [set8]
  have h1 := h.frame (w' := W) fun k _ hk => hBW.block k hk
  have hl : (endF d M).secs.length = d.secs.length := by show (endN _ _ _ _).length = _; rw [endN_length]
  have rowW : W.ownsRow 0 9 1 (.slice (some ⟨g7, 0, none⟩) d.secs.length c7) d.secs.length (sCells (endN M d.secs d.pend d.pend.length)) := row_of he.row fun g hgg => by
    have hgg' : g = g7 := by simp [Value.ownBlock] at hgg; exact hgg.symm
    exact far g (by omega) (by omega)
  have hl7 : g7 < wr.heap.size := (he.row.lt g7 rfl).2
  refine ⟨_, rfl, hBW, .slice (some ⟨g7, 0, none⟩) (endF d M).secs.length c7, .slice (some ⟨gb, 0, none⟩) (endF d M).secs.length cb, .slice none 0 0, by rw [hl]; rfl, ?_, fun g hgg => ?_, ?_, fun k hk => .inl (h1.sb k (by rw [hl] at hk; exact hk)), World.ownsRow_nil _ _ _ _, fun k hk => by simp [Value.ownBlock] at hk, ?_, by rw [hl]; exact h1.len, fun p hp => by cases hp⟩
  · rw [hl]; exact rowW
  · have hgg' : g = g7 := by simp [Value.ownBlock] at hgg; exact hgg.symm
    right
    rw [hSW]; omega
  · rw [hl]; exact h1.rb
  · exact fun i b hb => endN_64 M d.secs d.pend h.l64 (fun p hp => (h.fit p hp).2) d.pend.length i b hb
section
variable {T : Nat → Prop} {d : DM} {w : World} {vd vb vp : Value}
set_option maxHeartbeats 800000 in
theorem end_all (h : RfO T d w vd vb vp) (hp : d.pend.length ≤ 1000) (hl : d.secs.length ≤ 2000) : Calls Try.prog 46 #[rv d vd vb vp, .slice none 0 0, .bool true] w (Res T (endF d fun _ => 64) w fun v' => .returned v') := by
  have hn0 := h.len
  obtain ⟨gd, cd, rfl, hgd, _, hdc, _⟩ := row_some h.rd h.len
  obtain ⟨gb, cb, rfl, hgb, _, hbc, _⟩ := row_some h.rb h.len
  obtain ⟨ap, cp, rfl⟩ := row_slice h.rp
  have HR := Lib.hid h
  clear hdc hbc
  obtain ⟨w1, hW1⟩ : ∃ W, (w.alloc (.cells #[.slice (some ⟨gd, 0, none⟩) d.secs.length cd, .slice (some ⟨gb, 0, none⟩) d.secs.length cb, .slice ap d.pend.length cp, .int .i64 d.after, .bool d.failed, .int .i64 d.r, .int .i64 d.wn, .int .i64 d.sy] 33)).alloc (.cells zr33 33) = W := ⟨_, rfl⟩
  have hs1 : w1.heap.size = w.heap.size + 2 := by rw [← hW1]; simp
  have hb1 : Below w.heap.size w w1 := by rw [← hW1]; exact ((Below.refl _ _).alloc (Nat.le_refl _) _).alloc (by simp) _
  have hX1 : w1.heap[w.heap.size]? = some (.cells #[.slice (some ⟨gd, 0, none⟩) d.secs.length cd, .slice (some ⟨gb, 0, none⟩) d.secs.length cb, .slice ap d.pend.length cp, .int .i64 d.after, .bool d.failed, .int .i64 d.r, .int .i64 d.wn, .int .i64 d.sy] 33 (0, 0)) := by rw [← hW1, Below.heap_alloc _ _ _ (by simp)]; exact heap_alloc_new w _
  have hZ1 : w1.heap[w.heap.size + 1]? = some (.cells zr33 33 (0, 0)) := by
    have := heap_alloc_new (w.alloc (.cells #[.slice (some ⟨gd, 0, none⟩) d.secs.length cd, .slice (some ⟨gb, 0, none⟩) d.secs.length cb, .slice ap d.pend.length cp, .int .i64 d.after, .bool d.failed, .int .i64 d.r, .int .i64 d.wn, .int .i64 d.sy] 33)) (.cells zr33 33)
    rw [hW1] at this
    simpa using this
  have HB1 := Lib.hid hb1
  have HX1 := Lib.hid hX1
  have HZ1 := Lib.hid hZ1
  have HW1 := Lib.hid hW1
  clear hs1 hb1 hX1 hZ1 hW1
  clear h
  obtain ⟨w2, hw2⟩ : ∃ W, w1.alloc (.cells #[] 9) = W := ⟨_, rfl⟩
  have hl1 : w.heap.size + 1 < w1.heap.size := (Array.getElem?_eq_some_iff.1 HZ1.out).1
  have hs2 : w2.heap.size = w1.heap.size + 1 := by rw [← hw2]; simp
  have o2 : ∀ i, i < w1.heap.size → w2.heap[i]? = w1.heap[i]? := fun i hi => by rw [← hw2]; exact Below.heap_alloc _ _ i hi
  have row2 : w2.ownsRow 0 9 1 (.slice (some ⟨w1.heap.size, 0, none⟩) 0 0) 0 [] := ⟨rfl, .inr ⟨w1.heap.size, 0, #[], rfl, Nat.zero_le _, by rw [← hw2]; exact heap_alloc_new w1 _, Nat.le_refl _, Nat.zero_le _, rfl, rfl⟩⟩
  have hB2 : Below w.heap.size w w2 := by rw [← hw2]; exact HB1.out.alloc (by omega) _
  have rd2 := (HR.out.frame (w' := w2) fun k _ hk => hB2.block k hk).rd
  obtain ⟨v7, w7, run7, row7, gr7, bl7⟩ := append_row (P := Try.prog) w2 27 27 9 _ _ 1 16 Try.underlying27 rfl rfl rfl rfl rfl (by decide) (.slice (some ⟨w1.heap.size, 0, none⟩) 0 0) 0 [] row2 9 _ _ _ rd2 (by intro u hu; simp at hu; obtain ⟨_, _, rfl⟩ := hu; rfl) (by omega) (by decide)
  rw [Nat.zero_add, List.nil_append] at row7
  obtain ⟨g7, c7, rfl, hg7, hc7, cell7, fr7⟩ := row_some row7 hn0
  have hb7 : w1.heap.size ≤ g7 := by
    rcases bl7 with e | ⟨e, _⟩ <;> simp [Value.ownBlock] at e <;> omega
  have o7 : ∀ i, i < w1.heap.size → w7.heap[i]? = w1.heap[i]? := fun i hi => (gr7.block i (by omega) (by simp [Value.ownBlock]; omega)).trans (o2 i hi)
  have hB7 : Below w.heap.size w w7 := HB1.out.trans ⟨gr7.os.trans (by rw [← hw2]; rfl), gr7.tape.trans (by rw [← hw2]; rfl), gr7.output.trans (by rw [← hw2]; rfl), by have := gr7.size; omega, fun i hi => o7 i (by omega)⟩
  have hX2 := (o2 w.heap.size (by omega)).trans HX1.out
  have p0 : w2.cell? ⟨w.heap.size, 0, none⟩ = some (.slice (some ⟨gd, 0, none⟩) d.secs.length cd) := by rw [cell_of_row w2 _ 0 _ _ _ hX2]; rfl
  have HG7 : Hid (w.heap.size + 2 ≤ g7) := Lib.hid (by omega)
  have HE0 : Hid (∀ m, EnO w d gd gb g7 cd cb cp c7 ap m 0 w7) := Lib.hid (fun m => ⟨hB7, (o7 w.heap.size (by omega)).trans HX1.out, (o7 (w.heap.size + 1) hl1).trans HZ1.out, row7⟩)
  clear o2 row2 hB2 rd2 row7 gr7 bl7 cell7 fr7 hb7 o7 hB7 hX2 hg7 hc7 hl1 hs2
  have hw1s : w1.heap.size = w.heap.size + 2 := by rw [← HW1.out]; simp
  subst hw2
  rw [hw1s] at run7
  rw [← HW1.out] at run7 p0
  clear hw1s
  unfold rv
  go_enter Try.func46, Try.ntmps46
  go_wp2_with (at_builtin; (refine wpList_append_eq rfl _ _ _ rfl _ _ rfl rfl run7 ?_; clear run7))
  go_loopw [8] (fun i wr => ∃ j : Nat, j ≤ d.pend.length ∧ i = .int .i64 (j : Int) ∧ EnO w d gd gb g7 cd cb cp c7 ap (fun _ => 64) j wr) (fun i _ => d.pend.length - (intOf i).toNat)
  case atStart => exact ⟨0, by omega, rfl, HE0.out _⟩
  case round =>
    obtain ⟨j, hj, rfl, hen⟩ := hrel
    have HE := Lib.hid hen
    obtain ⟨x0, x1, x2, x3, x4, x5, x6, x7, xf⟩ := c33 hen.x0
    clear hen
    by_cases hlt : j < d.pend.length
    · have hjl : (j : Int) < d.pend.length := by omega
      have hrr := HR.out.frame (w' := wr) fun k _ hk => HE.out.bel.block k hk
      obtain ⟨gp, cp', e, hgp, _, hpc, _⟩ := row_some hrr.rp (by omega)
      injection e with e1 _ e3
      subst e1 e3
      obtain ⟨p, hpj⟩ : ∃ p, d.pend[j]? = some p := ⟨_, List.getElem?_eq_getElem hlt⟩
      obtain ⟨q1, q2⟩ := pcells_get d.pend j p hpj
      have p1 := hpc _ _ q1
      have p2 := hpc _ _ q2
      obtain ⟨hk, hs⟩ := HR.out.fit p (List.mem_of_getElem? hpj)
      have hkl : (p.1 : Int) < d.secs.length := by omega
      obtain ⟨b, hb⟩ : ∃ b, (endN (fun _ => 64) d.secs d.pend j)[p.1]? = some b := ⟨_, List.getElem?_eq_getElem (by rw [endN_length]; exact hk)⟩
      have hb64 : b.length = 64 := endN_64 _ _ _ HR.out.l64 (fun p hp => (HR.out.fit p hp).2) j _ _ hb
      have d1 : wr.cell? ⟨g7, p.1, none⟩ = some (.string (sB b)) := by
        rw [HE.out.row.cellAt p.1 (by omega), sCells, List.getElem?_map, hb]; rfl
      have df : wr.frozen? ⟨g7, p.1, none⟩ = false := HE.out.row.frozenAt p.1
      have HPJ := Lib.hid hpj
      have HBB := Lib.hid hb
      clear hpc q1 q2 hpj hb hrr hgp
      obtain ⟨bs, hbs⟩ : ∃ x, sB b = x := ⟨_, rfl⟩
      rw [hbs] at d1
      have hbs64 : bs.size = 64 := by rw [← hbs]; show b.toArray.size = 64; simp [hb64]
      have HBS := Lib.hid hbs
      clear hbs hb64
      have hm : (fun _ : Nat => 64) j = 64 := rfl
      have hk1 : (0 : Int) ≤ 64 := by omega
      have hk2 : (64 : Int) ≤ 64 := by omega
      have hadd := fun wx => run_string_add_sum (P := Try.prog) wx (p.2.extract 0 64) (bs.extract 64 64) (by rw [ByteArray.size_extract, ByteArray.size_extract]; omega)
      have hZ : p.2.extract 0 64 = sB (torn b p.2.data.toList 64) := by
        have := torn_str bs p.2 64 hbs64
        rw [← HBS.out] at this
        try rw [← HBS.out]
        rw [show (sB b).data.toList = b from rfl] at this
        rw [this]
        try simp
      have HN := Lib.hid (HE.out.step HG7.out p HPJ.out b HBB.out (p.2.extract 0 64) (by first | exact hZ | (have hm' := hm; dsimp only at hm'; rw [hm']; exact hZ)))
      clear hZ hm
      go_wp2_with fail
      refine wp_region_noPanic ?_
      refine wp_region_D 18 (fun w' => w'.cell? ⟨w.heap.size, 2, none⟩ = some (.slice (some ⟨gp, 0, none⟩) d.pend.length cp) ∧ w'.cell? ⟨gp, j * 2 + 1, none⟩ = some (.string p.2) ∧ w'.cell? ⟨g7, p.1, none⟩ = some (.string bs)) (by kernel_rfl) ⟨x2, p2, d1⟩ (fun hU => ?_)
      have hC : (fun w' : World => w'.cell? ⟨w.heap.size, 2, none⟩ = some (.slice (some ⟨gp, 0, none⟩) d.pend.length cp) ∧ w'.cell? ⟨gp, j * 2 + 1, none⟩ = some (.string p.2) ∧ w'.cell? ⟨g7, p.1, none⟩ = some (.string bs)) wr.drew := ⟨x2, p2, d1⟩
      clear hU
      refine wpAnyD_take (i := 0) (dst := some 39) (v := ?_) (fuel := 18) rfl rfl (by kernel_rfl) (fun _ _ _ h => h) (by rfl) ?_ (.inr hC) ?_
      rotate_left
      · (intro w; go_simp; try with_reducible rfl)
      simp only [Act.put, List.setIfInBounds_toArray, List.set_cons_zero, List.set_cons_succ]
      refine wpAnyD_take (i := 1) (dst := some 40) (v := ?_) (fuel := 17) rfl rfl (by kernel_rfl) (fun _ _ _ h => h) (by rfl) ?_ (.inr hC) ?_
      rotate_left
      · (intro w; go_simp; try with_reducible rfl)
      simp only [Act.put, List.setIfInBounds_toArray, List.set_cons_zero, List.set_cons_succ]
      refine wpAnyD_take (i := 2) (dst := some 41) (v := ?_) (fuel := 16) rfl rfl (by kernel_rfl) (fun _ _ _ h => h) (by rfl) ?_ (.inr hC) ?_
      rotate_left
      · (intro w; go_simp; try with_reducible rfl)
      simp only [Act.put, List.setIfInBounds_toArray, List.set_cons_zero, List.set_cons_succ]
      refine wpAnyD_load (i := 3) (dst := some 42) (v := ?_) (fuel := 15) rfl rfl (by kernel_rfl) (fun _ _ _ h => h) (by rfl) ?_ (.inr hC) ?_
      rotate_left
      · intro w hSw
        try dsimp only at hSw
        go_simp
        try with_reducible rfl
      simp only [Act.put, List.setIfInBounds_toArray, List.set_cons_zero, List.set_cons_succ]
      refine wpAnyD_take (i := 4) (dst := some 43) (v := ?_) (fuel := 14) rfl rfl (by kernel_rfl) (fun _ _ _ h => h) (by rfl) ?_ (.inr hC) ?_
      rotate_left
      · (intro w; go_simp; try with_reducible rfl)
      simp only [Act.put, List.setIfInBounds_toArray, List.set_cons_zero, List.set_cons_succ]
      refine wpAnyD_take (i := 5) (dst := some 44) (v := ?_) (fuel := 13) rfl rfl (by kernel_rfl) (fun _ _ _ h => h) (by rfl) ?_ (.inr hC) ?_
      rotate_left
      · (intro w; go_simp; try with_reducible rfl)
      simp only [Act.put, List.setIfInBounds_toArray, List.set_cons_zero, List.set_cons_succ]
      refine wpAnyD_take (i := 6) (dst := some 45) (v := ?_) (fuel := 12) rfl rfl (by kernel_rfl) (fun _ _ _ h => h) (by rfl) ?_ (.inr hC) ?_
      rotate_left
      · (intro w; go_simp; try with_reducible rfl)
      simp only [Act.put, List.setIfInBounds_toArray, List.set_cons_zero, List.set_cons_succ]
      refine wpAnyD_load (i := 7) (dst := some 46) (v := ?_) (fuel := 11) rfl rfl (by kernel_rfl) (fun _ _ _ h => h) (by rfl) ?_ (.inr hC) ?_
      rotate_left
      · intro w hSw
        try dsimp only at hSw
        go_simp
        try with_reducible rfl
      simp only [Act.put, List.setIfInBounds_toArray, List.set_cons_zero, List.set_cons_succ]
      refine wpAnyD_take (i := 8) (dst := some 47) (v := ?_) (fuel := 10) rfl rfl (by kernel_rfl) (fun _ _ _ h => h) (by rfl) ?_ (.inr hC) ?_
      rotate_left
      · (intro w; go_simp; try with_reducible rfl)
      simp only [Act.put, List.setIfInBounds_toArray, List.set_cons_zero, List.set_cons_succ]
      refine wpAnyD_take (i := 9) (dst := some 48) (v := ?_) (fuel := 9) rfl rfl (by kernel_rfl) (fun _ _ _ h => h) (by rfl) ?_ (.inr hC) ?_
      rotate_left
      · (intro w; go_simp; try with_reducible rfl)
      simp only [Act.put, List.setIfInBounds_toArray, List.set_cons_zero, List.set_cons_succ]
      refine wpAnyD_take (i := 10) (dst := some 49) (v := ?_) (fuel := 8) rfl rfl (by kernel_rfl) (fun _ _ _ h => h) (by rfl) ?_ (.inr hC) ?_
      rotate_left
      · (intro w; go_simp; try with_reducible rfl)
      simp only [Act.put, List.setIfInBounds_toArray, List.set_cons_zero, List.set_cons_succ]
      refine wpAnyD_take (i := 11) (dst := some 50) (v := ?_) (fuel := 7) rfl rfl (by kernel_rfl) (fun _ _ _ h => h) (by rfl) ?_ (.inr hC) ?_
      rotate_left
      · (intro w; go_simp; try with_reducible rfl)
      simp only [Act.put, List.setIfInBounds_toArray, List.set_cons_zero, List.set_cons_succ]
      refine wpAnyD_take (i := 12) (dst := some 51) (v := ?_) (fuel := 6) rfl rfl (by kernel_rfl) (fun _ _ _ h => h) (by rfl) ?_ (.inr hC) ?_
      rotate_left
      · (intro w; go_simp; try with_reducible rfl)
      simp only [Act.put, List.setIfInBounds_toArray, List.set_cons_zero, List.set_cons_succ]
      refine wpAnyD_load (i := 13) (dst := some 52) (v := ?_) (fuel := 5) rfl rfl (by kernel_rfl) (fun _ _ _ h => h) (by rfl) ?_ (.inr hC) ?_
      rotate_left
      · intro w hSw
        try dsimp only at hSw
        go_simp
        try with_reducible rfl
      simp only [Act.put, List.setIfInBounds_toArray, List.set_cons_zero, List.set_cons_succ]
      refine wpAnyD_take (i := 14) (dst := some 53) (v := ?_) (fuel := 4) rfl rfl (by kernel_rfl) (fun _ _ _ h => h) (by rfl) ?_ (.inr hC) ?_
      rotate_left
      · (intro w; go_simp; try with_reducible rfl)
      simp only [Act.put, List.setIfInBounds_toArray, List.set_cons_zero, List.set_cons_succ]
      refine wpAnyD_take (i := 15) (dst := some 54) (v := ?_) (fuel := 3) rfl rfl (by kernel_rfl) (fun _ _ _ h => h) (by rfl) ?_ (.inr hC) ?_
      rotate_left
      · (intro w; go_simp; try with_reducible rfl)
      simp only [Act.put, List.setIfInBounds_toArray, List.set_cons_zero, List.set_cons_succ]
      refine wpAnyD_take (i := 16) (dst := some 55) (v := ?_) (fuel := 2) rfl rfl (by kernel_rfl) (fun _ _ _ h => h) (by rfl) ?_ (.inr hC) ?_
      rotate_left
      · (intro w; go_simp; try with_reducible rfl)
      simp only [Act.put, List.setIfInBounds_toArray, List.set_cons_zero, List.set_cons_succ]
      refine wpAnyD_take (i := 17) (dst := some 56) (v := ?_) (fuel := 1) rfl rfl (by kernel_rfl) (fun _ _ _ h => h) (by rfl) ?_ (.inr hC) ?_
      rotate_left
      · (intro w; go_simp; try with_reducible rfl)
      simp only [Act.put, List.setIfInBounds_toArray, List.set_cons_zero, List.set_cons_succ]
      refine wpAnyD_ready (fuel := 0) (rs := [18]) (by kernel_rfl) (by simp) ?_
      refine AllReadyD.cons (o := _) rfl (fun K hK => ?_) ?_
      · go_simp
        refine shut_K hK (by kernel_rfl) ?_
        clear hK K
        try simp only [Act.put, List.setIfInBounds_toArray, List.set_cons_zero, List.set_cons_succ]
        refine wpAnyD_done (by kernel_rfl) ?_ _
        refine NoPanic.normal ?_
        clear hadd
        go_wp2_with fail
        go_roundw
        case rel => exact ⟨j + 1, by omega, by go_num, HN.out⟩
        case measure => simp [intOf]; omega
      exact AllReadyD.nil
    · obtain rfl : d.pend.length = j := by omega
      have hX := HE.out.x0
      have hZ := HE.out.z
      have hX2 : (wr.setCell ⟨w.heap.size, 0, none⟩ (.slice (some ⟨g7, 0, none⟩) d.secs.length c7)).heap[w.heap.size]? = some (.cells #[.slice (some ⟨g7, 0, none⟩) d.secs.length c7, .slice (some ⟨gb, 0, none⟩) d.secs.length cb, .slice ap d.pend.length cp, .int .i64 d.after, .bool d.failed, .int .i64 d.r, .int .i64 d.wn, .int .i64 d.sy] 33 (0, 0)) := by rw [heap_setCell_any wr w.heap.size 0 _ _ _ _ hX]; rfl
      have hX3 : ((wr.setCell ⟨w.heap.size, 0, none⟩ (.slice (some ⟨g7, 0, none⟩) d.secs.length c7)).setCell ⟨w.heap.size, 2, none⟩ (.slice none 0 0)).heap[w.heap.size]? = some (.cells #[.slice (some ⟨g7, 0, none⟩) d.secs.length c7, .slice (some ⟨gb, 0, none⟩) d.secs.length cb, .slice none 0 0, .int .i64 d.after, .bool d.failed, .int .i64 d.r, .int .i64 d.wn, .int .i64 d.sy] 33 (0, 0)) := by rw [heap_setCell_any _ w.heap.size 2 _ _ _ _ hX2]; rfl
      have far3 : ∀ i, i ≠ w.heap.size → ((wr.setCell ⟨w.heap.size, 0, none⟩ (.slice (some ⟨g7, 0, none⟩) d.secs.length c7)).setCell ⟨w.heap.size, 2, none⟩ (.slice none 0 0)).heap[i]? = wr.heap[i]? := fun i hi => (Below.heap_setCell _ ⟨w.heap.size, 2, none⟩ _ i hi).trans (Below.heap_setCell wr ⟨w.heap.size, 0, none⟩ _ i hi)
      have hZ3 := (far3 (w.heap.size + 1) (by omega)).trans hZ
      obtain ⟨y0, y1, y2, y3, y4, y5, y6, y7, yf⟩ := c33 hX3
      obtain ⟨q0, q1, q2, q3, q4, q5, q6, q7, qf⟩ := z33 hZ3
      have FAR := Lib.hid far3
      clear hX hZ hX2 hX3 far3 hZ3
      go_wp2_with fail
      refine bodyPost_ret (v := .agg #[.slice (some ⟨g7, 0, none⟩) d.secs.length c7, .slice (some ⟨gb, 0, none⟩) d.secs.length cb, .slice none 0 0, .int .i64 d.after, .bool d.failed, .int .i64 d.r, .int .i64 d.wn, .int .i64 d.sy]) (by simp [results, Try.results46, go_sem, q0, q1, q2, q3, q4, q5, q6, q7]) rfl ?_
      exact end_res (M := fun _ => 64) HR.out HE.out HG7.out
set_option maxHeartbeats 2000000 in
theorem end_some (sv : List Int) (A : Option Addr) (c : Nat) (hA : Ones (Value.int .i64) w w.heap.size A sv) (h : RfO T d w vd vb vp) (hp : d.pend.length ≤ 1000) (hl : d.secs.length ≤ 2000) : Calls Try.prog 46 #[rv d vd vb vp, .slice A sv.length c, .bool false] w (Res T (endF d fun j => clampN (sv.getD j 0)) w fun v' => .returned v') := by
  have hn0 := h.len
  have HA := Lib.hid hA
  obtain ⟨gd, cd, rfl, hgd, _, hdc, _⟩ := row_some h.rd h.len
  obtain ⟨gb, cb, rfl, hgb, _, hbc, _⟩ := row_some h.rb h.len
  obtain ⟨ap, cp, rfl⟩ := row_slice h.rp
  have HR := Lib.hid h
  clear hdc hbc
  obtain ⟨w1, hW1⟩ : ∃ W, (w.alloc (.cells #[.slice (some ⟨gd, 0, none⟩) d.secs.length cd, .slice (some ⟨gb, 0, none⟩) d.secs.length cb, .slice ap d.pend.length cp, .int .i64 d.after, .bool d.failed, .int .i64 d.r, .int .i64 d.wn, .int .i64 d.sy] 33)).alloc (.cells zr33 33) = W := ⟨_, rfl⟩
  have hs1 : w1.heap.size = w.heap.size + 2 := by rw [← hW1]; simp
  have hb1 : Below w.heap.size w w1 := by rw [← hW1]; exact ((Below.refl _ _).alloc (Nat.le_refl _) _).alloc (by simp) _
  have hX1 : w1.heap[w.heap.size]? = some (.cells #[.slice (some ⟨gd, 0, none⟩) d.secs.length cd, .slice (some ⟨gb, 0, none⟩) d.secs.length cb, .slice ap d.pend.length cp, .int .i64 d.after, .bool d.failed, .int .i64 d.r, .int .i64 d.wn, .int .i64 d.sy] 33 (0, 0)) := by rw [← hW1, Below.heap_alloc _ _ _ (by simp)]; exact heap_alloc_new w _
  have hZ1 : w1.heap[w.heap.size + 1]? = some (.cells zr33 33 (0, 0)) := by
    have := heap_alloc_new (w.alloc (.cells #[.slice (some ⟨gd, 0, none⟩) d.secs.length cd, .slice (some ⟨gb, 0, none⟩) d.secs.length cb, .slice ap d.pend.length cp, .int .i64 d.after, .bool d.failed, .int .i64 d.r, .int .i64 d.wn, .int .i64 d.sy] 33)) (.cells zr33 33)
    rw [hW1] at this
    simpa using this
  have HB1 := Lib.hid hb1
  have HX1 := Lib.hid hX1
  have HZ1 := Lib.hid hZ1
  have HW1 := Lib.hid hW1
  clear hs1 hb1 hX1 hZ1 hW1
  clear h hA
  obtain ⟨w2, hw2⟩ : ∃ W, w1.alloc (.cells #[] 9) = W := ⟨_, rfl⟩
  have hl1 : w.heap.size + 1 < w1.heap.size := (Array.getElem?_eq_some_iff.1 HZ1.out).1
  have hs2 : w2.heap.size = w1.heap.size + 1 := by rw [← hw2]; simp
  have o2 : ∀ i, i < w1.heap.size → w2.heap[i]? = w1.heap[i]? := fun i hi => by rw [← hw2]; exact Below.heap_alloc _ _ i hi
  have row2 : w2.ownsRow 0 9 1 (.slice (some ⟨w1.heap.size, 0, none⟩) 0 0) 0 [] := ⟨rfl, .inr ⟨w1.heap.size, 0, #[], rfl, Nat.zero_le _, by rw [← hw2]; exact heap_alloc_new w1 _, Nat.le_refl _, Nat.zero_le _, rfl, rfl⟩⟩
  have hB2 : Below w.heap.size w w2 := by rw [← hw2]; exact HB1.out.alloc (by omega) _
  have rd2 := (HR.out.frame (w' := w2) fun k _ hk => hB2.block k hk).rd
  obtain ⟨v7, w7, run7, row7, gr7, bl7⟩ := append_row (P := Try.prog) w2 27 27 9 _ _ 1 16 Try.underlying27 rfl rfl rfl rfl rfl (by decide) (.slice (some ⟨w1.heap.size, 0, none⟩) 0 0) 0 [] row2 9 _ _ _ rd2 (by intro u hu; simp at hu; obtain ⟨_, _, rfl⟩ := hu; rfl) (by omega) (by decide)
  rw [Nat.zero_add, List.nil_append] at row7
  obtain ⟨g7, c7, rfl, hg7, hc7, cell7, fr7⟩ := row_some row7 hn0
  have hb7 : w1.heap.size ≤ g7 := by
    rcases bl7 with e | ⟨e, _⟩ <;> simp [Value.ownBlock] at e <;> omega
  have o7 : ∀ i, i < w1.heap.size → w7.heap[i]? = w1.heap[i]? := fun i hi => (gr7.block i (by omega) (by simp [Value.ownBlock]; omega)).trans (o2 i hi)
  have hB7 : Below w.heap.size w w7 := HB1.out.trans ⟨gr7.os.trans (by rw [← hw2]; rfl), gr7.tape.trans (by rw [← hw2]; rfl), gr7.output.trans (by rw [← hw2]; rfl), by have := gr7.size; omega, fun i hi => o7 i (by omega)⟩
  have hX2 := (o2 w.heap.size (by omega)).trans HX1.out
  have p0 : w2.cell? ⟨w.heap.size, 0, none⟩ = some (.slice (some ⟨gd, 0, none⟩) d.secs.length cd) := by rw [cell_of_row w2 _ 0 _ _ _ hX2]; rfl
  have HG7 : Hid (w.heap.size + 2 ≤ g7) := Lib.hid (by omega)
  have HE0 : Hid (∀ m, EnO w d gd gb g7 cd cb cp c7 ap m 0 w7) := Lib.hid (fun m => ⟨hB7, (o7 w.heap.size (by omega)).trans HX1.out, (o7 (w.heap.size + 1) hl1).trans HZ1.out, row7⟩)
  clear o2 row2 hB2 rd2 row7 gr7 bl7 cell7 fr7 hb7 o7 hB7 hX2 hg7 hc7 hl1 hs2
  have hw1s : w1.heap.size = w.heap.size + 2 := by rw [← HW1.out]; simp
  subst hw2
  rw [hw1s] at run7
  rw [← HW1.out] at run7 p0
  clear hw1s
  unfold rv
  go_enter Try.func46, Try.ntmps46
  go_wp2_with (at_builtin; (refine wpList_append_eq rfl _ _ _ rfl _ _ rfl rfl run7 ?_; clear run7))
  go_loopw [8] (fun i wr => ∃ j : Nat, j ≤ d.pend.length ∧ i = .int .i64 (j : Int) ∧ EnO w d gd gb g7 cd cb cp c7 ap (fun j => clampN (sv.getD j 0)) j wr) (fun i _ => d.pend.length - (intOf i).toNat)
  case atStart => exact ⟨0, by omega, rfl, HE0.out _⟩
  case round =>
    obtain ⟨j, hj, rfl, hen⟩ := hrel
    have HE := Lib.hid hen
    obtain ⟨x0, x1, x2, x3, x4, x5, x6, x7, xf⟩ := c33 hen.x0
    clear hen
    by_cases hlt : j < d.pend.length
    · by_cases h2 : j < sv.length
      · have h2' : (j : Int) < sv.length := by omega
        obtain ⟨a, rfl, _, hcellb⟩ := (HA.out.below HE.out.bel (Nat.le_refl _)) j h2
        obtain ⟨x, hx⟩ : ∃ x, sv.getD j default = x := ⟨_, rfl⟩
        rw [hx] at hcellb
        have hm0 : (fun j => clampN (sv.getD j 0)) j = clampN x := by
          have hx' : sv.getD j 0 = x := hx
          show clampN (sv.getD j 0) = _
          rw [hx']
        clear hx
        have hjl : (j : Int) < d.pend.length := by omega
        have hrr := HR.out.frame (w' := wr) fun k _ hk => HE.out.bel.block k hk
        obtain ⟨gp, cp', e, hgp, _, hpc, _⟩ := row_some hrr.rp (by omega)
        injection e with e1 _ e3
        subst e1 e3
        obtain ⟨p, hpj⟩ : ∃ p, d.pend[j]? = some p := ⟨_, List.getElem?_eq_getElem hlt⟩
        obtain ⟨q1, q2⟩ := pcells_get d.pend j p hpj
        have p1 := hpc _ _ q1
        have p2 := hpc _ _ q2
        obtain ⟨hk, hs⟩ := HR.out.fit p (List.mem_of_getElem? hpj)
        have hkl : (p.1 : Int) < d.secs.length := by omega
        obtain ⟨b, hb⟩ : ∃ b, (endN (fun j => clampN (sv.getD j 0)) d.secs d.pend j)[p.1]? = some b := ⟨_, List.getElem?_eq_getElem (by rw [endN_length]; exact hk)⟩
        have hb64 : b.length = 64 := endN_64 _ _ _ HR.out.l64 (fun p hp => (HR.out.fit p hp).2) j _ _ hb
        have d1 : wr.cell? ⟨g7, p.1, none⟩ = some (.string (sB b)) := by
          rw [HE.out.row.cellAt p.1 (by omega), sCells, List.getElem?_map, hb]; rfl
        have df : wr.frozen? ⟨g7, p.1, none⟩ = false := HE.out.row.frozenAt p.1
        have HPJ := Lib.hid hpj
        have HBB := Lib.hid hb
        clear hpc q1 q2 hpj hb hrr hgp
        obtain ⟨bs, hbs⟩ : ∃ x, sB b = x := ⟨_, rfl⟩
        rw [hbs] at d1
        have hbs64 : bs.size = 64 := by rw [← hbs]; show b.toArray.size = 64; simp [hb64]
        have HBS := Lib.hid hbs
        clear hbs hb64
        rcases (by omega : x < 0 ∨ x = 0 ∨ (0 < x ∧ x ≤ 64) ∨ 64 < x) with hx0 | rfl | hx0 | hx0
        · have hm : (fun j => clampN (sv.getD j 0)) j = 0 := by rw [hm0]; unfold clampN; omega
          have q2 : x < 64 := by omega
          clear hm0
          have hk1 : (0 : Int) ≤ 0 := by omega
          have hk2 : (0 : Int) ≤ 64 := by omega
          have hadd := fun wx => run_string_add_sum (P := Try.prog) wx (p.2.extract 0 0) (bs.extract 0 64) (by rw [ByteArray.size_extract, ByteArray.size_extract]; omega)
          have hZ : bs.extract 0 64 = sB (torn b p.2.data.toList 0) := by
            have := torn_str bs p.2 0 hbs64
            rw [← HBS.out] at this
            try rw [← HBS.out]
            rw [show (sB b).data.toList = b from rfl] at this
            rw [this]
            try simp
          have HN := Lib.hid (HE.out.step HG7.out p HPJ.out b HBB.out (bs.extract 0 64) (by first | exact hZ | (have hm' := hm; dsimp only at hm'; rw [hm']; exact hZ)))
          clear hZ hm
          go_wp2_with fail
          refine wp_region_noPanic ?_
          refine wp_region_D 18 (fun w' => w'.cell? ⟨w.heap.size, 2, none⟩ = some (.slice (some ⟨gp, 0, none⟩) d.pend.length cp) ∧ w'.cell? ⟨gp, j * 2 + 1, none⟩ = some (.string p.2) ∧ w'.cell? ⟨g7, p.1, none⟩ = some (.string bs)) (by kernel_rfl) ⟨x2, p2, d1⟩ (fun hU => ?_)
          have hC : (fun w' : World => w'.cell? ⟨w.heap.size, 2, none⟩ = some (.slice (some ⟨gp, 0, none⟩) d.pend.length cp) ∧ w'.cell? ⟨gp, j * 2 + 1, none⟩ = some (.string p.2) ∧ w'.cell? ⟨g7, p.1, none⟩ = some (.string bs)) wr.drew := ⟨x2, p2, d1⟩
          clear hU
          refine wpAnyD_take (i := 0) (dst := some 39) (v := ?_) (fuel := 18) rfl rfl (by kernel_rfl) (fun _ _ _ h => h) (by rfl) ?_ (.inr hC) ?_
          rotate_left
          · (intro w; go_simp; try with_reducible rfl)
          simp only [Act.put, List.setIfInBounds_toArray, List.set_cons_zero, List.set_cons_succ]
          refine wpAnyD_take (i := 1) (dst := some 40) (v := ?_) (fuel := 17) rfl rfl (by kernel_rfl) (fun _ _ _ h => h) (by rfl) ?_ (.inr hC) ?_
          rotate_left
          · (intro w; go_simp; try with_reducible rfl)
          simp only [Act.put, List.setIfInBounds_toArray, List.set_cons_zero, List.set_cons_succ]
          refine wpAnyD_take (i := 2) (dst := some 41) (v := ?_) (fuel := 16) rfl rfl (by kernel_rfl) (fun _ _ _ h => h) (by rfl) ?_ (.inr hC) ?_
          rotate_left
          · (intro w; go_simp; try with_reducible rfl)
          simp only [Act.put, List.setIfInBounds_toArray, List.set_cons_zero, List.set_cons_succ]
          refine wpAnyD_load (i := 3) (dst := some 42) (v := ?_) (fuel := 15) rfl rfl (by kernel_rfl) (fun _ _ _ h => h) (by rfl) ?_ (.inr hC) ?_
          rotate_left
          · intro w hSw
            try dsimp only at hSw
            go_simp
            try with_reducible rfl
          simp only [Act.put, List.setIfInBounds_toArray, List.set_cons_zero, List.set_cons_succ]
          refine wpAnyD_take (i := 4) (dst := some 43) (v := ?_) (fuel := 14) rfl rfl (by kernel_rfl) (fun _ _ _ h => h) (by rfl) ?_ (.inr hC) ?_
          rotate_left
          · (intro w; go_simp; try with_reducible rfl)
          simp only [Act.put, List.setIfInBounds_toArray, List.set_cons_zero, List.set_cons_succ]
          refine wpAnyD_take (i := 5) (dst := some 44) (v := ?_) (fuel := 13) rfl rfl (by kernel_rfl) (fun _ _ _ h => h) (by rfl) ?_ (.inr hC) ?_
          rotate_left
          · (intro w; go_simp; try with_reducible rfl)
          simp only [Act.put, List.setIfInBounds_toArray, List.set_cons_zero, List.set_cons_succ]
          refine wpAnyD_take (i := 6) (dst := some 45) (v := ?_) (fuel := 12) rfl rfl (by kernel_rfl) (fun _ _ _ h => h) (by rfl) ?_ (.inr hC) ?_
          rotate_left
          · (intro w; go_simp; try with_reducible rfl)
          simp only [Act.put, List.setIfInBounds_toArray, List.set_cons_zero, List.set_cons_succ]
          refine wpAnyD_load (i := 7) (dst := some 46) (v := ?_) (fuel := 11) rfl rfl (by kernel_rfl) (fun _ _ _ h => h) (by rfl) ?_ (.inr hC) ?_
          rotate_left
          · intro w hSw
            try dsimp only at hSw
            go_simp
            try with_reducible rfl
          simp only [Act.put, List.setIfInBounds_toArray, List.set_cons_zero, List.set_cons_succ]
          refine wpAnyD_take (i := 8) (dst := some 47) (v := ?_) (fuel := 10) rfl rfl (by kernel_rfl) (fun _ _ _ h => h) (by rfl) ?_ (.inr hC) ?_
          rotate_left
          · (intro w; go_simp; try with_reducible rfl)
          simp only [Act.put, List.setIfInBounds_toArray, List.set_cons_zero, List.set_cons_succ]
          refine wpAnyD_take (i := 9) (dst := some 48) (v := ?_) (fuel := 9) rfl rfl (by kernel_rfl) (fun _ _ _ h => h) (by rfl) ?_ (.inr hC) ?_
          rotate_left
          · (intro w; go_simp; try with_reducible rfl)
          simp only [Act.put, List.setIfInBounds_toArray, List.set_cons_zero, List.set_cons_succ]
          refine wpAnyD_take (i := 10) (dst := some 49) (v := ?_) (fuel := 8) rfl rfl (by kernel_rfl) (fun _ _ _ h => h) (by rfl) ?_ (.inr hC) ?_
          rotate_left
          · (intro w; go_simp; try with_reducible rfl)
          simp only [Act.put, List.setIfInBounds_toArray, List.set_cons_zero, List.set_cons_succ]
          refine wpAnyD_take (i := 11) (dst := some 50) (v := ?_) (fuel := 7) rfl rfl (by kernel_rfl) (fun _ _ _ h => h) (by rfl) ?_ (.inr hC) ?_
          rotate_left
          · (intro w; go_simp; try with_reducible rfl)
          simp only [Act.put, List.setIfInBounds_toArray, List.set_cons_zero, List.set_cons_succ]
          refine wpAnyD_take (i := 12) (dst := some 51) (v := ?_) (fuel := 6) rfl rfl (by kernel_rfl) (fun _ _ _ h => h) (by rfl) ?_ (.inr hC) ?_
          rotate_left
          · (intro w; go_simp; try with_reducible rfl)
          simp only [Act.put, List.setIfInBounds_toArray, List.set_cons_zero, List.set_cons_succ]
          refine wpAnyD_load (i := 13) (dst := some 52) (v := ?_) (fuel := 5) rfl rfl (by kernel_rfl) (fun _ _ _ h => h) (by rfl) ?_ (.inr hC) ?_
          rotate_left
          · intro w hSw
            try dsimp only at hSw
            go_simp
            try with_reducible rfl
          simp only [Act.put, List.setIfInBounds_toArray, List.set_cons_zero, List.set_cons_succ]
          refine wpAnyD_take (i := 14) (dst := some 53) (v := ?_) (fuel := 4) rfl rfl (by kernel_rfl) (fun _ _ _ h => h) (by rfl) ?_ (.inr hC) ?_
          rotate_left
          · (intro w; go_simp; try with_reducible rfl)
          simp only [Act.put, List.setIfInBounds_toArray, List.set_cons_zero, List.set_cons_succ]
          refine wpAnyD_take (i := 15) (dst := some 54) (v := ?_) (fuel := 3) rfl rfl (by kernel_rfl) (fun _ _ _ h => h) (by rfl) ?_ (.inr hC) ?_
          rotate_left
          · (intro w; go_simp; try with_reducible rfl)
          simp only [Act.put, List.setIfInBounds_toArray, List.set_cons_zero, List.set_cons_succ]
          refine wpAnyD_take (i := 16) (dst := some 55) (v := ?_) (fuel := 2) rfl rfl (by kernel_rfl) (fun _ _ _ h => h) (by rfl) ?_ (.inr hC) ?_
          rotate_left
          · (intro w; go_simp; try with_reducible rfl)
          simp only [Act.put, List.setIfInBounds_toArray, List.set_cons_zero, List.set_cons_succ]
          refine wpAnyD_take (i := 17) (dst := some 56) (v := ?_) (fuel := 1) rfl rfl (by kernel_rfl) (fun _ _ _ h => h) (by rfl) ?_ (.inr hC) ?_
          rotate_left
          · (intro w; go_simp; try with_reducible rfl)
          simp only [Act.put, List.setIfInBounds_toArray, List.set_cons_zero, List.set_cons_succ]
          refine wpAnyD_ready (fuel := 0) (rs := [18]) (by kernel_rfl) (by simp) ?_
          refine AllReadyD.cons (o := _) rfl (fun K hK => ?_) ?_
          · go_simp
            refine shut_K hK (by kernel_rfl) ?_
            clear hK K
            try simp only [Act.put, List.setIfInBounds_toArray, List.set_cons_zero, List.set_cons_succ]
            refine wpAnyD_done (by kernel_rfl) ?_ _
            refine NoPanic.normal ?_
            clear hadd
            go_wp2_with fail
            go_roundw
            case rel => exact ⟨j + 1, by omega, by go_num, HN.out⟩
            case measure => simp [intOf]; omega
          exact AllReadyD.nil
        · have hm : (fun j => clampN (sv.getD j 0)) j = 0 := by rw [hm0]; rfl
          clear hm0
          have hk1 : (0 : Int) ≤ 0 := by omega
          have hk2 : (0 : Int) ≤ 64 := by omega
          have hadd := fun wx => run_string_add_sum (P := Try.prog) wx (p.2.extract 0 0) (bs.extract 0 64) (by rw [ByteArray.size_extract, ByteArray.size_extract]; omega)
          have hZ : bs.extract 0 64 = sB (torn b p.2.data.toList 0) := by
            have := torn_str bs p.2 0 hbs64
            rw [← HBS.out] at this
            try rw [← HBS.out]
            rw [show (sB b).data.toList = b from rfl] at this
            rw [this]
            try simp
          have HN := Lib.hid (HE.out.step HG7.out p HPJ.out b HBB.out (bs.extract 0 64) (by first | exact hZ | (have hm' := hm; dsimp only at hm'; rw [hm']; exact hZ)))
          clear hZ hm
          go_wp2_with fail
          refine wp_region_noPanic ?_
          refine wp_region_D 18 (fun w' => w'.cell? ⟨w.heap.size, 2, none⟩ = some (.slice (some ⟨gp, 0, none⟩) d.pend.length cp) ∧ w'.cell? ⟨gp, j * 2 + 1, none⟩ = some (.string p.2) ∧ w'.cell? ⟨g7, p.1, none⟩ = some (.string bs)) (by kernel_rfl) ⟨x2, p2, d1⟩ (fun hU => ?_)
          have hC : (fun w' : World => w'.cell? ⟨w.heap.size, 2, none⟩ = some (.slice (some ⟨gp, 0, none⟩) d.pend.length cp) ∧ w'.cell? ⟨gp, j * 2 + 1, none⟩ = some (.string p.2) ∧ w'.cell? ⟨g7, p.1, none⟩ = some (.string bs)) wr.drew := ⟨x2, p2, d1⟩
          clear hU
          refine wpAnyD_take (i := 0) (dst := some 39) (v := ?_) (fuel := 18) rfl rfl (by kernel_rfl) (fun _ _ _ h => h) (by rfl) ?_ (.inr hC) ?_
          rotate_left
          · (intro w; go_simp; try with_reducible rfl)
          simp only [Act.put, List.setIfInBounds_toArray, List.set_cons_zero, List.set_cons_succ]
          refine wpAnyD_take (i := 1) (dst := some 40) (v := ?_) (fuel := 17) rfl rfl (by kernel_rfl) (fun _ _ _ h => h) (by rfl) ?_ (.inr hC) ?_
          rotate_left
          · (intro w; go_simp; try with_reducible rfl)
          simp only [Act.put, List.setIfInBounds_toArray, List.set_cons_zero, List.set_cons_succ]
          refine wpAnyD_take (i := 2) (dst := some 41) (v := ?_) (fuel := 16) rfl rfl (by kernel_rfl) (fun _ _ _ h => h) (by rfl) ?_ (.inr hC) ?_
          rotate_left
          · (intro w; go_simp; try with_reducible rfl)
          simp only [Act.put, List.setIfInBounds_toArray, List.set_cons_zero, List.set_cons_succ]
          refine wpAnyD_load (i := 3) (dst := some 42) (v := ?_) (fuel := 15) rfl rfl (by kernel_rfl) (fun _ _ _ h => h) (by rfl) ?_ (.inr hC) ?_
          rotate_left
          · intro w hSw
            try dsimp only at hSw
            go_simp
            try with_reducible rfl
          simp only [Act.put, List.setIfInBounds_toArray, List.set_cons_zero, List.set_cons_succ]
          refine wpAnyD_take (i := 4) (dst := some 43) (v := ?_) (fuel := 14) rfl rfl (by kernel_rfl) (fun _ _ _ h => h) (by rfl) ?_ (.inr hC) ?_
          rotate_left
          · (intro w; go_simp; try with_reducible rfl)
          simp only [Act.put, List.setIfInBounds_toArray, List.set_cons_zero, List.set_cons_succ]
          refine wpAnyD_take (i := 5) (dst := some 44) (v := ?_) (fuel := 13) rfl rfl (by kernel_rfl) (fun _ _ _ h => h) (by rfl) ?_ (.inr hC) ?_
          rotate_left
          · (intro w; go_simp; try with_reducible rfl)
          simp only [Act.put, List.setIfInBounds_toArray, List.set_cons_zero, List.set_cons_succ]
          refine wpAnyD_take (i := 6) (dst := some 45) (v := ?_) (fuel := 12) rfl rfl (by kernel_rfl) (fun _ _ _ h => h) (by rfl) ?_ (.inr hC) ?_
          rotate_left
          · (intro w; go_simp; try with_reducible rfl)
          simp only [Act.put, List.setIfInBounds_toArray, List.set_cons_zero, List.set_cons_succ]
          refine wpAnyD_load (i := 7) (dst := some 46) (v := ?_) (fuel := 11) rfl rfl (by kernel_rfl) (fun _ _ _ h => h) (by rfl) ?_ (.inr hC) ?_
          rotate_left
          · intro w hSw
            try dsimp only at hSw
            go_simp
            try with_reducible rfl
          simp only [Act.put, List.setIfInBounds_toArray, List.set_cons_zero, List.set_cons_succ]
          refine wpAnyD_take (i := 8) (dst := some 47) (v := ?_) (fuel := 10) rfl rfl (by kernel_rfl) (fun _ _ _ h => h) (by rfl) ?_ (.inr hC) ?_
          rotate_left
          · (intro w; go_simp; try with_reducible rfl)
          simp only [Act.put, List.setIfInBounds_toArray, List.set_cons_zero, List.set_cons_succ]
          refine wpAnyD_take (i := 9) (dst := some 48) (v := ?_) (fuel := 9) rfl rfl (by kernel_rfl) (fun _ _ _ h => h) (by rfl) ?_ (.inr hC) ?_
          rotate_left
          · (intro w; go_simp; try with_reducible rfl)
          simp only [Act.put, List.setIfInBounds_toArray, List.set_cons_zero, List.set_cons_succ]
          refine wpAnyD_take (i := 10) (dst := some 49) (v := ?_) (fuel := 8) rfl rfl (by kernel_rfl) (fun _ _ _ h => h) (by rfl) ?_ (.inr hC) ?_
          rotate_left
          · (intro w; go_simp; try with_reducible rfl)
          simp only [Act.put, List.setIfInBounds_toArray, List.set_cons_zero, List.set_cons_succ]
          refine wpAnyD_take (i := 11) (dst := some 50) (v := ?_) (fuel := 7) rfl rfl (by kernel_rfl) (fun _ _ _ h => h) (by rfl) ?_ (.inr hC) ?_
          rotate_left
          · (intro w; go_simp; try with_reducible rfl)
          simp only [Act.put, List.setIfInBounds_toArray, List.set_cons_zero, List.set_cons_succ]
          refine wpAnyD_take (i := 12) (dst := some 51) (v := ?_) (fuel := 6) rfl rfl (by kernel_rfl) (fun _ _ _ h => h) (by rfl) ?_ (.inr hC) ?_
          rotate_left
          · (intro w; go_simp; try with_reducible rfl)
          simp only [Act.put, List.setIfInBounds_toArray, List.set_cons_zero, List.set_cons_succ]
          refine wpAnyD_load (i := 13) (dst := some 52) (v := ?_) (fuel := 5) rfl rfl (by kernel_rfl) (fun _ _ _ h => h) (by rfl) ?_ (.inr hC) ?_
          rotate_left
          · intro w hSw
            try dsimp only at hSw
            go_simp
            try with_reducible rfl
          simp only [Act.put, List.setIfInBounds_toArray, List.set_cons_zero, List.set_cons_succ]
          refine wpAnyD_take (i := 14) (dst := some 53) (v := ?_) (fuel := 4) rfl rfl (by kernel_rfl) (fun _ _ _ h => h) (by rfl) ?_ (.inr hC) ?_
          rotate_left
          · (intro w; go_simp; try with_reducible rfl)
          simp only [Act.put, List.setIfInBounds_toArray, List.set_cons_zero, List.set_cons_succ]
          refine wpAnyD_take (i := 15) (dst := some 54) (v := ?_) (fuel := 3) rfl rfl (by kernel_rfl) (fun _ _ _ h => h) (by rfl) ?_ (.inr hC) ?_
          rotate_left
          · (intro w; go_simp; try with_reducible rfl)
          simp only [Act.put, List.setIfInBounds_toArray, List.set_cons_zero, List.set_cons_succ]
          refine wpAnyD_take (i := 16) (dst := some 55) (v := ?_) (fuel := 2) rfl rfl (by kernel_rfl) (fun _ _ _ h => h) (by rfl) ?_ (.inr hC) ?_
          rotate_left
          · (intro w; go_simp; try with_reducible rfl)
          simp only [Act.put, List.setIfInBounds_toArray, List.set_cons_zero, List.set_cons_succ]
          refine wpAnyD_take (i := 17) (dst := some 56) (v := ?_) (fuel := 1) rfl rfl (by kernel_rfl) (fun _ _ _ h => h) (by rfl) ?_ (.inr hC) ?_
          rotate_left
          · (intro w; go_simp; try with_reducible rfl)
          simp only [Act.put, List.setIfInBounds_toArray, List.set_cons_zero, List.set_cons_succ]
          refine wpAnyD_ready (fuel := 0) (rs := [18]) (by kernel_rfl) (by simp) ?_
          refine AllReadyD.cons (o := _) rfl (fun K hK => ?_) ?_
          · go_simp
            refine shut_K hK (by kernel_rfl) ?_
            clear hK K
            try simp only [Act.put, List.setIfInBounds_toArray, List.set_cons_zero, List.set_cons_succ]
            refine wpAnyD_done (by kernel_rfl) ?_ _
            refine NoPanic.normal ?_
            clear hadd
            go_wp2_with fail
            go_roundw
            case rel => exact ⟨j + 1, by omega, by go_num, HN.out⟩
            case measure => simp [intOf]; omega
          exact AllReadyD.nil
        · obtain ⟨m, rfl⟩ : ∃ m : Nat, x = m := ⟨x.toNat, by omega⟩
          have hx1 : (m : Int) ≤ 64 := hx0.2
          have hx3 : 0 < m := by omega
          have hx2 : (0 : Int) < m := hx0.1
          have hm : (fun j => clampN (sv.getD j 0)) j = m := by rw [hm0]; unfold clampN; omega
          clear hx0 hm0
          have hk1 : (0 : Int) ≤ (m : Int) := by omega
          have hk2 : ((m : Int) : Int) ≤ 64 := by omega
          have hadd := fun wx => run_string_add_sum (P := Try.prog) wx (p.2.extract 0 m) (bs.extract m 64) (by rw [ByteArray.size_extract, ByteArray.size_extract]; omega)
          have hZ : p.2.extract 0 m ++ bs.extract m 64 = sB (torn b p.2.data.toList m) := by
            have := torn_str bs p.2 m hbs64
            rw [← HBS.out] at this
            try rw [← HBS.out]
            rw [show (sB b).data.toList = b from rfl] at this
            rw [this]
            try simp
          have HN := Lib.hid (HE.out.step HG7.out p HPJ.out b HBB.out (p.2.extract 0 m ++ bs.extract m 64) (by first | exact hZ | (have hm' := hm; dsimp only at hm'; rw [hm']; exact hZ)))
          clear hZ hm
          go_wp2_with fail
          refine wp_region_noPanic ?_
          refine wp_region_D 18 (fun w' => w'.cell? ⟨w.heap.size, 2, none⟩ = some (.slice (some ⟨gp, 0, none⟩) d.pend.length cp) ∧ w'.cell? ⟨gp, j * 2 + 1, none⟩ = some (.string p.2) ∧ w'.cell? ⟨g7, p.1, none⟩ = some (.string bs)) (by kernel_rfl) ⟨x2, p2, d1⟩ (fun hU => ?_)
          have hC : (fun w' : World => w'.cell? ⟨w.heap.size, 2, none⟩ = some (.slice (some ⟨gp, 0, none⟩) d.pend.length cp) ∧ w'.cell? ⟨gp, j * 2 + 1, none⟩ = some (.string p.2) ∧ w'.cell? ⟨g7, p.1, none⟩ = some (.string bs)) wr.drew := ⟨x2, p2, d1⟩
          clear hU
          refine wpAnyD_take (i := 0) (dst := some 39) (v := ?_) (fuel := 18) rfl rfl (by kernel_rfl) (fun _ _ _ h => h) (by rfl) ?_ (.inr hC) ?_
          rotate_left
          · (intro w; go_simp; try with_reducible rfl)
          simp only [Act.put, List.setIfInBounds_toArray, List.set_cons_zero, List.set_cons_succ]
          refine wpAnyD_take (i := 1) (dst := some 40) (v := ?_) (fuel := 17) rfl rfl (by kernel_rfl) (fun _ _ _ h => h) (by rfl) ?_ (.inr hC) ?_
          rotate_left
          · (intro w; go_simp; try with_reducible rfl)
          simp only [Act.put, List.setIfInBounds_toArray, List.set_cons_zero, List.set_cons_succ]
          refine wpAnyD_take (i := 2) (dst := some 41) (v := ?_) (fuel := 16) rfl rfl (by kernel_rfl) (fun _ _ _ h => h) (by rfl) ?_ (.inr hC) ?_
          rotate_left
          · (intro w; go_simp; try with_reducible rfl)
          simp only [Act.put, List.setIfInBounds_toArray, List.set_cons_zero, List.set_cons_succ]
          refine wpAnyD_load (i := 3) (dst := some 42) (v := ?_) (fuel := 15) rfl rfl (by kernel_rfl) (fun _ _ _ h => h) (by rfl) ?_ (.inr hC) ?_
          rotate_left
          · intro w hSw
            try dsimp only at hSw
            go_simp
            try with_reducible rfl
          simp only [Act.put, List.setIfInBounds_toArray, List.set_cons_zero, List.set_cons_succ]
          refine wpAnyD_take (i := 4) (dst := some 43) (v := ?_) (fuel := 14) rfl rfl (by kernel_rfl) (fun _ _ _ h => h) (by rfl) ?_ (.inr hC) ?_
          rotate_left
          · (intro w; go_simp; try with_reducible rfl)
          simp only [Act.put, List.setIfInBounds_toArray, List.set_cons_zero, List.set_cons_succ]
          refine wpAnyD_take (i := 5) (dst := some 44) (v := ?_) (fuel := 13) rfl rfl (by kernel_rfl) (fun _ _ _ h => h) (by rfl) ?_ (.inr hC) ?_
          rotate_left
          · (intro w; go_simp; try with_reducible rfl)
          simp only [Act.put, List.setIfInBounds_toArray, List.set_cons_zero, List.set_cons_succ]
          refine wpAnyD_take (i := 6) (dst := some 45) (v := ?_) (fuel := 12) rfl rfl (by kernel_rfl) (fun _ _ _ h => h) (by rfl) ?_ (.inr hC) ?_
          rotate_left
          · (intro w; go_simp; try with_reducible rfl)
          simp only [Act.put, List.setIfInBounds_toArray, List.set_cons_zero, List.set_cons_succ]
          refine wpAnyD_load (i := 7) (dst := some 46) (v := ?_) (fuel := 11) rfl rfl (by kernel_rfl) (fun _ _ _ h => h) (by rfl) ?_ (.inr hC) ?_
          rotate_left
          · intro w hSw
            try dsimp only at hSw
            go_simp
            try with_reducible rfl
          simp only [Act.put, List.setIfInBounds_toArray, List.set_cons_zero, List.set_cons_succ]
          refine wpAnyD_take (i := 8) (dst := some 47) (v := ?_) (fuel := 10) rfl rfl (by kernel_rfl) (fun _ _ _ h => h) (by rfl) ?_ (.inr hC) ?_
          rotate_left
          · (intro w; go_simp; try with_reducible rfl)
          simp only [Act.put, List.setIfInBounds_toArray, List.set_cons_zero, List.set_cons_succ]
          refine wpAnyD_take (i := 9) (dst := some 48) (v := ?_) (fuel := 9) rfl rfl (by kernel_rfl) (fun _ _ _ h => h) (by rfl) ?_ (.inr hC) ?_
          rotate_left
          · (intro w; go_simp; try with_reducible rfl)
          simp only [Act.put, List.setIfInBounds_toArray, List.set_cons_zero, List.set_cons_succ]
          refine wpAnyD_take (i := 10) (dst := some 49) (v := ?_) (fuel := 8) rfl rfl (by kernel_rfl) (fun _ _ _ h => h) (by rfl) ?_ (.inr hC) ?_
          rotate_left
          · (intro w; go_simp; try with_reducible rfl)
          simp only [Act.put, List.setIfInBounds_toArray, List.set_cons_zero, List.set_cons_succ]
          refine wpAnyD_take (i := 11) (dst := some 50) (v := ?_) (fuel := 7) rfl rfl (by kernel_rfl) (fun _ _ _ h => h) (by rfl) ?_ (.inr hC) ?_
          rotate_left
          · (intro w; go_simp; try with_reducible rfl)
          simp only [Act.put, List.setIfInBounds_toArray, List.set_cons_zero, List.set_cons_succ]
          refine wpAnyD_take (i := 12) (dst := some 51) (v := ?_) (fuel := 6) rfl rfl (by kernel_rfl) (fun _ _ _ h => h) (by rfl) ?_ (.inr hC) ?_
          rotate_left
          · (intro w; go_simp; try with_reducible rfl)
          simp only [Act.put, List.setIfInBounds_toArray, List.set_cons_zero, List.set_cons_succ]
          refine wpAnyD_load (i := 13) (dst := some 52) (v := ?_) (fuel := 5) rfl rfl (by kernel_rfl) (fun _ _ _ h => h) (by rfl) ?_ (.inr hC) ?_
          rotate_left
          · intro w hSw
            try dsimp only at hSw
            go_simp
            try with_reducible rfl
          simp only [Act.put, List.setIfInBounds_toArray, List.set_cons_zero, List.set_cons_succ]
          refine wpAnyD_take (i := 14) (dst := some 53) (v := ?_) (fuel := 4) rfl rfl (by kernel_rfl) (fun _ _ _ h => h) (by rfl) ?_ (.inr hC) ?_
          rotate_left
          · (intro w; go_simp; try with_reducible rfl)
          simp only [Act.put, List.setIfInBounds_toArray, List.set_cons_zero, List.set_cons_succ]
          refine wpAnyD_take (i := 15) (dst := some 54) (v := ?_) (fuel := 3) rfl rfl (by kernel_rfl) (fun _ _ _ h => h) (by rfl) ?_ (.inr hC) ?_
          rotate_left
          · (intro w; go_simp; try with_reducible rfl)
          simp only [Act.put, List.setIfInBounds_toArray, List.set_cons_zero, List.set_cons_succ]
          refine wpAnyD_take (i := 16) (dst := some 55) (v := ?_) (fuel := 2) rfl rfl (by kernel_rfl) (fun _ _ _ h => h) (by rfl) ?_ (.inr hC) ?_
          rotate_left
          · (intro w; go_simp; try with_reducible rfl)
          simp only [Act.put, List.setIfInBounds_toArray, List.set_cons_zero, List.set_cons_succ]
          refine wpAnyD_take (i := 17) (dst := some 56) (v := ?_) (fuel := 1) rfl rfl (by kernel_rfl) (fun _ _ _ h => h) (by rfl) ?_ (.inr hC) ?_
          rotate_left
          · (intro w; go_simp; try with_reducible rfl)
          simp only [Act.put, List.setIfInBounds_toArray, List.set_cons_zero, List.set_cons_succ]
          refine wpAnyD_ready (fuel := 0) (rs := [18]) (by kernel_rfl) (by simp) ?_
          refine AllReadyD.cons (o := _) rfl (fun K hK => ?_) ?_
          · go_simp
            refine shut_K hK (by kernel_rfl) ?_
            clear hK K
            try simp only [Act.put, List.setIfInBounds_toArray, List.set_cons_zero, List.set_cons_succ]
            refine wpAnyD_done (by kernel_rfl) ?_ _
            refine NoPanic.normal ?_
            clear hadd
            go_wp2_with fail
            go_roundw
            case rel => exact ⟨j + 1, by omega, by go_num, HN.out⟩
            case measure => simp [intOf]; omega
          exact AllReadyD.nil
        · have hm : (fun j => clampN (sv.getD j 0)) j = 64 := by rw [hm0]; unfold clampN; omega
          clear hm0
          have hk1 : (0 : Int) ≤ 64 := by omega
          have hk2 : (64 : Int) ≤ 64 := by omega
          have hadd := fun wx => run_string_add_sum (P := Try.prog) wx (p.2.extract 0 64) (bs.extract 64 64) (by rw [ByteArray.size_extract, ByteArray.size_extract]; omega)
          have hZ : p.2.extract 0 64 = sB (torn b p.2.data.toList 64) := by
            have := torn_str bs p.2 64 hbs64
            rw [← HBS.out] at this
            try rw [← HBS.out]
            rw [show (sB b).data.toList = b from rfl] at this
            rw [this]
            try simp
          have HN := Lib.hid (HE.out.step HG7.out p HPJ.out b HBB.out (p.2.extract 0 64) (by first | exact hZ | (have hm' := hm; dsimp only at hm'; rw [hm']; exact hZ)))
          clear hZ hm
          go_wp2_with fail
          refine wp_region_noPanic ?_
          refine wp_region_D 18 (fun w' => w'.cell? ⟨w.heap.size, 2, none⟩ = some (.slice (some ⟨gp, 0, none⟩) d.pend.length cp) ∧ w'.cell? ⟨gp, j * 2 + 1, none⟩ = some (.string p.2) ∧ w'.cell? ⟨g7, p.1, none⟩ = some (.string bs)) (by kernel_rfl) ⟨x2, p2, d1⟩ (fun hU => ?_)
          have hC : (fun w' : World => w'.cell? ⟨w.heap.size, 2, none⟩ = some (.slice (some ⟨gp, 0, none⟩) d.pend.length cp) ∧ w'.cell? ⟨gp, j * 2 + 1, none⟩ = some (.string p.2) ∧ w'.cell? ⟨g7, p.1, none⟩ = some (.string bs)) wr.drew := ⟨x2, p2, d1⟩
          clear hU
          refine wpAnyD_take (i := 0) (dst := some 39) (v := ?_) (fuel := 18) rfl rfl (by kernel_rfl) (fun _ _ _ h => h) (by rfl) ?_ (.inr hC) ?_
          rotate_left
          · (intro w; go_simp; try with_reducible rfl)
          simp only [Act.put, List.setIfInBounds_toArray, List.set_cons_zero, List.set_cons_succ]
          refine wpAnyD_take (i := 1) (dst := some 40) (v := ?_) (fuel := 17) rfl rfl (by kernel_rfl) (fun _ _ _ h => h) (by rfl) ?_ (.inr hC) ?_
          rotate_left
          · (intro w; go_simp; try with_reducible rfl)
          simp only [Act.put, List.setIfInBounds_toArray, List.set_cons_zero, List.set_cons_succ]
          refine wpAnyD_take (i := 2) (dst := some 41) (v := ?_) (fuel := 16) rfl rfl (by kernel_rfl) (fun _ _ _ h => h) (by rfl) ?_ (.inr hC) ?_
          rotate_left
          · (intro w; go_simp; try with_reducible rfl)
          simp only [Act.put, List.setIfInBounds_toArray, List.set_cons_zero, List.set_cons_succ]
          refine wpAnyD_load (i := 3) (dst := some 42) (v := ?_) (fuel := 15) rfl rfl (by kernel_rfl) (fun _ _ _ h => h) (by rfl) ?_ (.inr hC) ?_
          rotate_left
          · intro w hSw
            try dsimp only at hSw
            go_simp
            try with_reducible rfl
          simp only [Act.put, List.setIfInBounds_toArray, List.set_cons_zero, List.set_cons_succ]
          refine wpAnyD_take (i := 4) (dst := some 43) (v := ?_) (fuel := 14) rfl rfl (by kernel_rfl) (fun _ _ _ h => h) (by rfl) ?_ (.inr hC) ?_
          rotate_left
          · (intro w; go_simp; try with_reducible rfl)
          simp only [Act.put, List.setIfInBounds_toArray, List.set_cons_zero, List.set_cons_succ]
          refine wpAnyD_take (i := 5) (dst := some 44) (v := ?_) (fuel := 13) rfl rfl (by kernel_rfl) (fun _ _ _ h => h) (by rfl) ?_ (.inr hC) ?_
          rotate_left
          · (intro w; go_simp; try with_reducible rfl)
          simp only [Act.put, List.setIfInBounds_toArray, List.set_cons_zero, List.set_cons_succ]
          refine wpAnyD_take (i := 6) (dst := some 45) (v := ?_) (fuel := 12) rfl rfl (by kernel_rfl) (fun _ _ _ h => h) (by rfl) ?_ (.inr hC) ?_
          rotate_left
          · (intro w; go_simp; try with_reducible rfl)
          simp only [Act.put, List.setIfInBounds_toArray, List.set_cons_zero, List.set_cons_succ]
          refine wpAnyD_load (i := 7) (dst := some 46) (v := ?_) (fuel := 11) rfl rfl (by kernel_rfl) (fun _ _ _ h => h) (by rfl) ?_ (.inr hC) ?_
          rotate_left
          · intro w hSw
            try dsimp only at hSw
            go_simp
            try with_reducible rfl
          simp only [Act.put, List.setIfInBounds_toArray, List.set_cons_zero, List.set_cons_succ]
          refine wpAnyD_take (i := 8) (dst := some 47) (v := ?_) (fuel := 10) rfl rfl (by kernel_rfl) (fun _ _ _ h => h) (by rfl) ?_ (.inr hC) ?_
          rotate_left
          · (intro w; go_simp; try with_reducible rfl)
          simp only [Act.put, List.setIfInBounds_toArray, List.set_cons_zero, List.set_cons_succ]
          refine wpAnyD_take (i := 9) (dst := some 48) (v := ?_) (fuel := 9) rfl rfl (by kernel_rfl) (fun _ _ _ h => h) (by rfl) ?_ (.inr hC) ?_
          rotate_left
          · (intro w; go_simp; try with_reducible rfl)
          simp only [Act.put, List.setIfInBounds_toArray, List.set_cons_zero, List.set_cons_succ]
          refine wpAnyD_take (i := 10) (dst := some 49) (v := ?_) (fuel := 8) rfl rfl (by kernel_rfl) (fun _ _ _ h => h) (by rfl) ?_ (.inr hC) ?_
          rotate_left
          · (intro w; go_simp; try with_reducible rfl)
          simp only [Act.put, List.setIfInBounds_toArray, List.set_cons_zero, List.set_cons_succ]
          refine wpAnyD_take (i := 11) (dst := some 50) (v := ?_) (fuel := 7) rfl rfl (by kernel_rfl) (fun _ _ _ h => h) (by rfl) ?_ (.inr hC) ?_
          rotate_left
          · (intro w; go_simp; try with_reducible rfl)
          simp only [Act.put, List.setIfInBounds_toArray, List.set_cons_zero, List.set_cons_succ]
          refine wpAnyD_take (i := 12) (dst := some 51) (v := ?_) (fuel := 6) rfl rfl (by kernel_rfl) (fun _ _ _ h => h) (by rfl) ?_ (.inr hC) ?_
          rotate_left
          · (intro w; go_simp; try with_reducible rfl)
          simp only [Act.put, List.setIfInBounds_toArray, List.set_cons_zero, List.set_cons_succ]
          refine wpAnyD_load (i := 13) (dst := some 52) (v := ?_) (fuel := 5) rfl rfl (by kernel_rfl) (fun _ _ _ h => h) (by rfl) ?_ (.inr hC) ?_
          rotate_left
          · intro w hSw
            try dsimp only at hSw
            go_simp
            try with_reducible rfl
          simp only [Act.put, List.setIfInBounds_toArray, List.set_cons_zero, List.set_cons_succ]
          refine wpAnyD_take (i := 14) (dst := some 53) (v := ?_) (fuel := 4) rfl rfl (by kernel_rfl) (fun _ _ _ h => h) (by rfl) ?_ (.inr hC) ?_
          rotate_left
          · (intro w; go_simp; try with_reducible rfl)
          simp only [Act.put, List.setIfInBounds_toArray, List.set_cons_zero, List.set_cons_succ]
          refine wpAnyD_take (i := 15) (dst := some 54) (v := ?_) (fuel := 3) rfl rfl (by kernel_rfl) (fun _ _ _ h => h) (by rfl) ?_ (.inr hC) ?_
          rotate_left
          · (intro w; go_simp; try with_reducible rfl)
          simp only [Act.put, List.setIfInBounds_toArray, List.set_cons_zero, List.set_cons_succ]
          refine wpAnyD_take (i := 16) (dst := some 55) (v := ?_) (fuel := 2) rfl rfl (by kernel_rfl) (fun _ _ _ h => h) (by rfl) ?_ (.inr hC) ?_
          rotate_left
          · (intro w; go_simp; try with_reducible rfl)
          simp only [Act.put, List.setIfInBounds_toArray, List.set_cons_zero, List.set_cons_succ]
          refine wpAnyD_take (i := 17) (dst := some 56) (v := ?_) (fuel := 1) rfl rfl (by kernel_rfl) (fun _ _ _ h => h) (by rfl) ?_ (.inr hC) ?_
          rotate_left
          · (intro w; go_simp; try with_reducible rfl)
          simp only [Act.put, List.setIfInBounds_toArray, List.set_cons_zero, List.set_cons_succ]
          refine wpAnyD_ready (fuel := 0) (rs := [18]) (by kernel_rfl) (by simp) ?_
          refine AllReadyD.cons (o := _) rfl (fun K hK => ?_) ?_
          · go_simp
            refine shut_K hK (by kernel_rfl) ?_
            clear hK K
            try simp only [Act.put, List.setIfInBounds_toArray, List.set_cons_zero, List.set_cons_succ]
            refine wpAnyD_done (by kernel_rfl) ?_ _
            refine NoPanic.normal ?_
            clear hadd
            go_wp2_with fail
            go_roundw
            case rel => exact ⟨j + 1, by omega, by go_num, HN.out⟩
            case measure => simp [intOf]; omega
          exact AllReadyD.nil
      · have h2' : ¬ (j : Int) < sv.length := by omega
        have hm : (fun j => clampN (sv.getD j 0)) j = 0 := by
          show clampN (sv.getD j 0) = 0
          rw [List.getD_eq_getElem?_getD, List.getElem?_eq_none (by omega)]; rfl
        have hjl : (j : Int) < d.pend.length := by omega
        have hrr := HR.out.frame (w' := wr) fun k _ hk => HE.out.bel.block k hk
        obtain ⟨gp, cp', e, hgp, _, hpc, _⟩ := row_some hrr.rp (by omega)
        injection e with e1 _ e3
        subst e1 e3
        obtain ⟨p, hpj⟩ : ∃ p, d.pend[j]? = some p := ⟨_, List.getElem?_eq_getElem hlt⟩
        obtain ⟨q1, q2⟩ := pcells_get d.pend j p hpj
        have p1 := hpc _ _ q1
        have p2 := hpc _ _ q2
        obtain ⟨hk, hs⟩ := HR.out.fit p (List.mem_of_getElem? hpj)
        have hkl : (p.1 : Int) < d.secs.length := by omega
        obtain ⟨b, hb⟩ : ∃ b, (endN (fun j => clampN (sv.getD j 0)) d.secs d.pend j)[p.1]? = some b := ⟨_, List.getElem?_eq_getElem (by rw [endN_length]; exact hk)⟩
        have hb64 : b.length = 64 := endN_64 _ _ _ HR.out.l64 (fun p hp => (HR.out.fit p hp).2) j _ _ hb
        have d1 : wr.cell? ⟨g7, p.1, none⟩ = some (.string (sB b)) := by
          rw [HE.out.row.cellAt p.1 (by omega), sCells, List.getElem?_map, hb]; rfl
        have df : wr.frozen? ⟨g7, p.1, none⟩ = false := HE.out.row.frozenAt p.1
        have HPJ := Lib.hid hpj
        have HBB := Lib.hid hb
        clear hpc q1 q2 hpj hb hrr hgp
        obtain ⟨bs, hbs⟩ : ∃ x, sB b = x := ⟨_, rfl⟩
        rw [hbs] at d1
        have hbs64 : bs.size = 64 := by rw [← hbs]; show b.toArray.size = 64; simp [hb64]
        have HBS := Lib.hid hbs
        clear hbs hb64
        have hk1 : (0 : Int) ≤ 0 := by omega
        have hk2 : (0 : Int) ≤ 64 := by omega
        have hadd := fun wx => run_string_add_sum (P := Try.prog) wx (p.2.extract 0 0) (bs.extract 0 64) (by rw [ByteArray.size_extract, ByteArray.size_extract]; omega)
        have hZ : bs.extract 0 64 = sB (torn b p.2.data.toList 0) := by
          have := torn_str bs p.2 0 hbs64
          rw [← HBS.out] at this
          try rw [← HBS.out]
          rw [show (sB b).data.toList = b from rfl] at this
          rw [this]
          try simp
        have HN := Lib.hid (HE.out.step HG7.out p HPJ.out b HBB.out (bs.extract 0 64) (by first | exact hZ | (have hm' := hm; dsimp only at hm'; rw [hm']; exact hZ)))
        clear hZ hm
        go_wp2_with fail
        refine wp_region_noPanic ?_
        refine wp_region_D 18 (fun w' => w'.cell? ⟨w.heap.size, 2, none⟩ = some (.slice (some ⟨gp, 0, none⟩) d.pend.length cp) ∧ w'.cell? ⟨gp, j * 2 + 1, none⟩ = some (.string p.2) ∧ w'.cell? ⟨g7, p.1, none⟩ = some (.string bs)) (by kernel_rfl) ⟨x2, p2, d1⟩ (fun hU => ?_)
        have hC : (fun w' : World => w'.cell? ⟨w.heap.size, 2, none⟩ = some (.slice (some ⟨gp, 0, none⟩) d.pend.length cp) ∧ w'.cell? ⟨gp, j * 2 + 1, none⟩ = some (.string p.2) ∧ w'.cell? ⟨g7, p.1, none⟩ = some (.string bs)) wr.drew := ⟨x2, p2, d1⟩
        clear hU
        refine wpAnyD_take (i := 0) (dst := some 39) (v := ?_) (fuel := 18) rfl rfl (by kernel_rfl) (fun _ _ _ h => h) (by rfl) ?_ (.inr hC) ?_
        rotate_left
        · (intro w; go_simp; try with_reducible rfl)
        simp only [Act.put, List.setIfInBounds_toArray, List.set_cons_zero, List.set_cons_succ]
        refine wpAnyD_take (i := 1) (dst := some 40) (v := ?_) (fuel := 17) rfl rfl (by kernel_rfl) (fun _ _ _ h => h) (by rfl) ?_ (.inr hC) ?_
        rotate_left
        · (intro w; go_simp; try with_reducible rfl)
        simp only [Act.put, List.setIfInBounds_toArray, List.set_cons_zero, List.set_cons_succ]
        refine wpAnyD_take (i := 2) (dst := some 41) (v := ?_) (fuel := 16) rfl rfl (by kernel_rfl) (fun _ _ _ h => h) (by rfl) ?_ (.inr hC) ?_
        rotate_left
        · (intro w; go_simp; try with_reducible rfl)
        simp only [Act.put, List.setIfInBounds_toArray, List.set_cons_zero, List.set_cons_succ]
        refine wpAnyD_load (i := 3) (dst := some 42) (v := ?_) (fuel := 15) rfl rfl (by kernel_rfl) (fun _ _ _ h => h) (by rfl) ?_ (.inr hC) ?_
        rotate_left
        · intro w hSw
          try dsimp only at hSw
          go_simp
          try with_reducible rfl
        simp only [Act.put, List.setIfInBounds_toArray, List.set_cons_zero, List.set_cons_succ]
        refine wpAnyD_take (i := 4) (dst := some 43) (v := ?_) (fuel := 14) rfl rfl (by kernel_rfl) (fun _ _ _ h => h) (by rfl) ?_ (.inr hC) ?_
        rotate_left
        · (intro w; go_simp; try with_reducible rfl)
        simp only [Act.put, List.setIfInBounds_toArray, List.set_cons_zero, List.set_cons_succ]
        refine wpAnyD_take (i := 5) (dst := some 44) (v := ?_) (fuel := 13) rfl rfl (by kernel_rfl) (fun _ _ _ h => h) (by rfl) ?_ (.inr hC) ?_
        rotate_left
        · (intro w; go_simp; try with_reducible rfl)
        simp only [Act.put, List.setIfInBounds_toArray, List.set_cons_zero, List.set_cons_succ]
        refine wpAnyD_take (i := 6) (dst := some 45) (v := ?_) (fuel := 12) rfl rfl (by kernel_rfl) (fun _ _ _ h => h) (by rfl) ?_ (.inr hC) ?_
        rotate_left
        · (intro w; go_simp; try with_reducible rfl)
        simp only [Act.put, List.setIfInBounds_toArray, List.set_cons_zero, List.set_cons_succ]
        refine wpAnyD_load (i := 7) (dst := some 46) (v := ?_) (fuel := 11) rfl rfl (by kernel_rfl) (fun _ _ _ h => h) (by rfl) ?_ (.inr hC) ?_
        rotate_left
        · intro w hSw
          try dsimp only at hSw
          go_simp
          try with_reducible rfl
        simp only [Act.put, List.setIfInBounds_toArray, List.set_cons_zero, List.set_cons_succ]
        refine wpAnyD_take (i := 8) (dst := some 47) (v := ?_) (fuel := 10) rfl rfl (by kernel_rfl) (fun _ _ _ h => h) (by rfl) ?_ (.inr hC) ?_
        rotate_left
        · (intro w; go_simp; try with_reducible rfl)
        simp only [Act.put, List.setIfInBounds_toArray, List.set_cons_zero, List.set_cons_succ]
        refine wpAnyD_take (i := 9) (dst := some 48) (v := ?_) (fuel := 9) rfl rfl (by kernel_rfl) (fun _ _ _ h => h) (by rfl) ?_ (.inr hC) ?_
        rotate_left
        · (intro w; go_simp; try with_reducible rfl)
        simp only [Act.put, List.setIfInBounds_toArray, List.set_cons_zero, List.set_cons_succ]
        refine wpAnyD_take (i := 10) (dst := some 49) (v := ?_) (fuel := 8) rfl rfl (by kernel_rfl) (fun _ _ _ h => h) (by rfl) ?_ (.inr hC) ?_
        rotate_left
        · (intro w; go_simp; try with_reducible rfl)
        simp only [Act.put, List.setIfInBounds_toArray, List.set_cons_zero, List.set_cons_succ]
        refine wpAnyD_take (i := 11) (dst := some 50) (v := ?_) (fuel := 7) rfl rfl (by kernel_rfl) (fun _ _ _ h => h) (by rfl) ?_ (.inr hC) ?_
        rotate_left
        · (intro w; go_simp; try with_reducible rfl)
        simp only [Act.put, List.setIfInBounds_toArray, List.set_cons_zero, List.set_cons_succ]
        refine wpAnyD_take (i := 12) (dst := some 51) (v := ?_) (fuel := 6) rfl rfl (by kernel_rfl) (fun _ _ _ h => h) (by rfl) ?_ (.inr hC) ?_
        rotate_left
        · (intro w; go_simp; try with_reducible rfl)
        simp only [Act.put, List.setIfInBounds_toArray, List.set_cons_zero, List.set_cons_succ]
        refine wpAnyD_load (i := 13) (dst := some 52) (v := ?_) (fuel := 5) rfl rfl (by kernel_rfl) (fun _ _ _ h => h) (by rfl) ?_ (.inr hC) ?_
        rotate_left
        · intro w hSw
          try dsimp only at hSw
          go_simp
          try with_reducible rfl
        simp only [Act.put, List.setIfInBounds_toArray, List.set_cons_zero, List.set_cons_succ]
        refine wpAnyD_take (i := 14) (dst := some 53) (v := ?_) (fuel := 4) rfl rfl (by kernel_rfl) (fun _ _ _ h => h) (by rfl) ?_ (.inr hC) ?_
        rotate_left
        · (intro w; go_simp; try with_reducible rfl)
        simp only [Act.put, List.setIfInBounds_toArray, List.set_cons_zero, List.set_cons_succ]
        refine wpAnyD_take (i := 15) (dst := some 54) (v := ?_) (fuel := 3) rfl rfl (by kernel_rfl) (fun _ _ _ h => h) (by rfl) ?_ (.inr hC) ?_
        rotate_left
        · (intro w; go_simp; try with_reducible rfl)
        simp only [Act.put, List.setIfInBounds_toArray, List.set_cons_zero, List.set_cons_succ]
        refine wpAnyD_take (i := 16) (dst := some 55) (v := ?_) (fuel := 2) rfl rfl (by kernel_rfl) (fun _ _ _ h => h) (by rfl) ?_ (.inr hC) ?_
        rotate_left
        · (intro w; go_simp; try with_reducible rfl)
        simp only [Act.put, List.setIfInBounds_toArray, List.set_cons_zero, List.set_cons_succ]
        refine wpAnyD_take (i := 17) (dst := some 56) (v := ?_) (fuel := 1) rfl rfl (by kernel_rfl) (fun _ _ _ h => h) (by rfl) ?_ (.inr hC) ?_
        rotate_left
        · (intro w; go_simp; try with_reducible rfl)
        simp only [Act.put, List.setIfInBounds_toArray, List.set_cons_zero, List.set_cons_succ]
        refine wpAnyD_ready (fuel := 0) (rs := [18]) (by kernel_rfl) (by simp) ?_
        refine AllReadyD.cons (o := _) rfl (fun K hK => ?_) ?_
        · go_simp
          refine shut_K hK (by kernel_rfl) ?_
          clear hK K
          try simp only [Act.put, List.setIfInBounds_toArray, List.set_cons_zero, List.set_cons_succ]
          refine wpAnyD_done (by kernel_rfl) ?_ _
          refine NoPanic.normal ?_
          clear hadd
          go_wp2_with fail
          go_roundw
          case rel => exact ⟨j + 1, by omega, by go_num, HN.out⟩
          case measure => simp [intOf]; omega
        exact AllReadyD.nil
    · obtain rfl : d.pend.length = j := by omega
      have hX := HE.out.x0
      have hZ := HE.out.z
      have hX2 : (wr.setCell ⟨w.heap.size, 0, none⟩ (.slice (some ⟨g7, 0, none⟩) d.secs.length c7)).heap[w.heap.size]? = some (.cells #[.slice (some ⟨g7, 0, none⟩) d.secs.length c7, .slice (some ⟨gb, 0, none⟩) d.secs.length cb, .slice ap d.pend.length cp, .int .i64 d.after, .bool d.failed, .int .i64 d.r, .int .i64 d.wn, .int .i64 d.sy] 33 (0, 0)) := by rw [heap_setCell_any wr w.heap.size 0 _ _ _ _ hX]; rfl
      have hX3 : ((wr.setCell ⟨w.heap.size, 0, none⟩ (.slice (some ⟨g7, 0, none⟩) d.secs.length c7)).setCell ⟨w.heap.size, 2, none⟩ (.slice none 0 0)).heap[w.heap.size]? = some (.cells #[.slice (some ⟨g7, 0, none⟩) d.secs.length c7, .slice (some ⟨gb, 0, none⟩) d.secs.length cb, .slice none 0 0, .int .i64 d.after, .bool d.failed, .int .i64 d.r, .int .i64 d.wn, .int .i64 d.sy] 33 (0, 0)) := by rw [heap_setCell_any _ w.heap.size 2 _ _ _ _ hX2]; rfl
      have far3 : ∀ i, i ≠ w.heap.size → ((wr.setCell ⟨w.heap.size, 0, none⟩ (.slice (some ⟨g7, 0, none⟩) d.secs.length c7)).setCell ⟨w.heap.size, 2, none⟩ (.slice none 0 0)).heap[i]? = wr.heap[i]? := fun i hi => (Below.heap_setCell _ ⟨w.heap.size, 2, none⟩ _ i hi).trans (Below.heap_setCell wr ⟨w.heap.size, 0, none⟩ _ i hi)
      have hZ3 := (far3 (w.heap.size + 1) (by omega)).trans hZ
      obtain ⟨y0, y1, y2, y3, y4, y5, y6, y7, yf⟩ := c33 hX3
      obtain ⟨q0, q1, q2, q3, q4, q5, q6, q7, qf⟩ := z33 hZ3
      have FAR := Lib.hid far3
      clear hX hZ hX2 hX3 far3 hZ3
      go_wp2_with fail
      refine bodyPost_ret (v := .agg #[.slice (some ⟨g7, 0, none⟩) d.secs.length c7, .slice (some ⟨gb, 0, none⟩) d.secs.length cb, .slice none 0 0, .int .i64 d.after, .bool d.failed, .int .i64 d.r, .int .i64 d.wn, .int .i64 d.sy]) (by simp [results, Try.results46, go_sem, q0, q1, q2, q3, q4, q5, q6, q7]) rfl ?_
      exact end_res (M := fun j => clampN (sv.getD j 0)) HR.out HE.out HG7.out
end
end Go.Proofs.Ytagfnobchdfhfaa
