import Derived.Test.YtagfnobchdfhfaaWl
namespace Go.Proofs.Ytagfnobchdfhfaa
set_option linter.unusedSimpArgs false
set_option linter.unnecessarySimpa false
set_option linter.unusedVariables false
open Go.RowKit
attribute [local go_sem ↓] Go.wp_at_zero Go.wp_at_succ

theorem append_zero {P : Program} (w : World) (t ty e : TypeId) (i : TypeInfo) (ht : P.underlying t = some (.slice e)) (hi : P.info? e = some i)
    (v : Value) (n : Nat) (xs : List Value) (size : Nat) (hown : w.ownsRow 0 e size v n xs) (A : Option Addr) (c : Nat) : (Builtin.append_ #[t, t] ty #[v, .slice A 0 c]).run P w = .ok v w := by
  rcases hown.2 with ⟨rfl, rfl⟩ | ⟨g, cap, cur, rfl, _, _, hnc, _⟩
  · cases A <;> simp [Builtin.append_, run_underlying ht, sizeOf, typeInfo, hi, Builtin.lenOf, Builtin.firstCells, loadCells, loadCellsFrom]
  · cases A <;> simp [Builtin.append_, run_underlying ht, sizeOf, typeInfo, hi, Builtin.lenOf, Builtin.firstCells, hnc, storeCells, loadCells, loadCellsFrom]
/-- append of a whole row to a row -/
theorem append_row {P : Program} (w : World) (t ty e : TypeId) (i : TypeInfo) (z : Value) (size bytes : Nat) (ht : P.underlying t = some (.slice e)) (hi : P.info? e = some i) (hz : i.zero = some z)
    (hsize : i.size = size) (hby : i.bytes = bytes) (hzs : z.cells.size = size) (hsz : 0 < size)
    (v : Value) (n : Nat) (xs : List Value) (hown : w.ownsRow 0 e size v n xs) (e2 : TypeId) (v2 : Value) (m : Nat) (ys : List Value) (hsrc : w.ownsRow 0 e2 size v2 m ys) (h1 : ∀ u ∈ ys, u.oneCell' = true)
    (h63 : n + m ≤ 1000000) (hb : bytes ≤ 1000) :
    ∃ v' w', (Builtin.append_ #[t, t] ty #[v, v2]).run P w = .ok v' w' ∧ w'.ownsRow 0 e size v' (n + m) (xs ++ ys) ∧ w.grownBy w' v.ownBlock ∧
      (v'.ownBlock = v.ownBlock ∨ (v'.ownBlock = some w.heap.size ∧ w.heap.size < w'.heap.size)) := by
  rcases Nat.eq_zero_or_pos m with rfl | hm
  · have hy : ys = [] := List.eq_nil_of_length_eq_zero (by rw [hsrc.1, Nat.zero_mul])
    subst hy
    obtain ⟨A, c, rfl⟩ := row_slice hsrc
    exact ⟨v, w, append_zero w t ty e i ht hi v n xs size hown A c, by simpa using hown, ⟨rfl, rfl, rfl, Nat.le_refl _, fun _ _ _ => rfl⟩, .inl rfl⟩
  · obtain ⟨g, c, rfl, hg, hc, hcell, _⟩ := row_some hsrc hm
    exact append_at w t ty e i z size bytes ht hi hz hsize hby hzs hsz v n xs hown ⟨g, 0, none⟩ m c ys hsrc.1 (fun j u hu => by
      rw [← hcell j u hu]; congr 1; unfold Addr.add; split <;> simp_all) h1 h63 hb hm
/-- a clone under way: j sectors are there -/
structure CkO (B C : Nat) (d : DM) (j : Nat) (w : World) (vd vb vp : Value) (dl : List Value) : Prop where
  obj : w.heap[C]? = some (.cells #[vd, vb, vp, .int .i64 d.r, .int .i64 d.wn, .int .i64 d.sy, .bool d.failed, .int .i64 d.after] 69 (0, 0))
  hC : B ≤ C
  rd : w.ownsRow 0 74 1 vd j dl
  sd : ∀ k, vd.ownBlock = some k → B ≤ k
  rb : w.ownsRow 0 4 1 vb d.secs.length (d.bad.map Value.bool)
  sb : ∀ k, vb.ownBlock = some k → B ≤ k
  rp : w.ownsRow 0 71 2 vp d.pend.length (pcells d.pend)
  sp : ∀ k, vp.ownBlock = some k → B ≤ k
  sec : ∀ i b, i < j → d.secs[i]? = some b → ∃ v, dl[i]? = some v ∧ w.ownsRow 0 5 1 v 64 (bcells b) ∧ ∃ g, v.ownBlock = some g ∧ B ≤ g
  inj : ∀ (i j : Nat) (v v' : Value), dl[i]? = some v → dl[j]? = some v' → v.ownBlock = v'.ownBlock → i = j
theorem CkO.dk {B C : Nat} {d : DM} {w : World} {vd vb vp : Value} {dl : List Value} (h : CkO B C d d.secs.length w vd vb vp dl) (hl : 0 < d.secs.length) (hf : ∀ p ∈ d.pend, p.1 < d.secs.length ∧ p.2.size = 64) : DkO (fun k => B ≤ k) C d w vd vb vp dl :=
  ⟨h.obj, h.hC, h.rd, h.sd, h.rb, h.sb, h.rp, h.sp, fun i b hb => h.sec i b (List.getElem?_eq_some_iff.1 hb).1 hb, h.inj, hl, hf⟩
theorem CkO.push {B C : Nat} {d : DM} {j : Nat} {w w3 : World} {vd vb vp v' x : Value} {dl : List Value} {b : List UInt8} (h : CkO B C d j w vd vb vp dl) (hj : d.secs[j]? = some b)
    (hold : ∀ i, i < w.heap.size → some i ≠ vd.ownBlock → w3.heap[i]? = w.heap[i]?) (hrow : w3.ownsRow 0 74 1 v' (j + 1) (dl ++ [x])) (hx : w3.ownsRow 0 5 1 x 64 (bcells b)) (hxb : ∃ g, x.ownBlock = some g ∧ w.heap.size ≤ g)
    (hb : ∀ k, v'.ownBlock = some k → B ≤ k) : CkO B C d (j + 1) (w3.setCell ⟨C, 0, none⟩ v') v' vb vp (dl ++ [x]) ∧ w3.cell? ⟨C, 0, none⟩ = some vd ∧ w3.frozen? ⟨C, 0, none⟩ = false := by
  have lt : ∀ {e size v n xs}, w.ownsRow 0 e size v n xs → ∀ g, v.ownBlock = some g → g < w.heap.size := fun h g hg => (h.lt g hg).2
  have hDl : C < w.heap.size := (Array.getElem?_eq_some_iff.1 h.obj).1
  have hB : B ≤ w.heap.size := by have := h.hC; omega
  have hDv : some C ≠ vd.ownBlock := fun hD => by
    obtain ⟨cur, hc⟩ := row_block h.rd hD.symm
    rw [h.obj] at hc
    injection hc with hc; injection hc with _ hc _; exact absurd hc (by decide)
  have hobj := (hold C hDl hDv).trans h.obj
  have ndD : ∀ {e size v n xs}, w3.ownsRow 0 e size v n xs → e ≠ 69 → (w3.setCell ⟨C, 0, none⟩ v').ownsRow 0 e size v n xs := fun {e size v n xs} hr he' => by
    refine row_of hr fun g hgg => ?_
    have hne : g ≠ C := fun e' => by
      obtain ⟨cur, hc⟩ := row_block hr hgg
      rw [e', hobj] at hc
      injection hc with hc; injection hc with _ hc _; exact he' hc.symm
    exact Below.heap_setCell w3 ⟨C, 0, none⟩ v' g hne
  have keep : ∀ {e size v n xs}, w.ownsRow 0 e size v n xs → e ≠ 74 → e ≠ 69 → (w3.setCell ⟨C, 0, none⟩ v').ownsRow 0 e size v n xs := fun {e size v n xs} hr he he' =>
    ndD (row_of hr fun g hgg => hold g (lt hr g hgg) (own_ne hr h.rd he hgg)) he'
  have hdl : dl.length = j := by have := h.rd.1; omega
  obtain ⟨gx, hx1, hx2⟩ := hxb
  refine ⟨⟨?_, h.hC, ndD hrow (by decide), hb, keep h.rb (by decide) (by decide), h.sb, keep h.rp (by decide) (by decide), h.sp, ?_, ?_⟩, ?_, ?_⟩
  · rw [heap_setCell_any w3 C 0 _ _ _ v' hobj]; rfl
  · intro i c hi hc
    by_cases hij : i < j
    · obtain ⟨v, h1, h2, g, h3, h4⟩ := h.sec i c hij hc
      exact ⟨v, by rw [List.getElem?_append_left (by omega)]; exact h1, keep h2 (by decide) (by decide), g, h3, h4⟩
    · obtain rfl : j = i := by omega
      rw [hj] at hc
      injection hc with hc
      subst hc
      exact ⟨x, by rw [List.getElem?_append_right (by omega), hdl]; simp, ndD hx (by decide), gx, hx1, by omega⟩
  · intro i k v v1 hi hk hv
    rcases Nat.lt_or_ge i j with hij | hij <;> rcases Nat.lt_or_ge k j with hkj | hkj
    · rw [List.getElem?_append_left (by omega)] at hi hk
      exact h.inj i k v v1 hi hk hv
    · rw [List.getElem?_append_left (by omega)] at hi
      rw [List.getElem?_append_right (by omega)] at hk
      have hk0 : k - dl.length = 0 := by
        have := (List.getElem?_eq_some_iff.1 hk).1
        simp at this; omega
      rw [hk0] at hk
      injection hk with hk
      subst hk
      obtain ⟨b2, hb2⟩ : ∃ b2, d.secs[i]? = some b2 := ⟨_, List.getElem?_eq_getElem (by have := (List.getElem?_eq_some_iff.1 hj).1; omega)⟩
      obtain ⟨v2, h1, h2, g, h3, h4⟩ := h.sec i b2 hij hb2
      rw [h1] at hi; injection hi with hi; subst hi
      have hv' : g = gx := by rw [h3, hx1] at hv; injection hv
      have := lt h2 g h3
      omega
    · rw [List.getElem?_append_left (by omega)] at hk
      rw [List.getElem?_append_right (by omega)] at hi
      have hk0 : i - dl.length = 0 := by
        have := (List.getElem?_eq_some_iff.1 hi).1
        simp at this; omega
      rw [hk0] at hi
      injection hi with hi
      subst hi
      obtain ⟨b2, hb2⟩ : ∃ b2, d.secs[k]? = some b2 := ⟨_, List.getElem?_eq_getElem (by have := (List.getElem?_eq_some_iff.1 hj).1; omega)⟩
      obtain ⟨v2, h1, h2, g, h3, h4⟩ := h.sec k b2 hkj hb2
      rw [h1] at hk; injection hk with hk; subst hk
      have hv' : g = gx := by rw [h3, hx1] at hv; injection hv with hv; exact hv.symm
      have := lt h2 g h3
      omega
    · rw [List.getElem?_append_right (by omega)] at hi hk
      have := (List.getElem?_eq_some_iff.1 hi).1
      have := (List.getElem?_eq_some_iff.1 hk).1
      simp at *; omega
  · rw [cell_of_row w3 C 0 _ _ _ hobj]; rfl
  · simp [World.frozen?, hobj]
section
variable {S : Nat → Prop} {D : Nat} {d : DM} {w : World} {vd vb vp : Value} {dl : List Value}
theorem clone_walk (h : DkO S D d w vd vb vp dl) (hp : d.pend.length ≤ 1000) (hs : d.secs.length ≤ 2000) : Calls Try.prog 28 #[.pointer (some ⟨D, 0, none⟩)] w fun e w' => e = .returned (.pointer (some ⟨w.heap.size, 0, none⟩)) ∧ Below w.heap.size w w' ∧ Dk (fun k => w.heap.size ≤ k) w.heap.size d w' := by
  obtain ⟨gd, cd, rfl, hgd, hcd, hdc, _⟩ := row_some h.rd h.len
  obtain ⟨gb, cb, rfl, _⟩ := row_some h.rb h.len
  obtain ⟨ap, cp, rfl⟩ := row_slice h.rp
  obtain ⟨w0, hw0⟩ : ∃ w0, w.alloc (.cells #[.slice (some ⟨gd, 0, none⟩) d.secs.length cd, .slice (some ⟨gb, 0, none⟩) d.secs.length cb, .slice ap d.pend.length cp, .int .i64 d.r, .int .i64 d.wn, .int .i64 d.sy, .bool d.failed, .int .i64 d.after] 69) = w0 := ⟨_, rfl⟩
  have hz0 : w0.heap.size = w.heap.size + 1 := by rw [← hw0]; simp
  have b0 : Below w.heap.size w w0 := by rw [← hw0]; exact (Below.refl _ _).alloc (Nat.le_refl _) _
  have ob0 : w0.heap[w.heap.size]? = some (.cells #[.slice (some ⟨gd, 0, none⟩) d.secs.length cd, .slice (some ⟨gb, 0, none⟩) d.secs.length cb, .slice ap d.pend.length cp, .int .i64 d.r, .int .i64 d.wn, .int .i64 d.sy, .bool d.failed, .int .i64 d.after] 69 (0, 0)) := by rw [← hw0]; exact heap_alloc_new w _
  have h0 := h.frame (w' := w0) fun k _ hk => b0.block k hk
  obtain ⟨vb', w1, run1, row1, gr1, bl1⟩ := append_row (P := Try.prog) w0 28 28 4 _ _ 1 1 Try.underlying28 rfl rfl rfl rfl rfl (by decide) (.slice none 0 0) 0 [] (World.ownsRow_nil _ _ _ _) 4 _ _ _ h0.rb (by intro u hu; simp at hu; rcases hu with ⟨_, rfl⟩ | ⟨_, rfl⟩ <;> rfl) (by omega) (by decide)
  rw [Nat.zero_add, List.nil_append] at row1
  have ob1 := (gr1.block w.heap.size (by omega) (by simp [Value.ownBlock])).trans ob0
  have b1 : Below w.heap.size w w1 := b0.trans ⟨gr1.os, gr1.tape, gr1.output, gr1.size, fun i hi => gr1.block i (by omega) (by simp [Value.ownBlock])⟩
  have sb1 : ∀ k, vb'.ownBlock = some k → w.heap.size < k := fun k hk => by
    rcases bl1 with e | ⟨e, _⟩ <;> rw [e] at hk
    · simp [Value.ownBlock] at hk
    · injection hk with hk; omega
  obtain ⟨w1s, hw1s⟩ : ∃ x, w1.setCell ⟨w.heap.size, 1, none⟩ vb' = x := ⟨_, rfl⟩
  have ob1s : w1s.heap[w.heap.size]? = some (.cells #[.slice (some ⟨gd, 0, none⟩) d.secs.length cd, vb', .slice ap d.pend.length cp, .int .i64 d.r, .int .i64 d.wn, .int .i64 d.sy, .bool d.failed, .int .i64 d.after] 69 (0, 0)) := by rw [← hw1s, heap_setCell_any w1 _ 1 _ _ _ vb' ob1]; rfl
  have b1s : Below w.heap.size w w1s := by rw [← hw1s]; exact b1.setCell (Nat.le_refl _) _
  have h1s := h.frame (w' := w1s) fun k _ hk => b1s.block k hk
  have row1s : w1s.ownsRow 0 4 1 vb' d.secs.length (d.bad.map Value.bool) := row_of row1 fun g hg => by rw [← hw1s]; exact Below.heap_setCell w1 ⟨w.heap.size, 1, none⟩ vb' g (by have := sb1 g hg; show g ≠ w.heap.size; omega)
  obtain ⟨vp', w2, run2, row2, gr2, bl2⟩ := append_row (P := Try.prog) w1s 67 67 71 _ _ 2 24 Try.underlying67 rfl rfl rfl rfl rfl (by decide) (.slice none 0 0) 0 [] (World.ownsRow_nil _ _ _ _) 71 _ _ _ h1s.rp (by
    intro u hu
    unfold pcells at hu
    simp at hu
    obtain ⟨a, b, _, rfl | rfl⟩ := hu <;> rfl) (by omega) (by decide)
  rw [Nat.zero_add, List.nil_append] at row2
  have sz1 : w.heap.size < w1s.heap.size := (Array.getElem?_eq_some_iff.1 ob1s).1
  have ob2 := (gr2.block w.heap.size sz1 (by simp [Value.ownBlock])).trans ob1s
  have b2 : Below w.heap.size w w2 := b1s.trans ⟨gr2.os, gr2.tape, gr2.output, gr2.size, fun i hi => gr2.block i (by omega) (by simp [Value.ownBlock])⟩
  have row21 : w2.ownsRow 0 4 1 vb' d.secs.length (d.bad.map Value.bool) := row_of row1s fun g hg => gr2.block g (row1s.lt g hg).2 (by simp [Value.ownBlock])
  have sb2 : ∀ k, vp'.ownBlock = some k → w.heap.size < k := fun k hk => by
    rcases bl2 with e | ⟨e, _⟩ <;> rw [e] at hk
    · simp [Value.ownBlock] at hk
    · injection hk with hk; omega
  obtain ⟨w2s, hw2s⟩ : ∃ x, (w2.setCell ⟨w.heap.size, 2, none⟩ vp').setCell ⟨w.heap.size, 0, none⟩ (.slice none 0 0) = x := ⟨_, rfl⟩
  have ob2s : w2s.heap[w.heap.size]? = some (.cells #[.slice none 0 0, vb', vp', .int .i64 d.r, .int .i64 d.wn, .int .i64 d.sy, .bool d.failed, .int .i64 d.after] 69 (0, 0)) := by rw [← hw2s, heap_setCell_any _ _ 0 _ _ _ _ (heap_setCell_any w2 _ 2 _ _ _ vp' ob2)]; rfl
  have b2s : Below w.heap.size w w2s := by rw [← hw2s]; exact (b2.setCell (Nat.le_refl _) _).setCell (Nat.le_refl _) _
  have far2 : ∀ g, g ≠ w.heap.size → w2s.heap[g]? = w2.heap[g]? := fun g hg => by rw [← hw2s]; exact (Below.heap_setCell _ ⟨w.heap.size, 0, none⟩ _ g hg).trans (Below.heap_setCell w2 ⟨w.heap.size, 2, none⟩ vp' g hg)
  have ck : CkO w.heap.size w.heap.size d 0 w2s (.slice none 0 0) vb' vp' [] :=
    ⟨ob2s, Nat.le_refl _, World.ownsRow_nil _ _ _ _, fun k hk => by simp [Value.ownBlock] at hk, row_of row21 fun g hg => far2 g (by have := sb1 g hg; omega), fun k hk => Nat.le_of_lt (sb1 k hk), row_of row2 fun g hg => far2 g (by have := sb2 g hg; omega), fun k hk => Nat.le_of_lt (sb2 k hk), fun i b hi => by omega, fun i j v v' hi => by simp at hi⟩
  have y0 : w1.cell? ⟨w.heap.size, 1, none⟩ = some (.slice (some ⟨gb, 0, none⟩) d.secs.length cb) := by rw [cell_of_row w1 _ 1 _ _ _ ob1]; rfl
  have yf : ∀ i, w1.frozen? ⟨w.heap.size, i, none⟩ = false := fun i => by simp [World.frozen?, ob1]
  have y2 : w2.cell? ⟨w.heap.size, 2, none⟩ = some (.slice ap d.pend.length cp) := by rw [cell_of_row w2 _ 2 _ _ _ ob2]; rfl
  have y3 : w2.cell? ⟨w.heap.size, 0, none⟩ = some (.slice (some ⟨gd, 0, none⟩) d.secs.length cd) := by rw [cell_of_row w2 _ 0 _ _ _ ob2]; rfl
  have yg : ∀ i, w2.frozen? ⟨w.heap.size, i, none⟩ = false := fun i => by simp [World.frozen?, ob2]
  have x0 := h.c0
  have x1 := h.c1
  have x2 := h.c2
  have x3 := h.c3
  have x4 := h.c4
  have x5 := h.c5
  have x6 := h.c6
  have x7 := h.c7
  have z1 := h0.c1
  have z2 := h1s.c2
  have h2s := h.frame (w' := w2s) fun k _ hk => b2s.block k hk
  have z0 := h2s.c0
  have HD := Lib.hid h
  have HC := Lib.hid ck
  have HB := Lib.hid b2s
  have xn := World.new_ne w _ x0
  obtain ⟨ab', cb', rfl⟩ := row_slice row1
  obtain ⟨ap', cp', rfl⟩ := row_slice row2
  clear h h0 h1s h2s ck b0 b1 b1s b2 b2s ob0 ob1 ob1s ob2 ob2s row1 row1s row2 row21 sb1 sb2 bl1 bl2 gr1 gr2 far2 hdc hz0 sz1
  subst hw0 hw1s hw2s
  go_enter Try.func28, Try.ntmps28
  go_wp2_with (at_builtin; first | (refine wpList_append_eq rfl _ _ _ rfl _ _ rfl rfl run1 ?_) | (refine wpList_append_eq rfl _ _ _ rfl _ _ rfl rfl run2 ?_))
  go_loopw [27] (fun i wr => ∃ j : Nat, j ≤ d.secs.length ∧ i = .int .i64 (j : Int) ∧ Below w.heap.size w wr ∧ ∃ vc vb' vp' dl', CkO w.heap.size w.heap.size d j wr vc vb' vp' dl') (fun i _ => d.secs.length - (intOf i).toNat)
  case atStart => exact ⟨0, by omega, rfl, HB.out, _, _, _, _, HC.out⟩
  case round =>
    obtain ⟨j, hj, rfl, hbel, vc, vb', vp', dl', hck⟩ := hrel
    have HBR := Lib.hid hbel
    have HCR := Lib.hid hck
    by_cases hlt : j < d.secs.length
    · have hd := HD.out.frame (w' := wr) fun k _ hk => hbel.block k hk
      obtain ⟨b, hb⟩ : ∃ b, d.secs[j]? = some b := ⟨_, List.getElem?_eq_getElem hlt⟩
      obtain ⟨v, hv1, hv2, g, hv3, hv4⟩ := hd.sec j b hb
      obtain ⟨gd', cd', ed, _, _, hdc, _⟩ := row_some hd.rd hd.len
      injection ed with ed1 ed2 ed3
      injection ed1 with ed1
      injection ed1 with ed1
      subst ed1 ed3
      have k3 := hdc j _ hv1
      have hjl : (j : Int) < d.secs.length := by omega
      obtain ⟨x, w1, run1, row1, gr1, bl1⟩ := append_row (P := Try.prog) wr.drew 74 74 5 _ _ 1 1 Try.underlying74 rfl rfl rfl rfl rfl (by decide) (.slice none 0 0) 0 [] (World.ownsRow_nil _ _ _ _) 5 v 64 (bcells b) hv2 (by intro u hu; unfold bcells at hu; simp at hu; obtain ⟨_, _, rfl⟩ := hu; rfl) (by omega) (by decide)
      rw [Nat.zero_add, List.nil_append] at row1
      obtain ⟨gx, cx, rfl, hgx, _, _, _⟩ := row_some row1 (by decide)
      have hgx' : wr.heap.size ≤ gx := by
        rcases bl1 with e | ⟨e, _⟩
        · simp [Value.ownBlock] at e
        · simp [Value.ownBlock] at e; omega
      have o1 : ∀ i, i < wr.heap.size → w1.heap[i]? = wr.heap[i]? := fun i hi => gr1.block i hi (by simp [Value.ownBlock])
      obtain ⟨w2, hw2⟩ : ∃ x, w1.alloc (.cells #[.slice (some ⟨gx, 0, none⟩) 64 cx] 74) = x := ⟨_, rfl⟩
      have hz2 : w2.heap.size = w1.heap.size + 1 := by rw [← hw2]; simp
      have o2 : ∀ i, i < w1.heap.size → w2.heap[i]? = w1.heap[i]? := fun i hi => by rw [← hw2]; exact Below.heap_alloc _ _ i hi
      have ob2 : w2.heap[w1.heap.size]? = some (.cells #[.slice (some ⟨gx, 0, none⟩) 64 cx] 74 (0, 0)) := by rw [← hw2]; exact heap_alloc_new w1 _
      have sz1 : wr.heap.size ≤ w1.heap.size := gr1.size
      have rdc : w2.ownsRow 0 74 1 vc j dl' := row_of hck.rd fun g hg => by
        have := (hck.rd.lt g hg).2
        rw [o2 g (by omega), o1 g this]
      obtain ⟨v', w3, run3, row3, gr3, bl3⟩ := append_at (P := Try.prog) w2 66 66 (e := 74) _ _ 1 24 Try.underlying66 rfl rfl rfl rfl rfl (by decide) vc j dl' rdc ⟨w1.heap.size, 0, none⟩ 1 1 [.slice (some ⟨gx, 0, none⟩) 64 cx] rfl (by
        intro i u hi
        have hi0 : i = 0 := by have := (List.getElem?_eq_some_iff.1 hi).1; simp at this; exact this
        subst hi0
        injection hi with hi
        subst hi
        exact cell_of_row w2 w1.heap.size 0 _ _ _ ob2) (by intro u hu; simp at hu; subst hu; rfl) (by omega) (by decide) (by decide)
      have sz3 : w2.heap.size ≤ w3.heap.size := gr3.size
      have hvc : ∀ k, vc.ownBlock = some k → k < wr.heap.size := fun k hk => (hck.rd.lt k hk).2
      have hold : ∀ i, i < wr.heap.size → some i ≠ vc.ownBlock → w3.heap[i]? = wr.heap[i]? := fun i hi hne => by
        rw [gr3.block i (by omega) hne, o2 i (by omega), o1 i hi]
      have rowx : w3.ownsRow 0 5 1 (.slice (some ⟨gx, 0, none⟩) 64 cx) 64 (bcells b) := row_of row1 fun g hg => by
        have hl := (row1.lt g hg).2
        have hg' : g = gx := by simp [Value.ownBlock] at hg; exact hg.symm
        rw [gr3.block g (by omega) (fun e => by have := hvc g e.symm; omega), o2 g hl]
      obtain ⟨hf, q2, qf⟩ := hck.push hb hold row3 rowx ⟨gx, rfl, hgx'⟩ (fun k hk => by
        rcases bl3 with e | ⟨e, _⟩ <;> rw [e] at hk
        · exact hck.sd k hk
        · injection hk with hk; have := hbel.size; omega)
      have HT : Hid (Below w.heap.size w (w3.setCell ⟨w.heap.size, 0, none⟩ v')) := Lib.hid (by
        have hsz := hbel.size
        have g2 : Below w.heap.size w w3 := hbel.trans ⟨by rw [gr3.os, ← hw2]; exact gr1.os, by rw [gr3.tape, ← hw2]; exact gr1.tape, by rw [gr3.output, ← hw2]; exact gr1.output, by omega, fun i hi => hold i (by omega) fun e => by have := hck.sd i e.symm; omega⟩
        exact g2.setCell (Nat.le_refl _) _)
      have HF := Lib.hid hf
      have c0 : wr.cell? ⟨w.heap.size, 0, none⟩ = some vc := by rw [cell_of_row wr _ 0 _ _ _ hck.obj]; rfl
      have hcl := World.block_lt_of_cell? wr _ c0
      have c1 : w1.cell? ⟨w.heap.size, 0, none⟩ = some vc := by rw [World.cell?_of_block (o1 _ hcl)]; exact c0
      have c2 : w2.cell? ⟨w.heap.size, 0, none⟩ = some vc := by rw [World.cell?_of_block (o2 _ (World.block_lt_of_cell? w1 _ c1))]; exact c1
      have hv64 : ∃ gv cv, v = .slice (some ⟨gv, 0, none⟩) 64 cv := by obtain ⟨gv, cv, e, _⟩ := row_some hv2 (by decide); exact ⟨gv, cv, e⟩
      obtain ⟨gv, cv, rfl⟩ := hv64
      obtain ⟨a3, c3, rfl⟩ := row_slice row3
      obtain ⟨av, cvc, rfl⟩ := row_slice hck.rd
      subst hw2
      clear hd hck hbel hdc hv1 hv2 hv3 hv4 row1 gr1 bl1 o1 o2 hz2 ob2 rdc row3 gr3 bl3 hvc hold rowx hf hb hgx hgx' sz1 sz3 hcl
      go_wp2_with fail
      go_region_law (first | (refine step_append_eq rfl _ _ _ _ rfl _ _ _ _ rfl rfl run1 ?_) | (refine step_append_eq rfl _ _ _ _ rfl _ _ _ _ rfl rfl run3 ?_))
      all_goals
        go_wp2_with fail
        go_roundw
        case rel => exact ⟨j + 1, by omega, by go_num, HT.out, _, _, _, _, HF.out⟩
        case measure => simp [intOf]; omega
    · obtain rfl : d.secs.length = j := by omega
      clear hck hbel
      go_wp2_with fail
      go_ret
      exact ⟨rfl, HBR.out, _, _, _, _, HCR.out.dk HD.out.len HD.out.fit⟩
end
end Go.Proofs.Ytagfnobchdfhfaa
