import Derived.Test.YtagfnobchdfhfaaXf
import Derived.Deep.Cut
namespace Go.Proofs.Ytagfnobchdfhfaa
set_option linter.unusedSimpArgs false
set_option linter.unnecessarySimpa false
set_option linter.unusedVariables false
open Go.RowKit Go.ChangeShapes Go.WideShapes Go.ChangeAt
attribute [local go_sem ↓] Go.wp_at_zero Go.wp_at_succ

theorem Ones.wide {α : Type} [Inhabited α] {f : α → Value} {w : World} {N M : Nat} {A : Option Addr} {l : List α} (h : Ones f w N A l) (hN : N ≤ M) : Ones f w M A l := fun i hi => by
  obtain ⟨a, e1, e2, e3⟩ := h i hi
  exact ⟨a, e1, Nat.lt_of_lt_of_le e2 hN, e3⟩
theorem RfO.far {T : Nat → Prop} {d : DM} {w w' : World} {vd vb vp : Value} {X Y : Nat} {cx cy : Array Value} (h : RfO T d w vd vb vp) (hX : w.heap[X]? = some (.cells cx 33 (0, 0))) (hY : w.heap[Y]? = some (.cells cy 33 (0, 0))) (hf : ∀ i, i ≠ X → i ≠ Y → i < w.heap.size → w'.heap[i]? = w.heap[i]?) : RfO T d w' vd vb vp := by
  have ne : ∀ {e size v n xs} (Z : Nat) (cz : Array Value), w.heap[Z]? = some (.cells cz 33 (0, 0)) → w.ownsRow 0 e size v n xs → e ≠ 33 → ∀ g, v.ownBlock = some g → g ≠ Z := fun Z cz hZ hr he g hg hD => by
    obtain ⟨cur, hc⟩ := row_block hr hg
    rw [hD, hZ] at hc
    injection hc with hc; injection hc with _ hc _; exact he hc.symm
  have keep : ∀ {e size v n xs}, w.ownsRow 0 e size v n xs → e ≠ 33 → w'.ownsRow 0 e size v n xs := fun hr he => row_of hr fun g hg => hf g (ne X cx hX hr he g hg) (ne Y cy hY hr he g hg) (hr.lt g hg).2
  exact ⟨keep h.rd (by decide), h.sd, keep h.rb (by decide), h.sb, keep h.rp (by decide), h.sp, h.l64, h.len, h.fit⟩
/-- the disk's scalars are others -/
theorem RfO.sca {T : Nat → Prop} {d d' : DM} {w : World} {vd vb vp : Value} (h : RfO T d w vd vb vp) (e1 : d'.secs = d.secs) (e2 : d'.bad = d.bad) (e3 : d'.pend = d.pend) : RfO T d' w vd vb vp :=
  ⟨by rw [e1]; exact h.rd, h.sd, by rw [e1, e2]; exact h.rb, h.sb, by rw [e3]; exact h.rp, h.sp, by rw [e1]; exact h.l64, by rw [e1]; exact h.len, by rw [e1, e3]; exact h.fit⟩
section
variable {T : Nat → Prop} {d : DM} {w : World} {vd vb vp : Value}
set_option maxHeartbeats 800000 in
theorem crash_ref (sv : List Int) (A : Option Addr) (c : Nat) (hA : Ones (Value.int .i64) w w.heap.size A sv) (h : RfO T d w vd vb vp) (hp : d.pend.length ≤ 1000) (hl : d.secs.length ≤ 2000) : Calls Try.prog 39 #[rv d vd vb vp, .slice A sv.length c] w (Res T (crashF d sv) w fun v' => .returned v') := by
  obtain ⟨gd, cd, rfl, hgd, _, hdc, _⟩ := row_some h.rd h.len
  obtain ⟨gb, cb, rfl, hgb, _, hbc, _⟩ := row_some h.rb h.len
  obtain ⟨ap, cp, rfl⟩ := row_slice h.rp
  have HR := Lib.hid h
  clear hdc hbc
  obtain ⟨w1, hW1⟩ : ∃ W, (w.alloc (.cells #[.slice (some ⟨gd, 0, none⟩) d.secs.length cd, .slice (some ⟨gb, 0, none⟩) d.secs.length cb, .slice ap d.pend.length cp, .int .i64 d.after, .bool d.failed, .int .i64 d.r, .int .i64 d.wn, .int .i64 d.sy] 33)).alloc (.cells zr33 33) = W := ⟨_, rfl⟩
  have hs1 : w1.heap.size = w.heap.size + 2 := by rw [← hW1]; simp
  have hb1 : Below w.heap.size w w1 := by rw [← hW1]; exact ((Below.refl _ _).alloc (Nat.le_refl _) _).alloc (by simp) _
  have hX1 : w1.heap[w.heap.size]? = some (.cells #[.slice (some ⟨gd, 0, none⟩) d.secs.length cd, .slice (some ⟨gb, 0, none⟩) d.secs.length cb, .slice ap d.pend.length cp, .int .i64 d.after, .bool d.failed, .int .i64 d.r, .int .i64 d.wn, .int .i64 d.sy] 33 (0, 0)) := by rw [← hW1, Below.heap_alloc _ _ _ (by simp)]; exact heap_alloc_new w _
  have hZ1 : w1.heap[w.heap.size + 1]? = some (.cells zr33 33 (0, 0)) := by
    have := heap_alloc_new (w.alloc (.cells #[.slice (some ⟨gd, 0, none⟩) d.secs.length cd, .slice (some ⟨gb, 0, none⟩) d.secs.length cb, .slice ap d.pend.length cp, .int .i64 d.after, .bool d.failed, .int .i64 d.r, .int .i64 d.wn, .int .i64 d.sy] 33)) (.cells zr33 33)
    rw [hW1] at this
    simpa using this
  have HB1 := Lib.hid hb1
  have HX1 := Lib.hid hX1
  have HZ1 := Lib.hid hZ1
  have HW1 := Lib.hid hW1
  clear hs1 hb1 hX1 hZ1 hW1
  have hb1 := HB1.out
  have hE := Lib.hid (end_some (T := T) (w := w1) sv A c ((hA.below hb1 (Nat.le_refl _)).wide hb1.size) (h.frame fun k _ hk => hb1.block k hk) hp hl)
  clear h hA hb1
  unfold rv at hE ⊢
  go_enter Try.func39, Try.ntmps39
  go_wp2_with fail
  rw [show (w.alloc (.cells #[.slice (some ⟨gd, 0, none⟩) d.secs.length cd, .slice (some ⟨gb, 0, none⟩) d.secs.length cb, .slice ap d.pend.length cp, .int .i64 d.after, .bool d.failed, .int .i64 d.r, .int .i64 d.wn, .int .i64 d.sy] 33)).alloc (.cells #[.slice none 0 0, .slice none 0 0, .slice none 0 0, .int .i64 0, .bool false, .int .i64 0, .int .i64 0, .int .i64 0] 33) = w1 from HW1.out]
  refine (hE.out).mono ?_
  rintro e w2 ⟨v', rfl, hb, hv⟩
  have hbl := hb
  have hX := (hbl.block w.heap.size (Array.getElem?_eq_some_iff.1 HX1.out).1).trans HX1.out
  have hZ := (hbl.block (w.heap.size + 1) (Array.getElem?_eq_some_iff.1 HZ1.out).1).trans HZ1.out
  have HB2 := Lib.hid (HB1.out.trans (hbl.mono HB1.out.size))
  obtain ⟨x0, x1, x2, x3, x4, x5, x6, x7, xf⟩ := c33 hX
  obtain ⟨z0, z1, z2, z3, z4, z5, z6, z7, zf⟩ := z33 hZ
  have HX2 := Lib.hid hX
  have HZ2 := Lib.hid hZ
  clear hbl hX hZ
  obtain ⟨vd2, vb2, vp2, rfl, hr2⟩ := hv
  obtain ⟨ad2, cd2, rfl⟩ := row_slice hr2.rd
  obtain ⟨ab2, cb2, rfl⟩ := row_slice hr2.rb
  obtain ⟨ap2, cp2, rfl⟩ := row_slice hr2.rp
  have HR2 := Lib.hid hr2
  clear hr2
  simp only [rv]
  obtain ⟨n2, hn2⟩ : ∃ n, (endF d fun j => clampN (sv.getD j 0)).secs.length = n := ⟨_, rfl⟩
  obtain ⟨m2, hm2⟩ : ∃ n, (endF d fun j => clampN (sv.getD j 0)).pend.length = n := ⟨_, rfl⟩
  rw [hn2, hm2]
  rw [hn2, hm2] at HR2
  simp only [endF]
  clear hn2 hm2
  obtain ⟨w5, hw5⟩ : ∃ W, ((set8 w2 w.heap.size (.slice ad2 n2 cd2) (.slice ab2 n2 cb2) (.slice ap2 m2 cp2) (.int .i64 d.after) (.bool d.failed) (.int .i64 d.r) (.int .i64 d.wn) (.int .i64 d.sy)).setCell ⟨w.heap.size, 4, none⟩ (.bool false)).setCell ⟨w.heap.size, 3, none⟩ (.int .i64 (-1)) = W := ⟨_, rfl⟩
  have hX5 : w5.heap[w.heap.size]? = some (.cells #[.slice ad2 n2 cd2, .slice ab2 n2 cb2, .slice ap2 m2 cp2, .int .i64 (-1), .bool false, .int .i64 d.r, .int .i64 d.wn, .int .i64 d.sy] 33 (0, 0)) := by
    rw [← hw5, heap_setCell_any _ w.heap.size 3 _ _ _ _ (heap_setCell_any _ w.heap.size 4 _ _ _ _ (set8_at HX2.out _ _ _ _ _ _ _ _))]; rfl
  have far5 : ∀ i, i ≠ w.heap.size → w5.heap[i]? = w2.heap[i]? := fun i hi => by
    rw [← hw5, Below.heap_setCell _ ⟨w.heap.size, 3, none⟩ _ i hi, Below.heap_setCell _ ⟨w.heap.size, 4, none⟩ _ i hi, set8_far _ _ _ _ _ _ _ _ _ _ _ hi]
  have hZ5 := (far5 (w.heap.size + 1) (by omega)).trans HZ2.out
  have hB5 : Below w.heap.size w w5 := by rw [← hw5]; exact ((below_set8 HB2.out (Nat.le_refl _) _ _ _ _ _ _ _ _).setCell (Nat.le_refl _) _).setCell (Nat.le_refl _) _
  have hs5 : w5.heap.size = w2.heap.size := by rw [← hw5]; simp [set8]
  obtain ⟨y0, y1, y2, y3, y4, y5, y6, y7, yf⟩ := c33 hX5
  obtain ⟨q0, q1, q2, q3, q4, q5, q6, q7, qf⟩ := z33 hZ5
  have FAR := Lib.hid far5
  have HB5 := Lib.hid hB5
  have HS5 := Lib.hid hs5
  clear hX5 far5 hZ5 hB5 hs5
  have HW5 := Lib.hid hw5
  clear hw5
  go_upto_region 3 with (fail)
  have hw5' := HW5.out
  unfold set8 at hw5'
  rw [hw5']
  clear hw5' x0 x1 x2 x3 x4 x5 x6 x7 xf z0 z1 z2 z3 z4 z5 z6 z7 zf
  go_wp2_with fail
  refine bodyPost_ret (v := .agg #[.slice ad2 n2 cd2, .slice ab2 n2 cb2, .slice ap2 m2 cp2, .int .i64 (-1), .bool false, .int .i64 d.r, .int .i64 d.wn, .int .i64 d.sy]) (by simp [results, Try.results39, go_sem, q0, q1, q2, q3, q4, q5, q6, q7]) rfl ?_
  obtain ⟨W, hW⟩ : ∃ W, set8 w5 (w.heap.size + 1) (.slice ad2 n2 cd2) (.slice ab2 n2 cb2) (.slice ap2 m2 cp2) (.int .i64 (-1)) (.bool false) (.int .i64 d.r) (.int .i64 d.wn) (.int .i64 d.sy) = W := ⟨_, rfl⟩
  suffices key : Res T (crashF d sv) w (fun v' => .returned v') (.returned (.agg #[.slice ad2 n2 cd2, .slice ab2 n2 cb2, .slice ap2 m2 cp2, .int .i64 (-1), .bool false, .int .i64 d.r, .int .i64 d.wn, .int .i64 d.sy])) W by
    rw [← hW] at key; exact key
  have hBW : Below w.heap.size w W := by rw [← hW]; exact below_set8 HB5.out (Nat.le_succ _) _ _ _ _ _ _ _ _
  have hSW : W.heap.size = w2.heap.size := by rw [← HS5.out, ← hW]; simp [set8]
  have hr := HR2.out.far (w' := W) HX2.out HZ2.out fun i h1 h2 _ => by rw [← hW, set8_far _ _ _ _ _ _ _ _ _ _ _ h2]; exact FAR.out i h1
  have hsz := HB1.out.size
  exact ⟨_, rfl, hBW, _, _, _, rfl, (hr.mono fun k hk => by
    rcases hk with hk | ⟨h1, h2⟩
    · exact .inl hk
    · right; omega).sca rfl rfl rfl⟩
set_option maxHeartbeats 800000 in
theorem sync_ref (h : RfO T d w vd vb vp) (ha : d.after ≤ 9223372036854775807) (hp : d.pend.length ≤ 1000) (hl : d.secs.length ≤ 2000) (r : Int) (d' : DM) (hr : syncF d = (r, d')) : Calls Try.prog 38 #[rv d vd vb vp] w (Res T d' w fun v' => .returned (.tuple #[v', .int .i64 r])) := by
  obtain ⟨gd, cd, rfl, hgd, _, hdc, _⟩ := row_some h.rd h.len
  obtain ⟨gb, cb, rfl, hgb, _, hbc, _⟩ := row_some h.rb h.len
  obtain ⟨ap, cp, rfl⟩ := row_slice h.rp
  have HR := Lib.hid h
  clear hdc hbc
  obtain ⟨w1, hW1⟩ : ∃ W, (w.alloc (.cells #[.slice (some ⟨gd, 0, none⟩) d.secs.length cd, .slice (some ⟨gb, 0, none⟩) d.secs.length cb, .slice ap d.pend.length cp, .int .i64 d.after, .bool d.failed, .int .i64 d.r, .int .i64 d.wn, .int .i64 d.sy] 33)).alloc (.cells zr33 33) = W := ⟨_, rfl⟩
  have hs1 : w1.heap.size = w.heap.size + 2 := by rw [← hW1]; simp
  have hb1 : Below w.heap.size w w1 := by rw [← hW1]; exact ((Below.refl _ _).alloc (Nat.le_refl _) _).alloc (by simp) _
  have hX1 : w1.heap[w.heap.size]? = some (.cells #[.slice (some ⟨gd, 0, none⟩) d.secs.length cd, .slice (some ⟨gb, 0, none⟩) d.secs.length cb, .slice ap d.pend.length cp, .int .i64 d.after, .bool d.failed, .int .i64 d.r, .int .i64 d.wn, .int .i64 d.sy] 33 (0, 0)) := by rw [← hW1, Below.heap_alloc _ _ _ (by simp)]; exact heap_alloc_new w _
  have hZ1 : w1.heap[w.heap.size + 1]? = some (.cells zr33 33 (0, 0)) := by
    have := heap_alloc_new (w.alloc (.cells #[.slice (some ⟨gd, 0, none⟩) d.secs.length cd, .slice (some ⟨gb, 0, none⟩) d.secs.length cb, .slice ap d.pend.length cp, .int .i64 d.after, .bool d.failed, .int .i64 d.r, .int .i64 d.wn, .int .i64 d.sy] 33)) (.cells zr33 33)
    rw [hW1] at this
    simpa using this
  have HB1 := Lib.hid hb1
  have HX1 := Lib.hid hX1
  have HZ1 := Lib.hid hZ1
  have HW1 := Lib.hid hW1
  clear hs1 hb1 hX1 hZ1 hW1
  obtain ⟨ok, d1, hst⟩ : ∃ ok d1, stepF d = (ok, d1) := ⟨_, _, rfl⟩
  obtain ⟨f', fl', hsv⟩ : ∃ f' fl', stepV d.after d.failed = (ok, f', fl') := ⟨(stepV d.after d.failed).2.1, (stepV d.after d.failed).2.2, by have := stepF_V d; rw [hst] at this; injection this with e1 _; rw [e1]⟩
  have hd1 : d1 = { d with after := f', failed := fl' } := by have := stepF_V d; rw [hst, hsv] at this; injection this
  subst hd1
  have HU := Lib.hid (use_any (some ⟨gd, 0, none⟩) (some ⟨gb, 0, none⟩) ap d.secs.length cd d.secs.length cb d.pend.length cp d.after d.failed d.r d.wn d.sy ha ok f' fl' hsv)
  cases ok with
  | false =>
    have HRR : Hid ((11, { d with after := f', failed := fl' }) = (r, d')) := Lib.hid (by rw [← hr]; unfold syncF; rw [hst]; rfl)
    clear h hr hst hsv
    unfold rv
    go_enter Try.func38, Try.ntmps38
    go_wp2_with fail
    rw [show (w.alloc (.cells #[.slice (some ⟨gd, 0, none⟩) d.secs.length cd, .slice (some ⟨gb, 0, none⟩) d.secs.length cb, .slice ap d.pend.length cp, .int .i64 d.after, .bool d.failed, .int .i64 d.r, .int .i64 d.wn, .int .i64 d.sy] 33)).alloc (.cells #[.slice none 0 0, .slice none 0 0, .slice none 0 0, .int .i64 0, .bool false, .int .i64 0, .int .i64 0, .int .i64 0] 33) = w1 from HW1.out]
    refine (HU.out _).mono ?_; rintro e w3 ⟨rfl, hb3⟩
    have hbl := hb3
    have hX := (hbl.block w.heap.size (Array.getElem?_eq_some_iff.1 HX1.out).1).trans HX1.out
    have hZ := (hbl.block (w.heap.size + 1) (Array.getElem?_eq_some_iff.1 HZ1.out).1).trans HZ1.out
    have HB3 := Lib.hid (HB1.out.trans (hbl.mono HB1.out.size))
    obtain ⟨x0, x1, x2, x3, x4, x5, x6, x7, xf⟩ := c33 hX
    obtain ⟨z0, z1, z2, z3, z4, z5, z6, z7, zf⟩ := z33 hZ
    have HX3 := Lib.hid hX
    have HZ3 := Lib.hid hZ
    clear hbl hX hZ
    obtain ⟨w4, hw4⟩ : ∃ W, set8 w3 w.heap.size (.slice (some ⟨gd, 0, none⟩) d.secs.length cd) (.slice (some ⟨gb, 0, none⟩) d.secs.length cb) (.slice ap d.pend.length cp) (.int .i64 f') (.bool fl') (.int .i64 d.r) (.int .i64 d.wn) (.int .i64 d.sy) = W := ⟨_, rfl⟩
    have hX4 : w4.heap[w.heap.size]? = some (.cells #[.slice (some ⟨gd, 0, none⟩) d.secs.length cd, .slice (some ⟨gb, 0, none⟩) d.secs.length cb, .slice ap d.pend.length cp, .int .i64 f', .bool fl', .int .i64 d.r, .int .i64 d.wn, .int .i64 d.sy] 33 (0, 0)) := by rw [← hw4]; exact set8_at HX3.out _ _ _ _ _ _ _ _
    have hZ4 : w4.heap[w.heap.size + 1]? = some (.cells zr33 33 (0, 0)) := by rw [← hw4, set8_far _ _ _ _ _ _ _ _ _ _ _ (by omega)]; exact HZ3.out
    have hB4 : Below w.heap.size w w4 := by rw [← hw4]; exact below_set8 HB3.out (Nat.le_refl _) _ _ _ _ _ _ _ _
    have HX4 := Lib.hid hX4
    have HZ4 := Lib.hid hZ4
    have HB4 := Lib.hid hB4
    have HW4 := Lib.hid hw4
    clear hX4 hZ4 hB4 hw4
    go_upto_region 2 with (fail)
    have hw4' := HW4.out
    unfold set8 at hw4'
    rw [hw4']
    clear hw4'
    clear x0 x1 x2 x3 x4 x5 x6 x7 xf z0 z1 z2 z3 z4 z5 z6 z7 zf
    obtain ⟨x0, x1, x2, x3, x4, x5, x6, x7, xf⟩ := c33 HX4.out
    obtain ⟨z0, z1, z2, z3, z4, z5, z6, z7, zf⟩ := z33 HZ4.out
    go_wp2_with fail
    refine bodyPost_ret (v := .tuple #[.agg #[.slice (some ⟨gd, 0, none⟩) d.secs.length cd, .slice (some ⟨gb, 0, none⟩) d.secs.length cb, .slice ap d.pend.length cp, .int .i64 f', .bool fl', .int .i64 d.r, .int .i64 d.wn, .int .i64 d.sy], .int .i64 11]) (by simp [results, Try.results38, go_sem, z0, z1, z2, z3, z4, z5, z6, z7]) rfl ?_
    have e := HRR.out
    injection e with e1 e2
    subst e1 e2
    exact res_same (d' := { d with after := f', failed := fl' }) (mk := fun v' => .returned (.tuple #[v', .int .i64 11])) HR.out (below_set8 HB4.out (Nat.le_succ _) _ _ _ _ _ _ _ _) rfl rfl rfl
  | true =>
    obtain ⟨x, hx⟩ : ∃ x, IntKind.i64.wrap (d.sy + 1) = x := ⟨_, rfl⟩
    have HRR : Hid ((0, endF { d with after := f', failed := fl', sy := x } fun _ => 64) = (r, d')) := Lib.hid (by rw [← hr, ← hx]; unfold syncF; rw [hst]; rfl)
    clear h hr hst hsv
    unfold rv
    go_enter Try.func38, Try.ntmps38
    go_wp2_with fail
    rw [show (w.alloc (.cells #[.slice (some ⟨gd, 0, none⟩) d.secs.length cd, .slice (some ⟨gb, 0, none⟩) d.secs.length cb, .slice ap d.pend.length cp, .int .i64 d.after, .bool d.failed, .int .i64 d.r, .int .i64 d.wn, .int .i64 d.sy] 33)).alloc (.cells #[.slice none 0 0, .slice none 0 0, .slice none 0 0, .int .i64 0, .bool false, .int .i64 0, .int .i64 0, .int .i64 0] 33) = w1 from HW1.out]
    refine (HU.out _).mono ?_; rintro e w3 ⟨rfl, hb3⟩
    have hbl := hb3
    have hX := (hbl.block w.heap.size (Array.getElem?_eq_some_iff.1 HX1.out).1).trans HX1.out
    have hZ := (hbl.block (w.heap.size + 1) (Array.getElem?_eq_some_iff.1 HZ1.out).1).trans HZ1.out
    have HB3 := Lib.hid (HB1.out.trans (hbl.mono HB1.out.size))
    obtain ⟨x0, x1, x2, x3, x4, x5, x6, x7, xf⟩ := c33 hX
    obtain ⟨z0, z1, z2, z3, z4, z5, z6, z7, zf⟩ := z33 hZ
    have HX3 := Lib.hid hX
    have HZ3 := Lib.hid hZ
    clear hbl hX hZ
    obtain ⟨w4, hw4⟩ : ∃ W, set8 w3 w.heap.size (.slice (some ⟨gd, 0, none⟩) d.secs.length cd) (.slice (some ⟨gb, 0, none⟩) d.secs.length cb) (.slice ap d.pend.length cp) (.int .i64 f') (.bool fl') (.int .i64 d.r) (.int .i64 d.wn) (.int .i64 d.sy) = W := ⟨_, rfl⟩
    have hX4 : w4.heap[w.heap.size]? = some (.cells #[.slice (some ⟨gd, 0, none⟩) d.secs.length cd, .slice (some ⟨gb, 0, none⟩) d.secs.length cb, .slice ap d.pend.length cp, .int .i64 f', .bool fl', .int .i64 d.r, .int .i64 d.wn, .int .i64 d.sy] 33 (0, 0)) := by rw [← hw4]; exact set8_at HX3.out _ _ _ _ _ _ _ _
    have hZ4 : w4.heap[w.heap.size + 1]? = some (.cells zr33 33 (0, 0)) := by rw [← hw4, set8_far _ _ _ _ _ _ _ _ _ _ _ (by omega)]; exact HZ3.out
    have hB4 : Below w.heap.size w w4 := by rw [← hw4]; exact below_set8 HB3.out (Nat.le_refl _) _ _ _ _ _ _ _ _
    have HX4 := Lib.hid hX4
    have HZ4 := Lib.hid hZ4
    have HB4 := Lib.hid hB4
    have HW4 := Lib.hid hw4
    clear hX4 hZ4 hB4 hw4
    go_upto_region 2 with (fail)
    have hw4' := HW4.out
    unfold set8 at hw4'
    rw [hw4']
    clear hw4'
    clear x0 x1 x2 x3 x4 x5 x6 x7 xf z0 z1 z2 z3 z4 z5 z6 z7 zf
    obtain ⟨x0, x1, x2, x3, x4, x5, x6, x7, xf⟩ := c33 HX4.out
    obtain ⟨w5, hw5⟩ : ∃ W, w4.setCell ⟨w.heap.size, 7, none⟩ (.int .i64 x) = W := ⟨_, rfl⟩
    have hX5 : w5.heap[w.heap.size]? = some (.cells #[.slice (some ⟨gd, 0, none⟩) d.secs.length cd, .slice (some ⟨gb, 0, none⟩) d.secs.length cb, .slice ap d.pend.length cp, .int .i64 f', .bool fl', .int .i64 d.r, .int .i64 d.wn, .int .i64 x] 33 (0, 0)) := by rw [← hw5, heap_setCell_any w4 w.heap.size 7 _ _ _ _ HX4.out]; rfl
    have hZ5 : w5.heap[w.heap.size + 1]? = some (.cells zr33 33 (0, 0)) := by rw [← hw5, Below.heap_setCell w4 ⟨w.heap.size, 7, none⟩ _ _ (by show w.heap.size + 1 ≠ w.heap.size; omega)]; exact HZ4.out
    have hB5 : Below w.heap.size w w5 := by rw [← hw5]; exact HB4.out.setCell (Nat.le_refl _) _
    have HX5 := Lib.hid hX5
    have HZ5 := Lib.hid hZ5
    have HB5 := Lib.hid hB5
    have hr5 : RfO T { d with after := f', failed := fl', sy := x } w5 (.slice (some ⟨gd, 0, none⟩) d.secs.length cd) (.slice (some ⟨gb, 0, none⟩) d.secs.length cb) (.slice ap d.pend.length cp) := (HR.out.frame fun k _ hk => hB5.block k hk).sca rfl rfl rfl
    have HEN := Lib.hid (end_all hr5 hp hl)
    clear hX5 hZ5 hB5 hr5
    go_upto_region 5 with (fail)
    try rw [hw5]
    clear hw5 hx x0 x1 x2 x3 x4 x5 x6 x7 xf
    obtain ⟨x0, x1, x2, x3, x4, x5, x6, x7, xf⟩ := c33 HX5.out
    unfold rv at HEN
    go_wp2_with fail
    refine (HEN.out).mono ?_
    rintro e w6 ⟨v', rfl, hb, hv⟩
    clear x0 x1 x2 x3 x4 x5 x6 x7 xf
    have hbl := hb
    have hX := (hbl.block w.heap.size (Array.getElem?_eq_some_iff.1 HX5.out).1).trans HX5.out
    have hZ := (hbl.block (w.heap.size + 1) (Array.getElem?_eq_some_iff.1 HZ5.out).1).trans HZ5.out
    have HB6 := Lib.hid (HB5.out.trans (hbl.mono HB5.out.size))
    obtain ⟨x0, x1, x2, x3, x4, x5, x6, x7, xf⟩ := c33 hX
    obtain ⟨z0, z1, z2, z3, z4, z5, z6, z7, zf⟩ := z33 hZ
    have HX6 := Lib.hid hX
    have HZ6 := Lib.hid hZ
    clear hbl hX hZ
    obtain ⟨vd2, vb2, vp2, rfl, hr2⟩ := hv
    obtain ⟨ad2, cd2, rfl⟩ := row_slice hr2.rd
    obtain ⟨ab2, cb2, rfl⟩ := row_slice hr2.rb
    obtain ⟨ap2, cp2, rfl⟩ := row_slice hr2.rp
    have HR2 := Lib.hid hr2
    clear hr2
    simp only [rv]
    obtain ⟨n2, hn2⟩ : ∃ n, (endF { d with after := f', failed := fl', sy := x } fun _ => 64).secs.length = n := ⟨_, rfl⟩
    obtain ⟨m2, hm2⟩ : ∃ n, (endF { d with after := f', failed := fl', sy := x } fun _ => 64).pend.length = n := ⟨_, rfl⟩
    rw [hn2, hm2]
    rw [hn2, hm2] at HR2
    simp only [endF]
    clear hn2 hm2
    go_wp2_with fail
    refine bodyPost_ret (v := .tuple #[.agg #[.slice ad2 n2 cd2, .slice ab2 n2 cb2, .slice ap2 m2 cp2, .int .i64 f', .bool fl', .int .i64 d.r, .int .i64 d.wn, .int .i64 x], .int .i64 0]) (by simp [results, Try.results38, go_sem, z0, z1, z2, z3, z4, z5, z6, z7]) rfl ?_
    have e := HRR.out
    injection e with e1 e2
    subst e1 e2
    obtain ⟨W, hW⟩ : ∃ W, set8 w6 (w.heap.size + 1) (.slice ad2 n2 cd2) (.slice ab2 n2 cb2) (.slice ap2 m2 cp2) (.int .i64 f') (.bool fl') (.int .i64 d.r) (.int .i64 d.wn) (.int .i64 x) = W := ⟨_, rfl⟩
    suffices key : Res T (endF { d with after := f', failed := fl', sy := x } fun _ => 64) w (fun v' => .returned (.tuple #[v', .int .i64 0])) (.returned (.tuple #[.agg #[.slice ad2 n2 cd2, .slice ab2 n2 cb2, .slice ap2 m2 cp2, .int .i64 f', .bool fl', .int .i64 d.r, .int .i64 d.wn, .int .i64 x], .int .i64 0])) W by
      rw [← hW] at key; exact key
    have hBW : Below w.heap.size w W := by rw [← hW]; exact below_set8 HB6.out (Nat.le_succ _) _ _ _ _ _ _ _ _
    have hSW : W.heap.size = w6.heap.size := by rw [← hW]; simp [set8]
    have hr := HR2.out.far (w' := W) HX6.out HZ6.out fun i h1 h2 _ => by rw [← hW, set8_far _ _ _ _ _ _ _ _ _ _ _ h2]
    have hsz := HB5.out.size
    exact ⟨_, rfl, hBW, _, _, _, rfl, (hr.mono fun k hk => by
      rcases hk with hk | ⟨h1, h2⟩
      · exact .inl hk
      · right; omega)⟩
end
end Go.Proofs.Ytagfnobchdfhfaa
