import Derived.Test.YtagfnobchdfhfaaXh
namespace Go.Proofs.Ytagfnobchdfhfaa
set_option linter.unusedSimpArgs false
set_option linter.unnecessarySimpa false
set_option linter.unusedVariables false
open Go.RowKit Go.ChangeShapes Go.WideShapes Go.ChangeAt
attribute [local go_sem ↓] Go.wp_at_zero Go.wp_at_succ

theorem do_res {T : Nat → Prop} {d2 : DM} {w w1 w2 W : World} {vd vb vp : Value} {mk : Value → Ending} {cx cz : Array Value} (h : RfO (grow T w1 w2) d2 w2 vd vb vp) (hb1 : w.heap.size ≤ w1.heap.size) (hb2 : Below w.heap.size w W) (hx : w2.heap[w.heap.size]? = some (.cells cx 33 (0, 0))) (hz : w2.heap[w.heap.size + 2]? = some (.cells cz 33 (0, 0))) (hs : W.heap.size = w2.heap.size) (hf : ∀ i, i ≠ w.heap.size → i ≠ w.heap.size + 2 → W.heap[i]? = w2.heap[i]?) : Res T d2 w mk (mk (rv d2 vd vb vp)) W := by
  have hr := h.far (w' := W) hx hz fun i h1 h2 _ => hf i h1 h2
  exact ⟨_, rfl, hb2, _, _, _, rfl, hr.mono fun k hk => by
    rcases hk with hk | ⟨h1, h2⟩
    · exact .inl hk
    · right; omega⟩
section
variable {T : Nat → Prop} {d : DM} {w : World} {vd vb vp : Value}
set_option maxHeartbeats 800000 in
theorem Do_0 (o : OpM) (hkk : ((o.kind : Int) % 7) = 0) (h : RfO T d w vd vb vp) (hp : d.pend.length ≤ 1000) (r : (ByteArray × Int) × DM) (hr : r = readF d o.n) :
    Calls Try.prog 26 #[rv d vd vb vp, opV o] w (Res T r.2 w fun v' => .returned (.tuple #[v', .string r.1.1, .int .i64 r.1.2])) := by
  obtain ⟨gd, cd, rfl, hgd, _, hdc, _⟩ := row_some h.rd h.len
  obtain ⟨gb, cb, rfl, hgb, _, hbc, _⟩ := row_some h.rb h.len
  obtain ⟨ap, cp, rfl⟩ := row_slice h.rp
  have HR := Lib.hid h
  clear hdc hbc
  obtain ⟨w1, hW1⟩ : ∃ W, ((w.alloc (.cells #[.slice (some ⟨gd, 0, none⟩) d.secs.length cd, .slice (some ⟨gb, 0, none⟩) d.secs.length cb, .slice ap d.pend.length cp, .int .i64 d.after, .bool d.failed, .int .i64 d.r, .int .i64 d.wn, .int .i64 d.sy] 33)).alloc (.cells #[.int .u8 (o.kind : Int), .int .i64 o.n, .int .i64 o.at_, .string o.data, .int .u8 (o.mask.toNat : Int), .bool o.bad, .slice o.sA o.sv.length o.sc] 42)).alloc (.cells zr33 33) = W := ⟨_, rfl⟩
  have hs1 : w1.heap.size = w.heap.size + 3 := by rw [← hW1]; simp
  have hb1 : Below w.heap.size w w1 := by rw [← hW1]; exact (((Below.refl _ _).alloc (Nat.le_refl _) _).alloc (by simp) _).alloc (by simp; omega) _
  have hX1 : w1.heap[w.heap.size]? = some (.cells #[.slice (some ⟨gd, 0, none⟩) d.secs.length cd, .slice (some ⟨gb, 0, none⟩) d.secs.length cb, .slice ap d.pend.length cp, .int .i64 d.after, .bool d.failed, .int .i64 d.r, .int .i64 d.wn, .int .i64 d.sy] 33 (0, 0)) := by rw [← hW1, Below.heap_alloc _ _ _ (by simp; omega), Below.heap_alloc _ _ _ (by simp)]; exact heap_alloc_new w _
  have hZ1 : w1.heap[w.heap.size + 2]? = some (.cells zr33 33 (0, 0)) := by
    have := heap_alloc_new ((w.alloc (.cells #[.slice (some ⟨gd, 0, none⟩) d.secs.length cd, .slice (some ⟨gb, 0, none⟩) d.secs.length cb, .slice ap d.pend.length cp, .int .i64 d.after, .bool d.failed, .int .i64 d.r, .int .i64 d.wn, .int .i64 d.sy] 33)).alloc (.cells #[.int .u8 (o.kind : Int), .int .i64 o.n, .int .i64 o.at_, .string o.data, .int .u8 (o.mask.toNat : Int), .bool o.bad, .slice o.sA o.sv.length o.sc] 42)) (.cells zr33 33)
    rw [hW1] at this
    simpa using this
  have HB1 := Lib.hid hb1
  have HX1 := Lib.hid hX1
  have HZ1 := Lib.hid hZ1
  have HW1 := Lib.hid hW1
  have HS1 := Lib.hid hs1
  have hr1 := h.frame (w' := w1) fun k _ hk => hb1.block k hk
  clear hs1 hb1 hX1 hZ1 hW1
  obtain ⟨s2, e2, d2, hq⟩ : ∃ s e d2, readF d o.n = ((s, e), d2) := ⟨_, _, _, rfl⟩
  have HRR : Hid (r = ((s2, e2), d2)) := Lib.hid (hr.trans hq)
  have HC := Lib.hid (read_ref o.n hr1 hp _ hq)
  clear h hr hr1 hq
  have hx0 := hkk
  unfold rv opV
  unfold rv at HC
  go_enter Try.func26, Try.ntmps26
  go_wp2_with fail
  rw [show ((w.alloc (.cells #[.slice (some ⟨gd, 0, none⟩) d.secs.length cd, .slice (some ⟨gb, 0, none⟩) d.secs.length cb, .slice ap d.pend.length cp, .int .i64 d.after, .bool d.failed, .int .i64 d.r, .int .i64 d.wn, .int .i64 d.sy] 33)).alloc (.cells #[.int .u8 (o.kind : Int), .int .i64 o.n, .int .i64 o.at_, .string o.data, .int .u8 (o.mask.toNat : Int), .bool o.bad, .slice o.sA o.sv.length o.sc] 42)).alloc (.cells #[.slice none 0 0, .slice none 0 0, .slice none 0 0, .int .i64 0, .bool false, .int .i64 0, .int .i64 0, .int .i64 0] 33) = w1 from HW1.out]
  refine (HC.out).mono ?_
  rintro e w2 ⟨v', rfl, hb, hv⟩
  have HX2 := Lib.hid ((hb.block w.heap.size (by rw [HS1.out]; omega)).trans HX1.out)
  have HZ2 := Lib.hid ((hb.block (w.heap.size + 2) (by rw [HS1.out]; omega)).trans HZ1.out)
  have HB2 := Lib.hid (HB1.out.trans (hb.mono HB1.out.size))
  clear hb
  obtain ⟨x0, x1, x2, x3, x4, x5, x6, x7, xf⟩ := c33 HX2.out
  obtain ⟨z0, z1, z2, z3, z4, z5, z6, z7, zf⟩ := z33 HZ2.out
  obtain ⟨vd2, vb2, vp2, rfl, hr2⟩ := hv
  obtain ⟨ad2, cd2, rfl⟩ := row_slice hr2.rd
  obtain ⟨ab2, cb2, rfl⟩ := row_slice hr2.rb
  obtain ⟨ap2, cp2, rfl⟩ := row_slice hr2.rp
  have HR2 := Lib.hid hr2
  clear hr2
  simp only [rv]
  go_wp2_with fail
  refine bodyPost_ret (v := .tuple #[.agg #[.slice ad2 d2.secs.length cd2, .slice ab2 d2.secs.length cb2, .slice ap2 d2.pend.length cp2, .int .i64 d2.after, .bool d2.failed, .int .i64 d2.r, .int .i64 d2.wn, .int .i64 d2.sy], .string (s2), .int .i64 (e2)]) (by simp [results, Try.results26, go_sem, z0, z1, z2, z3, z4, z5, z6, z7]) rfl ?_
  rw [HRR.out]
  exact do_res (mk := fun v' => .returned (.tuple #[v', .string s2, .int .i64 e2])) HR2.out HB1.out.size (below_set8 HB2.out (by omega) _ _ _ _ _ _ _ _) HX2.out HZ2.out (by simp [set8]) (fun i h1 h2 => set8_far _ _ _ _ _ _ _ _ _ _ _ h2)
set_option maxHeartbeats 800000 in
theorem Do_1 (o : OpM) (hkk : ((o.kind : Int) % 7) = 1) (h : RfO T d w vd vb vp) (ha : d.after ≤ 9223372036854775807) (hp : d.pend.length ≤ 1000) (r : (ByteArray × Int) × DM) (hr : r = ((⟨#[]⟩, (writeF d o.n o.data).1), (writeF d o.n o.data).2)) :
    Calls Try.prog 26 #[rv d vd vb vp, opV o] w (Res T r.2 w fun v' => .returned (.tuple #[v', .string r.1.1, .int .i64 r.1.2])) := by
  obtain ⟨gd, cd, rfl, hgd, _, hdc, _⟩ := row_some h.rd h.len
  obtain ⟨gb, cb, rfl, hgb, _, hbc, _⟩ := row_some h.rb h.len
  obtain ⟨ap, cp, rfl⟩ := row_slice h.rp
  have HR := Lib.hid h
  clear hdc hbc
  obtain ⟨w1, hW1⟩ : ∃ W, ((w.alloc (.cells #[.slice (some ⟨gd, 0, none⟩) d.secs.length cd, .slice (some ⟨gb, 0, none⟩) d.secs.length cb, .slice ap d.pend.length cp, .int .i64 d.after, .bool d.failed, .int .i64 d.r, .int .i64 d.wn, .int .i64 d.sy] 33)).alloc (.cells #[.int .u8 (o.kind : Int), .int .i64 o.n, .int .i64 o.at_, .string o.data, .int .u8 (o.mask.toNat : Int), .bool o.bad, .slice o.sA o.sv.length o.sc] 42)).alloc (.cells zr33 33) = W := ⟨_, rfl⟩
  have hs1 : w1.heap.size = w.heap.size + 3 := by rw [← hW1]; simp
  have hb1 : Below w.heap.size w w1 := by rw [← hW1]; exact (((Below.refl _ _).alloc (Nat.le_refl _) _).alloc (by simp) _).alloc (by simp; omega) _
  have hX1 : w1.heap[w.heap.size]? = some (.cells #[.slice (some ⟨gd, 0, none⟩) d.secs.length cd, .slice (some ⟨gb, 0, none⟩) d.secs.length cb, .slice ap d.pend.length cp, .int .i64 d.after, .bool d.failed, .int .i64 d.r, .int .i64 d.wn, .int .i64 d.sy] 33 (0, 0)) := by rw [← hW1, Below.heap_alloc _ _ _ (by simp; omega), Below.heap_alloc _ _ _ (by simp)]; exact heap_alloc_new w _
  have hZ1 : w1.heap[w.heap.size + 2]? = some (.cells zr33 33 (0, 0)) := by
    have := heap_alloc_new ((w.alloc (.cells #[.slice (some ⟨gd, 0, none⟩) d.secs.length cd, .slice (some ⟨gb, 0, none⟩) d.secs.length cb, .slice ap d.pend.length cp, .int .i64 d.after, .bool d.failed, .int .i64 d.r, .int .i64 d.wn, .int .i64 d.sy] 33)).alloc (.cells #[.int .u8 (o.kind : Int), .int .i64 o.n, .int .i64 o.at_, .string o.data, .int .u8 (o.mask.toNat : Int), .bool o.bad, .slice o.sA o.sv.length o.sc] 42)) (.cells zr33 33)
    rw [hW1] at this
    simpa using this
  have HB1 := Lib.hid hb1
  have HX1 := Lib.hid hX1
  have HZ1 := Lib.hid hZ1
  have HW1 := Lib.hid hW1
  have HS1 := Lib.hid hs1
  have hr1 := h.frame (w' := w1) fun k _ hk => hb1.block k hk
  clear hs1 hb1 hX1 hZ1 hW1
  obtain ⟨e2, d2, hq⟩ : ∃ e d2, writeF d o.n o.data = (e, d2) := ⟨(writeF d o.n o.data).1, (writeF d o.n o.data).2, rfl⟩
  have HRR : Hid (r = ((⟨#[]⟩, e2), d2)) := Lib.hid (by rw [hr, hq])
  have HC := Lib.hid (write_ref o.n o.data hr1 ha hp _ _ hq)
  clear h hr hr1 hq
  have hx0 := hkk
  unfold rv opV
  unfold rv at HC
  go_enter Try.func26, Try.ntmps26
  go_wp2_with fail
  rw [show ((w.alloc (.cells #[.slice (some ⟨gd, 0, none⟩) d.secs.length cd, .slice (some ⟨gb, 0, none⟩) d.secs.length cb, .slice ap d.pend.length cp, .int .i64 d.after, .bool d.failed, .int .i64 d.r, .int .i64 d.wn, .int .i64 d.sy] 33)).alloc (.cells #[.int .u8 (o.kind : Int), .int .i64 o.n, .int .i64 o.at_, .string o.data, .int .u8 (o.mask.toNat : Int), .bool o.bad, .slice o.sA o.sv.length o.sc] 42)).alloc (.cells #[.slice none 0 0, .slice none 0 0, .slice none 0 0, .int .i64 0, .bool false, .int .i64 0, .int .i64 0, .int .i64 0] 33) = w1 from HW1.out]
  refine (HC.out).mono ?_
  rintro e w2 ⟨v', rfl, hb, hv⟩
  have HX2 := Lib.hid ((hb.block w.heap.size (by rw [HS1.out]; omega)).trans HX1.out)
  have HZ2 := Lib.hid ((hb.block (w.heap.size + 2) (by rw [HS1.out]; omega)).trans HZ1.out)
  have HB2 := Lib.hid (HB1.out.trans (hb.mono HB1.out.size))
  clear hb
  obtain ⟨x0, x1, x2, x3, x4, x5, x6, x7, xf⟩ := c33 HX2.out
  obtain ⟨z0, z1, z2, z3, z4, z5, z6, z7, zf⟩ := z33 HZ2.out
  obtain ⟨vd2, vb2, vp2, rfl, hr2⟩ := hv
  obtain ⟨ad2, cd2, rfl⟩ := row_slice hr2.rd
  obtain ⟨ab2, cb2, rfl⟩ := row_slice hr2.rb
  obtain ⟨ap2, cp2, rfl⟩ := row_slice hr2.rp
  have HR2 := Lib.hid hr2
  clear hr2
  simp only [rv]
  obtain ⟨w3, hw3⟩ : ∃ W, set8 w2 w.heap.size (.slice ad2 d2.secs.length cd2) (.slice ab2 d2.secs.length cb2) (.slice ap2 d2.pend.length cp2) (.int .i64 d2.after) (.bool d2.failed) (.int .i64 d2.r) (.int .i64 d2.wn) (.int .i64 d2.sy) = W := ⟨_, rfl⟩
  have HW3 := Lib.hid hw3
  have HX3 := Lib.hid (show w3.heap[w.heap.size]? = some (.cells #[.slice ad2 d2.secs.length cd2, .slice ab2 d2.secs.length cb2, .slice ap2 d2.pend.length cp2, .int .i64 d2.after, .bool d2.failed, .int .i64 d2.r, .int .i64 d2.wn, .int .i64 d2.sy] 33 (0, 0)) by rw [← hw3]; exact set8_at HX2.out _ _ _ _ _ _ _ _)
  have HF3 := Lib.hid (show ∀ i, i ≠ w.heap.size → w3.heap[i]? = w2.heap[i]? from fun i hi => by rw [← hw3]; exact set8_far _ _ _ _ _ _ _ _ _ _ _ hi)
  have HS3 := Lib.hid (show w3.heap.size = w2.heap.size by rw [← hw3]; simp [set8])
  have HB3 := Lib.hid (show Below w.heap.size w w3 by rw [← hw3]; exact below_set8 HB2.out (Nat.le_refl _) _ _ _ _ _ _ _ _)
  clear hw3
  go_upto_region 16 with (fail)
  have hw3' := HW3.out
  unfold set8 at hw3'
  rw [hw3']
  clear hw3' x0 x1 x2 x3 x4 x5 x6 x7 xf z0 z1 z2 z3 z4 z5 z6 z7 zf
  obtain ⟨x0, x1, x2, x3, x4, x5, x6, x7, xf⟩ := c33 HX3.out
  obtain ⟨z0, z1, z2, z3, z4, z5, z6, z7, zf⟩ := z33 ((HF3.out (w.heap.size + 2) (by omega)).trans HZ2.out)
  go_wp2_with fail
  refine bodyPost_ret (v := .tuple #[.agg #[.slice ad2 d2.secs.length cd2, .slice ab2 d2.secs.length cb2, .slice ap2 d2.pend.length cp2, .int .i64 d2.after, .bool d2.failed, .int .i64 d2.r, .int .i64 d2.wn, .int .i64 d2.sy], .string (⟨#[]⟩), .int .i64 (e2)]) (by simp [results, Try.results26, go_sem, z0, z1, z2, z3, z4, z5, z6, z7]) rfl ?_
  rw [HRR.out]
  exact do_res (mk := fun v' => .returned (.tuple #[v', .string _, .int .i64 _])) HR2.out HB1.out.size (below_set8 HB3.out (by omega) _ _ _ _ _ _ _ _) HX2.out HZ2.out (by rw [← HS3.out]; simp [set8]) (fun i h1 h2 => (set8_far _ _ _ _ _ _ _ _ _ _ _ h2).trans (HF3.out i h1))
set_option maxHeartbeats 800000 in
theorem Do_2 (o : OpM) (hkk : ((o.kind : Int) % 7) = 2) (h : RfO T d w vd vb vp) (ha : d.after ≤ 9223372036854775807) (hl : d.secs.length ≤ 2000) (hp : d.pend.length ≤ 1000) (r : (ByteArray × Int) × DM) (hr : r = ((⟨#[]⟩, (syncF d).1), (syncF d).2)) :
    Calls Try.prog 26 #[rv d vd vb vp, opV o] w (Res T r.2 w fun v' => .returned (.tuple #[v', .string r.1.1, .int .i64 r.1.2])) := by
  obtain ⟨gd, cd, rfl, hgd, _, hdc, _⟩ := row_some h.rd h.len
  obtain ⟨gb, cb, rfl, hgb, _, hbc, _⟩ := row_some h.rb h.len
  obtain ⟨ap, cp, rfl⟩ := row_slice h.rp
  have HR := Lib.hid h
  clear hdc hbc
  obtain ⟨w1, hW1⟩ : ∃ W, ((w.alloc (.cells #[.slice (some ⟨gd, 0, none⟩) d.secs.length cd, .slice (some ⟨gb, 0, none⟩) d.secs.length cb, .slice ap d.pend.length cp, .int .i64 d.after, .bool d.failed, .int .i64 d.r, .int .i64 d.wn, .int .i64 d.sy] 33)).alloc (.cells #[.int .u8 (o.kind : Int), .int .i64 o.n, .int .i64 o.at_, .string o.data, .int .u8 (o.mask.toNat : Int), .bool o.bad, .slice o.sA o.sv.length o.sc] 42)).alloc (.cells zr33 33) = W := ⟨_, rfl⟩
  have hs1 : w1.heap.size = w.heap.size + 3 := by rw [← hW1]; simp
  have hb1 : Below w.heap.size w w1 := by rw [← hW1]; exact (((Below.refl _ _).alloc (Nat.le_refl _) _).alloc (by simp) _).alloc (by simp; omega) _
  have hX1 : w1.heap[w.heap.size]? = some (.cells #[.slice (some ⟨gd, 0, none⟩) d.secs.length cd, .slice (some ⟨gb, 0, none⟩) d.secs.length cb, .slice ap d.pend.length cp, .int .i64 d.after, .bool d.failed, .int .i64 d.r, .int .i64 d.wn, .int .i64 d.sy] 33 (0, 0)) := by rw [← hW1, Below.heap_alloc _ _ _ (by simp; omega), Below.heap_alloc _ _ _ (by simp)]; exact heap_alloc_new w _
  have hZ1 : w1.heap[w.heap.size + 2]? = some (.cells zr33 33 (0, 0)) := by
    have := heap_alloc_new ((w.alloc (.cells #[.slice (some ⟨gd, 0, none⟩) d.secs.length cd, .slice (some ⟨gb, 0, none⟩) d.secs.length cb, .slice ap d.pend.length cp, .int .i64 d.after, .bool d.failed, .int .i64 d.r, .int .i64 d.wn, .int .i64 d.sy] 33)).alloc (.cells #[.int .u8 (o.kind : Int), .int .i64 o.n, .int .i64 o.at_, .string o.data, .int .u8 (o.mask.toNat : Int), .bool o.bad, .slice o.sA o.sv.length o.sc] 42)) (.cells zr33 33)
    rw [hW1] at this
    simpa using this
  have HB1 := Lib.hid hb1
  have HX1 := Lib.hid hX1
  have HZ1 := Lib.hid hZ1
  have HW1 := Lib.hid hW1
  have HS1 := Lib.hid hs1
  have hr1 := h.frame (w' := w1) fun k _ hk => hb1.block k hk
  clear hs1 hb1 hX1 hZ1 hW1
  obtain ⟨e2, d2, hq⟩ : ∃ e d2, syncF d = (e, d2) := ⟨(syncF d).1, (syncF d).2, rfl⟩
  have HRR : Hid (r = ((⟨#[]⟩, e2), d2)) := Lib.hid (by rw [hr, hq])
  have HC := Lib.hid (sync_ref hr1 ha hp hl _ _ hq)
  clear h hr hr1 hq
  have hx0 := hkk
  unfold rv opV
  unfold rv at HC
  go_enter Try.func26, Try.ntmps26
  go_wp2_with fail
  rw [show ((w.alloc (.cells #[.slice (some ⟨gd, 0, none⟩) d.secs.length cd, .slice (some ⟨gb, 0, none⟩) d.secs.length cb, .slice ap d.pend.length cp, .int .i64 d.after, .bool d.failed, .int .i64 d.r, .int .i64 d.wn, .int .i64 d.sy] 33)).alloc (.cells #[.int .u8 (o.kind : Int), .int .i64 o.n, .int .i64 o.at_, .string o.data, .int .u8 (o.mask.toNat : Int), .bool o.bad, .slice o.sA o.sv.length o.sc] 42)).alloc (.cells #[.slice none 0 0, .slice none 0 0, .slice none 0 0, .int .i64 0, .bool false, .int .i64 0, .int .i64 0, .int .i64 0] 33) = w1 from HW1.out]
  refine (HC.out).mono ?_
  rintro e w2 ⟨v', rfl, hb, hv⟩
  have HX2 := Lib.hid ((hb.block w.heap.size (by rw [HS1.out]; omega)).trans HX1.out)
  have HZ2 := Lib.hid ((hb.block (w.heap.size + 2) (by rw [HS1.out]; omega)).trans HZ1.out)
  have HB2 := Lib.hid (HB1.out.trans (hb.mono HB1.out.size))
  clear hb
  obtain ⟨x0, x1, x2, x3, x4, x5, x6, x7, xf⟩ := c33 HX2.out
  obtain ⟨z0, z1, z2, z3, z4, z5, z6, z7, zf⟩ := z33 HZ2.out
  obtain ⟨vd2, vb2, vp2, rfl, hr2⟩ := hv
  obtain ⟨ad2, cd2, rfl⟩ := row_slice hr2.rd
  obtain ⟨ab2, cb2, rfl⟩ := row_slice hr2.rb
  obtain ⟨ap2, cp2, rfl⟩ := row_slice hr2.rp
  have HR2 := Lib.hid hr2
  clear hr2
  simp only [rv]
  obtain ⟨w3, hw3⟩ : ∃ W, set8 w2 w.heap.size (.slice ad2 d2.secs.length cd2) (.slice ab2 d2.secs.length cb2) (.slice ap2 d2.pend.length cp2) (.int .i64 d2.after) (.bool d2.failed) (.int .i64 d2.r) (.int .i64 d2.wn) (.int .i64 d2.sy) = W := ⟨_, rfl⟩
  have HW3 := Lib.hid hw3
  have HX3 := Lib.hid (show w3.heap[w.heap.size]? = some (.cells #[.slice ad2 d2.secs.length cd2, .slice ab2 d2.secs.length cb2, .slice ap2 d2.pend.length cp2, .int .i64 d2.after, .bool d2.failed, .int .i64 d2.r, .int .i64 d2.wn, .int .i64 d2.sy] 33 (0, 0)) by rw [← hw3]; exact set8_at HX2.out _ _ _ _ _ _ _ _)
  have HF3 := Lib.hid (show ∀ i, i ≠ w.heap.size → w3.heap[i]? = w2.heap[i]? from fun i hi => by rw [← hw3]; exact set8_far _ _ _ _ _ _ _ _ _ _ _ hi)
  have HS3 := Lib.hid (show w3.heap.size = w2.heap.size by rw [← hw3]; simp [set8])
  have HB3 := Lib.hid (show Below w.heap.size w w3 by rw [← hw3]; exact below_set8 HB2.out (Nat.le_refl _) _ _ _ _ _ _ _ _)
  clear hw3
  go_upto_region 16 with (fail)
  have hw3' := HW3.out
  unfold set8 at hw3'
  rw [hw3']
  clear hw3' x0 x1 x2 x3 x4 x5 x6 x7 xf z0 z1 z2 z3 z4 z5 z6 z7 zf
  obtain ⟨x0, x1, x2, x3, x4, x5, x6, x7, xf⟩ := c33 HX3.out
  obtain ⟨z0, z1, z2, z3, z4, z5, z6, z7, zf⟩ := z33 ((HF3.out (w.heap.size + 2) (by omega)).trans HZ2.out)
  go_wp2_with fail
  refine bodyPost_ret (v := .tuple #[.agg #[.slice ad2 d2.secs.length cd2, .slice ab2 d2.secs.length cb2, .slice ap2 d2.pend.length cp2, .int .i64 d2.after, .bool d2.failed, .int .i64 d2.r, .int .i64 d2.wn, .int .i64 d2.sy], .string (⟨#[]⟩), .int .i64 (e2)]) (by simp [results, Try.results26, go_sem, z0, z1, z2, z3, z4, z5, z6, z7]) rfl ?_
  rw [HRR.out]
  exact do_res (mk := fun v' => .returned (.tuple #[v', .string _, .int .i64 _])) HR2.out HB1.out.size (below_set8 HB3.out (by omega) _ _ _ _ _ _ _ _) HX2.out HZ2.out (by rw [← HS3.out]; simp [set8]) (fun i h1 h2 => (set8_far _ _ _ _ _ _ _ _ _ _ _ h2).trans (HF3.out i h1))
set_option maxHeartbeats 800000 in
theorem Do_3 (o : OpM) (hkk : ((o.kind : Int) % 7) = 3) (h : RfO T d w vd vb vp) (hA : Ones (Value.int .i64) w w.heap.size o.sA o.sv) (hl : d.secs.length ≤ 2000) (hp : d.pend.length ≤ 1000) (r : (ByteArray × Int) × DM) (hr : r = ((⟨#[]⟩, 0), crashF d o.sv)) :
    Calls Try.prog 26 #[rv d vd vb vp, opV o] w (Res T r.2 w fun v' => .returned (.tuple #[v', .string r.1.1, .int .i64 r.1.2])) := by
  obtain ⟨gd, cd, rfl, hgd, _, hdc, _⟩ := row_some h.rd h.len
  obtain ⟨gb, cb, rfl, hgb, _, hbc, _⟩ := row_some h.rb h.len
  obtain ⟨ap, cp, rfl⟩ := row_slice h.rp
  have HR := Lib.hid h
  clear hdc hbc
  obtain ⟨w1, hW1⟩ : ∃ W, ((w.alloc (.cells #[.slice (some ⟨gd, 0, none⟩) d.secs.length cd, .slice (some ⟨gb, 0, none⟩) d.secs.length cb, .slice ap d.pend.length cp, .int .i64 d.after, .bool d.failed, .int .i64 d.r, .int .i64 d.wn, .int .i64 d.sy] 33)).alloc (.cells #[.int .u8 (o.kind : Int), .int .i64 o.n, .int .i64 o.at_, .string o.data, .int .u8 (o.mask.toNat : Int), .bool o.bad, .slice o.sA o.sv.length o.sc] 42)).alloc (.cells zr33 33) = W := ⟨_, rfl⟩
  have hs1 : w1.heap.size = w.heap.size + 3 := by rw [← hW1]; simp
  have hb1 : Below w.heap.size w w1 := by rw [← hW1]; exact (((Below.refl _ _).alloc (Nat.le_refl _) _).alloc (by simp) _).alloc (by simp; omega) _
  have hX1 : w1.heap[w.heap.size]? = some (.cells #[.slice (some ⟨gd, 0, none⟩) d.secs.length cd, .slice (some ⟨gb, 0, none⟩) d.secs.length cb, .slice ap d.pend.length cp, .int .i64 d.after, .bool d.failed, .int .i64 d.r, .int .i64 d.wn, .int .i64 d.sy] 33 (0, 0)) := by rw [← hW1, Below.heap_alloc _ _ _ (by simp; omega), Below.heap_alloc _ _ _ (by simp)]; exact heap_alloc_new w _
  have hZ1 : w1.heap[w.heap.size + 2]? = some (.cells zr33 33 (0, 0)) := by
    have := heap_alloc_new ((w.alloc (.cells #[.slice (some ⟨gd, 0, none⟩) d.secs.length cd, .slice (some ⟨gb, 0, none⟩) d.secs.length cb, .slice ap d.pend.length cp, .int .i64 d.after, .bool d.failed, .int .i64 d.r, .int .i64 d.wn, .int .i64 d.sy] 33)).alloc (.cells #[.int .u8 (o.kind : Int), .int .i64 o.n, .int .i64 o.at_, .string o.data, .int .u8 (o.mask.toNat : Int), .bool o.bad, .slice o.sA o.sv.length o.sc] 42)) (.cells zr33 33)
    rw [hW1] at this
    simpa using this
  have HB1 := Lib.hid hb1
  have HX1 := Lib.hid hX1
  have HZ1 := Lib.hid hZ1
  have HW1 := Lib.hid hW1
  have HS1 := Lib.hid hs1
  have hr1 := h.frame (w' := w1) fun k _ hk => hb1.block k hk
  clear hs1 hb1 hX1 hZ1 hW1
  have hAA := (hA.below HB1.out (Nat.le_refl _)).wide HB1.out.size
  obtain ⟨d2, hq⟩ : ∃ d2, crashF d o.sv = d2 := ⟨_, rfl⟩
  have HRR : Hid (r = ((⟨#[]⟩, 0), d2)) := Lib.hid (by rw [hr, hq])
  have HC := Lib.hid (crash_ref o.sv o.sA o.sc hAA hr1 hp hl)
  rw [hq] at HC
  clear h hr hr1 hA hAA hq
  have hx0 := hkk
  unfold rv opV
  unfold rv at HC
  go_enter Try.func26, Try.ntmps26
  go_wp2_with fail
  rw [show ((w.alloc (.cells #[.slice (some ⟨gd, 0, none⟩) d.secs.length cd, .slice (some ⟨gb, 0, none⟩) d.secs.length cb, .slice ap d.pend.length cp, .int .i64 d.after, .bool d.failed, .int .i64 d.r, .int .i64 d.wn, .int .i64 d.sy] 33)).alloc (.cells #[.int .u8 (o.kind : Int), .int .i64 o.n, .int .i64 o.at_, .string o.data, .int .u8 (o.mask.toNat : Int), .bool o.bad, .slice o.sA o.sv.length o.sc] 42)).alloc (.cells #[.slice none 0 0, .slice none 0 0, .slice none 0 0, .int .i64 0, .bool false, .int .i64 0, .int .i64 0, .int .i64 0] 33) = w1 from HW1.out]
  refine (HC.out).mono ?_
  rintro e w2 ⟨v', rfl, hb, hv⟩
  have HX2 := Lib.hid ((hb.block w.heap.size (by rw [HS1.out]; omega)).trans HX1.out)
  have HZ2 := Lib.hid ((hb.block (w.heap.size + 2) (by rw [HS1.out]; omega)).trans HZ1.out)
  have HB2 := Lib.hid (HB1.out.trans (hb.mono HB1.out.size))
  clear hb
  obtain ⟨x0, x1, x2, x3, x4, x5, x6, x7, xf⟩ := c33 HX2.out
  obtain ⟨z0, z1, z2, z3, z4, z5, z6, z7, zf⟩ := z33 HZ2.out
  obtain ⟨vd2, vb2, vp2, rfl, hr2⟩ := hv
  obtain ⟨ad2, cd2, rfl⟩ := row_slice hr2.rd
  obtain ⟨ab2, cb2, rfl⟩ := row_slice hr2.rb
  obtain ⟨ap2, cp2, rfl⟩ := row_slice hr2.rp
  have HR2 := Lib.hid hr2
  clear hr2
  simp only [rv]
  obtain ⟨w3, hw3⟩ : ∃ W, set8 w2 w.heap.size (.slice ad2 d2.secs.length cd2) (.slice ab2 d2.secs.length cb2) (.slice ap2 d2.pend.length cp2) (.int .i64 d2.after) (.bool d2.failed) (.int .i64 d2.r) (.int .i64 d2.wn) (.int .i64 d2.sy) = W := ⟨_, rfl⟩
  have HW3 := Lib.hid hw3
  have HX3 := Lib.hid (show w3.heap[w.heap.size]? = some (.cells #[.slice ad2 d2.secs.length cd2, .slice ab2 d2.secs.length cb2, .slice ap2 d2.pend.length cp2, .int .i64 d2.after, .bool d2.failed, .int .i64 d2.r, .int .i64 d2.wn, .int .i64 d2.sy] 33 (0, 0)) by rw [← hw3]; exact set8_at HX2.out _ _ _ _ _ _ _ _)
  have HF3 := Lib.hid (show ∀ i, i ≠ w.heap.size → w3.heap[i]? = w2.heap[i]? from fun i hi => by rw [← hw3]; exact set8_far _ _ _ _ _ _ _ _ _ _ _ hi)
  have HS3 := Lib.hid (show w3.heap.size = w2.heap.size by rw [← hw3]; simp [set8])
  have HB3 := Lib.hid (show Below w.heap.size w w3 by rw [← hw3]; exact below_set8 HB2.out (Nat.le_refl _) _ _ _ _ _ _ _ _)
  clear hw3
  go_upto_region 16 with (fail)
  have hw3' := HW3.out
  unfold set8 at hw3'
  rw [hw3']
  clear hw3' x0 x1 x2 x3 x4 x5 x6 x7 xf z0 z1 z2 z3 z4 z5 z6 z7 zf
  obtain ⟨x0, x1, x2, x3, x4, x5, x6, x7, xf⟩ := c33 HX3.out
  obtain ⟨z0, z1, z2, z3, z4, z5, z6, z7, zf⟩ := z33 ((HF3.out (w.heap.size + 2) (by omega)).trans HZ2.out)
  go_wp2_with fail
  refine bodyPost_ret (v := .tuple #[.agg #[.slice ad2 d2.secs.length cd2, .slice ab2 d2.secs.length cb2, .slice ap2 d2.pend.length cp2, .int .i64 d2.after, .bool d2.failed, .int .i64 d2.r, .int .i64 d2.wn, .int .i64 d2.sy], .string (⟨#[]⟩), .int .i64 (0)]) (by simp [results, Try.results26, go_sem, z0, z1, z2, z3, z4, z5, z6, z7]) rfl ?_
  rw [HRR.out]
  exact do_res (mk := fun v' => .returned (.tuple #[v', .string _, .int .i64 _])) HR2.out HB1.out.size (below_set8 HB3.out (by omega) _ _ _ _ _ _ _ _) HX2.out HZ2.out (by rw [← HS3.out]; simp [set8]) (fun i h1 h2 => (set8_far _ _ _ _ _ _ _ _ _ _ _ h2).trans (HF3.out i h1))
set_option maxHeartbeats 800000 in
theorem Do_4 (o : OpM) (hkk : ((o.kind : Int) % 7) = 4) (h : RfO T d w vd vb vp) (hl : d.secs.length ≤ 2000) (hp : d.pend.length ≤ 1000) (r : (ByteArray × Int) × DM) (hr : r = ((⟨#[]⟩, 0), failF d o.n)) :
    Calls Try.prog 26 #[rv d vd vb vp, opV o] w (Res T r.2 w fun v' => .returned (.tuple #[v', .string r.1.1, .int .i64 r.1.2])) := by
  obtain ⟨gd, cd, rfl, hgd, _, hdc, _⟩ := row_some h.rd h.len
  obtain ⟨gb, cb, rfl, hgb, _, hbc, _⟩ := row_some h.rb h.len
  obtain ⟨ap, cp, rfl⟩ := row_slice h.rp
  have HR := Lib.hid h
  clear hdc hbc
  obtain ⟨w1, hW1⟩ : ∃ W, ((w.alloc (.cells #[.slice (some ⟨gd, 0, none⟩) d.secs.length cd, .slice (some ⟨gb, 0, none⟩) d.secs.length cb, .slice ap d.pend.length cp, .int .i64 d.after, .bool d.failed, .int .i64 d.r, .int .i64 d.wn, .int .i64 d.sy] 33)).alloc (.cells #[.int .u8 (o.kind : Int), .int .i64 o.n, .int .i64 o.at_, .string o.data, .int .u8 (o.mask.toNat : Int), .bool o.bad, .slice o.sA o.sv.length o.sc] 42)).alloc (.cells zr33 33) = W := ⟨_, rfl⟩
  have hs1 : w1.heap.size = w.heap.size + 3 := by rw [← hW1]; simp
  have hb1 : Below w.heap.size w w1 := by rw [← hW1]; exact (((Below.refl _ _).alloc (Nat.le_refl _) _).alloc (by simp) _).alloc (by simp; omega) _
  have hX1 : w1.heap[w.heap.size]? = some (.cells #[.slice (some ⟨gd, 0, none⟩) d.secs.length cd, .slice (some ⟨gb, 0, none⟩) d.secs.length cb, .slice ap d.pend.length cp, .int .i64 d.after, .bool d.failed, .int .i64 d.r, .int .i64 d.wn, .int .i64 d.sy] 33 (0, 0)) := by rw [← hW1, Below.heap_alloc _ _ _ (by simp; omega), Below.heap_alloc _ _ _ (by simp)]; exact heap_alloc_new w _
  have hZ1 : w1.heap[w.heap.size + 2]? = some (.cells zr33 33 (0, 0)) := by
    have := heap_alloc_new ((w.alloc (.cells #[.slice (some ⟨gd, 0, none⟩) d.secs.length cd, .slice (some ⟨gb, 0, none⟩) d.secs.length cb, .slice ap d.pend.length cp, .int .i64 d.after, .bool d.failed, .int .i64 d.r, .int .i64 d.wn, .int .i64 d.sy] 33)).alloc (.cells #[.int .u8 (o.kind : Int), .int .i64 o.n, .int .i64 o.at_, .string o.data, .int .u8 (o.mask.toNat : Int), .bool o.bad, .slice o.sA o.sv.length o.sc] 42)) (.cells zr33 33)
    rw [hW1] at this
    simpa using this
  have HB1 := Lib.hid hb1
  have HX1 := Lib.hid hX1
  have HZ1 := Lib.hid hZ1
  have HW1 := Lib.hid hW1
  have HS1 := Lib.hid hs1
  have hr1 := h.frame (w' := w1) fun k _ hk => hb1.block k hk
  clear hs1 hb1 hX1 hZ1 hW1
  obtain ⟨d2, hq⟩ : ∃ d2, failF d o.n = d2 := ⟨_, rfl⟩
  have HRR : Hid (r = ((⟨#[]⟩, 0), d2)) := Lib.hid (by rw [hr, hq])
  have HC := Lib.hid (failAfter_ref o.n hr1)
  rw [hq] at HC
  clear h hr hr1 hq
  have hx0 := hkk
  unfold rv opV
  unfold rv at HC
  go_enter Try.func26, Try.ntmps26
  go_wp2_with fail
  rw [show ((w.alloc (.cells #[.slice (some ⟨gd, 0, none⟩) d.secs.length cd, .slice (some ⟨gb, 0, none⟩) d.secs.length cb, .slice ap d.pend.length cp, .int .i64 d.after, .bool d.failed, .int .i64 d.r, .int .i64 d.wn, .int .i64 d.sy] 33)).alloc (.cells #[.int .u8 (o.kind : Int), .int .i64 o.n, .int .i64 o.at_, .string o.data, .int .u8 (o.mask.toNat : Int), .bool o.bad, .slice o.sA o.sv.length o.sc] 42)).alloc (.cells #[.slice none 0 0, .slice none 0 0, .slice none 0 0, .int .i64 0, .bool false, .int .i64 0, .int .i64 0, .int .i64 0] 33) = w1 from HW1.out]
  refine (HC.out).mono ?_
  rintro e w2 ⟨v', rfl, hb, hv⟩
  have HX2 := Lib.hid ((hb.block w.heap.size (by rw [HS1.out]; omega)).trans HX1.out)
  have HZ2 := Lib.hid ((hb.block (w.heap.size + 2) (by rw [HS1.out]; omega)).trans HZ1.out)
  have HB2 := Lib.hid (HB1.out.trans (hb.mono HB1.out.size))
  clear hb
  obtain ⟨x0, x1, x2, x3, x4, x5, x6, x7, xf⟩ := c33 HX2.out
  obtain ⟨z0, z1, z2, z3, z4, z5, z6, z7, zf⟩ := z33 HZ2.out
  obtain ⟨vd2, vb2, vp2, rfl, hr2⟩ := hv
  obtain ⟨ad2, cd2, rfl⟩ := row_slice hr2.rd
  obtain ⟨ab2, cb2, rfl⟩ := row_slice hr2.rb
  obtain ⟨ap2, cp2, rfl⟩ := row_slice hr2.rp
  have HR2 := Lib.hid hr2
  clear hr2
  simp only [rv]
  obtain ⟨w3, hw3⟩ : ∃ W, set8 w2 w.heap.size (.slice ad2 d2.secs.length cd2) (.slice ab2 d2.secs.length cb2) (.slice ap2 d2.pend.length cp2) (.int .i64 d2.after) (.bool d2.failed) (.int .i64 d2.r) (.int .i64 d2.wn) (.int .i64 d2.sy) = W := ⟨_, rfl⟩
  have HW3 := Lib.hid hw3
  have HX3 := Lib.hid (show w3.heap[w.heap.size]? = some (.cells #[.slice ad2 d2.secs.length cd2, .slice ab2 d2.secs.length cb2, .slice ap2 d2.pend.length cp2, .int .i64 d2.after, .bool d2.failed, .int .i64 d2.r, .int .i64 d2.wn, .int .i64 d2.sy] 33 (0, 0)) by rw [← hw3]; exact set8_at HX2.out _ _ _ _ _ _ _ _)
  have HF3 := Lib.hid (show ∀ i, i ≠ w.heap.size → w3.heap[i]? = w2.heap[i]? from fun i hi => by rw [← hw3]; exact set8_far _ _ _ _ _ _ _ _ _ _ _ hi)
  have HS3 := Lib.hid (show w3.heap.size = w2.heap.size by rw [← hw3]; simp [set8])
  have HB3 := Lib.hid (show Below w.heap.size w w3 by rw [← hw3]; exact below_set8 HB2.out (Nat.le_refl _) _ _ _ _ _ _ _ _)
  clear hw3
  go_upto_region 16 with (fail)
  have hw3' := HW3.out
  unfold set8 at hw3'
  rw [hw3']
  clear hw3' x0 x1 x2 x3 x4 x5 x6 x7 xf z0 z1 z2 z3 z4 z5 z6 z7 zf
  obtain ⟨x0, x1, x2, x3, x4, x5, x6, x7, xf⟩ := c33 HX3.out
  obtain ⟨z0, z1, z2, z3, z4, z5, z6, z7, zf⟩ := z33 ((HF3.out (w.heap.size + 2) (by omega)).trans HZ2.out)
  go_wp2_with fail
  refine bodyPost_ret (v := .tuple #[.agg #[.slice ad2 d2.secs.length cd2, .slice ab2 d2.secs.length cb2, .slice ap2 d2.pend.length cp2, .int .i64 d2.after, .bool d2.failed, .int .i64 d2.r, .int .i64 d2.wn, .int .i64 d2.sy], .string (⟨#[]⟩), .int .i64 (0)]) (by simp [results, Try.results26, go_sem, z0, z1, z2, z3, z4, z5, z6, z7]) rfl ?_
  rw [HRR.out]
  exact do_res (mk := fun v' => .returned (.tuple #[v', .string _, .int .i64 _])) HR2.out HB1.out.size (below_set8 HB3.out (by omega) _ _ _ _ _ _ _ _) HX2.out HZ2.out (by rw [← HS3.out]; simp [set8]) (fun i h1 h2 => (set8_far _ _ _ _ _ _ _ _ _ _ _ h2).trans (HF3.out i h1))
set_option maxHeartbeats 800000 in
theorem Do_5 (o : OpM) (hkk : ((o.kind : Int) % 7) = 5) (h : RfO T d w vd vb vp) (hl : d.secs.length ≤ 2000) (hp : d.pend.length ≤ 1000) (r : (ByteArray × Int) × DM) (hr : r = ((⟨#[]⟩, (badF d o.n o.bad).1), (badF d o.n o.bad).2)) :
    Calls Try.prog 26 #[rv d vd vb vp, opV o] w (Res T r.2 w fun v' => .returned (.tuple #[v', .string r.1.1, .int .i64 r.1.2])) := by
  obtain ⟨gd, cd, rfl, hgd, _, hdc, _⟩ := row_some h.rd h.len
  obtain ⟨gb, cb, rfl, hgb, _, hbc, _⟩ := row_some h.rb h.len
  obtain ⟨ap, cp, rfl⟩ := row_slice h.rp
  have HR := Lib.hid h
  clear hdc hbc
  obtain ⟨w1, hW1⟩ : ∃ W, ((w.alloc (.cells #[.slice (some ⟨gd, 0, none⟩) d.secs.length cd, .slice (some ⟨gb, 0, none⟩) d.secs.length cb, .slice ap d.pend.length cp, .int .i64 d.after, .bool d.failed, .int .i64 d.r, .int .i64 d.wn, .int .i64 d.sy] 33)).alloc (.cells #[.int .u8 (o.kind : Int), .int .i64 o.n, .int .i64 o.at_, .string o.data, .int .u8 (o.mask.toNat : Int), .bool o.bad, .slice o.sA o.sv.length o.sc] 42)).alloc (.cells zr33 33) = W := ⟨_, rfl⟩
  have hs1 : w1.heap.size = w.heap.size + 3 := by rw [← hW1]; simp
  have hb1 : Below w.heap.size w w1 := by rw [← hW1]; exact (((Below.refl _ _).alloc (Nat.le_refl _) _).alloc (by simp) _).alloc (by simp; omega) _
  have hX1 : w1.heap[w.heap.size]? = some (.cells #[.slice (some ⟨gd, 0, none⟩) d.secs.length cd, .slice (some ⟨gb, 0, none⟩) d.secs.length cb, .slice ap d.pend.length cp, .int .i64 d.after, .bool d.failed, .int .i64 d.r, .int .i64 d.wn, .int .i64 d.sy] 33 (0, 0)) := by rw [← hW1, Below.heap_alloc _ _ _ (by simp; omega), Below.heap_alloc _ _ _ (by simp)]; exact heap_alloc_new w _
  have hZ1 : w1.heap[w.heap.size + 2]? = some (.cells zr33 33 (0, 0)) := by
    have := heap_alloc_new ((w.alloc (.cells #[.slice (some ⟨gd, 0, none⟩) d.secs.length cd, .slice (some ⟨gb, 0, none⟩) d.secs.length cb, .slice ap d.pend.length cp, .int .i64 d.after, .bool d.failed, .int .i64 d.r, .int .i64 d.wn, .int .i64 d.sy] 33)).alloc (.cells #[.int .u8 (o.kind : Int), .int .i64 o.n, .int .i64 o.at_, .string o.data, .int .u8 (o.mask.toNat : Int), .bool o.bad, .slice o.sA o.sv.length o.sc] 42)) (.cells zr33 33)
    rw [hW1] at this
    simpa using this
  have HB1 := Lib.hid hb1
  have HX1 := Lib.hid hX1
  have HZ1 := Lib.hid hZ1
  have HW1 := Lib.hid hW1
  have HS1 := Lib.hid hs1
  have hr1 := h.frame (w' := w1) fun k _ hk => hb1.block k hk
  clear hs1 hb1 hX1 hZ1 hW1
  obtain ⟨e2, d2, hq⟩ : ∃ e d2, badF d o.n o.bad = (e, d2) := ⟨(badF d o.n o.bad).1, (badF d o.n o.bad).2, rfl⟩
  have HRR : Hid (r = ((⟨#[]⟩, e2), d2)) := Lib.hid (by rw [hr, hq])
  have HC := Lib.hid (setBad_ref o.n o.bad hr1 hl _ _ hq)
  clear h hr hr1 hq
  have hx0 := hkk
  unfold rv opV
  unfold rv at HC
  go_enter Try.func26, Try.ntmps26
  go_wp2_with fail
  rw [show ((w.alloc (.cells #[.slice (some ⟨gd, 0, none⟩) d.secs.length cd, .slice (some ⟨gb, 0, none⟩) d.secs.length cb, .slice ap d.pend.length cp, .int .i64 d.after, .bool d.failed, .int .i64 d.r, .int .i64 d.wn, .int .i64 d.sy] 33)).alloc (.cells #[.int .u8 (o.kind : Int), .int .i64 o.n, .int .i64 o.at_, .string o.data, .int .u8 (o.mask.toNat : Int), .bool o.bad, .slice o.sA o.sv.length o.sc] 42)).alloc (.cells #[.slice none 0 0, .slice none 0 0, .slice none 0 0, .int .i64 0, .bool false, .int .i64 0, .int .i64 0, .int .i64 0] 33) = w1 from HW1.out]
  refine (HC.out).mono ?_
  rintro e w2 ⟨v', rfl, hb, hv⟩
  have HX2 := Lib.hid ((hb.block w.heap.size (by rw [HS1.out]; omega)).trans HX1.out)
  have HZ2 := Lib.hid ((hb.block (w.heap.size + 2) (by rw [HS1.out]; omega)).trans HZ1.out)
  have HB2 := Lib.hid (HB1.out.trans (hb.mono HB1.out.size))
  clear hb
  obtain ⟨x0, x1, x2, x3, x4, x5, x6, x7, xf⟩ := c33 HX2.out
  obtain ⟨z0, z1, z2, z3, z4, z5, z6, z7, zf⟩ := z33 HZ2.out
  obtain ⟨vd2, vb2, vp2, rfl, hr2⟩ := hv
  obtain ⟨ad2, cd2, rfl⟩ := row_slice hr2.rd
  obtain ⟨ab2, cb2, rfl⟩ := row_slice hr2.rb
  obtain ⟨ap2, cp2, rfl⟩ := row_slice hr2.rp
  have HR2 := Lib.hid hr2
  clear hr2
  simp only [rv]
  obtain ⟨w3, hw3⟩ : ∃ W, set8 w2 w.heap.size (.slice ad2 d2.secs.length cd2) (.slice ab2 d2.secs.length cb2) (.slice ap2 d2.pend.length cp2) (.int .i64 d2.after) (.bool d2.failed) (.int .i64 d2.r) (.int .i64 d2.wn) (.int .i64 d2.sy) = W := ⟨_, rfl⟩
  have HW3 := Lib.hid hw3
  have HX3 := Lib.hid (show w3.heap[w.heap.size]? = some (.cells #[.slice ad2 d2.secs.length cd2, .slice ab2 d2.secs.length cb2, .slice ap2 d2.pend.length cp2, .int .i64 d2.after, .bool d2.failed, .int .i64 d2.r, .int .i64 d2.wn, .int .i64 d2.sy] 33 (0, 0)) by rw [← hw3]; exact set8_at HX2.out _ _ _ _ _ _ _ _)
  have HF3 := Lib.hid (show ∀ i, i ≠ w.heap.size → w3.heap[i]? = w2.heap[i]? from fun i hi => by rw [← hw3]; exact set8_far _ _ _ _ _ _ _ _ _ _ _ hi)
  have HS3 := Lib.hid (show w3.heap.size = w2.heap.size by rw [← hw3]; simp [set8])
  have HB3 := Lib.hid (show Below w.heap.size w w3 by rw [← hw3]; exact below_set8 HB2.out (Nat.le_refl _) _ _ _ _ _ _ _ _)
  clear hw3
  go_upto_region 16 with (fail)
  have hw3' := HW3.out
  unfold set8 at hw3'
  rw [hw3']
  clear hw3' x0 x1 x2 x3 x4 x5 x6 x7 xf z0 z1 z2 z3 z4 z5 z6 z7 zf
  obtain ⟨x0, x1, x2, x3, x4, x5, x6, x7, xf⟩ := c33 HX3.out
  obtain ⟨z0, z1, z2, z3, z4, z5, z6, z7, zf⟩ := z33 ((HF3.out (w.heap.size + 2) (by omega)).trans HZ2.out)
  go_wp2_with fail
  refine bodyPost_ret (v := .tuple #[.agg #[.slice ad2 d2.secs.length cd2, .slice ab2 d2.secs.length cb2, .slice ap2 d2.pend.length cp2, .int .i64 d2.after, .bool d2.failed, .int .i64 d2.r, .int .i64 d2.wn, .int .i64 d2.sy], .string (⟨#[]⟩), .int .i64 (e2)]) (by simp [results, Try.results26, go_sem, z0, z1, z2, z3, z4, z5, z6, z7]) rfl ?_
  rw [HRR.out]
  exact do_res (mk := fun v' => .returned (.tuple #[v', .string _, .int .i64 _])) HR2.out HB1.out.size (below_set8 HB3.out (by omega) _ _ _ _ _ _ _ _) HX2.out HZ2.out (by rw [← HS3.out]; simp [set8]) (fun i h1 h2 => (set8_far _ _ _ _ _ _ _ _ _ _ _ h2).trans (HF3.out i h1))
set_option maxHeartbeats 800000 in
theorem Do_6 (o : OpM) (hkk : ((o.kind : Int) % 7) = 6) (h : RfO T d w vd vb vp) (hl : d.secs.length ≤ 2000) (hp : d.pend.length ≤ 1000) (r : (ByteArray × Int) × DM) (hr : r = ((⟨#[]⟩, (damF d o.n o.at_ o.mask).1), (damF d o.n o.at_ o.mask).2)) :
    Calls Try.prog 26 #[rv d vd vb vp, opV o] w (Res T r.2 w fun v' => .returned (.tuple #[v', .string r.1.1, .int .i64 r.1.2])) := by
  obtain ⟨gd, cd, rfl, hgd, _, hdc, _⟩ := row_some h.rd h.len
  obtain ⟨gb, cb, rfl, hgb, _, hbc, _⟩ := row_some h.rb h.len
  obtain ⟨ap, cp, rfl⟩ := row_slice h.rp
  have HR := Lib.hid h
  clear hdc hbc
  obtain ⟨w1, hW1⟩ : ∃ W, ((w.alloc (.cells #[.slice (some ⟨gd, 0, none⟩) d.secs.length cd, .slice (some ⟨gb, 0, none⟩) d.secs.length cb, .slice ap d.pend.length cp, .int .i64 d.after, .bool d.failed, .int .i64 d.r, .int .i64 d.wn, .int .i64 d.sy] 33)).alloc (.cells #[.int .u8 (o.kind : Int), .int .i64 o.n, .int .i64 o.at_, .string o.data, .int .u8 (o.mask.toNat : Int), .bool o.bad, .slice o.sA o.sv.length o.sc] 42)).alloc (.cells zr33 33) = W := ⟨_, rfl⟩
  have hs1 : w1.heap.size = w.heap.size + 3 := by rw [← hW1]; simp
  have hb1 : Below w.heap.size w w1 := by rw [← hW1]; exact (((Below.refl _ _).alloc (Nat.le_refl _) _).alloc (by simp) _).alloc (by simp; omega) _
  have hX1 : w1.heap[w.heap.size]? = some (.cells #[.slice (some ⟨gd, 0, none⟩) d.secs.length cd, .slice (some ⟨gb, 0, none⟩) d.secs.length cb, .slice ap d.pend.length cp, .int .i64 d.after, .bool d.failed, .int .i64 d.r, .int .i64 d.wn, .int .i64 d.sy] 33 (0, 0)) := by rw [← hW1, Below.heap_alloc _ _ _ (by simp; omega), Below.heap_alloc _ _ _ (by simp)]; exact heap_alloc_new w _
  have hZ1 : w1.heap[w.heap.size + 2]? = some (.cells zr33 33 (0, 0)) := by
    have := heap_alloc_new ((w.alloc (.cells #[.slice (some ⟨gd, 0, none⟩) d.secs.length cd, .slice (some ⟨gb, 0, none⟩) d.secs.length cb, .slice ap d.pend.length cp, .int .i64 d.after, .bool d.failed, .int .i64 d.r, .int .i64 d.wn, .int .i64 d.sy] 33)).alloc (.cells #[.int .u8 (o.kind : Int), .int .i64 o.n, .int .i64 o.at_, .string o.data, .int .u8 (o.mask.toNat : Int), .bool o.bad, .slice o.sA o.sv.length o.sc] 42)) (.cells zr33 33)
    rw [hW1] at this
    simpa using this
  have HB1 := Lib.hid hb1
  have HX1 := Lib.hid hX1
  have HZ1 := Lib.hid hZ1
  have HW1 := Lib.hid hW1
  have HS1 := Lib.hid hs1
  have hr1 := h.frame (w' := w1) fun k _ hk => hb1.block k hk
  clear hs1 hb1 hX1 hZ1 hW1
  obtain ⟨e2, d2, hq⟩ : ∃ e d2, damF d o.n o.at_ o.mask = (e, d2) := ⟨(damF d o.n o.at_ o.mask).1, (damF d o.n o.at_ o.mask).2, rfl⟩
  have HRR : Hid (r = ((⟨#[]⟩, e2), d2)) := Lib.hid (by rw [hr, hq])
  have HC := Lib.hid (damage_ref o.n o.at_ o.mask hr1 hl _ _ hq)
  clear h hr hr1 hq
  have hx0 := hkk
  unfold rv opV
  unfold rv at HC
  go_enter Try.func26, Try.ntmps26
  go_wp2_with fail
  rw [show ((w.alloc (.cells #[.slice (some ⟨gd, 0, none⟩) d.secs.length cd, .slice (some ⟨gb, 0, none⟩) d.secs.length cb, .slice ap d.pend.length cp, .int .i64 d.after, .bool d.failed, .int .i64 d.r, .int .i64 d.wn, .int .i64 d.sy] 33)).alloc (.cells #[.int .u8 (o.kind : Int), .int .i64 o.n, .int .i64 o.at_, .string o.data, .int .u8 (o.mask.toNat : Int), .bool o.bad, .slice o.sA o.sv.length o.sc] 42)).alloc (.cells #[.slice none 0 0, .slice none 0 0, .slice none 0 0, .int .i64 0, .bool false, .int .i64 0, .int .i64 0, .int .i64 0] 33) = w1 from HW1.out]
  refine (HC.out).mono ?_
  rintro e w2 ⟨v', rfl, hb, hv⟩
  have HX2 := Lib.hid ((hb.block w.heap.size (by rw [HS1.out]; omega)).trans HX1.out)
  have HZ2 := Lib.hid ((hb.block (w.heap.size + 2) (by rw [HS1.out]; omega)).trans HZ1.out)
  have HB2 := Lib.hid (HB1.out.trans (hb.mono HB1.out.size))
  clear hb
  obtain ⟨x0, x1, x2, x3, x4, x5, x6, x7, xf⟩ := c33 HX2.out
  obtain ⟨z0, z1, z2, z3, z4, z5, z6, z7, zf⟩ := z33 HZ2.out
  obtain ⟨vd2, vb2, vp2, rfl, hr2⟩ := hv
  obtain ⟨ad2, cd2, rfl⟩ := row_slice hr2.rd
  obtain ⟨ab2, cb2, rfl⟩ := row_slice hr2.rb
  obtain ⟨ap2, cp2, rfl⟩ := row_slice hr2.rp
  have HR2 := Lib.hid hr2
  clear hr2
  simp only [rv]
  obtain ⟨w3, hw3⟩ : ∃ W, set8 w2 w.heap.size (.slice ad2 d2.secs.length cd2) (.slice ab2 d2.secs.length cb2) (.slice ap2 d2.pend.length cp2) (.int .i64 d2.after) (.bool d2.failed) (.int .i64 d2.r) (.int .i64 d2.wn) (.int .i64 d2.sy) = W := ⟨_, rfl⟩
  have HW3 := Lib.hid hw3
  have HX3 := Lib.hid (show w3.heap[w.heap.size]? = some (.cells #[.slice ad2 d2.secs.length cd2, .slice ab2 d2.secs.length cb2, .slice ap2 d2.pend.length cp2, .int .i64 d2.after, .bool d2.failed, .int .i64 d2.r, .int .i64 d2.wn, .int .i64 d2.sy] 33 (0, 0)) by rw [← hw3]; exact set8_at HX2.out _ _ _ _ _ _ _ _)
  have HF3 := Lib.hid (show ∀ i, i ≠ w.heap.size → w3.heap[i]? = w2.heap[i]? from fun i hi => by rw [← hw3]; exact set8_far _ _ _ _ _ _ _ _ _ _ _ hi)
  have HS3 := Lib.hid (show w3.heap.size = w2.heap.size by rw [← hw3]; simp [set8])
  have HB3 := Lib.hid (show Below w.heap.size w w3 by rw [← hw3]; exact below_set8 HB2.out (Nat.le_refl _) _ _ _ _ _ _ _ _)
  clear hw3
  go_upto_region 16 with (fail)
  have hw3' := HW3.out
  unfold set8 at hw3'
  rw [hw3']
  clear hw3' x0 x1 x2 x3 x4 x5 x6 x7 xf z0 z1 z2 z3 z4 z5 z6 z7 zf
  obtain ⟨x0, x1, x2, x3, x4, x5, x6, x7, xf⟩ := c33 HX3.out
  obtain ⟨z0, z1, z2, z3, z4, z5, z6, z7, zf⟩ := z33 ((HF3.out (w.heap.size + 2) (by omega)).trans HZ2.out)
  go_wp2_with fail
  refine bodyPost_ret (v := .tuple #[.agg #[.slice ad2 d2.secs.length cd2, .slice ab2 d2.secs.length cb2, .slice ap2 d2.pend.length cp2, .int .i64 d2.after, .bool d2.failed, .int .i64 d2.r, .int .i64 d2.wn, .int .i64 d2.sy], .string (⟨#[]⟩), .int .i64 (e2)]) (by simp [results, Try.results26, go_sem, z0, z1, z2, z3, z4, z5, z6, z7]) rfl ?_
  rw [HRR.out]
  exact do_res (mk := fun v' => .returned (.tuple #[v', .string _, .int .i64 _])) HR2.out HB1.out.size (below_set8 HB3.out (by omega) _ _ _ _ _ _ _ _) HX2.out HZ2.out (by rw [← HS3.out]; simp [set8]) (fun i h1 h2 => (set8_far _ _ _ _ _ _ _ _ _ _ _ h2).trans (HF3.out i h1))
theorem Do_walk (o : OpM) (h : RfO T d w vd vb vp) (ha : d.after ≤ 9223372036854775807) (hA : Ones (Value.int .i64) w w.heap.size o.sA o.sv) (hl : d.secs.length ≤ 2000) (hp : d.pend.length ≤ 1000) (r : (ByteArray × Int) × DM) (hr : stepO d o = r) :
    Calls Try.prog 26 #[rv d vd vb vp, opV o] w (Res T r.2 w fun v' => .returned (.tuple #[v', .string r.1.1, .int .i64 r.1.2])) := by
  have hlt7 : o.kind % 7 < 7 := Nat.mod_lt _ (by decide)
  unfold stepO at hr
  rcases (by omega : o.kind % 7 = 0 ∨ o.kind % 7 = 1 ∨ o.kind % 7 = 2 ∨ o.kind % 7 = 3 ∨ o.kind % 7 = 4 ∨ o.kind % 7 = 5 ∨ o.kind % 7 = 6) with hk | hk | hk | hk | hk | hk | hk
  · exact Do_0 o (by omega) h hp r (by rw [← hr, if_pos hk])
  · exact Do_1 o (by omega) h ha hp r (by rw [← hr, if_neg (by omega), if_pos hk])
  · exact Do_2 o (by omega) h ha hl hp r (by rw [← hr, if_neg (by omega), if_neg (by omega), if_pos hk])
  · exact Do_3 o (by omega) h hA hl hp r (by rw [← hr, if_neg (by omega), if_neg (by omega), if_neg (by omega), if_pos hk])
  · exact Do_4 o (by omega) h hl hp r (by rw [← hr, if_neg (by omega), if_neg (by omega), if_neg (by omega), if_neg (by omega), if_pos hk])
  · exact Do_5 o (by omega) h hl hp r (by rw [← hr, if_neg (by omega), if_neg (by omega), if_neg (by omega), if_neg (by omega), if_neg (by omega), if_pos hk])
  · exact Do_6 o (by omega) h hl hp r (by rw [← hr, if_neg (by omega), if_neg (by omega), if_neg (by omega), if_neg (by omega), if_neg (by omega), if_neg (by omega)])
end
end Go.Proofs.Ytagfnobchdfhfaa
