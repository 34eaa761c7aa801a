import Derived.Test.YtagfnobchdfhfaaXd
namespace Go.Proofs.Ytagfnobchdfhfaa
set_option linter.unusedSimpArgs false
set_option linter.unnecessarySimpa false
set_option linter.unusedVariables false
open Go.RowKit Go.ChangeShapes Go.WideShapes Go.ChangeAt
attribute [local go_sem ↓] Go.wp_at_zero Go.wp_at_succ
attribute [local go_sem ↓] bs27 bs28 bs29

theorem bytes_open (w : World) (b : List UInt8) (h : b.length = 64) : ∃ c w' cur, (convert 9 74 (.string (sB b))).run Try.prog w = .ok (.slice (some ⟨w.heap.size, 0, none⟩) 64 c) w' ∧ w'.heap[w.heap.size]? = some (.cells cur 5 (cur.size, cur.size + 1)) ∧ (∀ j (hj : j < 64), cur[j]? = some (.int .u8 ((b[j]'(by omega)).toNat : Int))) ∧ 64 ≤ cur.size ∧ Below w.heap.size w w' := by
  have hs : (sB b).size = 64 := by show b.toArray.size = 64; simp [h]
  have hr := run_bytes_of_string (P := Try.prog) w 9 74 5 (sB b) Try.underlying9 Try.underlying74 Try.underlying5
  rw [hs] at hr
  refine ⟨_, _, bytesRow (sB b) (grownCap w 64 0 5), hr, heap_alloc_new w.drew _, fun j hj => ?_, ?_, ?_⟩
  · rw [bytesRow_at _ _ j (by show j < b.toArray.size; simp [h]; exact hj)]
    simp [sB]
  · simp [bytesRow, sB, h]
  · exact (below_drewN (Below.refl _ _) 1).alloc (Nat.le_refl _) _
section
variable {T : Nat → Prop} {d : DM} {w : World} {vd vb vp : Value}
set_option maxHeartbeats 800000 in
theorem damage_ref (n at_ : Int) (m : UInt8) (h : RfO T d w vd vb vp) (hl : d.secs.length ≤ 2000) (r : Int) (d' : DM) (hr : damF d n at_ m = (r, d')) : Calls Try.prog 42 #[rv d vd vb vp, .int .i64 n, .int .i64 at_, .int .u8 (m.toNat : Int)] w (Res T d' w fun v' => .returned (.tuple #[v', .int .i64 r])) := by
  by_cases hout : inside d n = false ∨ at_ < 0 ∨ 64 ≤ at_
  · have HRR : Hid ((2, d) = (r, d')) := Lib.hid (by rw [← hr]; unfold damF; rw [if_pos hout])
    obtain ⟨gd, cd, rfl, hgd, _, hdc, _⟩ := row_some h.rd h.len
    obtain ⟨gb, cb, rfl, hgb, _, hbc, _⟩ := row_some h.rb h.len
    obtain ⟨ap, cp, rfl⟩ := row_slice h.rp
    have HR := Lib.hid h
    clear hdc hbc
    obtain ⟨w1, hW1⟩ : ∃ W, (w.alloc (.cells #[.slice (some ⟨gd, 0, none⟩) d.secs.length cd, .slice (some ⟨gb, 0, none⟩) d.secs.length cb, .slice ap d.pend.length cp, .int .i64 d.after, .bool d.failed, .int .i64 d.r, .int .i64 d.wn, .int .i64 d.sy] 33)).alloc (.cells zr33 33) = W := ⟨_, rfl⟩
    have hs1 : w1.heap.size = w.heap.size + 2 := by rw [← hW1]; simp
    have hb1 : Below w.heap.size w w1 := by rw [← hW1]; exact ((Below.refl _ _).alloc (Nat.le_refl _) _).alloc (by simp) _
    have hX1 : w1.heap[w.heap.size]? = some (.cells #[.slice (some ⟨gd, 0, none⟩) d.secs.length cd, .slice (some ⟨gb, 0, none⟩) d.secs.length cb, .slice ap d.pend.length cp, .int .i64 d.after, .bool d.failed, .int .i64 d.r, .int .i64 d.wn, .int .i64 d.sy] 33 (0, 0)) := by rw [← hW1, Below.heap_alloc _ _ _ (by simp)]; exact heap_alloc_new w _
    have hZ1 : w1.heap[w.heap.size + 1]? = some (.cells zr33 33 (0, 0)) := by
      have := heap_alloc_new (w.alloc (.cells #[.slice (some ⟨gd, 0, none⟩) d.secs.length cd, .slice (some ⟨gb, 0, none⟩) d.secs.length cb, .slice ap d.pend.length cp, .int .i64 d.after, .bool d.failed, .int .i64 d.r, .int .i64 d.wn, .int .i64 d.sy] 33)) (.cells zr33 33)
      rw [hW1] at this
      simpa using this
    have HB1 := Lib.hid hb1
    have HX1 := Lib.hid hX1
    have HZ1 := Lib.hid hZ1
    have HW1 := Lib.hid hW1
    clear hs1 hb1 hX1 hZ1 hW1
    cases hin : inside d n with
    | false =>
      have HI := Lib.hid hin
      clear h hr hin hout
      unfold rv
      go_enter Try.func42, Try.ntmps42
      go_wp2_with fail
      rw [show (w.alloc (.cells #[.slice (some ⟨gd, 0, none⟩) d.secs.length cd, .slice (some ⟨gb, 0, none⟩) d.secs.length cb, .slice ap d.pend.length cp, .int .i64 d.after, .bool d.failed, .int .i64 d.r, .int .i64 d.wn, .int .i64 d.sy] 33)).alloc (.cells #[.slice none 0 0, .slice none 0 0, .slice none 0 0, .int .i64 0, .bool false, .int .i64 0, .int .i64 0, .int .i64 0] 33) = w1 from HW1.out]
      refine (there_any _ _ _ _ _ _ _ _ _ _ _ _ _ _ _ _ (inside_eq d _) _).mono ?_; rintro e w2 ⟨rfl, hb⟩
      rw [HI.out]
      have hbl := hb
      have hX := (hbl.block w.heap.size (Array.getElem?_eq_some_iff.1 HX1.out).1).trans HX1.out
      have hZ := (hbl.block (w.heap.size + 1) (Array.getElem?_eq_some_iff.1 HZ1.out).1).trans HZ1.out
      have HB2 := Lib.hid (HB1.out.trans (hbl.mono HB1.out.size))
      obtain ⟨x0, x1, x2, x3, x4, x5, x6, x7, xf⟩ := c33 hX
      obtain ⟨z0, z1, z2, z3, z4, z5, z6, z7, zf⟩ := z33 hZ
      have HX2 := Lib.hid hX
      have HZ2 := Lib.hid hZ
      clear hbl hX hZ
      go_wp2_with fail
      refine bodyPost_ret (v := .tuple #[rv d (.slice (some ⟨gd, 0, none⟩) d.secs.length cd) (.slice (some ⟨gb, 0, none⟩) d.secs.length cb) (.slice ap d.pend.length cp), .int .i64 2]) (by simp [rv, results, Try.results42, go_sem, z0, z1, z2, z3, z4, z5, z6, z7]) rfl ?_
      have e := HRR.out
      injection e with e1 e2
      subst e1 e2
      exact res_same (mk := fun v' => .returned (.tuple #[v', .int .i64 2])) HR.out (below_set8 HB2.out (Nat.le_succ _) _ _ _ _ _ _ _ _) rfl rfl rfl
    | true =>
      have HI := Lib.hid hin
      rw [hin] at hout
      rcases (by rcases hout with h | h | h; · cases h
                 · exact Or.inl h
                 · exact Or.inr h : at_ < 0 ∨ 64 ≤ at_) with hx | hx
      · clear h hr hin hout
        unfold rv
        go_enter Try.func42, Try.ntmps42
        go_wp2_with fail
        rw [show (w.alloc (.cells #[.slice (some ⟨gd, 0, none⟩) d.secs.length cd, .slice (some ⟨gb, 0, none⟩) d.secs.length cb, .slice ap d.pend.length cp, .int .i64 d.after, .bool d.failed, .int .i64 d.r, .int .i64 d.wn, .int .i64 d.sy] 33)).alloc (.cells #[.slice none 0 0, .slice none 0 0, .slice none 0 0, .int .i64 0, .bool false, .int .i64 0, .int .i64 0, .int .i64 0] 33) = w1 from HW1.out]
        refine (there_any _ _ _ _ _ _ _ _ _ _ _ _ _ _ _ _ (inside_eq d _) _).mono ?_; rintro e w2 ⟨rfl, hb⟩
        rw [HI.out]
        have hbl := hb
        have hX := (hbl.block w.heap.size (Array.getElem?_eq_some_iff.1 HX1.out).1).trans HX1.out
        have hZ := (hbl.block (w.heap.size + 1) (Array.getElem?_eq_some_iff.1 HZ1.out).1).trans HZ1.out
        have HB2 := Lib.hid (HB1.out.trans (hbl.mono HB1.out.size))
        obtain ⟨x0, x1, x2, x3, x4, x5, x6, x7, xf⟩ := c33 hX
        obtain ⟨z0, z1, z2, z3, z4, z5, z6, z7, zf⟩ := z33 hZ
        have HX2 := Lib.hid hX
        have HZ2 := Lib.hid hZ
        clear hbl hX hZ
        go_wp2_with fail
        refine bodyPost_ret (v := .tuple #[rv d (.slice (some ⟨gd, 0, none⟩) d.secs.length cd) (.slice (some ⟨gb, 0, none⟩) d.secs.length cb) (.slice ap d.pend.length cp), .int .i64 2]) (by simp [rv, results, Try.results42, go_sem, z0, z1, z2, z3, z4, z5, z6, z7]) rfl ?_
        have e := HRR.out
        injection e with e1 e2
        subst e1 e2
        exact res_same (mk := fun v' => .returned (.tuple #[v', .int .i64 2])) HR.out (below_set8 HB2.out (Nat.le_succ _) _ _ _ _ _ _ _ _) rfl rfl rfl
      · have hx' : ¬ at_ < 0 := by omega
        clear h hr hin hout
        unfold rv
        go_enter Try.func42, Try.ntmps42
        go_wp2_with fail
        rw [show (w.alloc (.cells #[.slice (some ⟨gd, 0, none⟩) d.secs.length cd, .slice (some ⟨gb, 0, none⟩) d.secs.length cb, .slice ap d.pend.length cp, .int .i64 d.after, .bool d.failed, .int .i64 d.r, .int .i64 d.wn, .int .i64 d.sy] 33)).alloc (.cells #[.slice none 0 0, .slice none 0 0, .slice none 0 0, .int .i64 0, .bool false, .int .i64 0, .int .i64 0, .int .i64 0] 33) = w1 from HW1.out]
        refine (there_any _ _ _ _ _ _ _ _ _ _ _ _ _ _ _ _ (inside_eq d _) _).mono ?_; rintro e w2 ⟨rfl, hb⟩
        rw [HI.out]
        have hbl := hb
        have hX := (hbl.block w.heap.size (Array.getElem?_eq_some_iff.1 HX1.out).1).trans HX1.out
        have hZ := (hbl.block (w.heap.size + 1) (Array.getElem?_eq_some_iff.1 HZ1.out).1).trans HZ1.out
        have HB2 := Lib.hid (HB1.out.trans (hbl.mono HB1.out.size))
        obtain ⟨x0, x1, x2, x3, x4, x5, x6, x7, xf⟩ := c33 hX
        obtain ⟨z0, z1, z2, z3, z4, z5, z6, z7, zf⟩ := z33 hZ
        have HX2 := Lib.hid hX
        have HZ2 := Lib.hid hZ
        clear hbl hX hZ
        go_wp2_with fail
        refine bodyPost_ret (v := .tuple #[rv d (.slice (some ⟨gd, 0, none⟩) d.secs.length cd) (.slice (some ⟨gb, 0, none⟩) d.secs.length cb) (.slice ap d.pend.length cp), .int .i64 2]) (by simp [rv, results, Try.results42, go_sem, z0, z1, z2, z3, z4, z5, z6, z7]) rfl ?_
        have e := HRR.out
        injection e with e1 e2
        subst e1 e2
        exact res_same (mk := fun v' => .returned (.tuple #[v', .int .i64 2])) HR.out (below_set8 HB2.out (Nat.le_succ _) _ _ _ _ _ _ _ _) rfl rfl rfl
  · have hin : inside d n = true := by
      cases hi : inside d n with
      | false => exact absurd (Or.inl hi) hout
      | true => rfl
    have h0 : 0 ≤ at_ ∧ at_ < 64 := by
      constructor
      · exact Int.not_lt.1 fun h => hout (.inr (.inl h))
      · exact Int.not_le.1 fun h => hout (.inr (.inr h))
    obtain ⟨q, rfl, hq⟩ : ∃ q : Nat, at_ = q ∧ q < 64 := ⟨at_.toNat, by omega, by omega⟩
    have hq' : (q : Int) < 64 := by omega
    have HI := Lib.hid hin
    by_cases hm : m = 0
    · subst hm
      have HRR : Hid ((1, d) = (r, d')) := Lib.hid (by rw [← hr]; unfold damF; rw [if_neg hout, if_pos rfl])
      obtain ⟨gd, cd, rfl, hgd, _, hdc, _⟩ := row_some h.rd h.len
      obtain ⟨gb, cb, rfl, hgb, _, hbc, _⟩ := row_some h.rb h.len
      obtain ⟨ap, cp, rfl⟩ := row_slice h.rp
      have HR := Lib.hid h
      clear hdc hbc
      obtain ⟨w1, hW1⟩ : ∃ W, (w.alloc (.cells #[.slice (some ⟨gd, 0, none⟩) d.secs.length cd, .slice (some ⟨gb, 0, none⟩) d.secs.length cb, .slice ap d.pend.length cp, .int .i64 d.after, .bool d.failed, .int .i64 d.r, .int .i64 d.wn, .int .i64 d.sy] 33)).alloc (.cells zr33 33) = W := ⟨_, rfl⟩
      have hs1 : w1.heap.size = w.heap.size + 2 := by rw [← hW1]; simp
      have hb1 : Below w.heap.size w w1 := by rw [← hW1]; exact ((Below.refl _ _).alloc (Nat.le_refl _) _).alloc (by simp) _
      have hX1 : w1.heap[w.heap.size]? = some (.cells #[.slice (some ⟨gd, 0, none⟩) d.secs.length cd, .slice (some ⟨gb, 0, none⟩) d.secs.length cb, .slice ap d.pend.length cp, .int .i64 d.after, .bool d.failed, .int .i64 d.r, .int .i64 d.wn, .int .i64 d.sy] 33 (0, 0)) := by rw [← hW1, Below.heap_alloc _ _ _ (by simp)]; exact heap_alloc_new w _
      have hZ1 : w1.heap[w.heap.size + 1]? = some (.cells zr33 33 (0, 0)) := by
        have := heap_alloc_new (w.alloc (.cells #[.slice (some ⟨gd, 0, none⟩) d.secs.length cd, .slice (some ⟨gb, 0, none⟩) d.secs.length cb, .slice ap d.pend.length cp, .int .i64 d.after, .bool d.failed, .int .i64 d.r, .int .i64 d.wn, .int .i64 d.sy] 33)) (.cells zr33 33)
        rw [hW1] at this
        simpa using this
      have HB1 := Lib.hid hb1
      have HX1 := Lib.hid hX1
      have HZ1 := Lib.hid hZ1
      have HW1 := Lib.hid hW1
      clear hs1 hb1 hX1 hZ1 hW1
      clear h hr hin h0 hout
      unfold rv
      go_enter Try.func42, Try.ntmps42
      go_wp2_with fail
      rw [show (w.alloc (.cells #[.slice (some ⟨gd, 0, none⟩) d.secs.length cd, .slice (some ⟨gb, 0, none⟩) d.secs.length cb, .slice ap d.pend.length cp, .int .i64 d.after, .bool d.failed, .int .i64 d.r, .int .i64 d.wn, .int .i64 d.sy] 33)).alloc (.cells #[.slice none 0 0, .slice none 0 0, .slice none 0 0, .int .i64 0, .bool false, .int .i64 0, .int .i64 0, .int .i64 0] 33) = w1 from HW1.out]
      refine (there_any _ _ _ _ _ _ _ _ _ _ _ _ _ _ _ _ (inside_eq d _) _).mono ?_; rintro e w2 ⟨rfl, hb⟩
      rw [HI.out]
      have hbl := hb
      have hX := (hbl.block w.heap.size (Array.getElem?_eq_some_iff.1 HX1.out).1).trans HX1.out
      have hZ := (hbl.block (w.heap.size + 1) (Array.getElem?_eq_some_iff.1 HZ1.out).1).trans HZ1.out
      have HB2 := Lib.hid (HB1.out.trans (hbl.mono HB1.out.size))
      obtain ⟨x0, x1, x2, x3, x4, x5, x6, x7, xf⟩ := c33 hX
      obtain ⟨z0, z1, z2, z3, z4, z5, z6, z7, zf⟩ := z33 hZ
      have HX2 := Lib.hid hX
      have HZ2 := Lib.hid hZ
      clear hbl hX hZ
      go_wp2_with fail
      refine bodyPost_ret (v := .tuple #[rv d (.slice (some ⟨gd, 0, none⟩) d.secs.length cd) (.slice (some ⟨gb, 0, none⟩) d.secs.length cb) (.slice ap d.pend.length cp), .int .i64 1]) (by simp [rv, results, Try.results42, go_sem, z0, z1, z2, z3, z4, z5, z6, z7]) rfl ?_
      have e := HRR.out
      injection e with e1 e2
      subst e1 e2
      exact res_same (mk := fun v' => .returned (.tuple #[v', .int .i64 1])) HR.out (below_set8 HB2.out (Nat.le_succ _) _ _ _ _ _ _ _ _) rfl rfl rfl
    · obtain ⟨k, rfl, hk⟩ : ∃ k : Nat, n = (k : Int) ∧ k < d.secs.length := by
        have := of_decide_eq_true hin
        exact ⟨n.toNat, by omega, by omega⟩
      obtain ⟨b, hb⟩ : ∃ b, d.secs[k]? = some b := ⟨_, List.getElem?_eq_getElem hk⟩
      have HRR : Hid ((0, { d with secs := d.secs.set k (dmg b q m) }) = (r, d')) := Lib.hid (by
        rw [← hr]; unfold damF; rw [if_neg hout, if_neg hm]
        simp [hb])
      have hm0 : ((m.toNat : Int) == 0) = false := by
        rw [Bool.eq_false_iff]; intro h; apply hm; apply UInt8.toNat_inj.1
        have : (m.toNat : Int) = 0 := by simpa using h
        simp; omega
      have hb64 := h.l64 k b hb
      have hn0 := h.len
      obtain ⟨gd, cd, rfl, hgd, _, hdc, _⟩ := row_some h.rd h.len
      obtain ⟨gb, cb, rfl, hgb, _, _, _⟩ := row_some h.rb h.len
      obtain ⟨ap, cp, rfl⟩ := row_slice h.rp
      have hdk := hdc k (.string (sB b)) (by rw [List.getElem?_map, hb]; rfl)
      have HR := Lib.hid h
      have HBS := Lib.hid hb
      have HM := Lib.hid hm
      have hkl : (k : Int) < d.secs.length := by omega
      obtain ⟨y, hy⟩ : ∃ y, b.getD q 0 = y := ⟨_, rfl⟩
      have hx : bits .xor .u8 (y.toNat : Int) (m.toNat : Int) = ((y ^^^ m).toNat : Int) := by
        rw [u8_xor_nat _ _ y.toNat_lt m.toNat_lt, UInt8.toNat_xor]
      obtain ⟨x, hxx⟩ : ∃ x, y ^^^ m = x := ⟨_, rfl⟩
      rw [hxx] at hx
      have HD : Hid (dmg b q m = b.set q x) := Lib.hid (by unfold dmg; rw [hy, hxx])
      have HY := Lib.hid hy
      obtain ⟨w1, hW1⟩ : ∃ W, (w.alloc (.cells #[.slice (some ⟨gd, 0, none⟩) d.secs.length cd, .slice (some ⟨gb, 0, none⟩) d.secs.length cb, .slice ap d.pend.length cp, .int .i64 d.after, .bool d.failed, .int .i64 d.r, .int .i64 d.wn, .int .i64 d.sy] 33)).alloc (.cells zr33 33) = W := ⟨_, rfl⟩
      have hs1 : w1.heap.size = w.heap.size + 2 := by rw [← hW1]; simp
      have hb1 : Below w.heap.size w w1 := by rw [← hW1]; exact ((Below.refl _ _).alloc (Nat.le_refl _) _).alloc (by simp) _
      have hX1 : w1.heap[w.heap.size]? = some (.cells #[.slice (some ⟨gd, 0, none⟩) d.secs.length cd, .slice (some ⟨gb, 0, none⟩) d.secs.length cb, .slice ap d.pend.length cp, .int .i64 d.after, .bool d.failed, .int .i64 d.r, .int .i64 d.wn, .int .i64 d.sy] 33 (0, 0)) := by rw [← hW1, Below.heap_alloc _ _ _ (by simp)]; exact heap_alloc_new w _
      have hZ1 : w1.heap[w.heap.size + 1]? = some (.cells zr33 33 (0, 0)) := by
        have := heap_alloc_new (w.alloc (.cells #[.slice (some ⟨gd, 0, none⟩) d.secs.length cd, .slice (some ⟨gb, 0, none⟩) d.secs.length cb, .slice ap d.pend.length cp, .int .i64 d.after, .bool d.failed, .int .i64 d.r, .int .i64 d.wn, .int .i64 d.sy] 33)) (.cells zr33 33)
        rw [hW1] at this
        simpa using this
      have HB1 := Lib.hid hb1
      have HX1 := Lib.hid hX1
      have HZ1 := Lib.hid hZ1
      have HW1 := Lib.hid hW1
      clear hs1 hb1 hX1 hZ1 hW1
      clear h hr hin h0 hdc hb hm hxx hy hout
      unfold rv
      go_enter Try.func42, Try.ntmps42
      go_wp2_with fail
      rw [show (w.alloc (.cells #[.slice (some ⟨gd, 0, none⟩) d.secs.length cd, .slice (some ⟨gb, 0, none⟩) d.secs.length cb, .slice ap d.pend.length cp, .int .i64 d.after, .bool d.failed, .int .i64 d.r, .int .i64 d.wn, .int .i64 d.sy] 33)).alloc (.cells #[.slice none 0 0, .slice none 0 0, .slice none 0 0, .int .i64 0, .bool false, .int .i64 0, .int .i64 0, .int .i64 0] 33) = w1 from HW1.out]
      refine (there_any _ _ _ _ _ _ _ _ _ _ _ _ _ _ _ _ (inside_eq d _) _).mono ?_; rintro e w2 ⟨rfl, hb⟩
      rw [HI.out]
      have hbl := hb
      have hX := (hbl.block w.heap.size (Array.getElem?_eq_some_iff.1 HX1.out).1).trans HX1.out
      have hZ := (hbl.block (w.heap.size + 1) (Array.getElem?_eq_some_iff.1 HZ1.out).1).trans HZ1.out
      have HB2 := Lib.hid (HB1.out.trans (hbl.mono HB1.out.size))
      obtain ⟨x0, x1, x2, x3, x4, x5, x6, x7, xf⟩ := c33 hX
      obtain ⟨z0, z1, z2, z3, z4, z5, z6, z7, zf⟩ := z33 hZ
      have HX2 := Lib.hid hX
      have HZ2 := Lib.hid hZ
      clear hbl hX hZ
      have hdk2 := (HB2.out.cell (p := ⟨gd, k, none⟩) hgd).trans hdk
      obtain ⟨cw, w3, cur, hconv, hcur, hcells, hcz, hb3⟩ := bytes_open w2 b hb64
      have hl1 : w.heap.size + 1 < w2.heap.size := (Array.getElem?_eq_some_iff.1 HZ2.out).1
      obtain ⟨g, hgdef⟩ : ∃ g, w2.heap.size = g := ⟨_, rfl⟩
      rw [hgdef] at hconv hcur
      have e1 : w3.cell? ⟨g, q, none⟩ = some (.int .u8 (y.toNat : Int)) := by
        rw [cell_of_row w3 g q _ _ _ hcur, hcells q hq, ← HY.out, List.getD_eq_getElem?_getD, List.getElem?_eq_getElem (by omega)]; rfl
      have e2 : w3.frozen? ⟨g, q, none⟩ = false := by
        simp [World.frozen?, hcur]; omega
      have hX3 := (hb3.block w.heap.size (by omega)).trans HX2.out
      have hZ3 := (hb3.block (w.heap.size + 1) hl1).trans HZ2.out
      have hg1 : w.heap.size + 1 < g := by omega
      have hgl : g < w3.heap.size := (Array.getElem?_eq_some_iff.1 hcur).1
      obtain ⟨w4, hw4⟩ : ∃ W, w3.setCell ⟨g, q, none⟩ (.int .u8 (x.toNat : Int)) = W := ⟨_, rfl⟩
      have far4 : ∀ i, i ≠ g → w4.heap[i]? = w3.heap[i]? := fun i hi => by rw [← hw4]; exact Below.heap_setCell w3 ⟨g, q, none⟩ _ i hi
      have hs4 : w4.heap.size = w3.heap.size := by rw [← hw4]; simp
      have hcur4 : w4.heap[g]? = some (.cells (cur.setIfInBounds q (.int .u8 (x.toNat : Int))) 5 (cur.size, cur.size + 1)) := by rw [← hw4]; exact heap_setCell_any w3 g q _ _ _ _ hcur
      have hX4 := (far4 w.heap.size (by omega)).trans hX3
      have hZ4 := (far4 (w.heap.size + 1) (by omega)).trans hZ3
      have hB4 : Below w.heap.size w w4 := by rw [← hw4]; exact (HB2.out.trans (hb3.mono HB2.out.size)).setCell (by show w.heap.size ≤ g; omega) _
      obtain ⟨w5, hw5⟩ : ∃ W, w4.alloc (.cells #[] 9) = W := ⟨_, rfl⟩
      have hs5 : w5.heap.size = w4.heap.size + 1 := by rw [← hw5]; simp
      have o5 : ∀ i, i < w4.heap.size → w5.heap[i]? = w4.heap[i]? := fun i hi => by rw [← hw5]; exact Below.heap_alloc _ _ i hi
      have row5 : w5.ownsRow 0 9 1 (.slice (some ⟨w4.heap.size, 0, none⟩) 0 0) 0 [] := ⟨rfl, .inr ⟨w4.heap.size, 0, #[], rfl, Nat.zero_le _, by rw [← hw5]; exact heap_alloc_new w4 _, Nat.le_refl _, Nat.zero_le _, rfl, rfl⟩⟩
      have hB5 : Below w.heap.size w w5 := by rw [← hw5]; exact hB4.alloc (by omega) _
      have rd5 := (HR.out.frame (w' := w5) fun k _ hk => hB5.block k hk).rd
      obtain ⟨v7, w7, run7, row7, gr7, bl7⟩ := append_row (P := Try.prog) w5 27 27 9 _ _ 1 16 Try.underlying27 rfl rfl rfl rfl rfl (by decide) (.slice (some ⟨w4.heap.size, 0, none⟩) 0 0) 0 [] row5 9 _ _ _ rd5 (by intro u hu; simp at hu; obtain ⟨_, _, rfl⟩ := hu; rfl) (by omega) (by decide)
      rw [Nat.zero_add, List.nil_append] at row7
      obtain ⟨g7, c7, rfl, hg7, hc7, cell7, fr7⟩ := row_some row7 hn0
      have hb7 : w4.heap.size ≤ g7 := by
        rcases bl7 with e | ⟨e, _⟩ <;> simp [Value.ownBlock] at e <;> omega
      have o7 : ∀ i, i < w4.heap.size → w7.heap[i]? = w4.heap[i]? := fun i hi => (gr7.block i (by omega) (by simp [Value.ownBlock]; omega)).trans (o5 i hi)
      have hB7 : Below w.heap.size w w7 := hB4.trans ⟨gr7.os.trans (by rw [← hw5]; rfl), gr7.tape.trans (by rw [← hw5]; rfl), gr7.output.trans (by rw [← hw5]; rfl), by have := gr7.size; omega, fun i hi => o7 i (by omega)⟩
      have hX7 := (o7 w.heap.size (by omega)).trans hX4
      have hZ7 := (o7 (w.heap.size + 1) (by omega)).trans hZ4
      have hX5 := (o5 w.heap.size (by omega)).trans hX4
      have p0 : w5.cell? ⟨w.heap.size, 0, none⟩ = some (.slice (some ⟨gd, 0, none⟩) d.secs.length cd) := by rw [cell_of_row w5 _ 0 _ _ _ hX5]; rfl
      obtain ⟨w8, hw8⟩ : ∃ W, w7.setCell ⟨w.heap.size, 0, none⟩ (.slice (some ⟨g7, 0, none⟩) d.secs.length c7) = W := ⟨_, rfl⟩
      have far8 : ∀ i, i ≠ w.heap.size → w8.heap[i]? = w7.heap[i]? := fun i hi => by rw [← hw8]; exact Below.heap_setCell w7 ⟨w.heap.size, 0, none⟩ _ i hi
      have hX8 : w8.heap[w.heap.size]? = some (.cells #[.slice (some ⟨g7, 0, none⟩) d.secs.length c7, .slice (some ⟨gb, 0, none⟩) d.secs.length cb, .slice ap d.pend.length cp, .int .i64 d.after, .bool d.failed, .int .i64 d.r, .int .i64 d.wn, .int .i64 d.sy] 33 (0, 0)) := by rw [← hw8, heap_setCell_any w7 w.heap.size 0 _ _ _ _ hX7]; rfl
      have hZ8 := (far8 (w.heap.size + 1) (by omega)).trans hZ7
      have row8 : w8.ownsRow 0 9 1 (.slice (some ⟨g7, 0, none⟩) d.secs.length c7) d.secs.length (d.secs.map fun l => .string (sB l)) := row_of row7 fun i hi => far8 i (by simp [Value.ownBlock] at hi; omega)
      have hcur8 : w8.heap[g]? = some (.cells (cur.setIfInBounds q (.int .u8 (x.toNat : Int))) 5 (cur.size, cur.size + 1)) := (far8 g (by omega)).trans ((o7 g (by omega)).trans hcur4)
      have hsl : (b.set q x).length = 64 := by simp [hb64]
      have hback := run_convert_bytes_back (P := Try.prog) w8 74 9 5 ⟨g, 0, none⟩ cw (b.set q x) Try.underlying74 Try.underlying5 Try.underlying9 (fun j hj => by
        have hj64 : j < 64 := by omega
        have ea : (⟨g, 0, none⟩ : Addr).add j = ⟨g, j, none⟩ := by unfold Addr.add; split <;> simp_all
        rw [ea, cell_of_row w8 g j _ _ _ hcur8, Array.getElem?_setIfInBounds]
        by_cases hjq : q = j
        · subst hjq
          rw [if_pos rfl, if_pos (by omega)]
          simp
        · rw [if_neg hjq, hcells j hj64]
          simp [List.getElem_set, hjq])
      rw [hsl] at hback
      have cell8 : w8.cell? ⟨g7, k, none⟩ = some (.string (sB b)) := by
        rw [row8.cellAt k (by omega), List.getElem?_map, HBS.out]; rfl
      have fr8 := row8.frozenAt k
      obtain ⟨w9, hw9⟩ : ∃ W, w8.setCell ⟨g7, k, none⟩ (.string ⟨(b.set q x).toArray⟩) = W := ⟨_, rfl⟩
      have row9 := (row8.stored k (.string ⟨(b.set q x).toArray⟩)).1
      rw [hw9] at row9
      have far9 : ∀ i, i ≠ g7 → w9.heap[i]? = w8.heap[i]? := fun i hi => by rw [← hw9]; exact Below.heap_setCell w8 ⟨g7, k, none⟩ _ i hi
      have hX9 := (far9 w.heap.size (by omega)).trans hX8
      have hZ9 := (far9 (w.heap.size + 1) (by omega)).trans hZ8
      have hB9 : Below w.heap.size w w9 := by rw [← hw9, ← hw8]; exact (hB7.setCell (Nat.le_refl _) _).setCell (by show w.heap.size ≤ g7; omega) _
      clear x0 x1 x2 x3 x4 x5 x6 x7 xf z0 z1 z2 z3 z4 z5 z6 z7 zf
      obtain ⟨x0, x1, x2, x3, x4, x5, x6, x7, xf⟩ := c33 HX2.out
      have t3 : w3.cell? ⟨w.heap.size, 0, none⟩ = some (.slice (some ⟨gd, 0, none⟩) d.secs.length cd) := by rw [cell_of_row w3 _ 0 _ _ _ hX3]; rfl
      have t7 : w7.cell? ⟨w.heap.size, 0, none⟩ = some (.slice (some ⟨gd, 0, none⟩) d.secs.length cd) := by rw [cell_of_row w7 _ 0 _ _ _ hX7]; rfl
      have t7f : ∀ i, w7.frozen? ⟨w.heap.size, i, none⟩ = false := fun i => by simp [World.frozen?, hX7]
      have t8 : w8.cell? ⟨w.heap.size, 0, none⟩ = some (.slice (some ⟨g7, 0, none⟩) d.secs.length c7) := by rw [cell_of_row w8 _ 0 _ _ _ hX8]; rfl
      obtain ⟨y0, y1, y2, y3, y4, y5, y6, y7, yf⟩ := c33 hX9
      obtain ⟨q0, q1, q2, q3, q4, q5, q6, q7, qf⟩ := z33 hZ9
      have HB9 := Lib.hid hB9
      have ROW9 := Lib.hid row9
      have HG7 : Hid (w.heap.size + 2 ≤ g7) := Lib.hid (by omega)
      clear hcells hcz hb3 hX3 hZ3 hgl far4 hs4 hcur4 hX4 hZ4 hB4 hs5 o5 row5 hB5 rd5 row7 gr7 bl7 cell7 fr7 hb7 o7 hB7 hX7 hZ7 hX5 far8 hX8 hZ8 row8 hcur8 hsl row9 far9 hX9 hZ9 hB9 hcur hg1 hl1
      subst hw5
      have hw4s : w4.heap.size = w3.heap.size := by rw [← hw4]; simp
      rw [hw4s] at run7
      clear hw4s
      subst hw4 hw8 hw9 hgdef
      go_wp2_with (at_builtin; (refine wpList_append_eq rfl _ _ _ rfl _ _ rfl rfl run7 ?_; clear run7))
      refine bodyPost_ret (v := .tuple #[.agg #[.slice (some ⟨g7, 0, none⟩) d.secs.length c7, .slice (some ⟨gb, 0, none⟩) d.secs.length cb, .slice ap d.pend.length cp, .int .i64 d.after, .bool d.failed, .int .i64 d.r, .int .i64 d.wn, .int .i64 d.sy], .int .i64 0]) (by simp [results, Try.results42, go_sem, q0, q1, q2, q3, q4, q5, q6, q7]) rfl ?_
      have e := HRR.out
      injection e with e1 e2
      subst e1 e2
      obtain ⟨w9, hw9⟩ : ∃ W, (w7.setCell ⟨w.heap.size, 0, none⟩ (.slice (some ⟨g7, 0, none⟩) d.secs.length c7)).setCell ⟨g7, k, none⟩ (.string ⟨(b.set q x).toArray⟩) = W := ⟨_, rfl⟩
      rw [hw9] at HB9 ROW9
      obtain ⟨W, hW⟩ : ∃ W, set8 w9 (w.heap.size + 1) (.slice (some ⟨g7, 0, none⟩) d.secs.length c7) (.slice (some ⟨gb, 0, none⟩) d.secs.length cb) (.slice ap d.pend.length cp) (.int .i64 d.after) (.bool d.failed) (.int .i64 d.r) (.int .i64 d.wn) (.int .i64 d.sy) = W := ⟨_, rfl⟩
      suffices key : Res T { d with secs := d.secs.set k (dmg b q m) } w (fun v' => .returned (.tuple #[v', .int .i64 0])) (.returned (.tuple #[.agg #[.slice (some ⟨g7, 0, none⟩) d.secs.length c7, .slice (some ⟨gb, 0, none⟩) d.secs.length cb, .slice ap d.pend.length cp, .int .i64 d.after, .bool d.failed, .int .i64 d.r, .int .i64 d.wn, .int .i64 d.sy], .int .i64 0])) W by
        rw [← hW, ← hw9] at key; exact key
      have hBW : Below w.heap.size w W := by rw [← hW]; exact below_set8 HB9.out (Nat.le_succ _) _ _ _ _ _ _ _ _
      have hSW : W.heap.size = w9.heap.size := by rw [← hW]; simp [set8]
      have h1 := HR.out.frame (w' := W) fun k _ hk => hBW.block k hk
      have hg7' := HG7.out
      have hl9 : g7 < w9.heap.size := (ROW9.out.lt g7 rfl).2
      have rowW : W.ownsRow 0 9 1 (.slice (some ⟨g7, 0, none⟩) d.secs.length c7) d.secs.length ((d.secs.map fun l => .string (sB l)).set k (.string ⟨(b.set q x).toArray⟩)) := row_of ROW9.out fun g hg => by
        have hgg : g = g7 := by simp [Value.ownBlock] at hg; exact hg.symm
        rw [← hW, set8_far _ _ _ _ _ _ _ _ _ _ _ (by omega)]
      have hsl : (d.secs.set k (dmg b q m)).length = d.secs.length := List.length_set
      refine ⟨_, rfl, hBW, (.slice (some ⟨g7, 0, none⟩) (d.secs.set k (dmg b q m)).length c7), (.slice (some ⟨gb, 0, none⟩) (d.secs.set k (dmg b q m)).length cb), _, by rw [hsl]; rfl, ?_, fun g hg => ?_, ?_, fun k hk => .inl (h1.sb k (by rw [hsl] at hk; exact hk)), h1.rp, fun k hk => .inl (h1.sp k hk), fun i c hc => ?_, by show 0 < (d.secs.set k _).length; rw [hsl]; exact h1.len, fun p hp => by have := h1.fit p hp; show p.1 < (d.secs.set k _).length ∧ _; rw [hsl]; exact this⟩
      · show W.ownsRow 0 9 1 _ (d.secs.set k (dmg b q m)).length ((d.secs.set k (dmg b q m)).map fun l => .string (sB l))
        rw [hsl, List.map_set, HD.out]
        exact rowW
      · have hgg : g = g7 := by simp [Value.ownBlock] at hg; exact hg.symm
        right
        rw [hSW]; omega
      · show W.ownsRow 0 4 1 _ (d.secs.set k (dmg b q m)).length _
        rw [hsl]; exact h1.rb
      · have hc' : (d.secs.set k (dmg b q m))[i]? = some c := hc
        by_cases hik : k = i
        · subst hik
          rw [List.getElem?_set_self hk] at hc'
          injection hc' with hc'
          rw [← hc']; simp [dmg, hb64]
        · rw [List.getElem?_set_ne hik] at hc'
          exact h1.l64 i c hc'
end
end Go.Proofs.Ytagfnobchdfhfaa
