import Derived.Test.YtagfnobchdfhfaaXl
namespace Go.Proofs.Ytagfnobchdfhfaa
set_option linter.unusedSimpArgs false
set_option linter.unnecessarySimpa false
set_option linter.unusedVariables false
open Go.RowKit Go.ChangeShapes Go.WideShapes Go.ChangeAt
attribute [local go_sem ↓] Go.wp_at_zero Go.wp_at_succ

theorem new_bad (n : Int) (h : n < 1 ∨ 1024 < n) (w : World) : Calls Try.prog 19 #[.int .i64 n] w fun e w' => e = .returned (.tuple #[.pointer none, .int .i64 1]) ∧ w = w' := by
  by_cases h1 : n < 1
  · clear h
    go_enter Try.func19, Try.ntmps19
    go_wp2
    go_ret2
    exact ⟨rfl, rfl⟩
  · have h2 : 1024 < n := by omega
    clear h
    go_enter Try.func19, Try.ntmps19
    go_wp2
    go_ret2
    exact ⟨rfl, rfl⟩
theorem refNew_bad (n : Int) (h : n < 1 ∨ 1024 < n) (w : World) : Calls Try.prog 20 #[.int .i64 n] w fun e w' => e = .returned (.tuple #[.agg zr33, .int .i64 1]) ∧ Below w.heap.size w w' := by
  by_cases h1 : n < 1
  · clear h
    go_enter Try.func20, Try.ntmps20
    go_wp2
    refine bodyPost_ret (v := .tuple #[.agg zr33, .int .i64 1]) (by simp [results, Try.results20, go_sem, zr33]) rfl ?_
    exact ⟨rfl, (Below.refl _ _).alloc (Nat.le_refl _) _⟩
  · have h2 : 1024 < n := by omega
    clear h
    go_enter Try.func20, Try.ntmps20
    go_wp2
    refine bodyPost_ret (v := .tuple #[.agg zr33, .int .i64 1]) (by simp [results, Try.results20, go_sem, zr33]) rfl ?_
    exact ⟨rfl, (Below.refl _ _).alloc (Nat.le_refl _) _⟩
theorem sizes_bad (n : Int) (h : n < 1 ∨ 1024 < n) (w : World) : Calls Try.prog 5 #[.int .i64 n] w fun e w' => e = .returned (.bool true) ∧ Below w.heap.size w w' := by
  have H1 := Lib.hid (new_bad n h)
  have H2 := Lib.hid (refNew_bad n h)
  clear h
  go_enter Try.func5, Try.ntmps5
  go_wp2_with fail
  refine (awake_walk _).mono ?_; rintro e w1 ⟨rfl, hb1⟩
  have B1 := Lib.hid hb1
  clear hb1
  go_wp2_with fail
  refine (H1.out _).mono ?_; rintro e _ ⟨rfl, rfl⟩
  go_wp2_with fail
  refine (H2.out _).mono ?_; rintro e w2 ⟨rfl, hb2⟩
  have B2 := Lib.hid (B1.out.trans (hb2.mono B1.out.size))
  clear hb2
  unfold zr33
  go_wp2_with fail
  go_ret
  exact ⟨rfl, B2.out.alloc B2.out.size _⟩
theorem sizes_ok (n : Nat) (h0 : 0 < n) (h1 : n ≤ 1024) (w : World) : Calls Try.prog 5 #[.int .i64 (n : Int)] w fun e w' => e = .returned (.bool true) ∧ Below w.heap.size w w' := by
  go_enter Try.func5, Try.ntmps5
  go_wp2_with fail
  refine (awake_walk _).mono ?_; rintro e w1 ⟨rfl, hb1⟩
  have B1 := Lib.hid hb1
  clear hb1
  go_wp2_with fail
  refine (new_walk n h0 h1 w1).mono ?_; rintro e w2 ⟨rfl, hb2, hd2⟩
  have B2 := Lib.hid (B1.out.trans (hb2.mono B1.out.size))
  have D2 := Lib.hid hd2
  clear hb2 hd2
  go_wp2_with fail
  refine (refNew_walk n h0 h1 w2).mono ?_; rintro e w3 ⟨v, rfl, hb3, hv3⟩
  obtain ⟨vd, vb, vp, rfl, hr⟩ := hv3
  obtain ⟨ad, cd, rfl⟩ := row_slice hr.rd
  obtain ⟨ab, cb, rfl⟩ := row_slice hr.rb
  obtain ⟨ap, cp, rfl⟩ := row_slice hr.rp
  have en : (dm0 n).secs.length = n := by simp [dm0]
  have em : (dm0 n).pend.length = 0 := rfl
  rw [en, em] at hr ⊢
  have B3 := Lib.hid (B2.out.trans (hb3.mono B2.out.size))
  obtain ⟨w4, hw4⟩ : ∃ W, w3.alloc (.cells #[.slice ad n cd, .slice ab n cb, .slice ap 0 cp, .int .i64 (-1), .bool false, .int .i64 0, .int .i64 0, .int .i64 0] 33) = W := ⟨_, rfl⟩
  have hB4 : Below w3.heap.size w3 w4 := by rw [← hw4]; exact (Below.refl _ _).alloc (Nat.le_refl _) _
  have hX4 : w4.heap[w3.heap.size]? = some (.cells #[.slice ad n cd, .slice ab n cb, .slice ap 0 cp, .int .i64 (-1), .bool false, .int .i64 0, .int .i64 0, .int .i64 0] 33 (0, 0)) := by rw [← hw4]; exact heap_alloc_new w3 _
  obtain ⟨vdE, vbE, vpE, dlE, hkE⟩ := D2.out
  have hk4 := (hkE.frame (w' := w3) fun k _ hk => hb3.block k hk).frame (w' := w4) fun k _ hk => hB4.block k hk
  have hr4 := hr.frame (w' := w4) fun k _ hk => hB4.block k hk
  have HSM := Lib.hid (same_walk hk4 hr4 (Nat.zero_le 1000) (by rw [en]; omega))
  have B4 := Lib.hid (B3.out.trans (hB4.mono B3.out.size))
  have HX4 := Lib.hid hX4
  have HW4 := Lib.hid hw4
  clear hb3 hr hB4 hX4 hkE hk4 hr4 hw4 en em
  simp only [rv]
  unfold rv at HSM
  go_upto_region 5 with (fail)
  rw [show w3.alloc (.cells #[.slice ad n cd, .slice ab n cb, .slice ap 0 cp, .int .i64 (dm0 n).after, .bool (dm0 n).failed, .int .i64 (dm0 n).r, .int .i64 (dm0 n).wn, .int .i64 (dm0 n).sy] 33) = w4 from HW4.out]
  obtain ⟨x0, x1, x2, x3, x4, x5, x6, x7, xf⟩ := c33 HX4.out
  go_wp2_with fail
  refine (HSM.out).mono ?_
  rintro e5 w5 ⟨rfl, hb5⟩
  have B5 := Lib.hid (B4.out.trans (hb5.mono B4.out.size))
  clear hb5
  go_wp2_with fail
  go_ret
  exact ⟨rfl, B5.out⟩
theorem sizes_in (a : Int) (ha : (Lit.int .i64 a).wf = true) (w : World) : Calls Try.prog 5 #[.int .i64 a] w fun e w' => e = .returned (.bool true) ∧ Below w.heap.size w w' := by
  by_cases h : a < 1 ∨ 1024 < a
  · exact sizes_bad a h w
  · obtain ⟨n, rfl⟩ : ∃ n : Nat, a = n := ⟨a.toNat, by omega⟩
    exact sizes_ok n (by omega) (by omega) w
end Go.Proofs.Ytagfnobchdfhfaa
