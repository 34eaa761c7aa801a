import Derived.Test.YtagfnobchdfhfaaWa
namespace Go.Proofs.Ytagfnobchdfhfaa
set_option linter.unusedSimpArgs false
set_option linter.unnecessarySimpa false
set_option linter.unusedVariables false
open Go.RowKit
attribute [local go_sem ↓] Go.wp_at_zero Go.wp_at_succ

section
variable {S : Nat → Prop} {D : Nat} {d : DM} {w : World} {vd vb vp : Value} {dl : List Value}
def inside (d : DM) (n : Int) : Bool := decide (0 ≤ n ∧ n < d.secs.length)
theorem exists_walk (n : Int) (h : DkO S D d w vd vb vp dl) : Calls Try.prog 30 #[.pointer (some ⟨D, 0, none⟩), .int .i64 n] w fun e w' => e = .returned (.bool (inside d n)) ∧ w = w' := by
  obtain ⟨ad, cd, rfl⟩ := row_slice h.rd
  have x0 := h.c0
  have x1 := h.c1
  have x2 := h.c2
  have x3 := h.c3
  have x4 := h.c4
  have x5 := h.c5
  have x6 := h.c6
  have x7 := h.c7
  have xf := h.fr
  have HD := Lib.hid h
  obtain ⟨m, hm⟩ : ∃ m, d.secs.length = m := ⟨_, rfl⟩
  have HI : Hid (inside d n = (decide (0 ≤ n) && decide (n < m))) := Lib.hid (by unfold inside; rw [hm]; simp)
  rw [hm] at x0
  clear h hm
  by_cases h0 : (0 : Int) ≤ n
  · go_enter Try.func30, Try.ntmps30
    go_wp2
    go_ret
    exact ⟨by rw [HI.out]; simp [h0], rfl⟩
  · have h0' : ¬ (0 : Int) ≤ n := h0
    go_enter Try.func30, Try.ntmps30
    go_wp2
    go_ret
    exact ⟨by rw [HI.out, decide_eq_false (by omega)]; rfl, rfl⟩
theorem pending_walk (h : DkO S D d w vd vb vp dl) : Calls Try.prog 16 #[.pointer (some ⟨D, 0, none⟩)] w fun e w' => e = .returned (.int .i64 (d.pend.length : Nat)) ∧ w = w' := by
  obtain ⟨ap, cp, rfl⟩ := row_slice h.rp
  have x0 := h.c0
  have x1 := h.c1
  have x2 := h.c2
  have x3 := h.c3
  have x4 := h.c4
  have x5 := h.c5
  have x6 := h.c6
  have x7 := h.c7
  have xf := h.fr
  have HD := Lib.hid h
  clear h
  go_enter Try.func16, Try.ntmps16
  go_wp2
  go_ret
  exact ⟨rfl, rfl⟩
theorem sectors_walk (h : DkO S D d w vd vb vp dl) : Calls Try.prog 35 #[.pointer (some ⟨D, 0, none⟩)] w fun e w' => e = .returned (.int .i64 (d.secs.length : Nat)) ∧ w = w' := by
  obtain ⟨ap, cp, rfl⟩ := row_slice h.rd
  have x0 := h.c0
  have x1 := h.c1
  have x2 := h.c2
  have x3 := h.c3
  have x4 := h.c4
  have x5 := h.c5
  have x6 := h.c6
  have x7 := h.c7
  have xf := h.fr
  have HD := Lib.hid h
  clear h
  go_enter Try.func35, Try.ntmps35
  go_wp2
  go_ret
  exact ⟨rfl, rfl⟩
theorem failed_walk (h : DkO S D d w vd vb vp dl) : Calls Try.prog 23 #[.pointer (some ⟨D, 0, none⟩)] w fun e w' => e = .returned (.bool d.failed) ∧ w = w' := by
  have x0 := h.c0
  have x1 := h.c1
  have x2 := h.c2
  have x3 := h.c3
  have x4 := h.c4
  have x5 := h.c5
  have x6 := h.c6
  have x7 := h.c7
  have xf := h.fr
  have HD := Lib.hid h
  clear h
  go_enter Try.func23, Try.ntmps23
  go_wp2
  go_ret
  exact ⟨rfl, rfl⟩
theorem counts_walk (h : DkO S D d w vd vb vp dl) : Calls Try.prog 29 #[.pointer (some ⟨D, 0, none⟩)] w fun e w' => e = .returned (.agg #[.int .i64 d.r, .int .i64 d.wn, .int .i64 d.sy]) ∧ Below w.heap.size w w' := by
  have hl := h.lt
  have x0 := h.c0
  have x1 := h.c1
  have x2 := h.c2
  have x3 := h.c3
  have x4 := h.c4
  have x5 := h.c5
  have x6 := h.c6
  have x7 := h.c7
  have xf := h.fr
  have HD := Lib.hid h
  clear h
  go_enter Try.func29, Try.ntmps29
  go_wp2
  exact bodyPost_ret (v := .agg #[.int .i64 d.r, .int .i64 d.wn, .int .i64 d.sy]) (by simp [results, Try.results29, go_sem]) rfl ⟨rfl, (Below.refl _ _).alloc (Nat.le_refl _) _⟩
theorem heap_setCell_any (w : World) (g i : Nat) (cs : Array Value) (t : TypeId) (fz : Nat × Nat) (v : Value) (hg : w.heap[g]? = some (.cells cs t fz)) :
    (w.setCell ⟨g, i, none⟩ v).heap[g]? = some (.cells (cs.setIfInBounds i v) t fz) := by
  rw [setCell_eq_setRow w g i cs t fz v hg]
  exact setRow_heap w g cs _ t _ hg
theorem DkO.set (h : DkO S D d w vd vb vp dl) (k : Nat) (v : Value) (d' : DM) (he : (#[vd, vb, vp, .int .i64 d.r, .int .i64 d.wn, .int .i64 d.sy, .bool d.failed, .int .i64 d.after] : Array Value).setIfInBounds k v = #[vd, vb, vp, .int .i64 d'.r, .int .i64 d'.wn, .int .i64 d'.sy, .bool d'.failed, .int .i64 d'.after])
    (e1 : d'.secs = d.secs) (e2 : d'.bad = d.bad) (e3 : d'.pend = d.pend) : DkO S D d' (w.setCell ⟨D, k, none⟩ v) vd vb vp dl :=
  h.obj_set (fun k' _ hne _ => Below.heap_setCell w ⟨D, k, none⟩ v k' hne) (by rw [heap_setCell_any w D k _ _ _ v h.obj, he]) e1 e2 e3
/-- step, on its disk -/
def stepF (d : DM) : Bool × DM := if d.failed then (false, d) else if d.after = 0 then (false, { d with failed := true, after := -1 }) else if 0 < d.after then (true, { d with after := d.after - 1 }) else (true, d)
theorem step_walk (h : DkO S D d w vd vb vp dl) (ha : d.after ≤ 9223372036854775807) (r : Bool) (d' : DM) (hr : stepF d = (r, d')) : Calls Try.prog 31 #[.pointer (some ⟨D, 0, none⟩)] w fun e w' => e = .returned (.bool r) ∧ Touch S w w' ∧ DkO S D d' w' vd vb vp dl := by
  have x0 := h.c0
  have x1 := h.c1
  have x2 := h.c2
  have x3 := h.c3
  have x4 := h.c4
  have x5 := h.c5
  have x6 := h.c6
  have x7 := h.c7
  have xf := h.fr
  have HD := Lib.hid h
  have HS := Lib.hid h.sD
  clear h
  cases hf : d.failed with
  | true =>
    rw [hf] at x6
    have HR : Hid ((false, d) = (r, d')) := Lib.hid (by rw [← hr]; simp [stepF, hf])
    clear hr hf ha
    go_enter Try.func31, Try.ntmps31
    go_wp2
    go_ret
    have e := HR.out
    injection e with e1 e2
    subst e1 e2
    exact ⟨rfl, Touch.refl _ _, HD.out⟩
  | false =>
    rw [hf] at x6
    by_cases h0 : d.after = 0
    · rw [h0] at x7
      have HR : Hid ((false, { d with failed := true, after := -1 }) = (r, d')) := Lib.hid (by rw [← hr]; simp [stepF, hf, h0])
      have HF := Lib.hid hf
      clear hr hf h0 ha
      go_enter Try.func31, Try.ntmps31
      go_wp2
      go_ret
      have e := HR.out
      injection e with e1 e2
      subst e1 e2
      exact ⟨rfl, ((Touch.refl _ _).setCell (.inl HS.out) _).setCell (.inl HS.out) _, (HD.out.set 6 (.bool true) { d with failed := true } rfl rfl rfl rfl).set 7 (.int .i64 (-1)) { d with failed := true, after := -1 } rfl rfl rfl rfl⟩
    · have h0' : (d.after == 0) = false := by rw [Bool.eq_false_iff]; simpa using h0
      by_cases h1 : 0 < d.after
      · have HR : Hid ((true, { d with after := d.after - 1 }) = (r, d')) := Lib.hid (by rw [← hr]; simp [stepF, hf, h0, h1])
        have HF := Lib.hid hf
        clear hr hf h0
        go_enter Try.func31, Try.ntmps31
        go_wp2
        go_ret
        have e := HR.out
        injection e with e1 e2
        subst e1 e2
        exact ⟨rfl, ((Touch.refl _ _).setCell (.inl HS.out) _), HD.out.set 7 (.int .i64 (d.after - 1)) { d with after := d.after - 1 } rfl rfl rfl rfl⟩
      · have HR : Hid ((true, d) = (r, d')) := Lib.hid (by rw [← hr]; simp [stepF, hf, h0, h1])
        clear hr hf h0
        go_enter Try.func31, Try.ntmps31
        go_wp2
        go_ret
        have e := HR.out
        injection e with e1 e2
        subst e1 e2
        exact ⟨rfl, Touch.refl _ _, HD.out⟩
/-- FailAfter, on its disk -/
def failF (d : DM) (n : Int) : DM := if d.failed then d else { d with after := max n (-1) }
theorem failAfter_walk (n : Int) (h : DkO S D d w vd vb vp dl) : Calls Try.prog 22 #[.pointer (some ⟨D, 0, none⟩), .int .i64 n] w fun e w' => e = .returned (.tuple #[]) ∧ Touch S w w' ∧ DkO S D (failF d n) w' vd vb vp dl := by
  have x0 := h.c0
  have x1 := h.c1
  have x2 := h.c2
  have x3 := h.c3
  have x4 := h.c4
  have x5 := h.c5
  have x6 := h.c6
  have x7 := h.c7
  have xf := h.fr
  have HD := Lib.hid h
  have HS := Lib.hid h.sD
  clear h
  cases hf : d.failed with
  | true =>
    rw [hf] at x6
    have HR : Hid (failF d n = d) := Lib.hid (by simp [failF, hf])
    clear hf
    go_enter Try.func22, Try.ntmps22
    go_wp2
    (refine bodyPost_end (results_none rfl _ _ _) rfl ?_)
    rw [HR.out]
    exact ⟨rfl, Touch.refl _ _, HD.out⟩
  | false =>
    rw [hf] at x6
    have HR : Hid (failF d n = { d with after := max n (-1) }) := Lib.hid (by simp [failF, hf])
    clear hf
    go_enter Try.func22, Try.ntmps22
    go_wp2
    all_goals
      (refine bodyPost_end (results_none rfl _ _ _) rfl ?_)
      rw [HR.out]
      refine ⟨rfl, (Touch.refl _ _).setCell (.inl HS.out) _, HD.out.set 7 _ { d with after := max n (-1) } ?_ rfl rfl rfl⟩
      simp; omega
end
end Go.Proofs.Ytagfnobchdfhfaa
