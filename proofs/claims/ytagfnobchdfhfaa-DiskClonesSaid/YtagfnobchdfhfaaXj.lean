import Derived.Test.YtagfnobchdfhfaaXi
namespace Go.Proofs.Ytagfnobchdfhfaa
set_option linter.unusedSimpArgs false
set_option linter.unnecessarySimpa false
set_option linter.unusedVariables false
open Go.RowKit Go.ChangeShapes Go.WideShapes Go.ChangeAt
attribute [local go_sem ↓] Go.wp_at_zero Go.wp_at_succ

theorem readF_r (d : DM) (ρ : Int) (n : Int) : (readF { d with r := ρ } n).1 = (readF d n).1 ∧ ∃ ρ', (readF { d with r := ρ } n).2 = { d with r := ρ' } := by
  unfold readF
  have hi : inside { d with r := ρ } n = inside d n := rfl
  have hc : content { d with r := ρ } n.toNat = content d n.toNat := rfl
  rw [hi, hc]
  split
  · exact ⟨rfl, ρ, rfl⟩
  · split
    · exact ⟨rfl, ρ, rfl⟩
    · exact ⟨rfl, _, rfl⟩
section
variable {S T : Nat → Prop} {D : Nat} {d : DM} {w : World} {vd vb vp vd' vb' vp' : Value} {dl : List Value}
set_option maxHeartbeats 800000 in
theorem same_walk (hD : DkO S D d w vd' vb' vp' dl) (h : RfO T d w vd vb vp) (hp : d.pend.length ≤ 1000) (hl : d.secs.length ≤ 2000) : Calls Try.prog 21 #[.pointer (some ⟨D, 0, none⟩), rv d vd vb vp] w fun e w' => e = .returned (.bool true) ∧ Below w.heap.size w w' := by
  obtain ⟨gd, cd, rfl, hgd, _, hdc, _⟩ := row_some h.rd h.len
  obtain ⟨gb, cb, rfl, hgb, _, hbc, _⟩ := row_some h.rb h.len
  obtain ⟨ap, cp, rfl⟩ := row_slice h.rp
  have HR := Lib.hid h
  have hX1 : (w.alloc (.cells #[.slice (some ⟨gd, 0, none⟩) d.secs.length cd, .slice (some ⟨gb, 0, none⟩) d.secs.length cb, .slice ap d.pend.length cp, .int .i64 d.after, .bool d.failed, .int .i64 d.r, .int .i64 d.wn, .int .i64 d.sy] 33)).heap[w.heap.size]? = some (.cells #[.slice (some ⟨gd, 0, none⟩) d.secs.length cd, .slice (some ⟨gb, 0, none⟩) d.secs.length cb, .slice ap d.pend.length cp, .int .i64 d.after, .bool d.failed, .int .i64 d.r, .int .i64 d.wn, .int .i64 d.sy] 33 (0, 0)) := heap_alloc_new w _
  have hD1 : DkO S D d (w.alloc (.cells #[.slice (some ⟨gd, 0, none⟩) d.secs.length cd, .slice (some ⟨gb, 0, none⟩) d.secs.length cb, .slice ap d.pend.length cp, .int .i64 d.after, .bool d.failed, .int .i64 d.r, .int .i64 d.wn, .int .i64 d.sy] 33)).drew vd' vb' vp' dl := hD.frame fun k _ hk => Below.heap_alloc w _ k hk
  have H35 := Lib.hid (sectors_walk hD1)
  have H16 := Lib.hid (pending_walk hD1)
  have H23 := Lib.hid (failed_walk hD1)
  have H29 := Lib.hid (counts_walk hD1)
  have HDK := Lib.hid hD
  clear hD hD1 h hdc hbc
  unfold rv
  go_enter Try.func21, Try.ntmps21
  go_wp2_with fail
  refine wp_region_noPanic ?_
  refine wp_region_D 28 (fun w' => w'.heap[w.heap.size]? = some (.cells #[.slice (some ⟨gd, 0, none⟩) d.secs.length cd, .slice (some ⟨gb, 0, none⟩) d.secs.length cb, .slice ap d.pend.length cp, .int .i64 d.after, .bool d.failed, .int .i64 d.r, .int .i64 d.wn, .int .i64 d.sy] 33 (0, 0))) (by kernel_rfl) hX1 (fun hU => ?_)
  have hC : (fun w' : World => w'.heap[w.heap.size]? = some (.cells #[.slice (some ⟨gd, 0, none⟩) d.secs.length cd, .slice (some ⟨gb, 0, none⟩) d.secs.length cb, .slice ap d.pend.length cp, .int .i64 d.after, .bool d.failed, .int .i64 d.r, .int .i64 d.wn, .int .i64 d.sy] 33 (0, 0))) (w.alloc (.cells #[.slice (some ⟨gd, 0, none⟩) d.secs.length cd, .slice (some ⟨gb, 0, none⟩) d.secs.length cb, .slice ap d.pend.length cp, .int .i64 d.after, .bool d.failed, .int .i64 d.r, .int .i64 d.wn, .int .i64 d.sy] 33)).drew := hX1
  have hXd : (w.alloc (.cells #[.slice (some ⟨gd, 0, none⟩) d.secs.length cd, .slice (some ⟨gb, 0, none⟩) d.secs.length cb, .slice ap d.pend.length cp, .int .i64 d.after, .bool d.failed, .int .i64 d.r, .int .i64 d.wn, .int .i64 d.sy] 33)).drew.heap[w.heap.size]? = some (.cells #[.slice (some ⟨gd, 0, none⟩) d.secs.length cd, .slice (some ⟨gb, 0, none⟩) d.secs.length cb, .slice ap d.pend.length cp, .int .i64 d.after, .bool d.failed, .int .i64 d.r, .int .i64 d.wn, .int .i64 d.sy] 33 (0, 0)) := hX1
  clear hU
  refine wpAnyD_take (i := 0) (dst := some 12) (v := ?_) (fuel := 27) rfl rfl (by kernel_rfl) (fun _ _ _ h => h) (by rfl) ?_ (.inr hC) ?_
  rotate_left
  · (intro w; go_simp; try with_reducible rfl)
  simp only [Act.put, List.setIfInBounds_toArray, List.set_cons_zero, List.set_cons_succ]
  refine wpAnyD_take (i := 2) (dst := some 14) (v := ?_) (fuel := 26) rfl rfl (by kernel_rfl) (fun _ _ _ h => h) (by rfl) ?_ (.inr hC) ?_
  rotate_left
  · (intro w; go_simp; try with_reducible rfl)
  simp only [Act.put, List.setIfInBounds_toArray, List.set_cons_zero, List.set_cons_succ]
  refine wpAnyD_load (i := 3) (dst := some 15) (v := ?_) (fuel := 25) rfl rfl (by kernel_rfl) (fun _ _ _ h => h) (by rfl) ?_ (.inr hC) ?_
  rotate_left
  · intro w hSw
    obtain ⟨y0, y1, y2, y3, y4, y5, y6, y7, _⟩ := c33 hSw
    go_simp
    try with_reducible rfl
  simp only [Act.put, List.setIfInBounds_toArray, List.set_cons_zero, List.set_cons_succ]
  refine wpAnyD_take (i := 4) (dst := some 16) (v := ?_) (fuel := 24) rfl rfl (by kernel_rfl) (fun _ _ _ h => h) (by rfl) ?_ (.inr hC) ?_
  rotate_left
  · (intro w; go_simp; try with_reducible rfl)
  simp only [Act.put, List.setIfInBounds_toArray, List.set_cons_zero, List.set_cons_succ]
  refine wpAnyD_ready (fuel := 23) (rs := [1]) (by kernel_rfl) (by simp) ?_
  refine AllReadyD.cons (o := _) rfl (fun K hK => ?_) ?_
  · go_simp
    go_at_call 35
    with_reducible refine (H35.out).mono ?_
    rintro e _ ⟨rfl, rfl⟩
    go_wp2_with fail
    refine shut_C hK ?_ (fun hC => ?_)
    · first | with_reducible exact hXd | with_reducible exact hX5
    clear hK K
    try simp only [Act.put, List.setIfInBounds_toArray, List.set_cons_zero, List.set_cons_succ]
    refine wpAnyD_take (i := 5) (dst := some 17) (v := ?_) (fuel := 22) rfl rfl (by kernel_rfl) (fun _ _ _ h => h) (by rfl) ?_ (.inr hC) ?_
    rotate_left
    · (intro w; go_simp; try with_reducible rfl)
    simp only [Act.put, List.setIfInBounds_toArray, List.set_cons_zero, List.set_cons_succ]
    refine wpAnyD_take (i := 6) (dst := some 18) (v := ?_) (fuel := 21) rfl rfl (by kernel_rfl) (fun _ _ _ h => h) (by rfl) ?_ (.inr hC) ?_
    rotate_left
    · (intro w; go_simp; try with_reducible rfl)
    simp only [Act.put, List.setIfInBounds_toArray, List.set_cons_zero, List.set_cons_succ]
    refine wpAnyD_take (i := 7) (dst := some 19) (v := ?_) (fuel := 20) rfl rfl (by kernel_rfl) (fun _ _ _ h => h) (by rfl) ?_ (.inr hC) ?_
    rotate_left
    · (intro w; go_simp; try with_reducible rfl)
    simp only [Act.put, List.setIfInBounds_toArray, List.set_cons_zero, List.set_cons_succ]
    refine wpAnyD_take (i := 9) (dst := some 21) (v := ?_) (fuel := 19) rfl rfl (by kernel_rfl) (fun _ _ _ h => h) (by rfl) ?_ (.inr hC) ?_
    rotate_left
    · (intro w; go_simp; try with_reducible rfl)
    simp only [Act.put, List.setIfInBounds_toArray, List.set_cons_zero, List.set_cons_succ]
    refine wpAnyD_load (i := 10) (dst := some 22) (v := ?_) (fuel := 18) rfl rfl (by kernel_rfl) (fun _ _ _ h => h) (by rfl) ?_ (.inr hC) ?_
    rotate_left
    · intro w hSw
      obtain ⟨y0, y1, y2, y3, y4, y5, y6, y7, _⟩ := c33 hSw
      go_simp
      try with_reducible rfl
    simp only [Act.put, List.setIfInBounds_toArray, List.set_cons_zero, List.set_cons_succ]
    refine wpAnyD_take (i := 11) (dst := some 23) (v := ?_) (fuel := 17) rfl rfl (by kernel_rfl) (fun _ _ _ h => h) (by rfl) ?_ (.inr hC) ?_
    rotate_left
    · (intro w; go_simp; try with_reducible rfl)
    simp only [Act.put, List.setIfInBounds_toArray, List.set_cons_zero, List.set_cons_succ]
    refine wpAnyD_ready (fuel := 16) (rs := [8]) (by kernel_rfl) (by simp) ?_
    refine AllReadyD.cons (o := _) rfl (fun K hK => ?_) ?_
    · go_simp
      go_at_call 16
      with_reducible refine (H16.out).mono ?_
      rintro e _ ⟨rfl, rfl⟩
      go_wp2_with fail
      refine shut_C hK ?_ (fun hC => ?_)
      · first | with_reducible exact hXd | with_reducible exact hX5
      clear hK K
      try simp only [Act.put, List.setIfInBounds_toArray, List.set_cons_zero, List.set_cons_succ]
      refine wpAnyD_take (i := 12) (dst := some 24) (v := ?_) (fuel := 15) rfl rfl (by kernel_rfl) (fun _ _ _ h => h) (by rfl) ?_ (.inr hC) ?_
      rotate_left
      · (intro w; go_simp; try with_reducible rfl)
      simp only [Act.put, List.setIfInBounds_toArray, List.set_cons_zero, List.set_cons_succ]
      refine wpAnyD_take (i := 13) (dst := some 25) (v := ?_) (fuel := 14) rfl rfl (by kernel_rfl) (fun _ _ _ h => h) (by rfl) ?_ (.inr hC) ?_
      rotate_left
      · (intro w; go_simp; try with_reducible rfl)
      simp only [Act.put, List.setIfInBounds_toArray, List.set_cons_zero, List.set_cons_succ]
      refine wpAnyD_take (i := 14) (dst := some 26) (v := ?_) (fuel := 13) rfl rfl (by kernel_rfl) (fun _ _ _ h => h) (by rfl) ?_ (.inr hC) ?_
      rotate_left
      · (intro w; go_simp; try with_reducible rfl)
      simp only [Act.put, List.setIfInBounds_toArray, List.set_cons_zero, List.set_cons_succ]
      refine wpAnyD_take (i := 15) (dst := some 27) (v := ?_) (fuel := 12) rfl rfl (by kernel_rfl) (fun _ _ _ h => h) (by rfl) ?_ (.inr hC) ?_
      rotate_left
      · (intro w; go_simp; try with_reducible rfl)
      simp only [Act.put, List.setIfInBounds_toArray, List.set_cons_zero, List.set_cons_succ]
      refine wpAnyD_take (i := 17) (dst := some 29) (v := ?_) (fuel := 11) rfl rfl (by kernel_rfl) (fun _ _ _ h => h) (by rfl) ?_ (.inr hC) ?_
      rotate_left
      · (intro w; go_simp; try with_reducible rfl)
      simp only [Act.put, List.setIfInBounds_toArray, List.set_cons_zero, List.set_cons_succ]
      refine wpAnyD_load (i := 18) (dst := some 30) (v := ?_) (fuel := 10) rfl rfl (by kernel_rfl) (fun _ _ _ h => h) (by rfl) ?_ (.inr hC) ?_
      rotate_left
      · intro w hSw
        obtain ⟨y0, y1, y2, y3, y4, y5, y6, y7, _⟩ := c33 hSw
        go_simp
        try with_reducible rfl
      simp only [Act.put, List.setIfInBounds_toArray, List.set_cons_zero, List.set_cons_succ]
      refine wpAnyD_ready (fuel := 9) (rs := [16]) (by kernel_rfl) (by simp) ?_
      refine AllReadyD.cons (o := _) rfl (fun K hK => ?_) ?_
      · go_simp
        go_at_call 23
        with_reducible refine (H23.out).mono ?_
        rintro e _ ⟨rfl, rfl⟩
        go_wp2_with fail
        refine shut_C hK ?_ (fun hC => ?_)
        · first | with_reducible exact hXd | with_reducible exact hX5
        clear hK K
        try simp only [Act.put, List.setIfInBounds_toArray, List.set_cons_zero, List.set_cons_succ]
        refine wpAnyD_take (i := 19) (dst := some 31) (v := ?_) (fuel := 8) rfl rfl (by kernel_rfl) (fun _ _ _ h => h) (by rfl) ?_ (.inr hC) ?_
        rotate_left
        · (intro w; go_simp; try with_reducible rfl)
        simp only [Act.put, List.setIfInBounds_toArray, List.set_cons_zero, List.set_cons_succ]
        refine wpAnyD_take (i := 20) (dst := some 32) (v := ?_) (fuel := 7) rfl rfl (by kernel_rfl) (fun _ _ _ h => h) (by rfl) ?_ (.inr hC) ?_
        rotate_left
        · (intro w; go_simp; try with_reducible rfl)
        simp only [Act.put, List.setIfInBounds_toArray, List.set_cons_zero, List.set_cons_succ]
        refine wpAnyD_take (i := 21) (dst := some 33) (v := ?_) (fuel := 6) rfl rfl (by kernel_rfl) (fun _ _ _ h => h) (by rfl) ?_ (.inr hC) ?_
        rotate_left
        · (intro w; go_simp; try with_reducible rfl)
        simp only [Act.put, List.setIfInBounds_toArray, List.set_cons_zero, List.set_cons_succ]
        refine wpAnyD_take (i := 22) (dst := some 34) (v := ?_) (fuel := 5) rfl rfl (by kernel_rfl) (fun _ _ _ h => h) (by rfl) ?_ (.inr hC) ?_
        rotate_left
        · (intro w; go_simp; try with_reducible rfl)
        simp only [Act.put, List.setIfInBounds_toArray, List.set_cons_zero, List.set_cons_succ]
        refine wpAnyD_take (i := 24) (dst := some 36) (v := ?_) (fuel := 4) rfl rfl (by kernel_rfl) (fun _ _ _ h => h) (by rfl) ?_ (.inr hC) ?_
        rotate_left
        · (intro w; go_simp; try with_reducible rfl)
        simp only [Act.put, List.setIfInBounds_toArray, List.set_cons_zero, List.set_cons_succ]
        refine wpAnyD_load (i := 25) (dst := some 37) (v := ?_) (fuel := 3) rfl rfl (by kernel_rfl) (fun _ _ _ h => h) (by rfl) ?_ (.inr hC) ?_
        rotate_left
        · intro w hSw
          obtain ⟨y0, y1, y2, y3, y4, y5, y6, y7, _⟩ := c33 hSw
          go_simp
          try with_reducible rfl
        simp only [Act.put, List.setIfInBounds_toArray, List.set_cons_zero, List.set_cons_succ]
        refine wpAnyD_ready (fuel := 2) (rs := [23]) (by kernel_rfl) (by simp) ?_
        refine AllReadyD.cons (o := _) rfl (fun K hK => ?_) ?_
        · go_simp
          go_at_call 29
          with_reducible refine (H29.out).mono ?_
          rintro e w5 ⟨rfl, hb5⟩
          have hX5 := (hb5.block w.heap.size (by simp)).trans hX1
          have HB5 := Lib.hid hb5
          clear hb5
          go_wp2_with fail
          refine shut_C hK ?_ (fun hC => ?_)
          · first | with_reducible exact hXd | with_reducible exact hX5
          clear hK K
          try simp only [Act.put, List.setIfInBounds_toArray, List.set_cons_zero, List.set_cons_succ]
          refine wpAnyD_take (i := 26) (dst := some 38) (v := ?_) (fuel := 1) rfl rfl (by kernel_rfl) (fun _ _ _ h => h) (by rfl) ?_ (.inr hC) ?_
          rotate_left
          · (intro w; go_simp; try with_reducible rfl)
          simp only [Act.put, List.setIfInBounds_toArray, List.set_cons_zero, List.set_cons_succ]
          refine wpAnyD_take (i := 27) (dst := some 39) (v := ?_) (fuel := 0) rfl rfl (by kernel_rfl) (fun _ _ _ h => h) (by rfl) ?_ (.inr hC) ?_
          rotate_left
          · (intro w; go_simp; try with_reducible rfl)
          simp only [Act.put, List.setIfInBounds_toArray, List.set_cons_zero, List.set_cons_succ]
          refine wpAnyD_done (by kernel_rfl) ?_ _
          refine NoPanic.normal ?_
          have HB0 : Hid (Below w.heap.size w w5) := Lib.hid (((below_drewN ((Below.refl w.heap.size w).alloc (Nat.le_refl _) (.cells #[.slice (some ⟨gd, 0, none⟩) d.secs.length cd, .slice (some ⟨gb, 0, none⟩) d.secs.length cb, .slice ap d.pend.length cp, .int .i64 d.after, .bool d.failed, .int .i64 d.r, .int .i64 d.wn, .int .i64 d.sy] 33)) 1)).trans (HB5.out.mono (by show w.heap.size ≤ (w.alloc _).heap.size; simp)))
          have HX5 := Lib.hid hX5
          have HC5 := Lib.hid (clone_walk (HDK.out.frame (w' := w5) fun k _ hk => HB0.out.block k hk) hp hl)
          clear hX5 hXd hX1
          go_wp2_with fail
          refine (HC5.out).mono ?_
          rintro e w6 ⟨rfl, hb6, hd6⟩
          have HST : Hid (St w5 w5.heap.size d w6) := Lib.hid ⟨_, hd6.bound, hb6, fun k hk => hk⟩
          clear hb6 hd6
          go_wp2_with fail
          go_loopw [6] (fun i wr => ∃ (j : Nat) (ρ : Int), j ≤ d.secs.length + 2 ∧ i = .int .i64 ((j : Int) - 1) ∧ St w5 w5.heap.size { d with r := ρ } wr) (fun i _ => d.secs.length + 2 - (intOf i + 1).toNat)
          case atStart => exact ⟨0, d.r, by omega, rfl, HST.out⟩
          case round =>
            obtain ⟨j, ρ, hj, rfl, hst⟩ := hrel
            have HT := Lib.hid hst
            have hX := (hst.below.block w.heap.size (Array.getElem?_eq_some_iff.1 HX5.out).1).trans HX5.out
            obtain ⟨x0, x1, x2, x3, x4, x5, x6, x7, xf⟩ := c33 hX
            clear hX hst
            by_cases hlt : j < d.secs.length + 2
            · obtain ⟨t, ht⟩ : ∃ t, (j : Int) - 1 = t := ⟨_, rfl⟩
              have ht1 : t ≤ d.secs.length := by omega
              have ht2 : -1 ≤ t := by omega
              have hwr : IntKind.i64.wrap (t + 1) = t + 1 := IntWalk.i64_in _ (by omega)
              obtain ⟨s, e, d0, hq⟩ : ∃ s e d0, readF d t = ((s, e), d0) := ⟨_, _, _, rfl⟩
              obtain ⟨h1, ρ', h2⟩ := readF_r d ρ t
              have hq2 : readF { d with r := ρ } t = ((s, e), { d with r := ρ' }) := by
                rw [← h2, ← (show (readF d t).1 = (s, e) by rw [hq]), ← h1]
              have HQ := Lib.hid hq
              have HQ2 := Lib.hid hq2
              have HTT := Lib.hid ht
              clear hq hq2 h1 h2
              rw [ht]
              clear ht
              go_wp2_with fail
              refine (st_read t HT.out hp _ HQ2.out).mono ?_; rintro e7 w7 ⟨rfl, g7⟩
              have G7 := Lib.hid g7
              have hX := (g7.below.block w.heap.size (Array.getElem?_eq_some_iff.1 HX5.out).1).trans HX5.out
              clear g7 x0 x1 x2 x3 x4 x5 x6 x7 xf
              obtain ⟨x0, x1, x2, x3, x4, x5, x6, x7, xf⟩ := c33 hX
              clear hX
              have HRR := Lib.hid (read_ref t (HR.out.frame (w' := w7) fun k _ hk => (HB0.out.trans (G7.out.below.mono HB0.out.size)).block k hk) hp _ HQ.out)
              unfold rv at HRR
              go_wp2_with fail
              refine (HRR.out).mono ?_
              rintro e8 w8 ⟨v', rfl, hb8, hv8⟩
              obtain ⟨vd2, vb2, vp2, rfl, hr2⟩ := hv8
              obtain ⟨ad2, cd2, rfl⟩ := row_slice hr2.rd
              obtain ⟨ab2, cb2, rfl⟩ := row_slice hr2.rb
              obtain ⟨ap2, cp2, rfl⟩ := row_slice hr2.rp
              clear hr2
              have G8 := Lib.hid (G7.out.same hb8)
              clear hb8
              simp only [rv]
              go_wp2_with fail
              go_roundw
              case rel => exact ⟨j + 1, ρ', by omega, by rw [← HTT.out]; go_num, G8.out.alloc _⟩
              case measure =>
                have := HTT.out
                simp [intOf]; omega
            · have hlt' : ¬ ((j : Int) - 1 ≤ d.secs.length) := by omega
              go_wp2_with fail
              go_ret
              exact ⟨rfl, HB0.out.trans (HT.out.below.mono HB0.out.size)⟩
        exact AllReadyD.nil
      exact AllReadyD.nil
    exact AllReadyD.nil
  exact AllReadyD.nil
end
end Go.Proofs.Ytagfnobchdfhfaa
