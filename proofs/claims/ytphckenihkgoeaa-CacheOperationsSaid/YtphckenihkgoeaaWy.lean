import Derived.Test.YtphckenihkgoeaaWx
namespace Go.Proofs.Ytphckenihkgoeaa
set_option linter.unusedSimpArgs false
set_option linter.unnecessarySimpa false
set_option linter.unusedVariables false
open Go.RowKit Go.ChangeShapes Go.WideShapes Go.ChangeAt
attribute [local go_sem ↓] Go.wp_at_zero Go.wp_at_succ

theorem fourq {C : Nat} {w w' : World} {v x y z : Value} (h1 : w'.heap[C]? = w.heap[C]?) (h : w.cell? ⟨C, 0, none⟩ = some v ∧ w.cell? ⟨C, 1, none⟩ = some x ∧ w.cell? ⟨C, 2, none⟩ = some y ∧ w.cell? ⟨C, 3, none⟩ = some z) :
    w'.cell? ⟨C, 0, none⟩ = some v ∧ w'.cell? ⟨C, 1, none⟩ = some x ∧ w'.cell? ⟨C, 2, none⟩ = some y ∧ w'.cell? ⟨C, 3, none⟩ = some z :=
  ⟨(World.cell?_of_block h1).trans h.1, (World.cell?_of_block h1).trans h.2.1, (World.cell?_of_block h1).trans h.2.2.1, (World.cell?_of_block h1).trans h.2.2.2⟩
set_option maxRecDepth 100000 in
set_option maxHeartbeats 800000 in
theorem same_cache {S R T : Nat → Prop} {C N : Nat} {d : CM} {v : Value} (w : World) (h : Cw S R C d w N) (hN : N ≤ 800000) (hr : RS w T d v) : Calls Try.prog 17 #[.pointer (some ⟨C, 0, none⟩), v] w fun e w' => e = .returned (.bool true) ∧ Below w.heap.size w w' := by
  obtain ⟨A, c, rs, rfl, hrl, hmap⟩ := hr
  have hlen : rs.length = d.items.length := by rw [← hmap]; simp
  obtain ⟨W1, hW1⟩ : ∃ W, w.alloc (.cells (rcs d.cap (.slice A rs.length c) d.hits d.misses) 42) = W := ⟨_, rfl⟩
  have hX1 : W1.heap[w.heap.size]? = some (.cells (rcs d.cap (.slice A rs.length c) d.hits d.misses) 42 (0, 0)) := by rw [← hW1]; exact heap_alloc_new w _
  have hb1 : Below w.heap.size w W1 := by rw [← hW1]; exact (Below.refl _ _).alloc (Nat.le_refl _) _
  have hl1 := (Array.getElem?_eq_some_iff.1 hX1).1
  have HH := Lib.hid h
  have HKc := Lib.hid (keys_c (h.below hb1) hN)
  rw [← hlen] at HKc
  have hln := h.len
  have hn' : rs.length ≤ 800000 := by omega
  have hsm : ∀ r ∈ rs, SmallP (ri r) := fun r hr => h.good.small (ri r) (by rw [← hmap]; exact List.mem_map.2 ⟨r, hr, rfl⟩)
  have HRL := Lib.hid hrl
  have HMap := Lib.hid hmap
  have HSm := Lib.hid hsm
  have HX1 := Lib.hid hX1
  have HB1 := Lib.hid hb1
  have HW1 := Lib.hid hW1
  have HLen := Lib.hid hlen
  clear h hrl hmap hX1 hb1 hW1 hlen hln hsm
  unfold rcv
  go_enter Try.func17, Try.ntmps17
  go_upto_region 1 with (fail)
  rw [show w.alloc (.cells #[.int .i64 d.cap, .slice A rs.length c, .int .i64 d.hits, .int .i64 d.misses] 42) = W1 from HW1.out]
  go_wp2_with fail
  refine (HKc.out).mono ?_
  rintro e w2 ⟨A1, q1, rfl, hf1, hb2⟩
  have hc2 := (HH.out.below HB1.out).below hb2
  have HHi := Lib.hid (hits_c hc2)
  have HF1 := Lib.hid hf1
  have HB2 := Lib.hid (bstep HB1.out (Nat.le_refl _) hb2)
  have HX2 := Lib.hid ((hb2.block _ hl1).trans HX1.out)
  have HC2 := Lib.hid hc2
  have HS2 := Lib.hid hb2.size
  clear hf1 hb2 hc2
  go_wp2_with fail
  refine (HHi.out).mono ?_
  rintro e w3 ⟨rfl, hb3⟩
  have hs12 := HS2.out
  have hX3 := (hb3.block _ (by omega)).trans HX2.out
  have hc3 := HC2.out.below hb3
  have HT0 := Lib.hid (total_c (w := w3.drew) (hc3.frame (w' := w3.drew) (Nat.le_refl _) fun _ _ _ => rfl))
  have HB3 := Lib.hid (bstep HB2.out (Nat.le_refl _) hb3)
  have HT1 := Lib.hid (rtotal_walk w3.drew T d.cap A c d.hits d.misses rs (HRL.out.frame fun j _ hl => HB3.out.block j hl) (by omega) HSm.out)
  unfold rcv at HT1
  have HF3 := Lib.hid (HF1.out.frame (w' := w3) fun k _ hl => hb3.block k hl)
  have HX3 := Lib.hid hX3
  have hxl := (Array.getElem?_eq_some_iff.1 hX3).1
  obtain ⟨x0, x1, x2, x3, xf⟩ := rcell hX3
  clear hb3 hX3 hc3 hs12
  go_upto_region 3 with (fail)
  refine wp_region_noPanic ?_
  refine wp_region_D 99 (fun w' => w'.cell? ⟨w.heap.size, 0, none⟩ = some (.int .i64 d.cap) ∧ w'.cell? ⟨w.heap.size, 1, none⟩ = some (.slice A rs.length c) ∧ w'.cell? ⟨w.heap.size, 2, none⟩ = some (.int .i64 d.hits) ∧ w'.cell? ⟨w.heap.size, 3, none⟩ = some (.int .i64 d.misses)) (by kernel_rfl) ⟨x0, x1, x2, x3⟩ (fun hU => ?_)
  have hC : (fun w' : World => w'.cell? ⟨w.heap.size, 0, none⟩ = some (.int .i64 d.cap) ∧ w'.cell? ⟨w.heap.size, 1, none⟩ = some (.slice A rs.length c) ∧ w'.cell? ⟨w.heap.size, 2, none⟩ = some (.int .i64 d.hits) ∧ w'.cell? ⟨w.heap.size, 3, none⟩ = some (.int .i64 d.misses)) w3.drew := ⟨x0, x1, x2, x3⟩
  clear hU
  refine wpAnyD_take (i := 0) (dst := some 17) (v := ?_) (fuel := 24) rfl rfl (by kernel_rfl) (fun _ _ _ h => h) (by rfl) ?_ (.inr hC) ?_
  rotate_left
  · (intro w; go_simp; try with_reducible rfl)
  simp only [Act.put, List.setIfInBounds_toArray, List.set_cons_zero, List.set_cons_succ]
  refine wpAnyD_load (i := 2) (dst := some 19) (v := ?_) (fuel := 23) rfl rfl (by kernel_rfl) (fun _ _ _ h => h) (by rfl) ?_ (.inr hC) ?_
  rotate_left
  · intro w hSw
    try dsimp only at hSw
    go_simp
    try with_reducible rfl
  simp only [Act.put, List.setIfInBounds_toArray, List.set_cons_zero, List.set_cons_succ]
  refine wpAnyD_ready (fuel := 22) (rs := [1]) (by kernel_rfl) (by simp) ?_
  refine AllReadyD.cons (o := _) rfl (fun K hK => ?_) ?_
  · go_simp
    go_at_call 21
    with_reducible refine (HT0.out).mono ?_
    rintro e _ ⟨rfl, rfl⟩
    go_simp
    refine shut_C hK ?_ (fun hC => ?_)
    · first
      | exact ⟨x0, x1, x2, x3⟩
      | exact fourq (HB4.out.block _ hxl) ⟨x0, x1, x2, x3⟩
    clear hK K
    try simp only [Act.put, List.setIfInBounds_toArray, List.set_cons_zero, List.set_cons_succ]
    refine wpAnyD_ready (fuel := 21) (rs := [3]) (by kernel_rfl) (by simp) ?_
    refine AllReadyD.cons (o := _) rfl (fun K hK => ?_) ?_
    · go_simp
      go_at_call 29
      with_reducible refine (HT1.out).mono ?_
      rintro e w4 ⟨rfl, hb4⟩
      have hb4 : Below w3.heap.size w3 w4 := ((Below.refl _ w3).drew).trans hb4
      have HB4 := Lib.hid hb4
      clear hb4
      rw [HMap.out]
      go_simp
      refine shut_C hK ?_ (fun hC => ?_)
      · first
        | exact ⟨x0, x1, x2, x3⟩
        | exact fourq (HB4.out.block _ hxl) ⟨x0, x1, x2, x3⟩
      clear hK K
      try simp only [Act.put, List.setIfInBounds_toArray, List.set_cons_zero, List.set_cons_succ]
      refine wpAnyD_take (i := 4) (dst := some 21) (v := ?_) (fuel := 20) rfl rfl (by kernel_rfl) (fun _ _ _ h => h) (by rfl) ?_ (.inr hC) ?_
      rotate_left
      · (intro w; go_simp; try with_reducible rfl)
      simp only [Act.put, List.setIfInBounds_toArray, List.set_cons_zero, List.set_cons_succ]
      refine wpAnyD_take (i := 5) (dst := some 22) (v := ?_) (fuel := 19) rfl rfl (by kernel_rfl) (fun _ _ _ h => h) (by rfl) ?_ (.inr hC) ?_
      rotate_left
      · (intro w; go_simp; try with_reducible rfl)
      simp only [Act.put, List.setIfInBounds_toArray, List.set_cons_zero, List.set_cons_succ]
      refine wpAnyD_take (i := 6) (dst := some 23) (v := ?_) (fuel := 18) rfl rfl (by kernel_rfl) (fun _ _ _ h => h) (by rfl) ?_ (.inr hC) ?_
      rotate_left
      · (intro w; go_simp; try with_reducible rfl)
      simp only [Act.put, List.setIfInBounds_toArray, List.set_cons_zero, List.set_cons_succ]
      refine wpAnyD_take (i := 7) (dst := some 24) (v := ?_) (fuel := 17) rfl rfl (by kernel_rfl) (fun _ _ _ h => h) (by rfl) ?_ (.inr hC) ?_
      rotate_left
      · (intro w; go_simp; try with_reducible rfl)
      simp only [Act.put, List.setIfInBounds_toArray, List.set_cons_zero, List.set_cons_succ]
      refine wpAnyD_load (i := 8) (dst := some 25) (v := ?_) (fuel := 16) rfl rfl (by kernel_rfl) (fun _ _ _ h => h) (by rfl) ?_ (.inr hC) ?_
      rotate_left
      · intro w hSw
        try dsimp only at hSw
        go_simp
        try with_reducible rfl
      simp only [Act.put, List.setIfInBounds_toArray, List.set_cons_zero, List.set_cons_succ]
      refine wpAnyD_take (i := 9) (dst := some 26) (v := ?_) (fuel := 15) rfl rfl (by kernel_rfl) (fun _ _ _ h => h) (by rfl) ?_ (.inr hC) ?_
      rotate_left
      · (intro w; go_simp; try with_reducible rfl)
      simp only [Act.put, List.setIfInBounds_toArray, List.set_cons_zero, List.set_cons_succ]
      refine wpAnyD_take (i := 10) (dst := some 27) (v := ?_) (fuel := 14) rfl rfl (by kernel_rfl) (fun _ _ _ h => h) (by rfl) ?_ (.inr hC) ?_
      rotate_left
      · (intro w; go_simp; try with_reducible rfl)
      simp only [Act.put, List.setIfInBounds_toArray, List.set_cons_zero, List.set_cons_succ]
      refine wpAnyD_take (i := 11) (dst := some 28) (v := ?_) (fuel := 13) rfl rfl (by kernel_rfl) (fun _ _ _ h => h) (by rfl) ?_ (.inr hC) ?_
      rotate_left
      · (intro w; go_simp; try with_reducible rfl)
      simp only [Act.put, List.setIfInBounds_toArray, List.set_cons_zero, List.set_cons_succ]
      refine wpAnyD_take (i := 12) (dst := some 29) (v := ?_) (fuel := 12) rfl rfl (by kernel_rfl) (fun _ _ _ h => h) (by rfl) ?_ (.inr hC) ?_
      rotate_left
      · (intro w; go_simp; try with_reducible rfl)
      simp only [Act.put, List.setIfInBounds_toArray, List.set_cons_zero, List.set_cons_succ]
      refine wpAnyD_take (i := 13) (dst := some 30) (v := ?_) (fuel := 11) rfl rfl (by kernel_rfl) (fun _ _ _ h => h) (by rfl) ?_ (.inr hC) ?_
      rotate_left
      · (intro w; go_simp; try with_reducible rfl)
      simp only [Act.put, List.setIfInBounds_toArray, List.set_cons_zero, List.set_cons_succ]
      refine wpAnyD_load (i := 14) (dst := some 31) (v := ?_) (fuel := 10) rfl rfl (by kernel_rfl) (fun _ _ _ h => h) (by rfl) ?_ (.inr hC) ?_
      rotate_left
      · intro w hSw
        try dsimp only at hSw
        go_simp
        try with_reducible rfl
      simp only [Act.put, List.setIfInBounds_toArray, List.set_cons_zero, List.set_cons_succ]
      refine wpAnyD_take (i := 15) (dst := some 32) (v := ?_) (fuel := 9) rfl rfl (by kernel_rfl) (fun _ _ _ h => h) (by rfl) ?_ (.inr hC) ?_
      rotate_left
      · (intro w; go_simp; try with_reducible rfl)
      simp only [Act.put, List.setIfInBounds_toArray, List.set_cons_zero, List.set_cons_succ]
      refine wpAnyD_take (i := 16) (dst := some 33) (v := ?_) (fuel := 8) rfl rfl (by kernel_rfl) (fun _ _ _ h => h) (by rfl) ?_ (.inr hC) ?_
      rotate_left
      · (intro w; go_simp; try with_reducible rfl)
      simp only [Act.put, List.setIfInBounds_toArray, List.set_cons_zero, List.set_cons_succ]
      refine wpAnyD_take (i := 17) (dst := some 34) (v := ?_) (fuel := 7) rfl rfl (by kernel_rfl) (fun _ _ _ h => h) (by rfl) ?_ (.inr hC) ?_
      rotate_left
      · (intro w; go_simp; try with_reducible rfl)
      simp only [Act.put, List.setIfInBounds_toArray, List.set_cons_zero, List.set_cons_succ]
      refine wpAnyD_take (i := 18) (dst := some 35) (v := ?_) (fuel := 6) rfl rfl (by kernel_rfl) (fun _ _ _ h => h) (by rfl) ?_ (.inr hC) ?_
      rotate_left
      · (intro w; go_simp; try with_reducible rfl)
      simp only [Act.put, List.setIfInBounds_toArray, List.set_cons_zero, List.set_cons_succ]
      refine wpAnyD_take (i := 19) (dst := some 36) (v := ?_) (fuel := 5) rfl rfl (by kernel_rfl) (fun _ _ _ h => h) (by rfl) ?_ (.inr hC) ?_
      rotate_left
      · (intro w; go_simp; try with_reducible rfl)
      simp only [Act.put, List.setIfInBounds_toArray, List.set_cons_zero, List.set_cons_succ]
      refine wpAnyD_take (i := 20) (dst := some 37) (v := ?_) (fuel := 4) rfl rfl (by kernel_rfl) (fun _ _ _ h => h) (by rfl) ?_ (.inr hC) ?_
      rotate_left
      · (intro w; go_simp; try with_reducible rfl)
      simp only [Act.put, List.setIfInBounds_toArray, List.set_cons_zero, List.set_cons_succ]
      refine wpAnyD_load (i := 21) (dst := some 38) (v := ?_) (fuel := 3) rfl rfl (by kernel_rfl) (fun _ _ _ h => h) (by rfl) ?_ (.inr hC) ?_
      rotate_left
      · intro w hSw
        try dsimp only at hSw
        go_simp
        try with_reducible rfl
      simp only [Act.put, List.setIfInBounds_toArray, List.set_cons_zero, List.set_cons_succ]
      refine wpAnyD_take (i := 22) (dst := some 39) (v := ?_) (fuel := 2) rfl rfl (by kernel_rfl) (fun _ _ _ h => h) (by rfl) ?_ (.inr hC) ?_
      rotate_left
      · (intro w; go_simp; try with_reducible rfl)
      simp only [Act.put, List.setIfInBounds_toArray, List.set_cons_zero, List.set_cons_succ]
      refine wpAnyD_take (i := 23) (dst := some 40) (v := ?_) (fuel := 1) rfl rfl (by kernel_rfl) (fun _ _ _ h => h) (by rfl) ?_ (.inr hC) ?_
      rotate_left
      · (intro w; go_simp; try with_reducible rfl)
      simp only [Act.put, List.setIfInBounds_toArray, List.set_cons_zero, List.set_cons_succ]
      refine wpAnyD_take (i := 24) (dst := some 41) (v := ?_) (fuel := 0) rfl rfl (by kernel_rfl) (fun _ _ _ h => h) (by rfl) ?_ (.inr hC) ?_
      rotate_left
      · (intro w; go_simp; try with_reducible rfl)
      simp only [Act.put, List.setIfInBounds_toArray, List.set_cons_zero, List.set_cons_succ]
      refine wpAnyD_done (by kernel_rfl) ?_ _
      refine NoPanic.normal ?_
      have hX4 := (HB4.out.block _ hxl).trans HX3.out
      have HB04 := Lib.hid (HB3.out.trans (HB4.out.mono HB3.out.size))
      have HX4 := Lib.hid hX4
      clear x0 x1 x2 x3 xf
      obtain ⟨x0, x1, x2, x3, xf⟩ := rcell hX4
      clear hX4 hC
      go_wp2_with fail
      go_loopw [45, 8] (fun i _ wr => ∃ j : Nat, j ≤ rs.length ∧ i = .int .i64 (j : Int) ∧ Below w.heap.size w wr ∧ Below w4.heap.size w4 wr) (fun i _ _ => rs.length - (intOf i).toNat)
      case atStart => exact ⟨0, Nat.zero_le _, rfl, HB04.out, Below.refl _ _⟩
      case round =>
        obtain ⟨j, hj, rfl, hbw, hb4⟩ := hrel
        have HBW := Lib.hid hbw
        have HB4W := Lib.hid hb4
        clear hbw hb4
        by_cases hlt : j < rs.length
        · have hjl : (j : Int) < rs.length := by omega
          obtain ⟨r, hr⟩ : ∃ r, rs[j]? = some r := ⟨_, List.getElem?_eq_getElem hlt⟩
          obtain ⟨ad, rfl, _, p0, p1, p2, p3⟩ := ri_cells (HRL.out.frame (w' := wr) fun k _ hl => HBW.out.block k hl).fl hr
          have hkj : (keys d.items)[j]? = some r.key := by rw [← HMap.out]; simp [keys, hr, ri]
          obtain ⟨W5, hW5⟩ : ∃ W, wr.alloc (.cells #[.int .i64 r.key.1, .int .i64 r.key.2.1, .int .i64 r.key.2.2, .slice r.A r.l.length r.c] 75) = W := ⟨_, rfl⟩
          have hbx : RBox W5 wr.heap.size r := by rw [← hW5]; exact heap_alloc_new wr _
          have hb5 : Below wr.heap.size wr W5 := by rw [← hW5]; exact (Below.refl _ _).alloc (Nat.le_refl _) _
          have HB5 := Lib.hid (HBW.out.trans (hb5.mono HBW.out.size))
          have HB45 := Lib.hid (HB4W.out.trans (hb5.mono HB4W.out.size))
          have hf5 := ((HF3.out.frame (w' := w4) fun k _ hl => HB4.out.block k hl).frame (w' := wr) fun k _ hl => HB4W.out.block k hl).frame (w' := W5) fun k _ hl => hb5.block k hl
          obtain ⟨a1, rfl, _, k0, k1, k2⟩ := keys_cells hf5 hkj
          have hal : a1.block < W5.heap.size := by have := World.block_lt_of_cell? W5 _ k0; rwa [add_block] at this
          have hyl : wr.heap.size < W5.heap.size := (Array.getElem?_eq_some_iff.1 hbx).1
          have y0 : W5.cell? ⟨wr.heap.size, 0, none⟩ = some (.int .i64 r.key.1) := by rw [cell_of_row W5 _ 0 _ _ _ hbx]; rfl
          have y1 : W5.cell? ⟨wr.heap.size, 1, none⟩ = some (.int .i64 r.key.2.1) := by rw [cell_of_row W5 _ 1 _ _ _ hbx]; rfl
          have y2 : W5.cell? ⟨wr.heap.size, 2, none⟩ = some (.int .i64 r.key.2.2) := by rw [cell_of_row W5 _ 2 _ _ _ hbx]; rfl
          have HKw := Lib.hid (key_walk W5.drew r.key)
          unfold kv at HKw
          have hne := fun W => ne33 r.key r.key W
          simp only [ne_eq, not_true_eq_false, decide_false] at hne
          unfold kv at hne
          have HW5 := Lib.hid hW5
          clear hr hkj hbx hb5 hf5 hW5
          go_upto_region 8 with (fail)
          rw [HW5.out]
          clear p0 p1 p2 p3
          refine wp_region_noPanic ?_
          refine wp_region_D 99 (fun w' => w'.cell? (a1.add (j * 3)) = some (.int .i64 r.key.1) ∧ w'.cell? ⟨(a1.add (j * 3)).block, (a1.add (j * 3)).off + 1, none⟩ = some (.int .i64 r.key.2.1) ∧ w'.cell? ⟨(a1.add (j * 3)).block, (a1.add (j * 3)).off + 2, none⟩ = some (.int .i64 r.key.2.2) ∧ w'.cell? ⟨wr.heap.size, 0, none⟩ = some (.int .i64 r.key.1) ∧ w'.cell? ⟨wr.heap.size, 1, none⟩ = some (.int .i64 r.key.2.1) ∧ w'.cell? ⟨wr.heap.size, 2, none⟩ = some (.int .i64 r.key.2.2)) (by kernel_rfl) ⟨k0, k1, k2, y0, y1, y2⟩ (fun hU => ?_)
          have hC : (fun w' : World => w'.cell? (a1.add (j * 3)) = some (.int .i64 r.key.1) ∧ w'.cell? ⟨(a1.add (j * 3)).block, (a1.add (j * 3)).off + 1, none⟩ = some (.int .i64 r.key.2.1) ∧ w'.cell? ⟨(a1.add (j * 3)).block, (a1.add (j * 3)).off + 2, none⟩ = some (.int .i64 r.key.2.2) ∧ w'.cell? ⟨wr.heap.size, 0, none⟩ = some (.int .i64 r.key.1) ∧ w'.cell? ⟨wr.heap.size, 1, none⟩ = some (.int .i64 r.key.2.1) ∧ w'.cell? ⟨wr.heap.size, 2, none⟩ = some (.int .i64 r.key.2.2)) W5.drew := ⟨k0, k1, k2, y0, y1, y2⟩
          clear hU
          refine wpAnyD_take (i := 0) (dst := some 50) (v := ?_) (fuel := 7) rfl rfl (by kernel_rfl) (fun _ _ _ h => h) (by rfl) ?_ (.inr hC) ?_
          rotate_left
          · (intro w; go_simp; try with_reducible rfl)
          simp only [Act.put, List.setIfInBounds_toArray, List.set_cons_zero, List.set_cons_succ]
          refine wpAnyD_take (i := 1) (dst := some 51) (v := ?_) (fuel := 6) rfl rfl (by kernel_rfl) (fun _ _ _ h => h) (by rfl) ?_ (.inr hC) ?_
          rotate_left
          · (intro w; go_simp; try with_reducible rfl)
          simp only [Act.put, List.setIfInBounds_toArray, List.set_cons_zero, List.set_cons_succ]
          refine wpAnyD_take (i := 2) (dst := some 52) (v := ?_) (fuel := 5) rfl rfl (by kernel_rfl) (fun _ _ _ h => h) (by rfl) ?_ (.inr hC) ?_
          rotate_left
          · (intro w; go_simp; try with_reducible rfl)
          simp only [Act.put, List.setIfInBounds_toArray, List.set_cons_zero, List.set_cons_succ]
          refine wpAnyD_load (i := 3) (dst := some 53) (v := ?_) (fuel := 4) rfl rfl (by kernel_rfl) (fun _ _ _ h => h) (by rfl) ?_ (.inr hC) ?_
          rotate_left
          · intro w hSw
            try dsimp only at hSw
            go_simp
            try with_reducible rfl
          simp only [Act.put, List.setIfInBounds_toArray, List.set_cons_zero, List.set_cons_succ]
          refine wpAnyD_take (i := 4) (dst := some 54) (v := ?_) (fuel := 3) rfl rfl (by kernel_rfl) (fun _ _ _ h => h) (by rfl) ?_ (.inr hC) ?_
          rotate_left
          · (intro w; go_simp; try with_reducible rfl)
          simp only [Act.put, List.setIfInBounds_toArray, List.set_cons_zero, List.set_cons_succ]
          refine wpAnyD_load (i := 5) (dst := some 55) (v := ?_) (fuel := 2) rfl rfl (by kernel_rfl) (fun _ _ _ h => h) (by rfl) ?_ (.inr hC) ?_
          rotate_left
          · intro w hSw
            try dsimp only at hSw
            go_simp
            try with_reducible rfl
          simp only [Act.put, List.setIfInBounds_toArray, List.set_cons_zero, List.set_cons_succ]
          refine wpAnyD_ready (fuel := 1) (rs := [6]) (by kernel_rfl) (by simp) ?_
          refine AllReadyD.cons (o := _) rfl (fun K hK => ?_) ?_
          · go_simp
            go_at_call 19
            with_reducible refine (HKw.out).mono ?_
            rintro e w6 ⟨rfl, hb6⟩
            have hb6 : Below W5.heap.size W5 w6 := ((Below.refl _ W5).drew).trans hb6
            have HB6 := Lib.hid hb6
            clear hb6
            go_simp
            refine shut_C hK ?_ (fun hC => ?_)
            · exact ⟨(World.cell?_of_block (by rw [add_block]; exact HB6.out.block _ hal)).trans k0, (World.cell?_of_block (by show w6.heap[(a1.add (j * 3)).block]? = _; rw [add_block]; exact HB6.out.block _ hal)).trans k1, (World.cell?_of_block (by show w6.heap[(a1.add (j * 3)).block]? = _; rw [add_block]; exact HB6.out.block _ hal)).trans k2, (World.cell?_of_block (HB6.out.block _ hyl)).trans y0, (World.cell?_of_block (HB6.out.block _ hyl)).trans y1, (World.cell?_of_block (HB6.out.block _ hyl)).trans y2⟩
            clear hK K
            try simp only [Act.put, List.setIfInBounds_toArray, List.set_cons_zero, List.set_cons_succ]
            refine wpAnyD_take (i := 7) (dst := some 57) (v := ?_) (fuel := 0) rfl rfl (by kernel_rfl) (fun _ _ _ h => h) (by rfl) ?_ (.inr hC) ?_
            rotate_left
            · (intro w; go_simp; try with_reducible rfl)
            simp only [Act.put, List.setIfInBounds_toArray, List.set_cons_zero, List.set_cons_succ]
            refine wpAnyD_done (by kernel_rfl) ?_ _
            refine NoPanic.normal ?_
            go_wp2_with fail
            go_roundw
            case rel => exact ⟨j + 1, by omega, by go_num, HB5.out.trans (HB6.out.mono HB5.out.size), HB45.out.trans (HB6.out.mono HB45.out.size)⟩
            case measure => simp [intOf]; omega
          exact AllReadyD.nil
        · obtain rfl : j = rs.length := by omega
          go_wp2_with fail
          go_ret
          exact ⟨rfl, HBW.out⟩
    exact AllReadyD.nil
  exact AllReadyD.nil
end Go.Proofs.Ytphckenihkgoeaa
