import Derived.Test.YtphckenihkgoeaaXa
namespace Go.Proofs.Ytphckenihkgoeaa
set_option linter.unusedSimpArgs false
set_option linter.unnecessarySimpa false
set_option linter.unusedVariables false
open Go.RowKit Go.ChangeShapes Go.WideShapes Go.ChangeAt
attribute [local go_sem ↓] Go.wp_at_zero Go.wp_at_succ

section
variable {S R T : Nat → Prop} {C N : Nat} {d : CM} {v : Value}
set_option maxRecDepth 100000 in
set_option maxHeartbeats 800000 in
theorem do_put (w : World) (h : Cw S R C d w N) (hN : N ≤ 700000) (hr : RS w T d v) (hT : ∀ j, T j → j < w.heap.size ∧ ¬ S j) (o : OpC) (hwf : wfK o.key) (hkd : o.kind % 3 = 1) (hsm : SmallP (o.key, o.list)) (hls : Chgs w T o.lA o.list) : Calls Try.prog 23 #[.pointer (some ⟨C, 0, none⟩), v, .agg (ocells o)] w fun e w' => DoR S R T w C (putF d o.key o.list) N e w' := by
  have hln := h.len
  have hgood := h.good
  obtain ⟨A, c, rs, rfl, hrl, hmap⟩ := hr
  obtain ⟨W1, hW1⟩ : ∃ W, ((w.alloc (.cells (rcs d.cap (.slice A rs.length c) d.hits d.misses) 42)).alloc (.cells (ocells o) 50)).alloc (.cells zr42 42) = W := ⟨_, rfl⟩
  have hs1 : W1.heap.size = w.heap.size + 3 := by rw [← hW1]; simp
  have hb1 : Below w.heap.size w W1 := by rw [← hW1]; exact (((Below.refl _ _).alloc (Nat.le_refl _) _).alloc (by simp) _).alloc (by simp; omega) _
  have hX1 : W1.heap[w.heap.size]? = some (.cells (rcs d.cap (.slice A rs.length c) d.hits d.misses) 42 (0, 0)) := by
    rw [← hW1, Below.heap_alloc _ _ _ (by simp; omega), Below.heap_alloc _ _ _ (by simp)]; exact heap_alloc_new w _
  have hO1 : W1.heap[w.heap.size + 1]? = some (.cells (ocells o) 50 (0, 0)) := by
    rw [← hW1, Below.heap_alloc _ _ _ (by simp)]
    have := heap_alloc_new (w.alloc (.cells (rcs d.cap (.slice A rs.length c) d.hits d.misses) 42)) (.cells (ocells o) 50)
    simpa using this
  have hZ1 : W1.heap[w.heap.size + 1 + 1]? = some (.cells zr42 42 (0, 0)) := by
    rw [← hW1]
    have := heap_alloc_new ((w.alloc (.cells (rcs d.cap (.slice A rs.length c) d.hits d.misses) 42)).alloc (.cells (ocells o) 50)) (.cells zr42 42)
    simpa using this
  have HS1 := Lib.hid hs1
  have HB1 := Lib.hid hb1
  have HX1 := Lib.hid hX1
  have HO1 := Lib.hid hO1
  have HZ1 := Lib.hid hZ1
  have HW1 := Lib.hid hW1
  clear hs1 hb1 hX1 hO1 hZ1 hW1
  have HRL := Lib.hid hrl
  have HMap := Lib.hid hmap
  have HH1 := Lib.hid (h.below HB1.out)
  have HLt := Lib.hid h.lt
  have HTT := Lib.hid hT
  have HLs := Lib.hid hls
  have HKw := Lib.hid (key_walk W1.drew o.key)
  unfold kv at HKw
  have hkk : ((o.kind : Int) % 3) = 1 := by omega
  clear h hrl hmap hT hls hkd
  unfold rcv ocells
  go_enter Try.func23, Try.ntmps23
  go_upto_region 1 with (fail)
  rw [show ((w.alloc (.cells #[.int .i64 d.cap, .slice A rs.length c, .int .i64 d.hits, .int .i64 d.misses] 42)).alloc (.cells #[.int .u8 (o.kind : Int), .int .i64 o.key.1, .int .i64 o.key.2.1, .int .i64 o.key.2.2, .slice o.lA o.list.length o.lc, .int .i64 o.from_, .int .i64 o.to_] 50)).alloc (.cells #[.int .i64 0, .slice none 0 0, .int .i64 0, .int .i64 0] 42) = W1 from HW1.out]
  obtain ⟨x0, x1, x2, x3, xf⟩ := rcell HX1.out
  obtain ⟨k0, k1, k2, k3, k4, k5, k6⟩ := ocell HO1.out
  go_upto_region 7 with (fail)
  refine wp_region_noPanic ?_
  refine wp_region_D 99 (fun w' => w'.cell? ⟨w.heap.size + 1, 1, none⟩ = some (.int .i64 o.key.1) ∧ w'.cell? ⟨w.heap.size + 1, 2, none⟩ = some (.int .i64 o.key.2.1) ∧ w'.cell? ⟨w.heap.size + 1, 3, none⟩ = some (.int .i64 o.key.2.2) ∧ w'.cell? ⟨w.heap.size + 1, 4, none⟩ = some (.slice o.lA o.list.length o.lc)) (by kernel_rfl) ⟨k1, k2, k3, k4⟩ (fun hU => ?_)
  have hC : (fun w' : World => w'.cell? ⟨w.heap.size + 1, 1, none⟩ = some (.int .i64 o.key.1) ∧ w'.cell? ⟨w.heap.size + 1, 2, none⟩ = some (.int .i64 o.key.2.1) ∧ w'.cell? ⟨w.heap.size + 1, 3, none⟩ = some (.int .i64 o.key.2.2) ∧ w'.cell? ⟨w.heap.size + 1, 4, none⟩ = some (.slice o.lA o.list.length o.lc)) W1.drew := ⟨k1, k2, k3, k4⟩
  clear hU
  refine wpAnyD_take (i := 0) (dst := some 47) (v := ?_) (fuel := 6) rfl rfl (by kernel_rfl) (fun _ _ _ h => h) (by rfl) ?_ (.inr hC) ?_
  rotate_left
  · (intro w; go_simp; try with_reducible rfl)
  simp only [Act.put, List.setIfInBounds_toArray, List.set_cons_zero, List.set_cons_succ]
  refine wpAnyD_take (i := 1) (dst := some 48) (v := ?_) (fuel := 5) rfl rfl (by kernel_rfl) (fun _ _ _ h => h) (by rfl) ?_ (.inr hC) ?_
  rotate_left
  · (intro w; go_simp; try with_reducible rfl)
  simp only [Act.put, List.setIfInBounds_toArray, List.set_cons_zero, List.set_cons_succ]
  refine wpAnyD_load (i := 2) (dst := some 49) (v := ?_) (fuel := 4) rfl rfl (by kernel_rfl) (fun _ _ _ h => h) (by rfl) ?_ (.inr hC) ?_
  rotate_left
  · intro w hSw
    try dsimp only at hSw
    go_simp
    try with_reducible rfl
  simp only [Act.put, List.setIfInBounds_toArray, List.set_cons_zero, List.set_cons_succ]
  refine wpAnyD_take (i := 4) (dst := some 51) (v := ?_) (fuel := 3) rfl rfl (by kernel_rfl) (fun _ _ _ h => h) (by rfl) ?_ (.inr hC) ?_
  rotate_left
  · (intro w; go_simp; try with_reducible rfl)
  simp only [Act.put, List.setIfInBounds_toArray, List.set_cons_zero, List.set_cons_succ]
  refine wpAnyD_load (i := 5) (dst := some 52) (v := ?_) (fuel := 2) rfl rfl (by kernel_rfl) (fun _ _ _ h => h) (by rfl) ?_ (.inr hC) ?_
  rotate_left
  · intro w hSw
    try dsimp only at hSw
    go_simp
    try with_reducible rfl
  simp only [Act.put, List.setIfInBounds_toArray, List.set_cons_zero, List.set_cons_succ]
  refine wpAnyD_ready (fuel := 1) (rs := [3]) (by kernel_rfl) (by simp) ?_
  refine AllReadyD.cons (o := _) rfl (fun K hK => ?_) ?_
  · go_simp
    go_at_call 19
    with_reducible refine (HKw.out).mono ?_
    rintro e w3 ⟨rfl, hb3⟩
    have hb3 : Below W1.heap.size W1 w3 := ((Below.refl _ W1).drew).trans hb3
    have HB3 := Lib.hid hb3
    clear hb3
    go_simp
    refine shut_C hK ?_ (fun hC => ?_)
    · first
      | (obtain ⟨_, q1, q2, q3, q4, _, _⟩ := ocell ((HB3.out.block _ (by have := HS1.out; omega)).trans HO1.out)
         exact ⟨q1, q2, q3, q4⟩)
      | (obtain ⟨_, q1, q2, q3, q4, _, _⟩ := ocell HO4.out
         exact ⟨q1, q2, q3, q4⟩)
    clear hK K
    try simp only [Act.put, List.setIfInBounds_toArray, List.set_cons_zero, List.set_cons_succ]
    refine wpAnyD_ready (fuel := 0) (rs := [6]) (by kernel_rfl) (by simp) ?_
    refine AllReadyD.cons (o := _) rfl (fun K hK => ?_) ?_
    · go_simp
      go_at_call 14
      have hput := put_c (HH1.out.below HB3.out) (by omega) o.key hwf T o.lA o.lc o.list (HLs.out.frame (w' := w3) fun j hj hl => (HB1.out.trans (HB3.out.mono HB1.out.size)).block j hl) (fun j hj hs => (HTT.out j hj).2 hs) hsm
      unfold kv at hput
      with_reducible refine hput.mono ?_
      rintro e w4 ⟨S', R', rfl, hx4, hc4⟩
      have HX4 := Lib.hid hx4
      have HC4 := Lib.hid hc4
      have hO4 : w4.heap[w.heap.size + 1]? = some (.cells (ocells o) 50 (0, 0)) := (hx4.touch.block _ (by have := HB3.out.size; have := HS1.out; omega) fun hs => by have := HLt.out _ (.inl hs); omega).trans ((HB3.out.block _ (by have := HS1.out; omega)).trans HO1.out)
      have HO4 := Lib.hid hO4
      clear hx4 hc4 hput hO4
      go_simp
      refine shut_C hK ?_ (fun hC => ?_)
      · first
        | (obtain ⟨_, q1, q2, q3, q4, _, _⟩ := ocell ((HB3.out.block _ (by have := HS1.out; omega)).trans HO1.out)
           exact ⟨q1, q2, q3, q4⟩)
        | (obtain ⟨_, q1, q2, q3, q4, _, _⟩ := ocell HO4.out
           exact ⟨q1, q2, q3, q4⟩)
      clear hK K
      try simp only [Act.put, List.setIfInBounds_toArray, List.set_cons_zero, List.set_cons_succ]
      refine wpAnyD_done (by kernel_rfl) ?_ _
      refine NoPanic.normal ?_
      have hs1 := HS1.out
      have hs3 := HB3.out.size
      have hs4 := HX4.out.touch.size
      have hS1 : ∀ j, S j → j < w.heap.size := fun j hj => HLt.out j (.inl hj)
      have hX4 : w4.heap[w.heap.size]? = some (.cells (rcs d.cap (.slice A rs.length c) d.hits d.misses) 42 (0, 0)) := (HX4.out.touch.block _ (by omega) fun hs => by have := hS1 _ hs; omega).trans ((HB3.out.block _ (by omega)).trans HX1.out)
      have hZ4 : w4.heap[w.heap.size + 1 + 1]? = some (.cells zr42 42 (0, 0)) := (HX4.out.touch.block _ (by omega) fun hs => by have := hS1 _ hs; omega).trans ((HB3.out.block _ (by omega)).trans HZ1.out)
      have hfr : ∀ j, T j → j < w.heap.size → w4.heap[j]? = w.heap[j]? := fun j hj hl => (HX4.out.touch.block j (by omega) (HTT.out j hj).2).trans ((HB1.out.trans (HB3.out.mono HB1.out.size)).block j hl)
      have hrs4 : RS w4 T d (rcv d.cap (.slice A rs.length c) d.hits d.misses) := ⟨A, c, rs, rfl, HRL.out.frame hfr, HMap.out⟩
      have HPut := Lib.hid (rput_walk w4 T (fun j hj => by have := (HTT.out j hj).1; omega) d _ o.key hrs4 hgood (by omega) o.lA o.lc o.list (HLs.out.frame hfr) hsm)
      unfold rcv kv at HPut
      have HZ4 := Lib.hid hZ4
      clear x0 x1 x2 x3 xf k0 k1 k2 k3 k4 k5 k6 hC
      obtain ⟨x0, x1, x2, x3, xf⟩ := rcell hX4
      obtain ⟨k0, k1, k2, k3, k4, k5, k6⟩ := ocell HO4.out
      clear hX4 hZ4 hfr hrs4
      go_wp2_with fail
      refine (HPut.out).mono ?_
      rintro e w5 ⟨v', rfl, hb5, hrs5⟩
      obtain ⟨A2, c2, rs2, rfl, hrl5, hmap5⟩ := hrs5
      have hs5 := hb5.size
      obtain ⟨z0, z1, z2, z3, zf⟩ := rcell ((hb5.block _ (by omega)).trans HZ4.out)
      have HB5 := Lib.hid hb5
      have HRL5 := Lib.hid hrl5
      have HMap5 := Lib.hid hmap5
      clear hb5 hrl5 hmap5
      unfold rcv
      go_wp2_with fail
      refine bodyPost_ret (v := .tuple #[rcv (putF d o.key o.list).cap (.slice A2 rs2.length c2) (putF d o.key o.list).hits (putF d o.key o.list).misses, .bool true]) (by simp [rcv, results, Try.results23, go_sem, z0, z1, z2, z3]) rfl ?_
      have ht5 : Touch S w w5 := ((Touch.of_below (S := S) (HB1.out.trans (HB3.out.mono HB1.out.size))).trans HX4.out.touch fun _ _ h => h).trans (.of_below HB5.out) (S' := fun _ => False) (fun _ _ h => h.elim)
      refine dor_fin (w6 := w5) (S' := S') (R' := R') (T' := more T w4 w5) (fun k hk => (HX4.out.s k hk).imp id fun h => by omega) (fun k hk => (HX4.out.r k hk).imp id fun h => by omega) HLt.out (HC4.out.below HB5.out) ⟨A2, c2, rs2, rfl, HRL5.out, HMap5.out⟩ (fun j hj => ⟨hj.imp id fun h => by omega, ?_, ?_⟩) (fun j hj => (HTT.out j hj).1) (fun j hj => ?_) ?_ ?_
      · rcases hj with hj | hj
        · have := (HTT.out j hj).1; omega
        · exact hj.2
      · intro hs
        rcases hj with hj | hj
        · rcases HX4.out.s j hs with h | h
          · exact (HTT.out j hj).2 h
          · have := (HTT.out j hj).1; omega
        · have := HC4.out.lt j (.inl hs); omega
      · repeat (rw [Below.heap_setCell _ _ _ _ (by exact hj)])
      · simp
      · repeat (refine Touch.setCell ?_ (.inr (by simp; try omega)) _)
        exact ht5
    exact AllReadyD.nil
  exact AllReadyD.nil
set_option maxRecDepth 100000 in
set_option maxHeartbeats 800000 in
theorem do_drop (w : World) (h : Cw S R C d w N) (hN : N ≤ 700000) (hr : RS w T d v) (hT : ∀ j, T j → j < w.heap.size ∧ ¬ S j) (o : OpC) (hkd : o.kind % 3 = 2) : Calls Try.prog 23 #[.pointer (some ⟨C, 0, none⟩), v, .agg (ocells o)] w fun e w' => DoR S R T w C (dropF d o.from_ o.to_) N e w' := by
  have hln := h.len
  have hgood := h.good
  obtain ⟨A, c, rs, rfl, hrl, hmap⟩ := hr
  obtain ⟨W1, hW1⟩ : ∃ W, ((w.alloc (.cells (rcs d.cap (.slice A rs.length c) d.hits d.misses) 42)).alloc (.cells (ocells o) 50)).alloc (.cells zr42 42) = W := ⟨_, rfl⟩
  have hs1 : W1.heap.size = w.heap.size + 3 := by rw [← hW1]; simp
  have hb1 : Below w.heap.size w W1 := by rw [← hW1]; exact (((Below.refl _ _).alloc (Nat.le_refl _) _).alloc (by simp) _).alloc (by simp; omega) _
  have hX1 : W1.heap[w.heap.size]? = some (.cells (rcs d.cap (.slice A rs.length c) d.hits d.misses) 42 (0, 0)) := by
    rw [← hW1, Below.heap_alloc _ _ _ (by simp; omega), Below.heap_alloc _ _ _ (by simp)]; exact heap_alloc_new w _
  have hO1 : W1.heap[w.heap.size + 1]? = some (.cells (ocells o) 50 (0, 0)) := by
    rw [← hW1, Below.heap_alloc _ _ _ (by simp)]
    have := heap_alloc_new (w.alloc (.cells (rcs d.cap (.slice A rs.length c) d.hits d.misses) 42)) (.cells (ocells o) 50)
    simpa using this
  have hZ1 : W1.heap[w.heap.size + 1 + 1]? = some (.cells zr42 42 (0, 0)) := by
    rw [← hW1]
    have := heap_alloc_new ((w.alloc (.cells (rcs d.cap (.slice A rs.length c) d.hits d.misses) 42)).alloc (.cells (ocells o) 50)) (.cells zr42 42)
    simpa using this
  have HS1 := Lib.hid hs1
  have HB1 := Lib.hid hb1
  have HX1 := Lib.hid hX1
  have HO1 := Lib.hid hO1
  have HZ1 := Lib.hid hZ1
  have HW1 := Lib.hid hW1
  clear hs1 hb1 hX1 hO1 hZ1 hW1
  have hrs1 : RS W1 T d (rcv d.cap (.slice A rs.length c) d.hits d.misses) := ⟨A, c, rs, rfl, hrl.frame fun j hj hl => HB1.out.block j hl, hmap⟩
  have HRd := Lib.hid (rdrop_walk W1 T (fun j hj => by have := (hT j hj).1; have := HS1.out; omega) d _ hrs1 (by omega) o.from_ o.to_)
  unfold rcv at HRd
  have HH1 := Lib.hid (h.below HB1.out)
  have HLt := Lib.hid h.lt
  have HTT := Lib.hid hT
  have hkk : ((o.kind : Int) % 3) = 2 := by omega
  clear h hrl hmap hT hkd hrs1
  unfold rcv ocells
  go_enter Try.func23, Try.ntmps23
  go_upto_region 1 with (fail)
  rw [show ((w.alloc (.cells #[.int .i64 d.cap, .slice A rs.length c, .int .i64 d.hits, .int .i64 d.misses] 42)).alloc (.cells #[.int .u8 (o.kind : Int), .int .i64 o.key.1, .int .i64 o.key.2.1, .int .i64 o.key.2.2, .slice o.lA o.list.length o.lc, .int .i64 o.from_, .int .i64 o.to_] 50)).alloc (.cells #[.int .i64 0, .slice none 0 0, .int .i64 0, .int .i64 0] 42) = W1 from HW1.out]
  obtain ⟨x0, x1, x2, x3, xf⟩ := rcell HX1.out
  obtain ⟨k0, k1, k2, k3, k4, k5, k6⟩ := ocell HO1.out
  go_upto_region 9 with (fail)
  go_wp2_with fail
  refine (HRd.out).mono ?_
  rintro e w2 ⟨v', rfl, hb2, hrs2⟩
  obtain ⟨A2, c2, rs2, rfl, hrl2, hmap2⟩ := hrs2
  obtain ⟨W3, hW3⟩ : ∃ W, w2.alloc (.cells (rcs (dropF d o.from_ o.to_).cap (.slice A2 rs2.length c2) (dropF d o.from_ o.to_).hits (dropF d o.from_ o.to_).misses) 42) = W := ⟨_, rfl⟩
  have hY3 : W3.heap[w2.heap.size]? = some (.cells (rcs (dropF d o.from_ o.to_).cap (.slice A2 rs2.length c2) (dropF d o.from_ o.to_).hits (dropF d o.from_ o.to_).misses) 42 (0, 0)) := by rw [← hW3]; exact heap_alloc_new w2 _
  have hb3 : Below w2.heap.size w2 W3 := by rw [← hW3]; exact (Below.refl _ _).alloc (Nat.le_refl _) _
  have hb13 : Below W1.heap.size W1 W3 := hb2.trans (hb3.mono hb2.size)
  have hO3 := (hb13.block (w.heap.size + 1) (by have := HS1.out; omega)).trans HO1.out
  have hZ3 := (hb13.block (w.heap.size + 1 + 1) (by have := HS1.out; omega)).trans HZ1.out
  have HDr := Lib.hid (drop_c (w := W3.drew) ((HH1.out.below hb13).frame (w' := W3.drew) (Nat.le_refl _) fun _ _ _ => rfl) (by omega) o.from_ o.to_)
  have HY3 := Lib.hid hY3
  have HB13 := Lib.hid hb13
  have HO3 := Lib.hid hO3
  have HZ3 := Lib.hid hZ3
  have HRL2 := Lib.hid hrl2
  have HMap2 := Lib.hid hmap2
  have HB2 := Lib.hid hb2
  have HB3 := Lib.hid hb3
  have HW3 := Lib.hid hW3
  obtain ⟨y0, y1, y2, y3, yf⟩ := rcell hY3
  clear hW3 hY3 hb13 hO3 hZ3 hrl2 hmap2 hb2 hb3 x0 x1 x2 x3 xf k0 k1 k2 k3 k4 k5 k6
  obtain ⟨k0, k1, k2, k3, k4, k5, k6⟩ := ocell HO3.out
  unfold rcv
  go_upto_region 10 with (fail)
  rw [show w2.alloc (.cells #[.int .i64 (dropF d o.from_ o.to_).cap, .slice A2 rs2.length c2, .int .i64 (dropF d o.from_ o.to_).hits, .int .i64 (dropF d o.from_ o.to_).misses] 42) = W3 from HW3.out]
  refine wp_region_noPanic ?_
  refine wp_region_D 99 (fun w' => w'.cell? ⟨w2.heap.size, 0, none⟩ = some (.int .i64 (dropF d o.from_ o.to_).cap) ∧ w'.cell? ⟨w2.heap.size, 1, none⟩ = some (.slice A2 rs2.length c2) ∧ w'.cell? ⟨w2.heap.size, 2, none⟩ = some (.int .i64 (dropF d o.from_ o.to_).hits) ∧ w'.cell? ⟨w2.heap.size, 3, none⟩ = some (.int .i64 (dropF d o.from_ o.to_).misses) ∧ w'.cell? ⟨w.heap.size + 1, 5, none⟩ = some (.int .i64 o.from_) ∧ w'.cell? ⟨w.heap.size + 1, 6, none⟩ = some (.int .i64 o.to_)) (by kernel_rfl) ⟨y0, y1, y2, y3, k5, k6⟩ (fun hU => ?_)
  have hC : (fun w' : World => w'.cell? ⟨w2.heap.size, 0, none⟩ = some (.int .i64 (dropF d o.from_ o.to_).cap) ∧ w'.cell? ⟨w2.heap.size, 1, none⟩ = some (.slice A2 rs2.length c2) ∧ w'.cell? ⟨w2.heap.size, 2, none⟩ = some (.int .i64 (dropF d o.from_ o.to_).hits) ∧ w'.cell? ⟨w2.heap.size, 3, none⟩ = some (.int .i64 (dropF d o.from_ o.to_).misses) ∧ w'.cell? ⟨w.heap.size + 1, 5, none⟩ = some (.int .i64 o.from_) ∧ w'.cell? ⟨w.heap.size + 1, 6, none⟩ = some (.int .i64 o.to_)) W3.drew := ⟨y0, y1, y2, y3, k5, k6⟩
  clear hU
  refine wpAnyD_load (i := 0) (dst := some 69) (v := ?_) (fuel := 10) rfl rfl (by kernel_rfl) (fun _ _ _ h => h) (by rfl) ?_ (.inr hC) ?_
  rotate_left
  · intro w hSw
    try dsimp only at hSw
    go_simp
    try with_reducible rfl
  simp only [Act.put, List.setIfInBounds_toArray, List.set_cons_zero, List.set_cons_succ]
  refine wpAnyD_take (i := 1) (dst := some 70) (v := ?_) (fuel := 9) rfl rfl (by kernel_rfl) (fun _ _ _ h => h) (by rfl) ?_ (.inr hC) ?_
  rotate_left
  · (intro w; go_simp; try with_reducible rfl)
  simp only [Act.put, List.setIfInBounds_toArray, List.set_cons_zero, List.set_cons_succ]
  refine wpAnyD_take (i := 2) (dst := some 71) (v := ?_) (fuel := 8) rfl rfl (by kernel_rfl) (fun _ _ _ h => h) (by rfl) ?_ (.inr hC) ?_
  rotate_left
  · (intro w; go_simp; try with_reducible rfl)
  simp only [Act.put, List.setIfInBounds_toArray, List.set_cons_zero, List.set_cons_succ]
  refine wpAnyD_load (i := 3) (dst := some 72) (v := ?_) (fuel := 7) rfl rfl (by kernel_rfl) (fun _ _ _ h => h) (by rfl) ?_ (.inr hC) ?_
  rotate_left
  · intro w hSw
    try dsimp only at hSw
    go_simp
    try with_reducible rfl
  simp only [Act.put, List.setIfInBounds_toArray, List.set_cons_zero, List.set_cons_succ]
  refine wpAnyD_take (i := 4) (dst := some 73) (v := ?_) (fuel := 6) rfl rfl (by kernel_rfl) (fun _ _ _ h => h) (by rfl) ?_ (.inr hC) ?_
  rotate_left
  · (intro w; go_simp; try with_reducible rfl)
  simp only [Act.put, List.setIfInBounds_toArray, List.set_cons_zero, List.set_cons_succ]
  refine wpAnyD_load (i := 5) (dst := some 74) (v := ?_) (fuel := 5) rfl rfl (by kernel_rfl) (fun _ _ _ h => h) (by rfl) ?_ (.inr hC) ?_
  rotate_left
  · intro w hSw
    try dsimp only at hSw
    go_simp
    try with_reducible rfl
  simp only [Act.put, List.setIfInBounds_toArray, List.set_cons_zero, List.set_cons_succ]
  refine wpAnyD_take (i := 7) (dst := some 76) (v := ?_) (fuel := 4) rfl rfl (by kernel_rfl) (fun _ _ _ h => h) (by rfl) ?_ (.inr hC) ?_
  rotate_left
  · (intro w; go_simp; try with_reducible rfl)
  simp only [Act.put, List.setIfInBounds_toArray, List.set_cons_zero, List.set_cons_succ]
  refine wpAnyD_ready (fuel := 3) (rs := [6]) (by kernel_rfl) (by simp) ?_
  refine AllReadyD.cons (o := _) rfl (fun K hK => ?_) ?_
  · go_simp
    go_at_call 20
    with_reducible refine (HDr.out).mono ?_
    rintro e w6 ⟨rfl, hx6, hc6⟩
    have HX6 := Lib.hid hx6
    have HC6 := Lib.hid hc6
    have HO6 : Hid (w6.heap[w.heap.size + 1]? = some (.cells (ocells o) 50 (0, 0))) := Lib.hid ((hx6.touch.block _ (Array.getElem?_eq_some_iff.1 HO3.out).1 fun hs => by have := HLt.out _ (.inl hs); omega).trans HO3.out)
    have HY6 : Hid (w6.heap[w2.heap.size]? = some (.cells (rcs (dropF d o.from_ o.to_).cap (.slice A2 rs2.length c2) (dropF d o.from_ o.to_).hits (dropF d o.from_ o.to_).misses) 42 (0, 0))) := Lib.hid ((hx6.touch.block _ (Array.getElem?_eq_some_iff.1 HY3.out).1 fun hs => by have := HLt.out _ (.inl hs); have := HB2.out.size; have := HS1.out; omega).trans HY3.out)
    have HZ6 : Hid (w6.heap[w.heap.size + 1 + 1]? = some (.cells zr42 42 (0, 0))) := Lib.hid ((hx6.touch.block _ (Array.getElem?_eq_some_iff.1 HZ3.out).1 fun hs => by have := HLt.out _ (.inl hs); omega).trans HZ3.out)
    obtain ⟨z0, z1, z2, z3, zf⟩ := rcell HZ6.out
    clear hx6 hc6
    go_simp
    refine shut_C hK ?_ (fun hC => ?_)
    · first
      | (obtain ⟨_, _, _, _, _, q5, q6⟩ := ocell HO6.out
         obtain ⟨r0, r1, r2, r3, _⟩ := rcell HY6.out
         exact ⟨r0, r1, r2, r3, q5, q6⟩)
      | (obtain ⟨_, _, _, _, _, q5, q6⟩ := ocell HO6.out
         obtain ⟨r0, r1, r2, r3, _⟩ := rcell HY6.out
         have g1 : w.heap.size + 1 ≠ w.heap.size + 1 + 1 := by omega
         have g2 : w2.heap.size ≠ w.heap.size + 1 + 1 := by have := HB2.out.size; have := HS1.out; omega
         refine ⟨(World.cell?_of_block ?_).trans r0, (World.cell?_of_block ?_).trans r1, (World.cell?_of_block ?_).trans r2, (World.cell?_of_block ?_).trans r3, (World.cell?_of_block ?_).trans q5, (World.cell?_of_block ?_).trans q6⟩ <;> repeat (rw [Below.heap_setCell _ _ _ _ (by first | exact g1 | exact g2)]))
    clear hK K
    try simp only [Act.put, List.setIfInBounds_toArray, List.set_cons_zero, List.set_cons_succ]
    refine wpAnyD_take (i := 8) (dst := some 77) (v := ?_) (fuel := 2) rfl rfl (by kernel_rfl) (fun _ _ _ h => h) (by rfl) ?_ (.inr hC) ?_
    rotate_left
    · (intro w; go_simp; try with_reducible rfl)
    simp only [Act.put, List.setIfInBounds_toArray, List.set_cons_zero, List.set_cons_succ]
    refine wpAnyD_ready (fuel := 1) (rs := [9]) (by kernel_rfl) (by simp) ?_
    refine AllReadyD.cons (o := _) rfl (fun K hK => ?_) ?_
    · go_simp
      refine shut_C hK ?_ (fun hC => ?_)
      · first
        | (obtain ⟨_, _, _, _, _, q5, q6⟩ := ocell HO6.out
           obtain ⟨r0, r1, r2, r3, _⟩ := rcell HY6.out
           exact ⟨r0, r1, r2, r3, q5, q6⟩)
        | (obtain ⟨_, _, _, _, _, q5, q6⟩ := ocell HO6.out
           obtain ⟨r0, r1, r2, r3, _⟩ := rcell HY6.out
           have g1 : w.heap.size + 1 ≠ w.heap.size + 1 + 1 := by omega
           have g2 : w2.heap.size ≠ w.heap.size + 1 + 1 := by have := HB2.out.size; have := HS1.out; omega
           refine ⟨(World.cell?_of_block ?_).trans r0, (World.cell?_of_block ?_).trans r1, (World.cell?_of_block ?_).trans r2, (World.cell?_of_block ?_).trans r3, (World.cell?_of_block ?_).trans q5, (World.cell?_of_block ?_).trans q6⟩ <;> repeat (rw [Below.heap_setCell _ _ _ _ (by first | exact g1 | exact g2)]))
      clear hK K
      try simp only [Act.put, List.setIfInBounds_toArray, List.set_cons_zero, List.set_cons_succ]
      refine wpAnyD_take (i := 10) (dst := some 7) (v := ?_) (fuel := 0) rfl rfl (by kernel_rfl) (fun _ _ _ h => h) (by rfl) ?_ (.inr hC) ?_
      rotate_left
      · (intro w; go_simp; try with_reducible rfl)
      simp only [Act.put, List.setIfInBounds_toArray, List.set_cons_zero, List.set_cons_succ]
      refine wpAnyD_done (by kernel_rfl) ?_ _
      refine NoPanic.normal ?_
      go_wp2_with fail
      refine bodyPost_ret (v := .tuple #[rcv (dropF d o.from_ o.to_).cap (.slice A2 rs2.length c2) (dropF d o.from_ o.to_).hits (dropF d o.from_ o.to_).misses, .bool true]) (by simp [rcv, results, Try.results23, go_sem, z0, z1, z2, z3]) rfl ?_
      have hs1 := HS1.out
      have hs2 := HB2.out.size
      have hs3 := HB3.out.size
      have hs6 : W3.heap.size ≤ w6.heap.size := HX6.out.touch.size
      have ht6 : Touch S w w6 := (Touch.of_below (S := S) (HB1.out.trans (HB13.out.mono HB1.out.size))).drew.trans HX6.out.touch fun _ _ h => h
      have hmn := more_not (R := R) (w2 := w2) (w3 := W3.drew) (w4 := w6) (T := T) (W1 := W1) (fun k hk => by have := HLt.out k hk; omega) (fun j hj => ⟨by have := (HTT.out j hj).1; omega, (HTT.out j hj).2⟩) hs3 hs2 HX6.out
      have hrl6 := HRL2.out.frame (w' := w6) fun k hk _ => by
        have h1 := hmn k hk
        exact (HX6.out.touch.block k (by show k < W3.heap.size; omega) h1.1).trans (HB3.out.block k h1.2.2)
      refine dor_fin (w6 := w6) (S' := S) (R' := R) (T' := more T W1 w2) (fun k hk => .inl hk) (fun k hk => .inl hk) HLt.out (HC6.out.more (by omega)) ⟨A2, c2, rs2, rfl, hrl6, HMap2.out⟩ (fun j hj => ⟨hj.imp id fun h => by omega, by have := (hmn j hj).2.2; omega, (hmn j hj).2.1⟩) (fun j hj => (HTT.out j hj).1) (fun j hj => ?_) ?_ ?_
      · repeat (rw [Below.heap_setCell _ _ _ _ (by exact hj)])
      · simp
      · repeat (refine Touch.setCell ?_ (.inr (by simp; try omega)) _)
        exact ht6
    exact AllReadyD.nil
  exact AllReadyD.nil
end
end Go.Proofs.Ytphckenihkgoeaa
