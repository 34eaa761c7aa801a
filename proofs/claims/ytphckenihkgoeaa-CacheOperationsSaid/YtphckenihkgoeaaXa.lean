import Derived.Test.YtphckenihkgoeaaWz
namespace Go.Proofs.Ytphckenihkgoeaa
set_option linter.unusedSimpArgs false
set_option linter.unnecessarySimpa false
set_option linter.unusedVariables false
open Go.RowKit Go.ChangeShapes Go.WideShapes Go.ChangeAt
attribute [local go_sem ↓] Go.wp_at_zero Go.wp_at_succ

/-- a step of the two caches -/
def stepO (d : CM) (o : OpC) : CM := if o.kind % 3 = 0 then (getF d o.key).1 else if o.kind % 3 = 1 then putF d o.key o.list else dropF d o.from_ o.to_
def DoR (S R T : Nat → Prop) (w : World) (C : Nat) (d' : CM) (N : Nat) (e : Ending) (w' : World) : Prop := ∃ v' S' R' T', e = .returned (.tuple #[v', .bool true]) ∧ Nx S R S' R' w w' ∧ Cw S' R' C d' w' (N + 1) ∧ RS w' T' d' v' ∧ ∀ j, T' j → (T j ∨ w.heap.size ≤ j) ∧ j < w'.heap.size ∧ ¬ S' j
theorem more_not {S T S' R R' : Nat → Prop} {W1 w2 w3 w4 : World} (hlt : ∀ k, S k ∨ R k → k < W1.heap.size) (hT : ∀ j, T j → j < W1.heap.size ∧ ¬ S j) (h23 : w2.heap.size ≤ w3.heap.size) (h12 : W1.heap.size ≤ w2.heap.size) (hx : Nx S R S' R' w3 w4) : ∀ j, more T W1 w2 j → ¬ S j ∧ ¬ S' j ∧ j < w2.heap.size := fun j hj => by
  have h1 : ¬ S j ∧ j < w2.heap.size := by
    rcases hj with hj | hj
    · have := hT j hj; exact ⟨this.2, by omega⟩
    · exact ⟨fun hs => by have := hlt j (.inl hs); omega, hj.2⟩
  exact ⟨h1.1, fun hs => (hx.s j hs).elim h1.1 fun h => by omega, h1.2⟩
theorem dor_fin {S R T S' R' T' : Nat → Prop} {w w6 w' : World} {C N : Nat} {d' : CM} {v' : Value} (hS : ∀ k, S' k → S k ∨ w.heap.size + 3 ≤ k) (hR : ∀ k, R' k → R k ∨ w.heap.size + 3 ≤ k) (hlt : ∀ k, S k ∨ R k → k < w.heap.size)
    (hc : Cw S' R' C d' w6 (N + 1)) (hr : RS w6 T' d' v') (hT' : ∀ j, T' j → (T j ∨ w.heap.size + 3 ≤ j) ∧ j < w6.heap.size ∧ ¬ S' j) (hTl : ∀ j, T j → j < w.heap.size)
    (hw : ∀ j, j ≠ w.heap.size + 1 + 1 → w'.heap[j]? = w6.heap[j]?) (hs : w6.heap.size ≤ w'.heap.size) (ht : Touch S w w') : DoR S R T w C d' N (.returned (.tuple #[v', .bool true])) w' := by
  have hne : ∀ k, S' k ∨ R' k → k ≠ w.heap.size + 1 + 1 := by
    rintro k (hk | hk)
    · rcases hS k hk with h | h
      · have := hlt k (.inl h); omega
      · omega
    · rcases hR k hk with h | h
      · have := hlt k (.inr h); omega
      · omega
  have hc' := hc.frame hs fun k hk _ => hw k (hne k hk)
  refine ⟨v', S', R', T', rfl, ⟨ht, fun k hk => (hS k hk).imp id fun h => by omega, fun k hk => (hR k hk).imp id fun h => by omega, hc'.lt⟩, hc', hr.frame fun k hk _ => hw k ?_, fun j hj => ?_⟩
  · rcases (hT' k hk).1 with h | h
    · have := hTl k h; omega
    · omega
  · obtain ⟨h1, h2, h3⟩ := hT' j hj
    exact ⟨h1.imp id fun h => by omega, by omega, h3⟩
section
variable {S R T : Nat → Prop} {C N : Nat} {d : CM} {v : Value}
set_option maxRecDepth 100000 in
set_option maxHeartbeats 800000 in
theorem do_get (w : World) (h : Cw S R C d w N) (hN : N ≤ 700000) (hr : RS w T d v) (hT : ∀ j, T j → j < w.heap.size ∧ ¬ S j) (o : OpC) (hwf : wfK o.key) (hkd : o.kind % 3 = 0) : Calls Try.prog 23 #[.pointer (some ⟨C, 0, none⟩), v, .agg (ocells o)] w fun e w' => DoR S R T w C (getF d o.key).1 N e w' := by
  have hh := h.hit
  have hm := h.mis
  have hln := h.len
  have hgood := h.good
  obtain ⟨A, c, rs, rfl, hrl, hmap⟩ := hr
  obtain ⟨W1, hW1⟩ : ∃ W, ((w.alloc (.cells (rcs d.cap (.slice A rs.length c) d.hits d.misses) 42)).alloc (.cells (ocells o) 50)).alloc (.cells zr42 42) = W := ⟨_, rfl⟩
  have hs1 : W1.heap.size = w.heap.size + 3 := by rw [← hW1]; simp
  have hb1 : Below w.heap.size w W1 := by rw [← hW1]; exact (((Below.refl _ _).alloc (Nat.le_refl _) _).alloc (by simp) _).alloc (by simp; omega) _
  have hX1 : W1.heap[w.heap.size]? = some (.cells (rcs d.cap (.slice A rs.length c) d.hits d.misses) 42 (0, 0)) := by
    rw [← hW1, Below.heap_alloc _ _ _ (by simp; omega), Below.heap_alloc _ _ _ (by simp)]; exact heap_alloc_new w _
  have hO1 : W1.heap[w.heap.size + 1]? = some (.cells (ocells o) 50 (0, 0)) := by
    rw [← hW1, Below.heap_alloc _ _ _ (by simp)]
    have := heap_alloc_new (w.alloc (.cells (rcs d.cap (.slice A rs.length c) d.hits d.misses) 42)) (.cells (ocells o) 50)
    simpa using this
  have hZ1 : W1.heap[w.heap.size + 1 + 1]? = some (.cells zr42 42 (0, 0)) := by
    rw [← hW1]
    have := heap_alloc_new ((w.alloc (.cells (rcs d.cap (.slice A rs.length c) d.hits d.misses) 42)).alloc (.cells (ocells o) 50)) (.cells zr42 42)
    simpa using this
  have HS1 := Lib.hid hs1
  have HB1 := Lib.hid hb1
  have HX1 := Lib.hid hX1
  have HO1 := Lib.hid hO1
  have HZ1 := Lib.hid hZ1
  have HW1 := Lib.hid hW1
  clear hs1 hb1 hX1 hO1 hZ1 hW1
  have hrs1 : RS W1 T d (rcv d.cap (.slice A rs.length c) d.hits d.misses) := ⟨A, c, rs, rfl, hrl.frame fun j hj hl => HB1.out.block j hl, hmap⟩
  have hT1 : ∀ j, T j → j < W1.heap.size ∧ ¬ S j := fun j hj => ⟨by have := (hT j hj).1; have := HS1.out; omega, (hT j hj).2⟩
  have HGet := Lib.hid (rget_walk W1 T (fun j hj => (hT1 j hj).1) d _ o.key hrs1 hgood (by omega) ⟨hh.1, by omega⟩ ⟨hm.1, by omega⟩)
  have HH1 := Lib.hid (h.below HB1.out)
  have HT1 := Lib.hid hT1
  obtain ⟨d', ls, b, hgf⟩ : ∃ d' ls b, getF d o.key = (d', ls, b) := ⟨_, _, _, rfl⟩
  rw [hgf] at HGet ⊢
  have HGf := Lib.hid hgf
  unfold rcv kv at HGet
  have hkk : ((o.kind : Int) % 3) = 0 := by omega
  have HLt := Lib.hid h.lt
  have HTl : Hid (∀ j, T j → j < w.heap.size) := Lib.hid fun j hj => (hT j hj).1
  clear hrs1 hT1 hgf h hrl hmap hT hkd
  unfold rcv ocells
  go_enter Try.func23, Try.ntmps23
  go_upto_region 1 with (fail)
  rw [show ((w.alloc (.cells #[.int .i64 d.cap, .slice A rs.length c, .int .i64 d.hits, .int .i64 d.misses] 42)).alloc (.cells #[.int .u8 (o.kind : Int), .int .i64 o.key.1, .int .i64 o.key.2.1, .int .i64 o.key.2.2, .slice o.lA o.list.length o.lc, .int .i64 o.from_, .int .i64 o.to_] 50)).alloc (.cells #[.int .i64 0, .slice none 0 0, .int .i64 0, .int .i64 0] 42) = W1 from HW1.out]
  obtain ⟨x0, x1, x2, x3, xf⟩ := rcell HX1.out
  obtain ⟨k0, k1, k2, k3, k4, k5, k6⟩ := ocell HO1.out
  go_wp2_with fail
  refine (HGet.out).mono ?_
  rintro e w2 ⟨v', A', c', rfl, hb2, hrs2, hch2⟩
  obtain ⟨A2, c2, rs2, rfl, hrl2, hmap2⟩ := hrs2
  obtain ⟨W3, hW3⟩ : ∃ W, w2.alloc (.cells (rcs d'.cap (.slice A2 rs2.length c2) d'.hits d'.misses) 42) = W := ⟨_, rfl⟩
  have hY3 : W3.heap[w2.heap.size]? = some (.cells (rcs d'.cap (.slice A2 rs2.length c2) d'.hits d'.misses) 42 (0, 0)) := by rw [← hW3]; exact heap_alloc_new w2 _
  have hb3 : Below w2.heap.size w2 W3 := by rw [← hW3]; exact (Below.refl _ _).alloc (Nat.le_refl _) _
  have hb13 : Below W1.heap.size W1 W3 := hb2.trans (hb3.mono hb2.size)
  have hO3 := (hb13.block (w.heap.size + 1) (by have := HS1.out; omega)).trans HO1.out
  have hZ3 := (hb13.block (w.heap.size + 1 + 1) (by have := HS1.out; omega)).trans HZ1.out
  have HY3 := Lib.hid hY3
  have HB13 := Lib.hid hb13
  have HO3 := Lib.hid hO3
  have HZ3 := Lib.hid hZ3
  have HRL2 := Lib.hid hrl2
  have HMap2 := Lib.hid hmap2
  have HCh2 := Lib.hid hch2
  have HB2 := Lib.hid hb2
  have HB3 := Lib.hid hb3
  have HKw := Lib.hid (key_walk W3 o.key)
  unfold kv at HKw
  have HW3 := Lib.hid hW3
  clear hW3 hY3 hb13 hO3 hZ3 hrl2 hmap2 hch2 hb2 hb3 x0 x1 x2 x3 xf k0 k1 k2 k3 k4 k5 k6
  obtain ⟨k0, k1, k2, k3, k4, k5, k6⟩ := ocell HO3.out
  unfold rcv
  go_upto_region 4 with (fail)
  rw [show w2.alloc (.cells #[.int .i64 d'.cap, .slice A2 rs2.length c2, .int .i64 d'.hits, .int .i64 d'.misses] 42) = W3 from HW3.out]
  go_wp2_with fail
  refine (HKw.out).mono ?_
  rintro e w4 ⟨rfl, hb4⟩
  have hc4 := (HH1.out.below HB13.out).below hb4
  have hget := get_c hc4 (by omega) o.key hwf
  rw [HGf.out] at hget
  have HG := Lib.hid hget
  have HZ4 := Lib.hid ((hb4.block _ (Array.getElem?_eq_some_iff.1 HZ3.out).1).trans HZ3.out)
  have HY4 := Lib.hid ((hb4.block _ (Array.getElem?_eq_some_iff.1 HY3.out).1).trans HY3.out)
  have HC4 := Lib.hid hc4
  have HB4 := Lib.hid hb4
  unfold kv at HG
  clear hget hc4 hb4 k0 k1 k2 k3 k4 k5 k6
  go_wp2_with fail
  refine (HG.out).mono ?_
  rintro e w5 ⟨S', A5, c5, rfl, hx5, hc5, hch5, _⟩
  have hlt1 : ∀ k, S k ∨ R k → k < W1.heap.size := fun k hk => by have := HLt.out k hk; have := HS1.out; omega
  have hs23 := HB3.out.size
  have hs34 := HB4.out.size
  have hs12 := HB2.out.size
  have hmn := more_not (R := R) (w2 := w2) (w3 := w4) (w4 := w5) (T := T) (W1 := W1) hlt1 HT1.out (by omega) (by omega) hx5
  have hS1 : ∀ j, S j → j < w.heap.size := fun j hj => HLt.out j (.inl hj)
  have hs1 := HS1.out
  have HZ5 : Hid (w5.heap[w.heap.size + 1 + 1]? = some (.cells zr42 42 (0, 0))) := Lib.hid ((hx5.touch.block _ (Array.getElem?_eq_some_iff.1 HZ4.out).1 fun hs => by have := hS1 _ hs; omega).trans HZ4.out)
  have HY5 : Hid (w5.heap[w2.heap.size]? = _) := Lib.hid ((hx5.touch.block _ (Array.getElem?_eq_some_iff.1 HY4.out).1 fun hs => by have := hS1 _ hs; omega).trans HY4.out)
  have hfr : ∀ k, more T W1 w2 k → w5.heap[k]? = w2.heap[k]? := fun k hk => by
    have h1 := hmn k hk
    rw [hx5.touch.block k (by omega) h1.1, HB4.out.block k (by omega), HB3.out.block k h1.2.2]
  have HRL5 := Lib.hid (HRL2.out.frame (w' := w5) fun k hk _ => hfr k hk)
  have hls : ls.length ≤ 1000 ∨ b = false := by
    have hgf := HGf.out
    unfold getF at hgf
    cases hl : lookI d.items o.key with
    | none => rw [hl] at hgf; right; injection hgf with _ h; injection h with _ h; exact h.symm
    | some l =>
      rw [hl] at hgf; left; injection hgf with _ h; injection h with h _; rw [← h]; exact (hgood.small _ (lookI_some hl)).1
  have hls' : ls.length ≤ maxLen := by
    unfold maxLen
    rcases hls with h | h
    · omega
    · have hgf := HGf.out
      unfold getF at hgf
      cases hl : lookI d.items o.key with
      | none => rw [hl] at hgf; injection hgf with _ h; injection h with h _; rw [← h]; simp
      | some l => rw [hl] at hgf; injection hgf with _ h2; injection h2 with _ h2; rw [← h2] at h; cases h
  have HSame := Lib.hid (same_walk w5.drew _ _ A' A5 c' c5 ls ((HCh2.out.frame (w' := w5.drew) fun k hk _ => hfr k hk)) (hch5.frame fun _ _ _ => rfl) hls')
  have hyl := (Array.getElem?_eq_some_iff.1 HY5.out).1
  have hzl := (Array.getElem?_eq_some_iff.1 HZ5.out).1
  obtain ⟨y0, y1, y2, y3, yf⟩ := rcell HY5.out
  have HX5 := Lib.hid hx5
  have HC5 := Lib.hid hc5
  have HMn := Lib.hid hmn
  clear hx5 hc5 hch5 hmn hfr hls hls'
  go_upto_region 5 with (fail)
  refine wp_region_noPanic ?_
  refine wp_region_D 9 (fun w' => w'.cell? ⟨w2.heap.size, 0, none⟩ = some (.int .i64 d'.cap) ∧ w'.cell? ⟨w2.heap.size, 1, none⟩ = some (.slice A2 rs2.length c2) ∧ w'.cell? ⟨w2.heap.size, 2, none⟩ = some (.int .i64 d'.hits) ∧ w'.cell? ⟨w2.heap.size, 3, none⟩ = some (.int .i64 d'.misses)) (by kernel_rfl) ⟨y0, y1, y2, y3⟩ (fun hU => ?_)
  have hC : (fun w' : World => w'.cell? ⟨w2.heap.size, 0, none⟩ = some (.int .i64 d'.cap) ∧ w'.cell? ⟨w2.heap.size, 1, none⟩ = some (.slice A2 rs2.length c2) ∧ w'.cell? ⟨w2.heap.size, 2, none⟩ = some (.int .i64 d'.hits) ∧ w'.cell? ⟨w2.heap.size, 3, none⟩ = some (.int .i64 d'.misses)) w5.drew := ⟨y0, y1, y2, y3⟩
  clear hU
  refine wpAnyD_load (i := 0) (dst := some 36) (v := ?_) (fuel := 10) rfl rfl (by kernel_rfl) (fun _ _ _ h => h) (by rfl) ?_ (.inr hC) ?_
  rotate_left
  · intro w hSw
    try dsimp only at hSw
    go_simp
    try with_reducible rfl
  simp only [Act.put, List.setIfInBounds_toArray, List.set_cons_zero, List.set_cons_succ]
  refine wpAnyD_take (i := 1) (dst := some 37) (v := ?_) (fuel := 9) rfl rfl (by kernel_rfl) (fun _ _ _ h => h) (by rfl) ?_ (.inr hC) ?_
  rotate_left
  · (intro w; go_simp; try with_reducible rfl)
  simp only [Act.put, List.setIfInBounds_toArray, List.set_cons_zero, List.set_cons_succ]
  refine wpAnyD_take (i := 2) (dst := some 38) (v := ?_) (fuel := 8) rfl rfl (by kernel_rfl) (fun _ _ _ h => h) (by rfl) ?_ (.inr hC) ?_
  rotate_left
  · (intro w; go_simp; try with_reducible rfl)
  simp only [Act.put, List.setIfInBounds_toArray, List.set_cons_zero, List.set_cons_succ]
  refine wpAnyD_take (i := 3) (dst := some 39) (v := ?_) (fuel := 7) rfl rfl (by kernel_rfl) (fun _ _ _ h => h) (by rfl) ?_ (.inr hC) ?_
  rotate_left
  · (intro w; go_simp; try with_reducible rfl)
  simp only [Act.put, List.setIfInBounds_toArray, List.set_cons_zero, List.set_cons_succ]
  refine wpAnyD_take (i := 4) (dst := some 40) (v := ?_) (fuel := 6) rfl rfl (by kernel_rfl) (fun _ _ _ h => h) (by rfl) ?_ (.inr hC) ?_
  rotate_left
  · (intro w; go_simp; try with_reducible rfl)
  simp only [Act.put, List.setIfInBounds_toArray, List.set_cons_zero, List.set_cons_succ]
  refine wpAnyD_take (i := 5) (dst := some 41) (v := ?_) (fuel := 5) rfl rfl (by kernel_rfl) (fun _ _ _ h => h) (by rfl) ?_ (.inr hC) ?_
  rotate_left
  · (intro w; go_simp; try with_reducible rfl)
  simp only [Act.put, List.setIfInBounds_toArray, List.set_cons_zero, List.set_cons_succ]
  refine wpAnyD_take (i := 6) (dst := some 42) (v := ?_) (fuel := 4) rfl rfl (by kernel_rfl) (fun _ _ _ h => h) (by rfl) ?_ (.inr hC) ?_
  rotate_left
  · (intro w; go_simp; try with_reducible rfl)
  simp only [Act.put, List.setIfInBounds_toArray, List.set_cons_zero, List.set_cons_succ]
  refine wpAnyD_ready (fuel := 3) (rs := [7]) (by kernel_rfl) (by simp) ?_
  refine AllReadyD.cons (o := _) rfl (fun K hK => ?_) ?_
  · go_simp
    go_at_call 16
    with_reducible refine (HSame.out).mono ?_
    rintro e w6 ⟨rfl, hb6⟩
    have hb6 : Below w5.heap.size w5 w6 := ((Below.refl _ w5).drew).trans hb6
    have HB6 := Lib.hid hb6
    obtain ⟨z0, z1, z2, z3, zf⟩ := rcell ((hb6.block _ hzl).trans HZ5.out)
    clear hb6
    go_simp
    refine shut_C hK ?_ (fun hC => ?_)
    · exact fourq (HB6.out.block _ hyl) ⟨y0, y1, y2, y3⟩
    clear hK K
    try simp only [Act.put, List.setIfInBounds_toArray, List.set_cons_zero, List.set_cons_succ]
    refine wpAnyD_take (i := 8) (dst := some 44) (v := ?_) (fuel := 2) rfl rfl (by kernel_rfl) (fun _ _ _ h => h) (by rfl) ?_ (.inr hC) ?_
    rotate_left
    · (intro w; go_simp; try with_reducible rfl)
    simp only [Act.put, List.setIfInBounds_toArray, List.set_cons_zero, List.set_cons_succ]
    refine wpAnyD_ready (fuel := 1) (rs := [9]) (by kernel_rfl) (by simp) ?_
    refine AllReadyD.cons (o := _) rfl (fun K hK => ?_) ?_
    · go_simp
      refine shut_K hK (by kernel_rfl) ?_
      clear hK K
      try simp only [Act.put, List.setIfInBounds_toArray, List.set_cons_zero, List.set_cons_succ]
      refine wpAnyD_take (i := 10) (dst := some 7) (v := ?_) (fuel := 0) rfl rfl (by kernel_rfl) (fun _ _ _ h => h) (by rfl) ?_ (.inl (by kernel_rfl)) ?_
      rotate_left
      · (intro w; go_simp; try with_reducible rfl)
      simp only [Act.put, List.setIfInBounds_toArray, List.set_cons_zero, List.set_cons_succ]
      refine wpAnyD_done (by kernel_rfl) ?_ _
      refine NoPanic.normal ?_
      go_wp2_with fail
      refine bodyPost_ret (v := .tuple #[rcv d'.cap (.slice A2 rs2.length c2) d'.hits d'.misses, .bool true]) (by simp [rcv, results, Try.results23, go_sem, z0, z1, z2, z3, y0, y1, y2, y3]) rfl ?_
      have hs56 := HB6.out.size
      have hs45 := HX5.out.touch.size
      have ht6 : Touch S w w6 := (((Touch.of_below (S := S) (HB1.out.trans (HB13.out.mono HB1.out.size))).trans (.of_below HB4.out) (S' := fun _ => False) (fun _ _ h => h.elim)).trans HX5.out.touch fun _ _ h => h).trans (.of_below HB6.out) (S' := fun _ => False) (fun _ _ h => h.elim)
      refine dor_fin (w6 := w6) (S' := S') (R' := R) (T' := more T W1 w2) (fun k hk => (HX5.out.s k hk).imp id fun h => by omega) (fun k hk => .inl hk) HLt.out (HC5.out.below HB6.out |>.more (by omega)) ⟨A2, c2, rs2, rfl, HRL5.out.frame fun j hj hl => HB6.out.block j hl, HMap2.out⟩ (fun j hj => ⟨hj.imp id fun h => by omega, by have := (HMn.out j hj).2.2; omega, (HMn.out j hj).2.1⟩) HTl.out (fun j hj => ?_) ?_ ?_
      · repeat (rw [Below.heap_setCell _ _ _ _ (by exact hj)])
      · simp
      · repeat (refine Touch.setCell ?_ (.inr (by simp; try omega)) _)
        exact ht6
    exact AllReadyD.nil
  exact AllReadyD.nil
end
end Go.Proofs.Ytphckenihkgoeaa
