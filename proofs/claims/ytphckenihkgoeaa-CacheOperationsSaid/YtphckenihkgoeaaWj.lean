import Derived.Test.YtphckenihkgoeaaWi
namespace Go.Proofs.Ytphckenihkgoeaa
set_option linter.unusedSimpArgs false
set_option linter.unnecessarySimpa false
set_option linter.unusedVariables false
open Go.RowKit
attribute [local go_sem ↓] Go.wp_at_zero Go.wp_at_succ

theorem step_append_eq {P : Program} {ops : Array Oper} {o : Oper} {a : Act} {w : World} {K : Act → World → Prop} {Q : Exit → Act → World → Prop} {E : Prop}
    (hg : o.guard = none) (d x : Operand) (t : TypeId) (hop : o.op = Op.call { callee := Callee.builtin Builtin.append, args := #[d, x], argTypes := #[t, t] })
    (v1 v2 v' : Value) (w' : World) (hd : a.eval d = v1) (hx : a.eval x = v2) (hrun : (Builtin.append_ #[t, t] o.type #[v1, v2]).run P w = .ok v' w')
    (hK : K (a.put o.dst v') w') : if Region.wanted o (yielded ops a.tmps) = true then Oper.wp P o a w K Q else E := by
  have hw : Region.wanted o (yielded ops a.tmps) = true := by simp [Region.wanted, hg]
  rw [if_pos hw]
  unfold Oper.wp
  simp [execOp, hop, resolve, invoke, builtin, hd, hx, hrun, Result.andThen]
  exact hK
section
variable {S R : Nat → Prop} {C : Nat} {d : CM} {w w' : World} {vo : Value} {M : Nat} {f : K → Option Value}
/-- the order is written anew -/
theorem CkO.reord (h : CkO S R C d w vo M f) (hlt : ∀ j, S j ∨ R j → j < w.heap.size) {w' : World} {v' : Value} (its : Items) (hrow : w'.ownsRow 0 33 3 v' its.length (kscells (keys its))) (hT : ∀ j, j < w.heap.size → vo.ownBlock ≠ some j → w'.heap[j]? = w.heap[j]?) (hb : v'.ownBlock = vo.ownBlock ∨ ∃ g, v'.ownBlock = some g ∧ w.heap.size ≤ g)
    (hmem : ∀ p ∈ its, p ∈ d.items) (hmem' : ∀ k, k ∉ keys its → k ∉ keys d.items) (htot : tot its = tot d.items) : CkO (fun j => S j ∨ v'.ownBlock = some j) R C { d with items := its } (w'.setCell ⟨C, 3, none⟩ v') v' M f := by
  have hvC : vo.ownBlock ≠ some C := fun e => (h.no C e).1 rfl
  have hvM : vo.ownBlock ≠ some M := fun e => (h.no M e).2 rfl
  have hobj : w'.heap[C]? = _ := (hT C h.lt hvC).trans h.obj
  have far : ∀ b, b ≠ C → (w'.setCell ⟨C, 3, none⟩ v').heap[b]? = w'.heap[b]? := fun b hb => Below.heap_setCell w' ⟨C, 3, none⟩ v' b hb
  have hv'C : ∀ g, v'.ownBlock = some g → g ≠ C := fun g hg e => by
    rcases hb with hb | ⟨g', hb, hl⟩
    · rw [hb] at hg; rw [e] at hg; exact hvC hg
    · rw [hb] at hg; injection hg with hg; have := h.lt; omega
  refine ⟨?_, .inl h.sC, h.mp.of_heap ((far M h.nM).trans (hT M h.mp.lt hvM)), .inl h.sM, row_of hrow fun g hg => far g (hv'C g hg), fun g hg => .inr hg, ?_, fun k hk => h.non k (hmem' k hk), ?_⟩
  · refine (heap_setCell_any w' C 3 _ _ _ v' hobj).trans ?_
    show _ = some (Obj.cells #[.int .i64 d.cap, .int .i64 (tot its), .map (some M), v', .int .i64 d.hits, .int .i64 d.misses] 63 (0, 0))
    rw [htot]; rfl
  · intro p hp
    obtain ⟨A, c, h1, h2⟩ := h.has p (hmem p hp)
    refine ⟨A, c, h1, h2.frame fun k hk hl => (far k fun e => h.dj C h.sC (e ▸ hk)).trans (hT k hl fun e => h.dj k (h.so k e) hk)⟩
  · intro k hk hr
    rcases hk with hk | hk
    · exact h.dj k hk hr
    · rcases hb with hb | ⟨g', hb, hl⟩
      · exact h.dj k (h.so k (hb ▸ hk)) hr
      · rw [hb] at hk; injection hk with hk; have := hlt k (.inr hr); omega
theorem four {C b : Nat} {w w' : World} {v x y z : Value} (h1 : w'.heap[C]? = w.heap[C]?) (h2 : w'.heap[b]? = w.heap[b]?) (h : w.cell? ⟨C, 3, none⟩ = some v ∧ w.cell? ⟨b, 0, none⟩ = some x ∧ w.cell? ⟨b, 1, none⟩ = some y ∧ w.cell? ⟨b, 2, none⟩ = some z) :
    w'.cell? ⟨C, 3, none⟩ = some v ∧ w'.cell? ⟨b, 0, none⟩ = some x ∧ w'.cell? ⟨b, 1, none⟩ = some y ∧ w'.cell? ⟨b, 2, none⟩ = some z :=
  ⟨(World.cell?_of_block h1).trans h.1, (World.cell?_of_block h2).trans h.2.1, (World.cell?_of_block h2).trans h.2.2.1, (World.cell?_of_block h2).trans h.2.2.2⟩
/-- what changes from a cache to the next one -/
structure Nx (S R S' R' : Nat → Prop) (w w' : World) : Prop where
  touch : Touch S w w'
  s : ∀ k, S' k → S k ∨ w.heap.size ≤ k
  r : ∀ k, R' k → R k ∨ w.heap.size ≤ k
  lt : ∀ k, S' k ∨ R' k → k < w'.heap.size
set_option maxRecDepth 100000 in
set_option maxHeartbeats 600000 in
/-- Get, of a key that is there -/
theorem get_hit (h : CkO S R C d w vo M f) (hg : Good d) (hlt : ∀ j, S j ∨ R j → j < w.heap.size) (hn : d.items.length ≤ 900000) (hm : d.hits ≤ 1000000 ∧ 0 ≤ d.hits) (k : K) (l : List Chg) (hk : (k, l) ∈ d.items) : Calls Try.prog 15 #[.pointer (some ⟨C, 0, none⟩), kv k] w fun e w' => ∃ S' A c, e = .returned (.tuple #[.slice A l.length c, .bool true]) ∧ Nx S R S' R w w' ∧ Ck S' R C { d with items := delI d.items k ++ [(k, l)], hits := d.hits + 1 } w' ∧ Chgs w' (fun j => w.heap.size ≤ j ∧ j < w'.heap.size ∧ ¬ S' j ∧ ¬ R j) A l ∧ Nice w' 35 A := by
  obtain ⟨A, c, hf, hc⟩ := h.has _ hk
  have hwf := hg.wf k (List.mem_map.2 ⟨_, hk, rfl⟩)
  obtain ⟨wt, hwt⟩ : ∃ n, weight l = n := ⟨_, rfl⟩
  rw [hwt] at hf
  obtain ⟨W1, hW1⟩ : ∃ W, w.alloc (.cells #[.int .i64 k.1, .int .i64 k.2.1, .int .i64 k.2.2] 33) = W := ⟨_, rfl⟩
  have hb1 : Below w.heap.size w W1 := by rw [← hW1]; exact (Below.refl _ _).alloc (Nat.le_refl _) _
  have hB : Box W1 w.heap.size k := by rw [← hW1]; exact heap_alloc_new w _
  obtain ⟨W2, hW2⟩ : ∃ W, (W1.alloc (.cells #[.slice A l.length c, .int .i64 wt] 65)).drew = W := ⟨_, rfl⟩
  have hb2 : Below w.heap.size w W2 := by rw [← hW2]; exact (hb1.alloc (hb1.size) _).drew
  have hs2 : W2.heap.size = W1.heap.size + 1 := by rw [← hW2]; simp [World.drew]
  have hB2 : Box W2 w.heap.size k := by rw [← hW2]; exact (Below.heap_alloc W1 _ _ (Array.getElem?_eq_some_iff.1 hB).1).trans hB
  have hX2 : W2.heap[W1.heap.size]? = some (.cells #[.slice A l.length c, .int .i64 wt] 65 (0, 0)) := by rw [← hW2]; exact heap_alloc_new W1 _
  have H2 := h.frame (w' := W2) fun k _ hk => hb2.block k hk
  obtain ⟨W3, hW3⟩ : ∃ W, W2.setCell ⟨C, 4, none⟩ (.int .i64 (d.hits + 1)) = W := ⟨_, rfl⟩
  have hfar : ∀ b, b ≠ C → W3.heap[b]? = W2.heap[b]? := fun b hb => by rw [← hW3]; exact Below.heap_setCell W2 ⟨C, 4, none⟩ _ b hb
  have hs3 : W3.heap.size = W2.heap.size := by rw [← hW3]; simp
  have H3 : CkO S R C { d with hits := d.hits + 1 } W3 vo M f := by rw [← hW3]; exact H2.set 4 _ { d with hits := d.hits + 1 } rfl rfl
  have hT3 : Touch S w W3 := by rw [← hW3]; exact (Touch.of_below hb2).setCell (.inl h.sC) _
  have hCl : C < w.heap.size := h.lt
  have hw1l : w.heap.size < W1.heap.size := (Array.getElem?_eq_some_iff.1 hB).1
  have hB3 : Box W3 w.heap.size k := (hfar _ (by omega)).trans hB2
  have hX3 : W3.heap[W1.heap.size]? = some (.cells #[.slice A l.length c, .int .i64 wt] 65 (0, 0)) := (hfar _ (by omega)).trans hX2
  have e4 : wrap64 (d.hits + 1) = d.hits + 1 := wrap_small (by omega) (by omega)
  have el : (keys d.items).length = d.items.length := by simp [keys]
  have hvB : vo.ownBlock ≠ some w.heap.size := fun e => by have := (h.ro.lt _ e).2; omega
  have HD1 := Lib.hid (delete27 W3.drew vo d.items.length (keys d.items) (row_of H3.ro fun _ _ => rfl) (by omega) el w.heap.size k hB3 hvB)
  have HD2 := Lib.hid (delete27 (W3.alloc (.cells #[.int .i64 k.1, .int .i64 k.2.1, .int .i64 k.2.2] 33)).drew vo d.items.length (keys d.items) (row_of H3.ro fun g hg => Below.heap_alloc W3 _ g (H3.ro.lt g hg).2) (by omega) el w.heap.size k ((Below.heap_alloc W3 _ _ (Array.getElem?_eq_some_iff.1 hB3).1).trans hB3) hvB)
  have hlt3 : ∀ j, S j ∨ R j → j < W3.heap.size := fun j hj => by have := hlt j hj; omega
  have hCl3 : C < W3.heap.size := by omega
  have hBl3 : w.heap.size < W3.heap.size := by omega
  have hv3 : vo.ownBlock ≠ some W3.heap.size := fun e => by have := (h.ro.lt _ e).2; omega
  have hv1 : vo.ownBlock ≠ some W1.heap.size := fun e => by have := (h.ro.lt _ e).2; omega
  have hw13 : W1.heap.size < W3.heap.size := by omega
  clear hs2 hs3
  have hll : l.length ≤ 1000 := (hg.small _ hk).1
  have HCh := Lib.hid hc
  have HMem : Hid (∀ p ∈ delI d.items k ++ [(k, l)], p ∈ d.items) := Lib.hid fun p hp => by
    rcases List.mem_append.1 hp with hp | hp
    · exact (mem_delI hp).1
    · rw [List.mem_singleton.1 hp]; exact hk
  have HMem' : Hid (∀ x, x ∉ keys (delI d.items k ++ [(k, l)]) → x ∉ keys d.items) := Lib.hid fun x hx hx' => hx (by
    by_cases e : x = k
    · subst e; simp [keys]
    · have : x ∈ without (keys d.items) k := List.mem_filter.2 ⟨hx', by simpa using e⟩
      rw [← keys_delI] at this
      unfold keys at this ⊢
      rw [List.map_append]
      exact List.mem_append_left _ this)
  have HTot : Hid (tot (delI d.items k ++ [(k, l)]) = tot d.items) := Lib.hid (by
    rw [tot_append, tot_delI d.items k l hg.nd hk]
    simp [tot])
  have H := Lib.hid h
  have HW1 := Lib.hid hW1
  have HW2 := Lib.hid hW2
  have HW3 := Lib.hid hW3
  have HH3 := Lib.hid H3
  have HB := Lib.hid hB
  have HB3 := Lib.hid hB3
  have HX3 := Lib.hid hX3
  have HT3 := Lib.hid hT3
  have hvC : vo.ownBlock ≠ some C := fun e => (h.no C e).1 rfl
  clear hW1 hB hW2 hb2 hB2 hX2 hW3 hfar H3 hT3 hB3 hX3
  have H1 := H.out.frame (w' := W1) fun k _ hk => hb1.block k hk
  have c2 := H1.c2
  obtain ⟨b0, b1, b2⟩ := HB.out.cells
  have hlk := mapF_look (t := 61) (w := W1.drew) (H1.mp.of_heap rfl) hwf Try.underlying61 hf true
  simp only [if_true] at hlk
  have a2 := Lib.cell?_alloc_some (.cells #[.slice none 0 0, .int .i64 0] 65) c2
  have a3 := Lib.cell?_alloc_some (.cells #[.slice none 0 0, .int .i64 0] 65) b0
  have a4 := Lib.cell?_alloc_some (.cells #[.slice none 0 0, .int .i64 0] 65) b1
  have a5 := Lib.cell?_alloc_some (.cells #[.slice none 0 0, .int .i64 0] 65) b2
  have hla := mapF_look (t := 61) (w := (W1.alloc (.cells #[.slice none 0 0, .int .i64 0] 65)).drew) (H1.mp.of_heap (Below.heap_alloc _ _ M H1.mp.lt)) hwf Try.underlying61 hf true
  simp only [if_true] at hla
  unfold kv at hlk hla
  clear h H1
  have c4 := H2.c4
  have fr4 := H2.fr 4
  have x3 := HH3.out.c3
  obtain ⟨y0, y1, y2⟩ := HB3.out.cells
  clear H2
  unfold kv
  go_enter Try.func15, Try.ntmps15
  go_upto_region 1 with (fail)
  rw [HW1.out]
  go_region
  all_goals
    rw [HW2.out]
    go_upto_region 6 with (fail)
    rw [HW3.out]
    refine wp_region_noPanic ?_
    refine wp_region_D 12 (fun w' => w'.cell? ⟨C, 3, none⟩ = some vo ∧ w'.cell? ⟨w.heap.size, 0, none⟩ = some (.int .i64 k.1) ∧ w'.cell? ⟨w.heap.size, 1, none⟩ = some (.int .i64 k.2.1) ∧ w'.cell? ⟨w.heap.size, 2, none⟩ = some (.int .i64 k.2.2)) (by kernel_rfl) ⟨x3, y0, y1, y2⟩ (fun hU => ?_)
    have hC : (fun w' : World => w'.cell? ⟨C, 3, none⟩ = some vo ∧ w'.cell? ⟨w.heap.size, 0, none⟩ = some (.int .i64 k.1) ∧ w'.cell? ⟨w.heap.size, 1, none⟩ = some (.int .i64 k.2.1) ∧ w'.cell? ⟨w.heap.size, 2, none⟩ = some (.int .i64 k.2.2)) W3.drew := ⟨x3, y0, y1, y2⟩
    clear hU
    refine wpAnyD_take (i := 0) (dst := some 33) (v := ?_) (fuel := 12) rfl rfl (by kernel_rfl) (fun _ _ _ h => h) (by rfl) ?_ (.inr hC) ?_
    rotate_left
    · (intro w; go_simp; try with_reducible rfl)
    simp only [Act.put, List.setIfInBounds_toArray, List.set_cons_zero, List.set_cons_succ]
    refine wpAnyD_take (i := 1) (dst := some 34) (v := ?_) (fuel := 11) rfl rfl (by kernel_rfl) (fun _ _ _ h => h) (by rfl) ?_ (.inr hC) ?_
    rotate_left
    · (intro w; go_simp; try with_reducible rfl)
    simp only [Act.put, List.setIfInBounds_toArray, List.set_cons_zero, List.set_cons_succ]
    refine wpAnyD_take (i := 2) (dst := some 35) (v := ?_) (fuel := 10) rfl rfl (by kernel_rfl) (fun _ _ _ h => h) (by rfl) ?_ (.inr hC) ?_
    rotate_left
    · (intro w; go_simp; try with_reducible rfl)
    simp only [Act.put, List.setIfInBounds_toArray, List.set_cons_zero, List.set_cons_succ]
    refine wpAnyD_take (i := 3) (dst := some 36) (v := ?_) (fuel := 9) rfl rfl (by kernel_rfl) (fun _ _ _ h => h) (by rfl) ?_ (.inr hC) ?_
    rotate_left
    · (intro w; go_simp; try with_reducible rfl)
    simp only [Act.put, List.setIfInBounds_toArray, List.set_cons_zero, List.set_cons_succ]
    refine wpAnyD_load (i := 4) (dst := some 37) (v := ?_) (fuel := 8) rfl rfl (by kernel_rfl) (fun _ _ _ h => h) (by rfl) ?_ (.inr hC) ?_
    rotate_left
    · intro w hSw
      try dsimp only at hSw
      go_simp
      try with_reducible rfl
    simp only [Act.put, List.setIfInBounds_toArray, List.set_cons_zero, List.set_cons_succ]
    refine wpAnyD_take (i := 5) (dst := some 38) (v := ?_) (fuel := 7) rfl rfl (by kernel_rfl) (fun _ _ _ h => h) (by rfl) ?_ (.inr hC) ?_
    rotate_left
    · (intro w; go_simp; try with_reducible rfl)
    simp only [Act.put, List.setIfInBounds_toArray, List.set_cons_zero, List.set_cons_succ]
    refine wpAnyD_load (i := 7) (dst := some 40) (v := ?_) (fuel := 6) rfl rfl (by kernel_rfl) (fun _ _ _ h => h) (by rfl) ?_ (.inr hC) ?_
    rotate_left
    · intro w hSw
      try dsimp only at hSw
      go_simp
      try with_reducible rfl
    simp only [Act.put, List.setIfInBounds_toArray, List.set_cons_zero, List.set_cons_succ]
    refine wpAnyD_ready (fuel := 5) (rs := [6, 8]) (by kernel_rfl) (by simp) ?_
    refine AllReadyD.cons (o := _) rfl (fun K hK => ?_) ?_
    · go_simp
      go_at_call 26
      first
      | (with_reducible refine (HD1.out).mono ?_
         rintro e w4 ⟨v4, rfl, hv4, hr4, ht4⟩
         have hT4 : Touch S w w4 := HT3.out.drew.trans ht4 fun i _ he => H.out.so i he
         have hk4 : ∀ j, j < W3.heap.size → vo.ownBlock ≠ some j → w4.heap[j]? = W3.heap[j]? := fun j hj hv => ht4.block j hj hv
         have hs4 : W3.heap.size ≤ w4.heap.size := ht4.size
         have hl4 : (without (keys d.items) k).length ≤ 900000 := Nat.le_trans (List.length_filter_le _ _) (by omega)
         obtain ⟨v5, w5, hrun, hr5, hg5, hb5⟩ := push_key (w4.alloc (.cells #[.int .i64 k.1, .int .i64 k.2.1, .int .i64 k.2.2] 33)) v4 (without (keys d.items) k) _ (row_of hr4 fun g hg => Below.heap_alloc w4 _ g (hr4.lt g hg).2) hl4 w4.heap.size k (heap_alloc_new w4 _)
         have hT5 : Touch S w w5 := (hT4.alloc _).grown hg5 (fun i hi => .inl (H.out.so i (hv4 ▸ hi)))
         have hk5 : ∀ j, j < W3.heap.size → vo.ownBlock ≠ some j → w5.heap[j]? = W3.heap[j]? := fun j hj hv => (hg5.block j (by simp; omega) (fun e => hv (by rw [← hv4]; exact e.symm))).trans ((Below.heap_alloc w4 _ j (by omega)).trans (hk4 j hj hv))
         have hb5 : v5.ownBlock = vo.ownBlock ∨ ∃ g, v5.ownBlock = some g ∧ W3.heap.size ≤ g := hb5.imp (fun h => h.trans hv4) fun h => ⟨_, h.1, by simp; omega⟩
         have hs5 : W3.heap.size ≤ w5.heap.size := by have := hg5.size; simp at this; omega)
      | (with_reducible refine (HD2.out).mono ?_
         rintro e w4 ⟨v4, rfl, hv4, hr4, ht4⟩
         have hT4 : Touch S w w4 := ((HT3.out.alloc _).drew).trans ht4 fun i _ he => H.out.so i he
         have hk4 : ∀ j, j < W3.heap.size → vo.ownBlock ≠ some j → w4.heap[j]? = W3.heap[j]? := fun j hj hv => (ht4.block j (by simp [World.drew]; omega) hv).trans (Below.heap_alloc W3 _ j hj)
         have hs4 : W3.heap.size ≤ w4.heap.size := by have := ht4.size; simp [World.drew] at this; omega
         have hl4 : (without (keys d.items) k).length ≤ 900000 := Nat.le_trans (List.length_filter_le _ _) (by omega)
         obtain ⟨v5, w5, hrun, hr5, hg5, hb5⟩ := push_key w4 v4 (without (keys d.items) k) _ hr4 hl4 W3.heap.size k ((ht4.block W3.heap.size (by simp [World.drew]) hv3).trans (heap_alloc_new W3 _))
         have hT5 : Touch S w w5 := hT4.grown hg5 (fun i hi => .inl (H.out.so i (hv4 ▸ hi)))
         have hk5 : ∀ j, j < W3.heap.size → vo.ownBlock ≠ some j → w5.heap[j]? = W3.heap[j]? := fun j hj hv => (hg5.block j (by omega) (fun e => hv (by rw [← hv4]; exact e.symm))).trans (hk4 j hj hv)
         have hb5 : v5.ownBlock = vo.ownBlock ∨ ∃ g, v5.ownBlock = some g ∧ W3.heap.size ≤ g := hb5.imp (fun h => h.trans hv4) fun h => ⟨_, h.1, hs4⟩
         have hs5 : W3.heap.size ≤ w5.heap.size := by have := hg5.size; omega)
      have HRUN := Lib.hid hrun
      obtain ⟨A5, c5, rfl⟩ := row_sl hr5
      have z3 : w5.cell? ⟨C, 3, none⟩ = some vo := (World.cell?_of_block (hk5 C hCl3 hvC)).trans x3
      have zf : w5.frozen? ⟨C, 3, none⟩ = false := by simp [World.frozen?, (hk5 C hCl3 hvC).trans HH3.out.obj]
      clear hrun
      go_simp
      refine shut_C hK ?_ (fun hC => ?_)
      · first
        | exact four (hk5 C hCl3 hvC) (hk5 _ hBl3 hvB) ⟨x3, y0, y1, y2⟩
        | exact four (hk4 C hCl3 hvC) (hk4 _ hBl3 hvB) ⟨x3, y0, y1, y2⟩
        | exact four ((Below.heap_alloc w4 _ C (by omega)).trans (hk4 C hCl3 hvC)) ((Below.heap_alloc w4 _ _ (by omega)).trans (hk4 _ hBl3 hvB)) ⟨x3, y0, y1, y2⟩
        | exact four (Below.heap_alloc W3 _ C hCl3) (Below.heap_alloc W3 _ _ hBl3) ⟨x3, y0, y1, y2⟩
      clear hK K
      try simp only [Act.put, List.setIfInBounds_toArray, List.set_cons_zero, List.set_cons_succ]
      refine wpAnyD_ready (fuel := 4) (rs := [8]) (by kernel_rfl) (by simp) ?_
      refine AllReadyD.cons (o := _) rfl (fun K hK => ?_) ?_
      · go_simp
        refine shut_C hK ?_ (fun hC => ?_)
        · first
          | exact four (hk5 C hCl3 hvC) (hk5 _ hBl3 hvB) ⟨x3, y0, y1, y2⟩
          | exact four (hk4 C hCl3 hvC) (hk4 _ hBl3 hvB) ⟨x3, y0, y1, y2⟩
          | exact four ((Below.heap_alloc w4 _ C (by omega)).trans (hk4 C hCl3 hvC)) ((Below.heap_alloc w4 _ _ (by omega)).trans (hk4 _ hBl3 hvB)) ⟨x3, y0, y1, y2⟩
          | exact four (Below.heap_alloc W3 _ C hCl3) (Below.heap_alloc W3 _ _ hBl3) ⟨x3, y0, y1, y2⟩
        clear hK K
        try simp only [Act.put, List.setIfInBounds_toArray, List.set_cons_zero, List.set_cons_succ]
        refine wpAnyD_ready (fuel := 3) (rs := [9]) (by kernel_rfl) (by simp) ?_
        refine AllReadyD.cons (o := _) rfl (fun K hK => ?_) ?_
        · refine step_append_eq rfl (.tmp 39) (.tmp 41) 55 rfl _ _ _ _ rfl rfl HRUN.out ?_
          refine shut_C hK ?_ (fun hC => ?_)
          · first
            | exact four (hk5 C hCl3 hvC) (hk5 _ hBl3 hvB) ⟨x3, y0, y1, y2⟩
            | exact four (hk4 C hCl3 hvC) (hk4 _ hBl3 hvB) ⟨x3, y0, y1, y2⟩
            | exact four ((Below.heap_alloc w4 _ C (by omega)).trans (hk4 C hCl3 hvC)) ((Below.heap_alloc w4 _ _ (by omega)).trans (hk4 _ hBl3 hvB)) ⟨x3, y0, y1, y2⟩
            | exact four (Below.heap_alloc W3 _ C hCl3) (Below.heap_alloc W3 _ _ hBl3) ⟨x3, y0, y1, y2⟩
          clear hK K
          try simp only [Act.put, List.setIfInBounds_toArray, List.set_cons_zero, List.set_cons_succ]
          refine wpAnyD_take (i := 10) (dst := some 43) (v := ?_) (fuel := 2) rfl rfl (by kernel_rfl) (fun _ _ _ h => h) (by rfl) ?_ (.inr hC) ?_
          rotate_left
          · (intro w; go_simp; try with_reducible rfl)
          simp only [Act.put, List.setIfInBounds_toArray, List.set_cons_zero, List.set_cons_succ]
          refine wpAnyD_take (i := 11) (dst := some 44) (v := ?_) (fuel := 1) rfl rfl (by kernel_rfl) (fun _ _ _ h => h) (by rfl) ?_ (.inr hC) ?_
          rotate_left
          · (intro w; go_simp; try with_reducible rfl)
          simp only [Act.put, List.setIfInBounds_toArray, List.set_cons_zero, List.set_cons_succ]
          refine wpAnyD_ready (fuel := 0) (rs := [12]) (by kernel_rfl) (by simp) ?_
          refine AllReadyD.cons (o := _) rfl (fun K hK => ?_) ?_
          · go_simp
            refine shut_K hK (by kernel_rfl) ?_
            clear hK K
            try simp only [Act.put, List.setIfInBounds_toArray, List.set_cons_zero, List.set_cons_succ]
            refine wpAnyD_done (by kernel_rfl) ?_ _
            refine NoPanic.normal ?_
            have hlen : (delI d.items k ++ [(k, l)]).length = (without (keys d.items) k).length + 1 := by rw [← keys_delI]; simp [keys]
            have hkeys : keys (delI d.items k ++ [(k, l)]) = without (keys d.items) k ++ [k] := by rw [← keys_delI]; simp [keys]
            have h6 := HH3.out.reord (hlt3) (w' := w5) (v' := .slice A5 ((without (keys d.items) k).length + 1) c5) (delI d.items k ++ [(k, l)]) (by rw [hlen, hkeys]; exact hr5) hk5 hb5 HMem.out HMem'.out HTot.out
            have hT6 : Touch S w (w5.setCell ⟨C, 3, none⟩ (Value.slice A5 ((without (keys d.items) k).length + 1) c5)) := hT5.setCell (.inl H.out.sC) _
            obtain ⟨W6, hW6⟩ : ∃ W, w5.setCell ⟨C, 3, none⟩ (Value.slice A5 ((without (keys d.items) k).length + 1) c5) = W := ⟨_, rfl⟩
            have hs6 : W6.heap.size = w5.heap.size := by rw [← hW6]; simp
            have hv5 : ∀ j, (Value.slice A5 ((without (keys d.items) k).length + 1) c5).ownBlock = some j → j < W6.heap.size := fun j hj => by have := (hr5.lt j hj).2; omega
            rw [hW6] at h6 hT6 ⊢
            have hX6 : W6.heap[W1.heap.size]? = some (.cells #[.slice A l.length c, .int .i64 wt] 65 (0, 0)) := by
              rw [← hW6, Below.heap_setCell w5 ⟨C, 3, none⟩ (Value.slice A5 ((without (keys d.items) k).length + 1) c5) _ (by show W1.heap.size ≠ C; omega), hk5 _ (by omega) hv1]
              exact HX3.out
            have q0 : W6.cell? ⟨W1.heap.size, 0, none⟩ = some (.slice A l.length c) := by rw [cell_of_row W6 _ 0 _ _ _ hX6]; rfl
            have HC := Lib.hid (cloneC_walk W6 R A c l (HCh.out.frame fun k hk hl => hT6.block k hl fun hs => H.out.dj k hs hk) (by omega))
            have H6 := Lib.hid h6
            have HT6 := Lib.hid hT6
            have HV5 := Lib.hid hv5
            have HB5 := Lib.hid hb5
            clear h6 hT6 hX6 hW6 hv5 hb5
            go_wp2_with fail
            refine (HC.out).mono ?_
            rintro e w7 ⟨A', c', rfl, hch, hb7, hni⟩
            go_wp2_with fail
            refine bodyPost_ret (v := .tuple #[.slice A' l.length c', .bool true]) (by simp [results, Try.results15, go_sem]) rfl ?_
            have hsz := HT6.out.size
            have hsz7 := hb7.size
            have hS' : ∀ j, (S j ∨ (Value.slice A5 ((without (keys d.items) k).length + 1) c5).ownBlock = some j) ∨ R j → j < W6.heap.size := by
              rintro j ((hj | hj) | hj)
              · have := hlt j (.inl hj); omega
              · exact HV5.out j hj
              · have := hlt j (.inr hj); omega
            refine ⟨fun j => S j ∨ (Value.slice A5 ((without (keys d.items) k).length + 1) c5).ownBlock = some j, A', c', rfl, ⟨HT6.out.trans (.of_below hb7) (S' := fun _ => False) (fun _ _ h => h.elim), ?_, fun j hj => .inl hj, fun j hj => by have := hS' j hj; omega⟩, ⟨(Value.slice A5 ((without (keys d.items) k).length + 1) c5), M, f, H6.out.frame fun j hj _ => hb7.block j (hS' j hj)⟩, ?_⟩
            · rintro j (hj | hj)
              · exact .inl hj
              · rcases HB5.out with hb | ⟨g, hb, hl⟩
                · exact .inl (H.out.so j (hb ▸ hj))
                · rw [hb] at hj; injection hj with hj; right; omega
            · exact ⟨hch.mono fun j hj => ⟨by omega, hj.2, fun h => by have := hS' j (.inl h); omega, fun h => by have := hS' j (.inr h); omega⟩, hni⟩
          exact AllReadyD.nil
        exact AllReadyD.nil
      exact AllReadyD.nil
    refine AllReadyD.cons (o := _) rfl (fun K hK => ?_) ?_
    · go_simp
      refine shut_C hK ?_ (fun hC => ?_)
      · first
        | exact four (hk5 C hCl3 hvC) (hk5 _ hBl3 hvB) ⟨x3, y0, y1, y2⟩
        | exact four (hk4 C hCl3 hvC) (hk4 _ hBl3 hvB) ⟨x3, y0, y1, y2⟩
        | exact four ((Below.heap_alloc w4 _ C (by omega)).trans (hk4 C hCl3 hvC)) ((Below.heap_alloc w4 _ _ (by omega)).trans (hk4 _ hBl3 hvB)) ⟨x3, y0, y1, y2⟩
        | exact four (Below.heap_alloc W3 _ C hCl3) (Below.heap_alloc W3 _ _ hBl3) ⟨x3, y0, y1, y2⟩
      clear hK K
      try simp only [Act.put, List.setIfInBounds_toArray, List.set_cons_zero, List.set_cons_succ]
      refine wpAnyD_ready (fuel := 4) (rs := [6]) (by kernel_rfl) (by simp) ?_
      refine AllReadyD.cons (o := _) rfl (fun K hK => ?_) ?_
      · go_simp
        go_at_call 26
        first
        | (with_reducible refine (HD1.out).mono ?_
           rintro e w4 ⟨v4, rfl, hv4, hr4, ht4⟩
           have hT4 : Touch S w w4 := HT3.out.drew.trans ht4 fun i _ he => H.out.so i he
           have hk4 : ∀ j, j < W3.heap.size → vo.ownBlock ≠ some j → w4.heap[j]? = W3.heap[j]? := fun j hj hv => ht4.block j hj hv
           have hs4 : W3.heap.size ≤ w4.heap.size := ht4.size
           have hl4 : (without (keys d.items) k).length ≤ 900000 := Nat.le_trans (List.length_filter_le _ _) (by omega)
           obtain ⟨v5, w5, hrun, hr5, hg5, hb5⟩ := push_key (w4.alloc (.cells #[.int .i64 k.1, .int .i64 k.2.1, .int .i64 k.2.2] 33)) v4 (without (keys d.items) k) _ (row_of hr4 fun g hg => Below.heap_alloc w4 _ g (hr4.lt g hg).2) hl4 w4.heap.size k (heap_alloc_new w4 _)
           have hT5 : Touch S w w5 := (hT4.alloc _).grown hg5 (fun i hi => .inl (H.out.so i (hv4 ▸ hi)))
           have hk5 : ∀ j, j < W3.heap.size → vo.ownBlock ≠ some j → w5.heap[j]? = W3.heap[j]? := fun j hj hv => (hg5.block j (by simp; omega) (fun e => hv (by rw [← hv4]; exact e.symm))).trans ((Below.heap_alloc w4 _ j (by omega)).trans (hk4 j hj hv))
           have hb5 : v5.ownBlock = vo.ownBlock ∨ ∃ g, v5.ownBlock = some g ∧ W3.heap.size ≤ g := hb5.imp (fun h => h.trans hv4) fun h => ⟨_, h.1, by simp; omega⟩
           have hs5 : W3.heap.size ≤ w5.heap.size := by have := hg5.size; simp at this; omega)
        | (with_reducible refine (HD2.out).mono ?_
           rintro e w4 ⟨v4, rfl, hv4, hr4, ht4⟩
           have hT4 : Touch S w w4 := ((HT3.out.alloc _).drew).trans ht4 fun i _ he => H.out.so i he
           have hk4 : ∀ j, j < W3.heap.size → vo.ownBlock ≠ some j → w4.heap[j]? = W3.heap[j]? := fun j hj hv => (ht4.block j (by simp [World.drew]; omega) hv).trans (Below.heap_alloc W3 _ j hj)
           have hs4 : W3.heap.size ≤ w4.heap.size := by have := ht4.size; simp [World.drew] at this; omega
           have hl4 : (without (keys d.items) k).length ≤ 900000 := Nat.le_trans (List.length_filter_le _ _) (by omega)
           obtain ⟨v5, w5, hrun, hr5, hg5, hb5⟩ := push_key w4 v4 (without (keys d.items) k) _ hr4 hl4 W3.heap.size k ((ht4.block W3.heap.size (by simp [World.drew]) hv3).trans (heap_alloc_new W3 _))
           have hT5 : Touch S w w5 := hT4.grown hg5 (fun i hi => .inl (H.out.so i (hv4 ▸ hi)))
           have hk5 : ∀ j, j < W3.heap.size → vo.ownBlock ≠ some j → w5.heap[j]? = W3.heap[j]? := fun j hj hv => (hg5.block j (by omega) (fun e => hv (by rw [← hv4]; exact e.symm))).trans (hk4 j hj hv)
           have hb5 : v5.ownBlock = vo.ownBlock ∨ ∃ g, v5.ownBlock = some g ∧ W3.heap.size ≤ g := hb5.imp (fun h => h.trans hv4) fun h => ⟨_, h.1, hs4⟩
           have hs5 : W3.heap.size ≤ w5.heap.size := by have := hg5.size; omega)
        have HRUN := Lib.hid hrun
        obtain ⟨A5, c5, rfl⟩ := row_sl hr5
        have z3 : w5.cell? ⟨C, 3, none⟩ = some vo := (World.cell?_of_block (hk5 C hCl3 hvC)).trans x3
        have zf : w5.frozen? ⟨C, 3, none⟩ = false := by simp [World.frozen?, (hk5 C hCl3 hvC).trans HH3.out.obj]
        clear hrun
        go_simp
        refine shut_C hK ?_ (fun hC => ?_)
        · first
          | exact four (hk5 C hCl3 hvC) (hk5 _ hBl3 hvB) ⟨x3, y0, y1, y2⟩
          | exact four (hk4 C hCl3 hvC) (hk4 _ hBl3 hvB) ⟨x3, y0, y1, y2⟩
          | exact four ((Below.heap_alloc w4 _ C (by omega)).trans (hk4 C hCl3 hvC)) ((Below.heap_alloc w4 _ _ (by omega)).trans (hk4 _ hBl3 hvB)) ⟨x3, y0, y1, y2⟩
          | exact four (Below.heap_alloc W3 _ C hCl3) (Below.heap_alloc W3 _ _ hBl3) ⟨x3, y0, y1, y2⟩
        clear hK K
        try simp only [Act.put, List.setIfInBounds_toArray, List.set_cons_zero, List.set_cons_succ]
        refine wpAnyD_ready (fuel := 3) (rs := [9]) (by kernel_rfl) (by simp) ?_
        refine AllReadyD.cons (o := _) rfl (fun K hK => ?_) ?_
        · refine step_append_eq rfl (.tmp 39) (.tmp 41) 55 rfl _ _ _ _ rfl rfl HRUN.out ?_
          refine shut_C hK ?_ (fun hC => ?_)
          · first
            | exact four (hk5 C hCl3 hvC) (hk5 _ hBl3 hvB) ⟨x3, y0, y1, y2⟩
            | exact four (hk4 C hCl3 hvC) (hk4 _ hBl3 hvB) ⟨x3, y0, y1, y2⟩
            | exact four ((Below.heap_alloc w4 _ C (by omega)).trans (hk4 C hCl3 hvC)) ((Below.heap_alloc w4 _ _ (by omega)).trans (hk4 _ hBl3 hvB)) ⟨x3, y0, y1, y2⟩
            | exact four (Below.heap_alloc W3 _ C hCl3) (Below.heap_alloc W3 _ _ hBl3) ⟨x3, y0, y1, y2⟩
          clear hK K
          try simp only [Act.put, List.setIfInBounds_toArray, List.set_cons_zero, List.set_cons_succ]
          refine wpAnyD_take (i := 10) (dst := some 43) (v := ?_) (fuel := 2) rfl rfl (by kernel_rfl) (fun _ _ _ h => h) (by rfl) ?_ (.inr hC) ?_
          rotate_left
          · (intro w; go_simp; try with_reducible rfl)
          simp only [Act.put, List.setIfInBounds_toArray, List.set_cons_zero, List.set_cons_succ]
          refine wpAnyD_take (i := 11) (dst := some 44) (v := ?_) (fuel := 1) rfl rfl (by kernel_rfl) (fun _ _ _ h => h) (by rfl) ?_ (.inr hC) ?_
          rotate_left
          · (intro w; go_simp; try with_reducible rfl)
          simp only [Act.put, List.setIfInBounds_toArray, List.set_cons_zero, List.set_cons_succ]
          refine wpAnyD_ready (fuel := 0) (rs := [12]) (by kernel_rfl) (by simp) ?_
          refine AllReadyD.cons (o := _) rfl (fun K hK => ?_) ?_
          · go_simp
            refine shut_K hK (by kernel_rfl) ?_
            clear hK K
            try simp only [Act.put, List.setIfInBounds_toArray, List.set_cons_zero, List.set_cons_succ]
            refine wpAnyD_done (by kernel_rfl) ?_ _
            refine NoPanic.normal ?_
            have hlen : (delI d.items k ++ [(k, l)]).length = (without (keys d.items) k).length + 1 := by rw [← keys_delI]; simp [keys]
            have hkeys : keys (delI d.items k ++ [(k, l)]) = without (keys d.items) k ++ [k] := by rw [← keys_delI]; simp [keys]
            have h6 := HH3.out.reord (hlt3) (w' := w5) (v' := .slice A5 ((without (keys d.items) k).length + 1) c5) (delI d.items k ++ [(k, l)]) (by rw [hlen, hkeys]; exact hr5) hk5 hb5 HMem.out HMem'.out HTot.out
            have hT6 : Touch S w (w5.setCell ⟨C, 3, none⟩ (Value.slice A5 ((without (keys d.items) k).length + 1) c5)) := hT5.setCell (.inl H.out.sC) _
            obtain ⟨W6, hW6⟩ : ∃ W, w5.setCell ⟨C, 3, none⟩ (Value.slice A5 ((without (keys d.items) k).length + 1) c5) = W := ⟨_, rfl⟩
            have hs6 : W6.heap.size = w5.heap.size := by rw [← hW6]; simp
            have hv5 : ∀ j, (Value.slice A5 ((without (keys d.items) k).length + 1) c5).ownBlock = some j → j < W6.heap.size := fun j hj => by have := (hr5.lt j hj).2; omega
            rw [hW6] at h6 hT6 ⊢
            have hX6 : W6.heap[W1.heap.size]? = some (.cells #[.slice A l.length c, .int .i64 wt] 65 (0, 0)) := by
              rw [← hW6, Below.heap_setCell w5 ⟨C, 3, none⟩ (Value.slice A5 ((without (keys d.items) k).length + 1) c5) _ (by show W1.heap.size ≠ C; omega), hk5 _ (by omega) hv1]
              exact HX3.out
            have q0 : W6.cell? ⟨W1.heap.size, 0, none⟩ = some (.slice A l.length c) := by rw [cell_of_row W6 _ 0 _ _ _ hX6]; rfl
            have HC := Lib.hid (cloneC_walk W6 R A c l (HCh.out.frame fun k hk hl => hT6.block k hl fun hs => H.out.dj k hs hk) (by omega))
            have H6 := Lib.hid h6
            have HT6 := Lib.hid hT6
            have HV5 := Lib.hid hv5
            have HB5 := Lib.hid hb5
            clear h6 hT6 hX6 hW6 hv5 hb5
            go_wp2_with fail
            refine (HC.out).mono ?_
            rintro e w7 ⟨A', c', rfl, hch, hb7, hni⟩
            go_wp2_with fail
            refine bodyPost_ret (v := .tuple #[.slice A' l.length c', .bool true]) (by simp [results, Try.results15, go_sem]) rfl ?_
            have hsz := HT6.out.size
            have hsz7 := hb7.size
            have hS' : ∀ j, (S j ∨ (Value.slice A5 ((without (keys d.items) k).length + 1) c5).ownBlock = some j) ∨ R j → j < W6.heap.size := by
              rintro j ((hj | hj) | hj)
              · have := hlt j (.inl hj); omega
              · exact HV5.out j hj
              · have := hlt j (.inr hj); omega
            refine ⟨fun j => S j ∨ (Value.slice A5 ((without (keys d.items) k).length + 1) c5).ownBlock = some j, A', c', rfl, ⟨HT6.out.trans (.of_below hb7) (S' := fun _ => False) (fun _ _ h => h.elim), ?_, fun j hj => .inl hj, fun j hj => by have := hS' j hj; omega⟩, ⟨(Value.slice A5 ((without (keys d.items) k).length + 1) c5), M, f, H6.out.frame fun j hj _ => hb7.block j (hS' j hj)⟩, ?_⟩
            · rintro j (hj | hj)
              · exact .inl hj
              · rcases HB5.out with hb | ⟨g, hb, hl⟩
                · exact .inl (H.out.so j (hb ▸ hj))
                · rw [hb] at hj; injection hj with hj; right; omega
            · exact ⟨hch.mono fun j hj => ⟨by omega, hj.2, fun h => by have := hS' j (.inl h); omega, fun h => by have := hS' j (.inr h); omega⟩, hni⟩
          exact AllReadyD.nil
        exact AllReadyD.nil
      exact AllReadyD.nil
    exact AllReadyD.nil
end
end Go.Proofs.Ytphckenihkgoeaa
