import Derived.Test.YtphckenihkgoeaaWj
namespace Go.Proofs.Ytphckenihkgoeaa
set_option linter.unusedSimpArgs false
set_option linter.unnecessarySimpa false
set_option linter.unusedVariables false
open Go.RowKit
attribute [local go_sem ↓] Go.wp_at_zero Go.wp_at_succ

/-- from the front, until the rest fits -/
def fitI (cap : Int) : Items → Items
  | [] => []
  | p :: l => if cap < tot (p :: l) then fitI cap l else p :: l
def putF (d : CM) (k : K) (l : List Chg) : CM := { d with items := if d.cap < weight l then delI d.items k else fitI d.cap (delI d.items k ++ [(k, l)]) }
theorem fitI_stop {cap : Int} {l : Items} (h : tot l ≤ cap) : fitI cap l = l := by
  cases l with
  | nil => rfl
  | cons p l => unfold fitI; rw [if_neg (by omega)]
theorem delI_head {p : K × List Chg} {l : Items} (h : (keys (p :: l)).Nodup) : delI (p :: l) p.1 = l := by
  have h' : p.1 ∉ keys l := by
    have : (p.1 :: keys l).Nodup := h
    exact (List.nodup_cons.1 this).1
  have e : delI (p :: l) p.1 = delI l p.1 := by simp [delI]
  rw [e, delI_none h']
section
variable {S R : Nat → Prop} {C : Nat} {d : CM} {w w' : World} {vo : Value} {M : Nat} {f : K → Option Value}
/-- a list more -/
theorem CkO.ins (h : CkO S R C d w vo M f) (hlt : ∀ j, S j ∨ R j → j < w.heap.size) {w' : World} {v' : Value} (k : K) (l : List Chg) (A' : Option Addr) (c' : Nat) (N : Nat → Prop)
    (hobj : w'.heap[C]? = some (.cells #[.int .i64 d.cap, .int .i64 (tot (d.items ++ [(k, l)])), .map (some M), v', .int .i64 d.hits, .int .i64 d.misses] 63 (0, 0)))
    (hM : MapF w' M (upd f k (some (.agg #[.slice A' l.length c', .int .i64 (weight l)]))))
    (hrow : w'.ownsRow 0 33 3 v' (d.items.length + 1) (kscells (keys d.items ++ [k])))
    (hb : v'.ownBlock = vo.ownBlock ∨ ∃ g, v'.ownBlock = some g ∧ w.heap.size ≤ g ∧ ¬ N g) (hN : ∀ j, N j → w.heap.size ≤ j) (hch : Chgs w' N A' l) (hk : k ∉ keys d.items)
    (hR : ∀ j, R j → j < w.heap.size → w'.heap[j]? = w.heap[j]?) : CkO (fun j => S j ∨ v'.ownBlock = some j) (fun j => R j ∨ N j) C { d with items := d.items ++ [(k, l)] } w' v' M (upd f k (some (.agg #[.slice A' l.length c', .int .i64 (weight l)]))) := by
  refine ⟨hobj, .inl h.sC, hM, .inl h.sM, ?_, fun g hg => .inr hg, ?_, ?_, ?_⟩
  · show w'.ownsRow 0 33 3 v' (d.items ++ [(k, l)]).length (kscells (keys (d.items ++ [(k, l)])))
    have e1 : (d.items ++ [(k, l)]).length = d.items.length + 1 := by simp
    have e2 : keys (d.items ++ [(k, l)]) = keys d.items ++ [k] := by simp [keys]
    rw [e1, e2]; exact hrow
  · intro p hp
    rcases List.mem_append.1 hp with hp | hp
    · have hne : p.1 ≠ k := fun e => hk (e ▸ List.mem_map.2 ⟨p, hp, rfl⟩)
      obtain ⟨A, c, h1, h2⟩ := h.has p hp
      exact ⟨A, c, by unfold upd; rw [if_neg hne]; exact h1, (h2.frame fun j hj hl => hR j hj hl).mono fun _ h => .inl h⟩
    · rw [List.mem_singleton.1 hp]
      exact ⟨A', c', by simp [upd], hch.mono fun _ h => .inr h⟩
  · intro x hx
    have hx' : x ∉ keys d.items ∧ x ≠ k := by
      have e2 : keys (d.items ++ [(k, l)]) = keys d.items ++ [k] := by simp [keys]
      change x ∉ keys (d.items ++ [(k, l)]) at hx
      rw [e2] at hx
      simpa using hx
    unfold upd
    rw [if_neg hx'.2]
    exact h.non x hx'.1
  · intro j hj hr
    rcases hj with hj | hj
    · rcases hr with hr | hr
      · exact h.dj j hj hr
      · have h1 := hlt j (.inl hj); have h2 := hN j hr; omega
    · rcases hb with hb | ⟨g, hb, h1, h2⟩
      · have hs := h.so j (hb ▸ hj)
        rcases hr with hr | hr
        · exact h.dj j hs hr
        · have h1 := hlt j (.inl hs); have h2 := hN j hr; omega
      · rw [hb] at hj; injection hj with hj; subst hj
        rcases hr with hr | hr
        · have := hlt g (.inr hr); omega
        · exact h2 hr
set_option maxRecDepth 100000 in
set_option maxHeartbeats 600000 in
/-- Put, of a key that is not there -/
theorem put_new (h : CkO S R C d w vo M f) (hg : Good d) (hlt : ∀ j, S j ∨ R j → j < w.heap.size) (hn : d.items.length ≤ 800000) (hfit : tot d.items ≤ d.cap) (k : K) (hwf : wfK k) (hk : k ∉ keys d.items)
    (T : Nat → Prop) (A : Option Addr) (c : Nat) (l : List Chg) (hc : Chgs w T A l) (hTS : ∀ j, T j → ¬ S j) (hl : l.length ≤ 1000 ∧ ∀ i, i < l.length → (l.getD i default).2.size ≤ 1000) :
    Calls Try.prog 14 #[.pointer (some ⟨C, 0, none⟩), kv k, .slice A l.length c] w fun e w' => ∃ S' R', e = .returned (.tuple #[]) ∧ Nx S R S' R' w w' ∧ Ck S' R' C (putF d k l) w' := by
  obtain ⟨n, hwt⟩ : ∃ n, weight l = n := ⟨_, rfl⟩
  have hnb := wtF_bound l hl.2 l.length (Nat.le_refl _)
  change 16 ≤ weight l ∧ weight l ≤ 1073741824 at hnb
  rw [hwt] at hnb
  have hll := hl.1
  have hf := h.non k hk
  obtain ⟨d1, hd1⟩ : ∃ its, delI d.items k = its := ⟨_, rfl⟩
  have hd1' : d.items = d1 := by rw [← hd1, delI_none hk]
  obtain ⟨W1, hW1⟩ : ∃ W, w.alloc (.cells #[.int .i64 k.1, .int .i64 k.2.1, .int .i64 k.2.2] 33) = W := ⟨_, rfl⟩
  have hb1 : Below w.heap.size w W1 := by rw [← hW1]; exact (Below.refl _ _).alloc (Nat.le_refl _) _
  have hB : Box W1 w.heap.size k := by rw [← hW1]; exact heap_alloc_new w _
  obtain ⟨W4, hW4⟩ : ∃ W, (W1.alloc (.cells #[.slice none 0 0, .int .i64 0] 65)).drew = W := ⟨_, rfl⟩
  have hb4 : Below w.heap.size w W4 := by rw [← hW4]; exact (hb1.alloc (hb1.size) _).drew
  have hB4 : Box W4 w.heap.size k := by rw [← hW4]; exact (Below.heap_alloc W1 _ _ (Array.getElem?_eq_some_iff.1 hB).1).trans hB
  have h4 : CkO S R C { d with items := d1 } W4 vo M f := by rw [← hd1']; exact h.frame (w' := W4) fun k _ hk => hb4.block k hk
  have HB4l : Hid (w.heap.size < W4.heap.size) := Lib.hid (Array.getElem?_eq_some_iff.1 hB4).1
  have HWk := Lib.hid (weight_walk W4 (fun j => T j ∧ j < w.heap.size) A c l (hc.lt.frame fun j hj _ => hb4.block j hj.2) (by unfold maxLen; omega) fun j hj => Nat.lt_of_lt_of_le hj.2 hb4.size)
  rw [hwt] at HWk
  have HT4 : Hid (Touch S w W4) := Lib.hid (Touch.of_below hb4)
  have HD1l : Hid (d1.length ≤ 900000) := Lib.hid (by rw [← hd1']; omega)
  have HWt := Lib.hid hwt
  have HG10 : Hid (Good { d with items := d1 ++ [(k, l)] }) := Lib.hid (by
    rw [← hd1']
    have e2 : keys (d.items ++ [(k, l)]) = keys d.items ++ [k] := by simp [keys]
    refine ⟨hg.cap0, hg.cap1, ?_, fun x hx => ?_, fun p hp => ?_, ?_⟩
    · show (keys (d.items ++ [(k, l)])).Nodup
      rw [e2, List.nodup_append]
      exact ⟨hg.nd, by simp, fun a ha b hb e => hk (by rw [List.mem_singleton.1 hb] at e; exact e ▸ ha)⟩
    · change x ∈ keys (d.items ++ [(k, l)]) at hx
      rw [e2] at hx
      rcases List.mem_append.1 hx with hx | hx
      · exact hg.wf x hx
      · rw [List.mem_singleton.1 hx]; exact hwf
    · rcases List.mem_append.1 hp with hp | hp
      · exact hg.small p hp
      · rw [List.mem_singleton.1 hp]; exact hl
    · show tot (d.items ++ [(k, l)]) ≤ 4294967296
      have h1 := hg.cap1
      have h2 : tot [(k, l)] = n := by rw [← hwt]; simp [tot]
      rw [tot_append, h2]; omega)
  have hg1 : tot d1 ≤ 1073741824 ∧ 0 ≤ tot d1 := by
    rw [← hd1']; exact ⟨Int.le_trans hfit hg.cap1, tot_nonneg _ hg.small⟩
  have HD1 := Lib.hid hd1
  have HK1 : Hid (k ∉ keys d1) := Lib.hid (by rw [← hd1']; exact hk)
  have H4 := Lib.hid h4
  have HB4 := Lib.hid hB4
  have HW4 := Lib.hid hW4
  have HCh := Lib.hid hc
  have H := Lib.hid h
  have HW1 := Lib.hid hW1
  have HB := Lib.hid hB
  clear h hW1 hB hW4 hB4 h4 hwt hd1 hd1' hb4
  have H1 := H.out.frame (w' := W1) fun k _ hk => hb1.block k hk
  have c2 := H1.c2
  obtain ⟨b0, b1, b2⟩ := HB.out.cells
  have hz : (zeroValue 65).run Try.prog W1.drew = .ok (.agg #[.slice none 0 0, .int .i64 0]) W1.drew := by kernel_rfl
  have hlk := mapF_none (t := 61) (w := W1.drew) (H1.mp.of_heap rfl) hwf Try.underlying61 hz hf true
  simp only [if_true] at hlk
  have a2 := Lib.cell?_alloc_some (.cells #[.slice none 0 0, .int .i64 0] 65) c2
  have a3 := Lib.cell?_alloc_some (.cells #[.slice none 0 0, .int .i64 0] 65) b0
  have a4 := Lib.cell?_alloc_some (.cells #[.slice none 0 0, .int .i64 0] 65) b1
  have a5 := Lib.cell?_alloc_some (.cells #[.slice none 0 0, .int .i64 0] 65) b2
  have hz' : (zeroValue 65).run Try.prog (W1.alloc (.cells #[.slice none 0 0, .int .i64 0] 65)).drew = .ok (.agg #[.slice none 0 0, .int .i64 0]) (W1.alloc (.cells #[.slice none 0 0, .int .i64 0] 65)).drew := by kernel_rfl
  have hla := mapF_none (t := 61) (w := (W1.alloc (.cells #[.slice none 0 0, .int .i64 0] 65)).drew) (H1.mp.of_heap (Below.heap_alloc _ _ M H1.mp.lt)) hwf Try.underlying61 hz' hf true
  simp only [if_true] at hla
  unfold kv at hlk hla
  clear H1
  unfold kv
  go_enter Try.func14, Try.ntmps14
  go_upto_region 1 with (fail)
  rw [HW1.out]
  go_region
  all_goals
    rw [HW4.out]
    clear hlk hla hz hz' a2 a3 a4 a5 c2 b0 b1 b2
    go_upto_region 4 with (fail)
    go_wp2_with fail
    refine (HWk.out).mono ?_
    rintro e w5 ⟨rfl, hb5⟩
    have h5 := H4.out.frame (w' := w5) fun j _ hj => hb5.block j hj
    have hT5 : Touch S w w5 := HT4.out.trans (.of_below hb5) (S' := fun _ => False) (fun _ _ h => h.elim)
    have hB5 : Box w5 w.heap.size k := (hb5.block _ HB4l.out).trans HB4.out
    have c0 : w5.cell? ⟨C, 0, none⟩ = some (.int .i64 d.cap) := h5.c0
    have H5 := Lib.hid h5
    have HT5 := Lib.hid hT5
    have HB5 := Lib.hid hB5
    clear h5 hT5 hB5 hb5
    by_cases hcn : d.cap < n
    · go_wp2_with fail
      refine bodyPost_ret (results_none rfl _ _ _) rfl ?_
      refine ⟨S, R, rfl, ⟨HT5.out, fun j hj => .inl hj, fun j hj => .inl hj, fun j hj => Nat.lt_of_lt_of_le (hlt j hj) HT5.out.size⟩, ?_⟩
      unfold putF
      rw [HWt.out, if_pos hcn, HD1.out]
      exact ⟨vo, M, f, H5.out⟩
    · have c1 : w5.cell? ⟨C, 1, none⟩ = some (.int .i64 (tot d1)) := H5.out.c1
      have c2 := H5.out.c2
      obtain ⟨b0, b1, b2⟩ := HB5.out.cells
      have HC := Lib.hid (cloneC_walk w5.drew T A c l (HCh.out.frame fun j hj hl => HT5.out.block j hl fun hs => hTS j hj hs) (by omega))
      have HBl : Hid (w.heap.size < w5.heap.size) := Lib.hid (Array.getElem?_eq_some_iff.1 HB5.out).1
      have HBC : Hid (w.heap.size ≠ C) := Lib.hid fun e => by have := hlt C (.inl H5.out.sC); omega
      have HBM : Hid (w.heap.size ≠ M) := Lib.hid fun e => by have := hlt M (.inl H5.out.sM); omega
      go_upto_region 6 with (fail)
      clear c0
      refine wp_region_noPanic ?_
      refine wp_region_D 21 (fun w' => w'.cell? ⟨C, 1, none⟩ = some (.int .i64 (tot d1)) ∧ w'.cell? ⟨C, 2, none⟩ = some (.map (some M)) ∧ w'.cell? ⟨w.heap.size, 0, none⟩ = some (.int .i64 k.1) ∧ w'.cell? ⟨w.heap.size, 1, none⟩ = some (.int .i64 k.2.1) ∧ w'.cell? ⟨w.heap.size, 2, none⟩ = some (.int .i64 k.2.2)) (by kernel_rfl) ⟨c1, c2, b0, b1, b2⟩ (fun hU => ?_)
      have hC : (fun w' : World => w'.cell? ⟨C, 1, none⟩ = some (.int .i64 (tot d1)) ∧ w'.cell? ⟨C, 2, none⟩ = some (.map (some M)) ∧ w'.cell? ⟨w.heap.size, 0, none⟩ = some (.int .i64 k.1) ∧ w'.cell? ⟨w.heap.size, 1, none⟩ = some (.int .i64 k.2.1) ∧ w'.cell? ⟨w.heap.size, 2, none⟩ = some (.int .i64 k.2.2)) w5.drew := ⟨c1, c2, b0, b1, b2⟩
      clear hU
      refine wpAnyD_take (i := 0) (dst := some 30) (v := ?_) (fuel := 21) rfl rfl (by kernel_rfl) (fun _ _ _ h => h) (by rfl) ?_ (.inr hC) ?_
      rotate_left
      · (intro w; go_simp; try with_reducible rfl)
      simp only [Act.put, List.setIfInBounds_toArray, List.set_cons_zero, List.set_cons_succ]
      refine wpAnyD_take (i := 1) (dst := some 31) (v := ?_) (fuel := 20) rfl rfl (by kernel_rfl) (fun _ _ _ h => h) (by rfl) ?_ (.inr hC) ?_
      rotate_left
      · (intro w; go_simp; try with_reducible rfl)
      simp only [Act.put, List.setIfInBounds_toArray, List.set_cons_zero, List.set_cons_succ]
      refine wpAnyD_take (i := 2) (dst := some 32) (v := ?_) (fuel := 19) rfl rfl (by kernel_rfl) (fun _ _ _ h => h) (by rfl) ?_ (.inr hC) ?_
      rotate_left
      · (intro w; go_simp; try with_reducible rfl)
      simp only [Act.put, List.setIfInBounds_toArray, List.set_cons_zero, List.set_cons_succ]
      refine wpAnyD_load (i := 3) (dst := some 33) (v := ?_) (fuel := 18) rfl rfl (by kernel_rfl) (fun _ _ _ h => h) (by rfl) ?_ (.inr hC) ?_
      rotate_left
      · intro w hSw
        try dsimp only at hSw
        go_simp
        try with_reducible rfl
      simp only [Act.put, List.setIfInBounds_toArray, List.set_cons_zero, List.set_cons_succ]
      refine wpAnyD_load (i := 4) (dst := some 34) (v := ?_) (fuel := 17) rfl rfl (by kernel_rfl) (fun _ _ _ h => h) (by rfl) ?_ (.inr hC) ?_
      rotate_left
      · intro w hSw
        try dsimp only at hSw
        go_simp
        try with_reducible rfl
      simp only [Act.put, List.setIfInBounds_toArray, List.set_cons_zero, List.set_cons_succ]
      refine wpAnyD_take (i := 5) (dst := some 35) (v := ?_) (fuel := 16) rfl rfl (by kernel_rfl) (fun _ _ _ h => h) (by rfl) ?_ (.inr hC) ?_
      rotate_left
      · (intro w; go_simp; try with_reducible rfl)
      simp only [Act.put, List.setIfInBounds_toArray, List.set_cons_zero, List.set_cons_succ]
      refine wpAnyD_take (i := 6) (dst := some 36) (v := ?_) (fuel := 15) rfl rfl (by kernel_rfl) (fun _ _ _ h => h) (by rfl) ?_ (.inr hC) ?_
      rotate_left
      · (intro w; go_simp; try with_reducible rfl)
      simp only [Act.put, List.setIfInBounds_toArray, List.set_cons_zero, List.set_cons_succ]
      refine wpAnyD_take (i := 8) (dst := some 38) (v := ?_) (fuel := 14) rfl rfl (by kernel_rfl) (fun _ _ _ h => h) (by rfl) ?_ (.inr hC) ?_
      rotate_left
      · (intro w; go_simp; try with_reducible rfl)
      simp only [Act.put, List.setIfInBounds_toArray, List.set_cons_zero, List.set_cons_succ]
      refine wpAnyD_take (i := 10) (dst := some 40) (v := ?_) (fuel := 13) rfl rfl (by kernel_rfl) (fun _ _ _ h => h) (by rfl) ?_ (.inr hC) ?_
      rotate_left
      · (intro w; go_simp; try with_reducible rfl)
      simp only [Act.put, List.setIfInBounds_toArray, List.set_cons_zero, List.set_cons_succ]
      refine wpAnyD_take (i := 11) (dst := some 41) (v := ?_) (fuel := 12) rfl rfl (by kernel_rfl) (fun _ _ _ h => h) (by rfl) ?_ (.inr hC) ?_
      rotate_left
      · (intro w; go_simp; try with_reducible rfl)
      simp only [Act.put, List.setIfInBounds_toArray, List.set_cons_zero, List.set_cons_succ]
      refine wpAnyD_take (i := 12) (dst := some 42) (v := ?_) (fuel := 11) rfl rfl (by kernel_rfl) (fun _ _ _ h => h) (by rfl) ?_ (.inr hC) ?_
      rotate_left
      · (intro w; go_simp; try with_reducible rfl)
      simp only [Act.put, List.setIfInBounds_toArray, List.set_cons_zero, List.set_cons_succ]
      refine wpAnyD_load (i := 13) (dst := some 43) (v := ?_) (fuel := 10) rfl rfl (by kernel_rfl) (fun _ _ _ h => h) (by rfl) ?_ (.inr hC) ?_
      rotate_left
      · intro w hSw
        try dsimp only at hSw
        go_simp
        try with_reducible rfl
      simp only [Act.put, List.setIfInBounds_toArray, List.set_cons_zero, List.set_cons_succ]
      refine wpAnyD_take (i := 14) (dst := some 44) (v := ?_) (fuel := 9) rfl rfl (by kernel_rfl) (fun _ _ _ h => h) (by rfl) ?_ (.inr hC) ?_
      rotate_left
      · (intro w; go_simp; try with_reducible rfl)
      simp only [Act.put, List.setIfInBounds_toArray, List.set_cons_zero, List.set_cons_succ]
      refine wpAnyD_take (i := 15) (dst := some 45) (v := ?_) (fuel := 8) rfl rfl (by kernel_rfl) (fun _ _ _ h => h) (by rfl) ?_ (.inr hC) ?_
      rotate_left
      · (intro w; go_simp; try with_reducible rfl)
      simp only [Act.put, List.setIfInBounds_toArray, List.set_cons_zero, List.set_cons_succ]
      refine wpAnyD_ready (fuel := 7) (rs := [7]) (by kernel_rfl) (by simp) ?_
      refine AllReadyD.cons (o := _) rfl (fun K hK => ?_) ?_
      · go_simp
        go_at_call 25
        with_reducible refine (HC.out).mono ?_
        rintro e w6 ⟨A', c', rfl, hch, hb6, _⟩
        have hb6 : Below w5.heap.size w5 w6 := ((Below.refl _ w5).drew).trans hb6
        have hM6 : MapF w6 M f := H5.out.mp.of_heap (hb6.block M H5.out.mp.lt)
        have hwr : IntKind.i64.wrap (tot d1 + n) = tot d1 + n := (IntWalk.i64_left _).trans (wrap_small (by omega) (by omega))
        obtain ⟨o, st, hme, hE⟩ := mapE_new (t := 61) hM6 hwf Try.underlying61 (show (zeroValue 65).run Try.prog w6 = .ok (.agg #[.slice none 0 0, .int .i64 0]) w6 by kernel_rfl) hf
        obtain ⟨o2, hes, hF⟩ := mapE_store (t := 61) hE hwf (.agg #[.slice A' l.length c', .int .i64 n])
        unfold kv at hme
        have hs7 : (mset (mset w6 M o) M o2).heap.size = w6.heap.size := by rw [mset_size, mset_size]
        have hk7 : ∀ j, j ≠ M → (mset (mset w6 M o) M o2).heap[j]? = w6.heap[j]? := fun j hj => by rw [mset_far _ hj, mset_far _ hj]
        have hO7 := (hk7 C (Ne.symm H5.out.nM)).trans ((hb6.block C H5.out.lt).trans H5.out.obj)
        have z1 : (mset (mset w6 M o) M o2).cell? ⟨C, 1, none⟩ = some (.int .i64 (tot d1)) := by rw [cell_of_row _ C 1 _ _ _ hO7]; rfl
        have zf : (mset (mset w6 M o) M o2).frozen? ⟨C, 1, none⟩ = false := by simp [World.frozen?, hO7]
        have HCH := Lib.hid hch
        have HB6 := Lib.hid hb6
        have HF := Lib.hid hF
        have HO7 := Lib.hid hO7
        have HK7 := Lib.hid hk7
        have HS7 := Lib.hid hs7
        clear hch hb6 hF hO7 hk7 hs7 hE hM6
        go_simp
        refine shut_C hK ?_ (fun hC => ?_)
        · first
          | exact ⟨(World.cell?_of_block (HB6.out.block C H5.out.lt)).trans c1, (World.cell?_of_block (HB6.out.block C H5.out.lt)).trans c2, (World.cell?_of_block (HB6.out.block _ HBl.out)).trans b0, (World.cell?_of_block (HB6.out.block _ HBl.out)).trans b1, (World.cell?_of_block (HB6.out.block _ HBl.out)).trans b2⟩
          | exact ⟨(World.cell?_of_block ((mset_far o (Ne.symm H5.out.nM)).trans (HB6.out.block C H5.out.lt))).trans c1, (World.cell?_of_block ((mset_far o (Ne.symm H5.out.nM)).trans (HB6.out.block C H5.out.lt))).trans c2, (World.cell?_of_block ((mset_far o HBM.out).trans (HB6.out.block _ HBl.out))).trans b0, (World.cell?_of_block ((mset_far o HBM.out).trans (HB6.out.block _ HBl.out))).trans b1, (World.cell?_of_block ((mset_far o HBM.out).trans (HB6.out.block _ HBl.out))).trans b2⟩
          | exact ⟨(World.cell?_of_block ((HK7.out C (Ne.symm H5.out.nM)).trans (HB6.out.block C H5.out.lt))).trans c1, (World.cell?_of_block ((HK7.out C (Ne.symm H5.out.nM)).trans (HB6.out.block C H5.out.lt))).trans c2, (World.cell?_of_block ((HK7.out _ HBM.out).trans (HB6.out.block _ HBl.out))).trans b0, (World.cell?_of_block ((HK7.out _ HBM.out).trans (HB6.out.block _ HBl.out))).trans b1, (World.cell?_of_block ((HK7.out _ HBM.out).trans (HB6.out.block _ HBl.out))).trans b2⟩
        clear hK K
        try simp only [Act.put, List.setIfInBounds_toArray, List.set_cons_zero, List.set_cons_succ]
        refine wpAnyD_take (i := 9) (dst := some 39) (v := ?_) (fuel := 6) rfl rfl (by kernel_rfl) (fun _ _ _ h => h) (by rfl) ?_ (.inr hC) ?_
        rotate_left
        · (intro w; go_simp; try with_reducible rfl)
        simp only [Act.put, List.setIfInBounds_toArray, List.set_cons_zero, List.set_cons_succ]
        refine wpAnyD_ready (fuel := 5) (rs := [16]) (by kernel_rfl) (by simp) ?_
        refine AllReadyD.cons (o := _) rfl (fun K hK => ?_) ?_
        · go_simp
          refine shut_C hK ?_ (fun hC => ?_)
          · first
            | exact ⟨(World.cell?_of_block (HB6.out.block C H5.out.lt)).trans c1, (World.cell?_of_block (HB6.out.block C H5.out.lt)).trans c2, (World.cell?_of_block (HB6.out.block _ HBl.out)).trans b0, (World.cell?_of_block (HB6.out.block _ HBl.out)).trans b1, (World.cell?_of_block (HB6.out.block _ HBl.out)).trans b2⟩
            | exact ⟨(World.cell?_of_block ((mset_far o (Ne.symm H5.out.nM)).trans (HB6.out.block C H5.out.lt))).trans c1, (World.cell?_of_block ((mset_far o (Ne.symm H5.out.nM)).trans (HB6.out.block C H5.out.lt))).trans c2, (World.cell?_of_block ((mset_far o HBM.out).trans (HB6.out.block _ HBl.out))).trans b0, (World.cell?_of_block ((mset_far o HBM.out).trans (HB6.out.block _ HBl.out))).trans b1, (World.cell?_of_block ((mset_far o HBM.out).trans (HB6.out.block _ HBl.out))).trans b2⟩
            | exact ⟨(World.cell?_of_block ((HK7.out C (Ne.symm H5.out.nM)).trans (HB6.out.block C H5.out.lt))).trans c1, (World.cell?_of_block ((HK7.out C (Ne.symm H5.out.nM)).trans (HB6.out.block C H5.out.lt))).trans c2, (World.cell?_of_block ((HK7.out _ HBM.out).trans (HB6.out.block _ HBl.out))).trans b0, (World.cell?_of_block ((HK7.out _ HBM.out).trans (HB6.out.block _ HBl.out))).trans b1, (World.cell?_of_block ((HK7.out _ HBM.out).trans (HB6.out.block _ HBl.out))).trans b2⟩
          clear hK K
          try simp only [Act.put, List.setIfInBounds_toArray, List.set_cons_zero, List.set_cons_succ]
          refine wpAnyD_take (i := 17) (dst := some 47) (v := ?_) (fuel := 4) rfl rfl (by kernel_rfl) (fun _ _ _ h => h) (by rfl) ?_ (.inr hC) ?_
          rotate_left
          · (intro w; go_simp; try with_reducible rfl)
          simp only [Act.put, List.setIfInBounds_toArray, List.set_cons_zero, List.set_cons_succ]
          refine wpAnyD_ready (fuel := 3) (rs := [18]) (by kernel_rfl) (by simp) ?_
          refine AllReadyD.cons (o := _) rfl (fun K hK => ?_) ?_
          · go_simp
            refine shut_C hK ?_ (fun hC => ?_)
            · first
              | exact ⟨(World.cell?_of_block (HB6.out.block C H5.out.lt)).trans c1, (World.cell?_of_block (HB6.out.block C H5.out.lt)).trans c2, (World.cell?_of_block (HB6.out.block _ HBl.out)).trans b0, (World.cell?_of_block (HB6.out.block _ HBl.out)).trans b1, (World.cell?_of_block (HB6.out.block _ HBl.out)).trans b2⟩
              | exact ⟨(World.cell?_of_block ((mset_far o (Ne.symm H5.out.nM)).trans (HB6.out.block C H5.out.lt))).trans c1, (World.cell?_of_block ((mset_far o (Ne.symm H5.out.nM)).trans (HB6.out.block C H5.out.lt))).trans c2, (World.cell?_of_block ((mset_far o HBM.out).trans (HB6.out.block _ HBl.out))).trans b0, (World.cell?_of_block ((mset_far o HBM.out).trans (HB6.out.block _ HBl.out))).trans b1, (World.cell?_of_block ((mset_far o HBM.out).trans (HB6.out.block _ HBl.out))).trans b2⟩
              | exact ⟨(World.cell?_of_block ((HK7.out C (Ne.symm H5.out.nM)).trans (HB6.out.block C H5.out.lt))).trans c1, (World.cell?_of_block ((HK7.out C (Ne.symm H5.out.nM)).trans (HB6.out.block C H5.out.lt))).trans c2, (World.cell?_of_block ((HK7.out _ HBM.out).trans (HB6.out.block _ HBl.out))).trans b0, (World.cell?_of_block ((HK7.out _ HBM.out).trans (HB6.out.block _ HBl.out))).trans b1, (World.cell?_of_block ((HK7.out _ HBM.out).trans (HB6.out.block _ HBl.out))).trans b2⟩
            clear hK K
            try simp only [Act.put, List.setIfInBounds_toArray, List.set_cons_zero, List.set_cons_succ]
            refine wpAnyD_take (i := 19) (dst := some 48) (v := ?_) (fuel := 2) rfl rfl (by kernel_rfl) (fun _ _ _ h => h) (by rfl) ?_ (.inr hC) ?_
            rotate_left
            · (intro w; go_simp; try with_reducible rfl)
            simp only [Act.put, List.setIfInBounds_toArray, List.set_cons_zero, List.set_cons_succ]
            refine wpAnyD_take (i := 20) (dst := some 49) (v := ?_) (fuel := 1) rfl rfl (by kernel_rfl) (fun _ _ _ h => h) (by rfl) ?_ (.inr hC) ?_
            rotate_left
            · (intro w; go_simp; try with_reducible rfl)
            simp only [Act.put, List.setIfInBounds_toArray, List.set_cons_zero, List.set_cons_succ]
            refine wpAnyD_ready (fuel := 0) (rs := [21]) (by kernel_rfl) (by simp) ?_
            refine AllReadyD.cons (o := _) rfl (fun K hK => ?_) ?_
            · go_simp
              refine shut_K hK (by kernel_rfl) ?_
              clear hK K
              try simp only [Act.put, List.setIfInBounds_toArray, List.set_cons_zero, List.set_cons_succ]
              refine wpAnyD_done (by kernel_rfl) ?_ _
              refine NoPanic.normal ?_
              have htn : tot d1 + n = tot (d1 ++ [(k, l)]) := by
                rw [tot_append]
                have : tot [(k, l)] = n := by rw [← HWt.out]; simp [tot]
                rw [this]
              have H7r : (mset (mset w6 M o) M o2).ownsRow 0 33 3 vo d1.length (kscells (keys d1)) := row_of H5.out.ro fun g hg => (HK7.out g fun e => (H5.out.no g hg).2 e).trans (HB6.out.block g (H5.out.ro.lt g hg).2)
              have HT7 : Touch S w (mset (mset w6 M o) M o2) := mset_touch (mset_touch (HT5.out.trans (.of_below HB6.out) (S' := fun _ => False) (fun _ _ h => h.elim)) (.inl H5.out.sM) o) (.inl H5.out.sM) o2
              obtain ⟨W8, hW8⟩ : ∃ W, (mset (mset w6 M o) M o2).setCell ⟨C, 1, none⟩ (.int .i64 (tot d1 + n)) = W := ⟨_, rfl⟩
              have hfar8 : ∀ b, b ≠ C → W8.heap[b]? = (mset (mset w6 M o) M o2).heap[b]? := fun b hb => by rw [← hW8]; exact Below.heap_setCell _ ⟨C, 1, none⟩ _ b hb
              have hs8 : W8.heap.size = w6.heap.size := by rw [← hW8]; simp [HS7.out]
              have hobj8 : W8.heap[C]? = some (.cells #[.int .i64 d.cap, .int .i64 (tot (d1 ++ [(k, l)])), .map (some M), vo, .int .i64 d.hits, .int .i64 d.misses] 63 (0, 0)) := by
                rw [← hW8, htn]; exact (heap_setCell_any _ C 1 _ _ _ _ HO7.out).trans rfl
              have hF8 : MapF W8 M (upd f k (some (.agg #[.slice A' l.length c', .int .i64 n]))) := HF.out.of_heap (hfar8 M H5.out.nM)
              have hr8 : W8.ownsRow 0 33 3 vo d1.length (kscells (keys d1)) := row_of H7r fun g hg => hfar8 g (H5.out.no g hg).1
              have hB8 : Box W8 w.heap.size k := (hfar8 _ HBC.out).trans ((HK7.out _ HBM.out).trans ((HB6.out.block _ HBl.out).trans HB5.out))
              have hT8 : Touch S w W8 := by rw [← hW8]; exact HT7.setCell (.inl H.out.sC) _
              have h58 : w5.heap.size ≤ W8.heap.size := by rw [hs8]; exact HB6.out.size
              have hk8 : ∀ j, R j → j < w5.heap.size → W8.heap[j]? = w5.heap[j]? := fun j hj hl => by
                rw [hfar8 j fun e => H.out.dj C H.out.sC (e ▸ hj), HK7.out j fun e => H5.out.dj M H5.out.sM (e ▸ hj)]
                exact HB6.out.block j hl
              have hCH8 : Chgs W8 (fun j => w5.heap.size ≤ j ∧ j < w6.heap.size) A' l := HCH.out.frame fun j hj hl => by
                have h1 : j ≠ C := fun e => by have h2 := H5.out.lt; have h3 : w5.heap.size ≤ j := hj.1; omega
                have h2 : j ≠ M := fun e => by have h2 := H5.out.mp.lt; have h3 : w5.heap.size ≤ j := hj.1; omega
                rw [hfar8 j h1, HK7.out j h2]
              have hvC : vo.ownBlock ≠ some C := fun e => (H5.out.no C e).1 rfl
              have hvM : vo.ownBlock ≠ some M := fun e => (H5.out.no M e).2 rfl
              have hvB : vo.ownBlock ≠ some w.heap.size := fun e => by have := hlt _ (.inl (H5.out.so _ e)); omega
              have hv8 : vo.ownBlock ≠ some W8.heap.size := fun e => by have := hlt _ (.inl (H5.out.so _ e)); have := HT5.out.size; omega
              have hC8l : C < W8.heap.size := Nat.lt_of_lt_of_le H5.out.lt h58
              have hB8l : w.heap.size < W8.heap.size := Nat.lt_of_lt_of_le HBl.out h58
              obtain ⟨v9, w9, hrun, hr9, hg9, hb9⟩ := push_key (W8.alloc (.cells #[.int .i64 k.1, .int .i64 k.2.1, .int .i64 k.2.2] 33)).drew vo (keys d1) _ (row_of hr8 fun g hg => Below.heap_alloc W8 _ g (hr8.lt g hg).2) HD1l.out W8.heap.size k (heap_alloc_new W8 _)
              have hT9 : Touch S w w9 := (hT8.alloc _).drew.grown hg9 (fun i hi => .inl (H5.out.so i hi))
              have hk9 : ∀ j, j < W8.heap.size → vo.ownBlock ≠ some j → w9.heap[j]? = W8.heap[j]? := fun j hj hv => (hg9.block j (by simp [World.drew]; omega) (fun e => hv e.symm)).trans (Below.heap_alloc W8 _ j hj)
              have hb9 : v9.ownBlock = vo.ownBlock ∨ ∃ g, v9.ownBlock = some g ∧ W8.heap.size ≤ g := hb9.imp id fun h => ⟨_, h.1, by simp [World.drew]⟩
              have hs9 : W8.heap.size ≤ w9.heap.size := by have := hg9.size; simp [World.drew] at this; omega
              obtain ⟨A9, c9, rfl⟩ := row_sl hr9
              have x3 : W8.cell? ⟨C, 3, none⟩ = some vo := by rw [cell_of_row W8 C 3 _ _ _ hobj8]; rfl
              obtain ⟨y0, y1, y2⟩ := hB8.cells
              have z3 : w9.cell? ⟨C, 3, none⟩ = some vo := (World.cell?_of_block (hk9 C hC8l hvC)).trans x3
              have zf3 : w9.frozen? ⟨C, 3, none⟩ = false := by simp [World.frozen?, (hk9 C hC8l hvC).trans hobj8]
              have HRUN := Lib.hid hrun
              have HO8 := Lib.hid hobj8
              have HF8 := Lib.hid hF8
              have HT9 := Lib.hid hT9
              have HR9 := Lib.hid hr9
              have HCH8 := Lib.hid hCH8
              have HW8 := Lib.hid hW8
              have HS8 := Lib.hid hs8
              have HK8 := Lib.hid hk8
              clear hrun hobj8 hF8 hT8 hT9 hr9 hr8 hB8 hCH8 hW8 hs8 hfar8 H7r HT7 htn hk8 hg9
              rw [HW8.out]
              go_upto_region 7 with (fail)
              refine wp_region_noPanic ?_
              refine wp_region_D 10 (fun w' => w'.cell? ⟨C, 3, none⟩ = some vo ∧ w'.cell? ⟨w.heap.size, 0, none⟩ = some (.int .i64 k.1) ∧ w'.cell? ⟨w.heap.size, 1, none⟩ = some (.int .i64 k.2.1) ∧ w'.cell? ⟨w.heap.size, 2, none⟩ = some (.int .i64 k.2.2)) (by kernel_rfl) ⟨x3, y0, y1, y2⟩ (fun hU => ?_)
              have hC : (fun w' : World => w'.cell? ⟨C, 3, none⟩ = some vo ∧ w'.cell? ⟨w.heap.size, 0, none⟩ = some (.int .i64 k.1) ∧ w'.cell? ⟨w.heap.size, 1, none⟩ = some (.int .i64 k.2.1) ∧ w'.cell? ⟨w.heap.size, 2, none⟩ = some (.int .i64 k.2.2)) W8.drew := ⟨x3, y0, y1, y2⟩
              clear hU
              refine wpAnyD_take (i := 0) (dst := some 50) (v := ?_) (fuel := 10) rfl rfl (by kernel_rfl) (fun _ _ _ h => h) (by rfl) ?_ (.inr hC) ?_
              rotate_left
              · (intro w; go_simp; try with_reducible rfl)
              simp only [Act.put, List.setIfInBounds_toArray, List.set_cons_zero, List.set_cons_succ]
              refine wpAnyD_take (i := 1) (dst := some 51) (v := ?_) (fuel := 9) rfl rfl (by kernel_rfl) (fun _ _ _ h => h) (by rfl) ?_ (.inr hC) ?_
              rotate_left
              · (intro w; go_simp; try with_reducible rfl)
              simp only [Act.put, List.setIfInBounds_toArray, List.set_cons_zero, List.set_cons_succ]
              refine wpAnyD_take (i := 2) (dst := some 52) (v := ?_) (fuel := 8) rfl rfl (by kernel_rfl) (fun _ _ _ h => h) (by rfl) ?_ (.inr hC) ?_
              rotate_left
              · (intro w; go_simp; try with_reducible rfl)
              simp only [Act.put, List.setIfInBounds_toArray, List.set_cons_zero, List.set_cons_succ]
              refine wpAnyD_take (i := 3) (dst := some 53) (v := ?_) (fuel := 7) rfl rfl (by kernel_rfl) (fun _ _ _ h => h) (by rfl) ?_ (.inr hC) ?_
              rotate_left
              · (intro w; go_simp; try with_reducible rfl)
              simp only [Act.put, List.setIfInBounds_toArray, List.set_cons_zero, List.set_cons_succ]
              refine wpAnyD_load (i := 4) (dst := some 54) (v := ?_) (fuel := 6) rfl rfl (by kernel_rfl) (fun _ _ _ h => h) (by rfl) ?_ (.inr hC) ?_
              rotate_left
              · intro w hSw
                try dsimp only at hSw
                go_simp
                try with_reducible rfl
              simp only [Act.put, List.setIfInBounds_toArray, List.set_cons_zero, List.set_cons_succ]
              refine wpAnyD_load (i := 5) (dst := some 55) (v := ?_) (fuel := 5) rfl rfl (by kernel_rfl) (fun _ _ _ h => h) (by rfl) ?_ (.inr hC) ?_
              rotate_left
              · intro w hSw
                try dsimp only at hSw
                go_simp
                try with_reducible rfl
              simp only [Act.put, List.setIfInBounds_toArray, List.set_cons_zero, List.set_cons_succ]
              refine wpAnyD_ready (fuel := 4) (rs := [6]) (by kernel_rfl) (by simp) ?_
              refine AllReadyD.cons (o := _) rfl (fun K hK => ?_) ?_
              · go_simp
                refine shut_C hK ?_ (fun hC => ?_)
                · first
                  | exact four (hk9 C hC8l hvC) (hk9 _ hB8l hvB) ⟨x3, y0, y1, y2⟩
                  | exact four (Below.heap_alloc W8 _ C hC8l) (Below.heap_alloc W8 _ _ hB8l) ⟨x3, y0, y1, y2⟩
                clear hK K
                try simp only [Act.put, List.setIfInBounds_toArray, List.set_cons_zero, List.set_cons_succ]
                refine wpAnyD_ready (fuel := 3) (rs := [7]) (by kernel_rfl) (by simp) ?_
                refine AllReadyD.cons (o := _) rfl (fun K hK => ?_) ?_
                · refine step_append_eq rfl (.tmp 54) (.tmp 56) 55 rfl _ _ _ _ rfl rfl HRUN.out ?_
                  refine shut_C hK ?_ (fun hC => ?_)
                  · first
                    | exact four (hk9 C hC8l hvC) (hk9 _ hB8l hvB) ⟨x3, y0, y1, y2⟩
                    | exact four (Below.heap_alloc W8 _ C hC8l) (Below.heap_alloc W8 _ _ hB8l) ⟨x3, y0, y1, y2⟩
                  clear hK K
                  try simp only [Act.put, List.setIfInBounds_toArray, List.set_cons_zero, List.set_cons_succ]
                  refine wpAnyD_take (i := 8) (dst := some 58) (v := ?_) (fuel := 2) rfl rfl (by kernel_rfl) (fun _ _ _ h => h) (by rfl) ?_ (.inr hC) ?_
                  rotate_left
                  · (intro w; go_simp; try with_reducible rfl)
                  simp only [Act.put, List.setIfInBounds_toArray, List.set_cons_zero, List.set_cons_succ]
                  refine wpAnyD_take (i := 9) (dst := some 59) (v := ?_) (fuel := 1) rfl rfl (by kernel_rfl) (fun _ _ _ h => h) (by rfl) ?_ (.inr hC) ?_
                  rotate_left
                  · (intro w; go_simp; try with_reducible rfl)
                  simp only [Act.put, List.setIfInBounds_toArray, List.set_cons_zero, List.set_cons_succ]
                  refine wpAnyD_ready (fuel := 0) (rs := [10]) (by kernel_rfl) (by simp) ?_
                  refine AllReadyD.cons (o := _) rfl (fun K hK => ?_) ?_
                  · go_simp
                    refine shut_K hK (by kernel_rfl) ?_
                    clear hK K
                    try simp only [Act.put, List.setIfInBounds_toArray, List.set_cons_zero, List.set_cons_succ]
                    refine wpAnyD_done (by kernel_rfl) ?_ _
                    refine NoPanic.normal ?_
                    obtain ⟨W10, hW10⟩ : ∃ W, w9.setCell ⟨C, 3, none⟩ (.slice A9 (d1.length + 1) c9) = W := ⟨_, rfl⟩
                    have hfar10 : ∀ b, b ≠ C → W10.heap[b]? = w9.heap[b]? := fun b hb => by rw [← hW10]; exact Below.heap_setCell _ ⟨C, 3, none⟩ _ b hb
                    have hs10 : W10.heap.size = w9.heap.size := by rw [← hW10]; simp
                    have hobj10 : W10.heap[C]? = some (.cells #[.int .i64 d.cap, .int .i64 (tot (d1 ++ [(k, l)])), .map (some M), .slice A9 (d1.length + 1) c9, .int .i64 d.hits, .int .i64 d.misses] 63 (0, 0)) := by
                      rw [← hW10]; exact (heap_setCell_any w9 C 3 _ _ _ _ ((hk9 C hC8l hvC).trans HO8.out)).trans rfl
                    have hM8l : M < W8.heap.size := HF8.out.lt
                    have hF10 : MapF W10 M (upd f k (some (.agg #[.slice A' l.length c', .int .i64 n]))) := HF8.out.of_heap ((hfar10 M H5.out.nM).trans (hk9 M hM8l hvM))
                    have h9C : ∀ g, (Value.slice A9 (d1.length + 1) c9).ownBlock = some g → g ≠ C := fun g hg e => by
                      rcases hb9 with hb | ⟨g', hb, hl⟩
                      · rw [hb] at hg; rw [e] at hg; exact hvC hg
                      · rw [hb] at hg; injection hg with hg; omega
                    have hCH10 : Chgs W10 (fun j => w5.heap.size ≤ j ∧ j < w6.heap.size) A' l := HCH8.out.frame fun j hj hl => by
                      have h1 : j ≠ C := fun e => by have h2 := H5.out.lt; have h3 : w5.heap.size ≤ j := hj.1; omega
                      rw [hfar10 j h1, hk9 j hl fun e => by have h2 := hlt j (.inl (H5.out.so j e)); have h3 : w5.heap.size ≤ j := hj.1; have h4 := HT5.out.size; omega]
                    rw [← HWt.out] at hF10
                    have hlt5 : ∀ j, S j ∨ R j → j < w5.heap.size := fun j hj => Nat.lt_of_lt_of_le (hlt j hj) HT5.out.size
                    have h10 := H5.out.ins hlt5 (w' := W10) (v' := .slice A9 (d1.length + 1) c9) k l A' c' (fun j => w5.heap.size ≤ j ∧ j < w6.heap.size) hobj10 hF10
                      (row_of HR9.out fun g hg => hfar10 g (h9C g hg)) (hb9.imp id fun ⟨g, h1, h2⟩ => ⟨g, h1, by omega, fun h => by have := h.2; have := HS8.out; omega⟩) (fun j hj => hj.1) hCH10 HK1.out
                      (fun j hj hl => by
                        rw [hfar10 j fun e => H.out.dj C H.out.sC (e ▸ hj), hk9 j (by omega) fun e => H.out.dj j (H5.out.so j e) hj]
                        exact HK8.out j hj hl)
                    have hT10 : Touch S w W10 := by rw [← hW10]; exact HT9.out.setCell (.inl H.out.sC) _
                    obtain ⟨S', hS'⟩ : ∃ S', (fun j => S j ∨ (Value.slice A9 (d1.length + 1) c9).ownBlock = some j) = S' := ⟨_, rfl⟩
                    obtain ⟨R', hR'⟩ : ∃ R', (fun j => R j ∨ (w5.heap.size ≤ j ∧ j < w6.heap.size)) = R' := ⟨_, rfl⟩
                    have hSS : ∀ j, S' j → S j ∨ w.heap.size ≤ j := by
                      rw [← hS']
                      rintro j (hj | hj)
                      · exact .inl hj
                      · rcases hb9 with hb | ⟨g, hb, hl⟩
                        · exact .inl (H5.out.so j (hb ▸ hj))
                        · rw [hb] at hj; injection hj with hj; right; have := HT5.out.size; omega
                    have hRR : ∀ j, R' j → R j ∨ w.heap.size ≤ j := by
                      rw [← hR']
                      rintro j (hj | hj)
                      · exact .inl hj
                      · right; have := HT5.out.size; omega
                    have hLT : ∀ j, S' j ∨ R' j → j < W10.heap.size := by
                      rw [← hS', ← hR']
                      rintro j ((hj | hj) | (hj | hj))
                      · have := hlt5 j (.inl hj); omega
                      · have := (HR9.out.lt j hj).2; omega
                      · have := hlt5 j (.inr hj); omega
                      · have := HS8.out; omega
                    rw [hS', hR'] at h10
                    have HH10 : Hid (Ck S' R' C { d with items := d1 ++ [(k, l)] } W10) := Lib.hid ⟨_, M, _, h10⟩
                    have HT10 := Lib.hid hT10
                    have HW10 := Lib.hid hW10
                    have HSS := Lib.hid hSS
                    have HRR := Lib.hid hRR
                    have HLT := Lib.hid hLT
                    rw [HW10.out]
                    clear h10 hT10 hW10 hSS hRR hLT hS' hR' hCH10 hF10 hobj10 hfar10 hs10 hk9 z3 zf3 x3 y0 y1 y2 c1 c2 b0 b1 b2 hme hes z1 zf hC
                    go_wp2_with fail
                    go_loopw [] (fun wr => ∃ its, Ck S' R' C { d with items := its } wr ∧ Touch S w wr ∧ W10.heap.size ≤ wr.heap.size ∧ fitI d.cap (d1 ++ [(k, l)]) = fitI d.cap its ∧ Good { d with items := its } ∧ its.length ≤ 900001) (fun wr => match wr.cell? ⟨C, 1, none⟩ with | some (.int _ t) => t.toNat | _ => 0)
                    case atStart => exact ⟨_, HH10.out, HT10.out, Nat.le_refl _, rfl, HG10.out, by have := HD1l.out; simp; omega⟩
                    case round =>
                      obtain ⟨its, hck, ht, hsz, hfi, hgi, hil⟩ := hrel
                      obtain ⟨vi, Mi, fi, hck⟩ := hck
                      have HC := Lib.hid hck
                      have HT := Lib.hid ht
                      have HFi := Lib.hid hfi
                      have HGi := Lib.hid hgi
                      have HSz := Lib.hid hsz
                      have c0 : wr.cell? ⟨C, 0, none⟩ = some (.int .i64 d.cap) := hck.c0
                      have c1 : wr.cell? ⟨C, 1, none⟩ = some (.int .i64 (tot its)) := hck.c1
                      have c3 : wr.cell? ⟨C, 3, none⟩ = some vi := hck.c3
                      have hro : wr.ownsRow 0 33 3 vi its.length (kscells (keys its)) := hck.ro
                      clear hck ht hfi hgi hsz
                      by_cases hcap : d.cap < tot its
                      · cases its with
                        | nil => exact absurd hcap (by have := hg.cap0; simp [tot]; omega)
                        | cons p its =>
                          obtain ⟨g, cg, rfl, _, _, hcell, _⟩ := row_some hro (by simp)
                          have k0 := hcell 0 _ rfl
                          have k1 := hcell 1 _ rfl
                          have k2 := hcell 2 _ rfl
                          have HFg := Lib.hid fun m => forget_walk (w := wr.drewN m) (HC.out.frame fun _ _ _ => rfl) HGi.out (by show (p :: its).length ≤ 1000000; omega) p.1 p.2 (List.mem_cons_self ..)
                          unfold kv at HFg
                          clear hro hcell
                          go_wp2_with fail
                          go_quiet (fail)
                          go_wp2_with fail
                          refine (HFg.out _).mono ?_
                          rintro e w3 ⟨rfl, ht3, hc3⟩
                          have hc3 : Ck S' R' C { d with items := its } w3 := by
                            have e : delI (p :: its) p.1 = its := delI_head HGi.out.nd
                            rw [← e]; exact hc3
                          have HC3 := Lib.hid hc3
                          have HT3 := Lib.hid ht3
                          clear ht3 hc3
                          go_wp2_with fail
                          go_roundw
                          case rel =>
                            refine ⟨its, HC3.out, ((HT.out.trans (c := wr.drewN nq) (S' := fun _ => False) ⟨rfl, rfl, rfl, Nat.le_refl _, fun _ _ _ => rfl⟩ (fun _ _ h => h.elim)).trans HT3.out fun i hi hs => (HSS.out i hs).elim id fun h => absurd h (by omega)), Nat.le_trans HSz.out HT3.out.size, ?_, ?_, by simp at hil; omega⟩
                            · rw [HFi.out]
                              show (if d.cap < tot (p :: its) then fitI d.cap its else p :: its) = _
                              rw [if_pos hcap]
                            · have e : delI (p :: its) p.1 = its := delI_head HGi.out.nd
                              have := HGi.out.del (k := p.1) (c := p.2) (List.mem_cons_self ..)
                              rw [← e]; exact this
                          case measure =>
                            obtain ⟨v3, M3, f3, h3⟩ := HC3.out
                            have c1' : w3.cell? ⟨C, 1, none⟩ = some (.int .i64 (tot its)) := h3.c1
                            have hw := (wtF_bound p.2 (HGi.out.small p (List.mem_cons_self ..)).2 p.2.length (Nat.le_refl _)).1
                            have ht0 := tot_nonneg its fun q hq => HGi.out.small q (List.mem_cons_of_mem _ hq)
                            have e : tot (p :: its) = wtF p.2 p.2.length + tot its := tot_cons p its
                            rw [c1', c1]
                            show (tot its).toNat < (tot (p :: its)).toNat
                            omega
                      · go_wp2_with fail
                        go_quiet (fail)
                        go_wp2_with fail
                        refine bodyPost_end (results_none rfl _ _ _) rfl ?_
                        refine ⟨S', R', rfl, ⟨(HT.out.trans (S' := fun _ => False) ⟨rfl, rfl, rfl, Nat.le_refl _, fun _ _ _ => rfl⟩ (fun _ _ h => h.elim)), HSS.out, HRR.out, fun j hj => Nat.lt_of_lt_of_le (HLT.out j hj) HSz.out⟩, ?_⟩
                        have e : putF d k l = { d with items := its } := by
                          unfold putF
                          rw [HWt.out, if_neg (show ¬ d.cap < n by omega), HD1.out, HFi.out, fitI_stop (by omega)]
                        rw [e]
                        exact ⟨vi, Mi, fi, HC.out.frame fun _ _ _ => rfl⟩
                  exact AllReadyD.nil
                exact AllReadyD.nil
              exact AllReadyD.nil
            exact AllReadyD.nil
          exact AllReadyD.nil
        exact AllReadyD.nil
      exact AllReadyD.nil
set_option maxRecDepth 100000 in
set_option maxHeartbeats 600000 in
/-- Put, of a key that is there -/
theorem put_old {v0 : Value} {M0 : Nat} {f0 : K → Option Value} (h : CkO S R C d w v0 M0 f0) (hg : Good d) (hlt : ∀ j, S j ∨ R j → j < w.heap.size) (hn : d.items.length ≤ 800000) (hfit : tot d.items ≤ d.cap) (k : K) (l0 : List Chg) (hk : (k, l0) ∈ d.items)
    (T : Nat → Prop) (A : Option Addr) (c : Nat) (l : List Chg) (hc : Chgs w T A l) (hTS : ∀ j, T j → ¬ S j) (hl : l.length ≤ 1000 ∧ ∀ i, i < l.length → (l.getD i default).2.size ≤ 1000) :
    Calls Try.prog 14 #[.pointer (some ⟨C, 0, none⟩), kv k, .slice A l.length c] w fun e w' => ∃ S' R', e = .returned (.tuple #[]) ∧ Nx S R S' R' w w' ∧ Ck S' R' C (putF d k l) w' := by
  obtain ⟨A0, q0, hf0, _⟩ := h.has _ hk
  have hwf := hg.wf k (List.mem_map.2 ⟨_, hk, rfl⟩)
  obtain ⟨wt, hwt0⟩ : ∃ n, weight l0 = n := ⟨_, rfl⟩
  rw [hwt0] at hf0
  obtain ⟨n, hwt⟩ : ∃ n, weight l = n := ⟨_, rfl⟩
  have hnb := wtF_bound l hl.2 l.length (Nat.le_refl _)
  change 16 ≤ weight l ∧ weight l ≤ 1073741824 at hnb
  rw [hwt] at hnb
  have hll := hl.1
  obtain ⟨d1, hd1⟩ : ∃ its, delI d.items k = its := ⟨_, rfl⟩
  have hg1' := hg.del hk
  rw [hd1] at hg1'
  have hk1 : k ∉ keys d1 := by rw [← hd1, keys_delI]; unfold without; intro h; simpa using (List.mem_filter.1 h).2
  have hlen1 : d1.length ≤ 800000 := by rw [← hd1]; exact Nat.le_trans (List.length_filter_le _ _) hn
  obtain ⟨W1, hW1⟩ : ∃ W, w.alloc (.cells #[.int .i64 k.1, .int .i64 k.2.1, .int .i64 k.2.2] 33) = W := ⟨_, rfl⟩
  have hb1 : Below w.heap.size w W1 := by rw [← hW1]; exact (Below.refl _ _).alloc (Nat.le_refl _) _
  have hB : Box W1 w.heap.size k := by rw [← hW1]; exact heap_alloc_new w _
  obtain ⟨W2, hW2⟩ : ∃ W, (W1.alloc (.cells #[.slice A0 l0.length q0, .int .i64 wt] 65)).drew = W := ⟨_, rfl⟩
  have hb2 : Below w.heap.size w W2 := by rw [← hW2]; exact (hb1.alloc (hb1.size) _).drew
  have hB2 : Box W2 w.heap.size k := by rw [← hW2]; exact (Below.heap_alloc W1 _ _ (Array.getElem?_eq_some_iff.1 hB).1).trans hB
  have HFg := Lib.hid (forget_walk (h.frame (w' := W2) fun k _ hk => hb2.block k hk) hg (by omega) k l0 hk)
  unfold kv at HFg
  have HWt := Lib.hid hwt
  have HG10 : Hid (Good { d with items := d1 ++ [(k, l)] }) := Lib.hid (by
    have e2 : keys (d1 ++ [(k, l)]) = keys d1 ++ [k] := by simp [keys]
    refine ⟨hg.cap0, hg.cap1, ?_, fun x hx => ?_, fun p hp => ?_, ?_⟩
    · show (keys (d1 ++ [(k, l)])).Nodup
      rw [e2, List.nodup_append]
      exact ⟨hg1'.nd, by simp, fun a ha b hb e => hk1 (by rw [List.mem_singleton.1 hb] at e; exact e ▸ ha)⟩
    · change x ∈ keys (d1 ++ [(k, l)]) at hx
      rw [e2] at hx
      rcases List.mem_append.1 hx with hx | hx
      · exact hg1'.wf x hx
      · rw [List.mem_singleton.1 hx]; exact hwf
    · rcases List.mem_append.1 hp with hp | hp
      · exact hg1'.small p hp
      · rw [List.mem_singleton.1 hp]; exact hl
    · show tot (d1 ++ [(k, l)]) ≤ 4294967296
      have h1 := hg.cap1
      have h2 : tot [(k, l)] = n := by rw [← hwt]; simp [tot]
      have h3 : tot d1 = tot d.items - weight l0 := by rw [← hd1]; exact tot_delI d.items k l0 hg.nd hk
      have h4 := (wtF_bound l0 (hg.small _ hk).2 l0.length (Nat.le_refl _)).1
      change 16 ≤ weight l0 at h4
      rw [tot_append, h2]; omega)
  have hg1 : tot d1 ≤ 1073741824 ∧ 0 ≤ tot d1 := by
    have h1 := hg.cap1
    have h3 : tot d1 = tot d.items - weight l0 := by rw [← hd1]; exact tot_delI d.items k l0 hg.nd hk
    have h4 := (wtF_bound l0 (hg.small _ hk).2 l0.length (Nat.le_refl _)).1
    change 16 ≤ weight l0 at h4
    exact ⟨by omega, tot_nonneg _ hg1'.small⟩
  have HD1l : Hid (d1.length ≤ 900000) := Lib.hid (by omega)
  have HD1 := Lib.hid hd1
  have HK1 := Lib.hid hk1
  have HCh := Lib.hid hc
  have H := Lib.hid h
  have HW1 := Lib.hid hW1
  have HW2 := Lib.hid hW2
  have HB2 := Lib.hid hB2
  have HB := Lib.hid hB
  have Hb2 := Lib.hid hb2
  clear h hW1 hB hW2 hB2 hwt hd1 hb2 hg1' hk1 hlen1
  have H1 := H.out.frame (w' := W1) fun k _ hk => hb1.block k hk
  have c2 := H1.c2
  obtain ⟨b0, b1, b2⟩ := HB.out.cells
  have hlk := mapF_look (t := 61) (w := W1.drew) (H1.mp.of_heap rfl) hwf Try.underlying61 hf0 true
  simp only [if_true] at hlk
  have a2 := Lib.cell?_alloc_some (.cells #[.slice none 0 0, .int .i64 0] 65) c2
  have a3 := Lib.cell?_alloc_some (.cells #[.slice none 0 0, .int .i64 0] 65) b0
  have a4 := Lib.cell?_alloc_some (.cells #[.slice none 0 0, .int .i64 0] 65) b1
  have a5 := Lib.cell?_alloc_some (.cells #[.slice none 0 0, .int .i64 0] 65) b2
  have hla := mapF_look (t := 61) (w := (W1.alloc (.cells #[.slice none 0 0, .int .i64 0] 65)).drew) (H1.mp.of_heap (Below.heap_alloc _ _ M0 H1.mp.lt)) hwf Try.underlying61 hf0 true
  simp only [if_true] at hla
  unfold kv at hlk hla
  clear H1
  obtain ⟨e0, e1, e2⟩ := HB2.out.cells
  unfold kv
  go_enter Try.func14, Try.ntmps14
  go_upto_region 1 with (fail)
  rw [HW1.out]
  go_region
  all_goals
    rw [HW2.out]
    clear hlk hla a2 a3 a4 a5 c2 b0 b1 b2
    go_wp2_with fail
    refine (HFg.out).mono ?_
    rintro e W4 ⟨rfl, ht4, hck4⟩
    obtain ⟨vo, M, f, h4⟩ := hck4
    rw [HD1.out] at h4
    have HT4 : Hid (Touch S w W4) := Lib.hid ((Touch.of_below Hb2.out).trans ht4 fun _ _ h => h)
    have hB4 : Box W4 w.heap.size k := (ht4.block _ (Array.getElem?_eq_some_iff.1 HB2.out).1 fun hs => by have := hlt _ (.inl hs); omega).trans HB2.out
    have hf : f k = none := h4.non k HK1.out
    have HB4l : Hid (w.heap.size < W4.heap.size) := Lib.hid (Array.getElem?_eq_some_iff.1 hB4).1
    have HWk := Lib.hid (weight_walk W4 (fun j => T j ∧ j < w.heap.size) A c l (HCh.out.lt.frame fun j hj _ => HT4.out.block j hj.2 (hTS j hj.1)) (by unfold maxLen; omega) fun j hj => Nat.lt_of_lt_of_le hj.2 HT4.out.size)
    rw [HWt.out] at HWk
    have H4 := Lib.hid h4
    have HB4 := Lib.hid hB4
    clear h4 hB4 ht4 e0 e1 e2
    go_upto_region 4 with (fail)
    go_wp2_with fail
    refine (HWk.out).mono ?_
    rintro e w5 ⟨rfl, hb5⟩
    have h5 := H4.out.frame (w' := w5) fun j _ hj => hb5.block j hj
    have hT5 : Touch S w w5 := HT4.out.trans (.of_below hb5) (S' := fun _ => False) (fun _ _ h => h.elim)
    have hB5 : Box w5 w.heap.size k := (hb5.block _ HB4l.out).trans HB4.out
    have c0 : w5.cell? ⟨C, 0, none⟩ = some (.int .i64 d.cap) := h5.c0
    have H5 := Lib.hid h5
    have HT5 := Lib.hid hT5
    have HB5 := Lib.hid hB5
    clear h5 hT5 hB5 hb5
    by_cases hcn : d.cap < n
    · go_wp2_with fail
      refine bodyPost_ret (results_none rfl _ _ _) rfl ?_
      refine ⟨S, R, rfl, ⟨HT5.out, fun j hj => .inl hj, fun j hj => .inl hj, fun j hj => Nat.lt_of_lt_of_le (hlt j hj) HT5.out.size⟩, ?_⟩
      unfold putF
      rw [HWt.out, if_pos hcn, HD1.out]
      exact ⟨vo, M, f, H5.out⟩
    · have c1 : w5.cell? ⟨C, 1, none⟩ = some (.int .i64 (tot d1)) := H5.out.c1
      have c2 := H5.out.c2
      obtain ⟨b0, b1, b2⟩ := HB5.out.cells
      have HC := Lib.hid (cloneC_walk w5.drew T A c l (HCh.out.frame fun j hj hl => HT5.out.block j hl fun hs => hTS j hj hs) (by omega))
      have HBl : Hid (w.heap.size < w5.heap.size) := Lib.hid (Array.getElem?_eq_some_iff.1 HB5.out).1
      have HBC : Hid (w.heap.size ≠ C) := Lib.hid fun e => by have := hlt C (.inl H5.out.sC); omega
      have HBM : Hid (w.heap.size ≠ M) := Lib.hid fun e => by have := hlt M (.inl H5.out.sM); omega
      go_upto_region 6 with (fail)
      clear c0
      refine wp_region_noPanic ?_
      refine wp_region_D 21 (fun w' => w'.cell? ⟨C, 1, none⟩ = some (.int .i64 (tot d1)) ∧ w'.cell? ⟨C, 2, none⟩ = some (.map (some M)) ∧ w'.cell? ⟨w.heap.size, 0, none⟩ = some (.int .i64 k.1) ∧ w'.cell? ⟨w.heap.size, 1, none⟩ = some (.int .i64 k.2.1) ∧ w'.cell? ⟨w.heap.size, 2, none⟩ = some (.int .i64 k.2.2)) (by kernel_rfl) ⟨c1, c2, b0, b1, b2⟩ (fun hU => ?_)
      have hC : (fun w' : World => w'.cell? ⟨C, 1, none⟩ = some (.int .i64 (tot d1)) ∧ w'.cell? ⟨C, 2, none⟩ = some (.map (some M)) ∧ w'.cell? ⟨w.heap.size, 0, none⟩ = some (.int .i64 k.1) ∧ w'.cell? ⟨w.heap.size, 1, none⟩ = some (.int .i64 k.2.1) ∧ w'.cell? ⟨w.heap.size, 2, none⟩ = some (.int .i64 k.2.2)) w5.drew := ⟨c1, c2, b0, b1, b2⟩
      clear hU
      refine wpAnyD_take (i := 0) (dst := some 30) (v := ?_) (fuel := 21) rfl rfl (by kernel_rfl) (fun _ _ _ h => h) (by rfl) ?_ (.inr hC) ?_
      rotate_left
      · (intro w; go_simp; try with_reducible rfl)
      simp only [Act.put, List.setIfInBounds_toArray, List.set_cons_zero, List.set_cons_succ]
      refine wpAnyD_take (i := 1) (dst := some 31) (v := ?_) (fuel := 20) rfl rfl (by kernel_rfl) (fun _ _ _ h => h) (by rfl) ?_ (.inr hC) ?_
      rotate_left
      · (intro w; go_simp; try with_reducible rfl)
      simp only [Act.put, List.setIfInBounds_toArray, List.set_cons_zero, List.set_cons_succ]
      refine wpAnyD_take (i := 2) (dst := some 32) (v := ?_) (fuel := 19) rfl rfl (by kernel_rfl) (fun _ _ _ h => h) (by rfl) ?_ (.inr hC) ?_
      rotate_left
      · (intro w; go_simp; try with_reducible rfl)
      simp only [Act.put, List.setIfInBounds_toArray, List.set_cons_zero, List.set_cons_succ]
      refine wpAnyD_load (i := 3) (dst := some 33) (v := ?_) (fuel := 18) rfl rfl (by kernel_rfl) (fun _ _ _ h => h) (by rfl) ?_ (.inr hC) ?_
      rotate_left
      · intro w hSw
        try dsimp only at hSw
        go_simp
        try with_reducible rfl
      simp only [Act.put, List.setIfInBounds_toArray, List.set_cons_zero, List.set_cons_succ]
      refine wpAnyD_load (i := 4) (dst := some 34) (v := ?_) (fuel := 17) rfl rfl (by kernel_rfl) (fun _ _ _ h => h) (by rfl) ?_ (.inr hC) ?_
      rotate_left
      · intro w hSw
        try dsimp only at hSw
        go_simp
        try with_reducible rfl
      simp only [Act.put, List.setIfInBounds_toArray, List.set_cons_zero, List.set_cons_succ]
      refine wpAnyD_take (i := 5) (dst := some 35) (v := ?_) (fuel := 16) rfl rfl (by kernel_rfl) (fun _ _ _ h => h) (by rfl) ?_ (.inr hC) ?_
      rotate_left
      · (intro w; go_simp; try with_reducible rfl)
      simp only [Act.put, List.setIfInBounds_toArray, List.set_cons_zero, List.set_cons_succ]
      refine wpAnyD_take (i := 6) (dst := some 36) (v := ?_) (fuel := 15) rfl rfl (by kernel_rfl) (fun _ _ _ h => h) (by rfl) ?_ (.inr hC) ?_
      rotate_left
      · (intro w; go_simp; try with_reducible rfl)
      simp only [Act.put, List.setIfInBounds_toArray, List.set_cons_zero, List.set_cons_succ]
      refine wpAnyD_take (i := 8) (dst := some 38) (v := ?_) (fuel := 14) rfl rfl (by kernel_rfl) (fun _ _ _ h => h) (by rfl) ?_ (.inr hC) ?_
      rotate_left
      · (intro w; go_simp; try with_reducible rfl)
      simp only [Act.put, List.setIfInBounds_toArray, List.set_cons_zero, List.set_cons_succ]
      refine wpAnyD_take (i := 10) (dst := some 40) (v := ?_) (fuel := 13) rfl rfl (by kernel_rfl) (fun _ _ _ h => h) (by rfl) ?_ (.inr hC) ?_
      rotate_left
      · (intro w; go_simp; try with_reducible rfl)
      simp only [Act.put, List.setIfInBounds_toArray, List.set_cons_zero, List.set_cons_succ]
      refine wpAnyD_take (i := 11) (dst := some 41) (v := ?_) (fuel := 12) rfl rfl (by kernel_rfl) (fun _ _ _ h => h) (by rfl) ?_ (.inr hC) ?_
      rotate_left
      · (intro w; go_simp; try with_reducible rfl)
      simp only [Act.put, List.setIfInBounds_toArray, List.set_cons_zero, List.set_cons_succ]
      refine wpAnyD_take (i := 12) (dst := some 42) (v := ?_) (fuel := 11) rfl rfl (by kernel_rfl) (fun _ _ _ h => h) (by rfl) ?_ (.inr hC) ?_
      rotate_left
      · (intro w; go_simp; try with_reducible rfl)
      simp only [Act.put, List.setIfInBounds_toArray, List.set_cons_zero, List.set_cons_succ]
      refine wpAnyD_load (i := 13) (dst := some 43) (v := ?_) (fuel := 10) rfl rfl (by kernel_rfl) (fun _ _ _ h => h) (by rfl) ?_ (.inr hC) ?_
      rotate_left
      · intro w hSw
        try dsimp only at hSw
        go_simp
        try with_reducible rfl
      simp only [Act.put, List.setIfInBounds_toArray, List.set_cons_zero, List.set_cons_succ]
      refine wpAnyD_take (i := 14) (dst := some 44) (v := ?_) (fuel := 9) rfl rfl (by kernel_rfl) (fun _ _ _ h => h) (by rfl) ?_ (.inr hC) ?_
      rotate_left
      · (intro w; go_simp; try with_reducible rfl)
      simp only [Act.put, List.setIfInBounds_toArray, List.set_cons_zero, List.set_cons_succ]
      refine wpAnyD_take (i := 15) (dst := some 45) (v := ?_) (fuel := 8) rfl rfl (by kernel_rfl) (fun _ _ _ h => h) (by rfl) ?_ (.inr hC) ?_
      rotate_left
      · (intro w; go_simp; try with_reducible rfl)
      simp only [Act.put, List.setIfInBounds_toArray, List.set_cons_zero, List.set_cons_succ]
      refine wpAnyD_ready (fuel := 7) (rs := [7]) (by kernel_rfl) (by simp) ?_
      refine AllReadyD.cons (o := _) rfl (fun K hK => ?_) ?_
      · go_simp
        go_at_call 25
        with_reducible refine (HC.out).mono ?_
        rintro e w6 ⟨A', c', rfl, hch, hb6, _⟩
        have hb6 : Below w5.heap.size w5 w6 := ((Below.refl _ w5).drew).trans hb6
        have hM6 : MapF w6 M f := H5.out.mp.of_heap (hb6.block M H5.out.mp.lt)
        have hwr : IntKind.i64.wrap (tot d1 + n) = tot d1 + n := (IntWalk.i64_left _).trans (wrap_small (by omega) (by omega))
        obtain ⟨o, st, hme, hE⟩ := mapE_new (t := 61) hM6 hwf Try.underlying61 (show (zeroValue 65).run Try.prog w6 = .ok (.agg #[.slice none 0 0, .int .i64 0]) w6 by kernel_rfl) hf
        obtain ⟨o2, hes, hF⟩ := mapE_store (t := 61) hE hwf (.agg #[.slice A' l.length c', .int .i64 n])
        unfold kv at hme
        have hs7 : (mset (mset w6 M o) M o2).heap.size = w6.heap.size := by rw [mset_size, mset_size]
        have hk7 : ∀ j, j ≠ M → (mset (mset w6 M o) M o2).heap[j]? = w6.heap[j]? := fun j hj => by rw [mset_far _ hj, mset_far _ hj]
        have hO7 := (hk7 C (Ne.symm H5.out.nM)).trans ((hb6.block C H5.out.lt).trans H5.out.obj)
        have z1 : (mset (mset w6 M o) M o2).cell? ⟨C, 1, none⟩ = some (.int .i64 (tot d1)) := by rw [cell_of_row _ C 1 _ _ _ hO7]; rfl
        have zf : (mset (mset w6 M o) M o2).frozen? ⟨C, 1, none⟩ = false := by simp [World.frozen?, hO7]
        have HCH := Lib.hid hch
        have HB6 := Lib.hid hb6
        have HF := Lib.hid hF
        have HO7 := Lib.hid hO7
        have HK7 := Lib.hid hk7
        have HS7 := Lib.hid hs7
        clear hch hb6 hF hO7 hk7 hs7 hE hM6
        go_simp
        refine shut_C hK ?_ (fun hC => ?_)
        · first
          | exact ⟨(World.cell?_of_block (HB6.out.block C H5.out.lt)).trans c1, (World.cell?_of_block (HB6.out.block C H5.out.lt)).trans c2, (World.cell?_of_block (HB6.out.block _ HBl.out)).trans b0, (World.cell?_of_block (HB6.out.block _ HBl.out)).trans b1, (World.cell?_of_block (HB6.out.block _ HBl.out)).trans b2⟩
          | exact ⟨(World.cell?_of_block ((mset_far o (Ne.symm H5.out.nM)).trans (HB6.out.block C H5.out.lt))).trans c1, (World.cell?_of_block ((mset_far o (Ne.symm H5.out.nM)).trans (HB6.out.block C H5.out.lt))).trans c2, (World.cell?_of_block ((mset_far o HBM.out).trans (HB6.out.block _ HBl.out))).trans b0, (World.cell?_of_block ((mset_far o HBM.out).trans (HB6.out.block _ HBl.out))).trans b1, (World.cell?_of_block ((mset_far o HBM.out).trans (HB6.out.block _ HBl.out))).trans b2⟩
          | exact ⟨(World.cell?_of_block ((HK7.out C (Ne.symm H5.out.nM)).trans (HB6.out.block C H5.out.lt))).trans c1, (World.cell?_of_block ((HK7.out C (Ne.symm H5.out.nM)).trans (HB6.out.block C H5.out.lt))).trans c2, (World.cell?_of_block ((HK7.out _ HBM.out).trans (HB6.out.block _ HBl.out))).trans b0, (World.cell?_of_block ((HK7.out _ HBM.out).trans (HB6.out.block _ HBl.out))).trans b1, (World.cell?_of_block ((HK7.out _ HBM.out).trans (HB6.out.block _ HBl.out))).trans b2⟩
        clear hK K
        try simp only [Act.put, List.setIfInBounds_toArray, List.set_cons_zero, List.set_cons_succ]
        refine wpAnyD_take (i := 9) (dst := some 39) (v := ?_) (fuel := 6) rfl rfl (by kernel_rfl) (fun _ _ _ h => h) (by rfl) ?_ (.inr hC) ?_
        rotate_left
        · (intro w; go_simp; try with_reducible rfl)
        simp only [Act.put, List.setIfInBounds_toArray, List.set_cons_zero, List.set_cons_succ]
        refine wpAnyD_ready (fuel := 5) (rs := [16]) (by kernel_rfl) (by simp) ?_
        refine AllReadyD.cons (o := _) rfl (fun K hK => ?_) ?_
        · go_simp
          refine shut_C hK ?_ (fun hC => ?_)
          · first
            | exact ⟨(World.cell?_of_block (HB6.out.block C H5.out.lt)).trans c1, (World.cell?_of_block (HB6.out.block C H5.out.lt)).trans c2, (World.cell?_of_block (HB6.out.block _ HBl.out)).trans b0, (World.cell?_of_block (HB6.out.block _ HBl.out)).trans b1, (World.cell?_of_block (HB6.out.block _ HBl.out)).trans b2⟩
            | exact ⟨(World.cell?_of_block ((mset_far o (Ne.symm H5.out.nM)).trans (HB6.out.block C H5.out.lt))).trans c1, (World.cell?_of_block ((mset_far o (Ne.symm H5.out.nM)).trans (HB6.out.block C H5.out.lt))).trans c2, (World.cell?_of_block ((mset_far o HBM.out).trans (HB6.out.block _ HBl.out))).trans b0, (World.cell?_of_block ((mset_far o HBM.out).trans (HB6.out.block _ HBl.out))).trans b1, (World.cell?_of_block ((mset_far o HBM.out).trans (HB6.out.block _ HBl.out))).trans b2⟩
            | exact ⟨(World.cell?_of_block ((HK7.out C (Ne.symm H5.out.nM)).trans (HB6.out.block C H5.out.lt))).trans c1, (World.cell?_of_block ((HK7.out C (Ne.symm H5.out.nM)).trans (HB6.out.block C H5.out.lt))).trans c2, (World.cell?_of_block ((HK7.out _ HBM.out).trans (HB6.out.block _ HBl.out))).trans b0, (World.cell?_of_block ((HK7.out _ HBM.out).trans (HB6.out.block _ HBl.out))).trans b1, (World.cell?_of_block ((HK7.out _ HBM.out).trans (HB6.out.block _ HBl.out))).trans b2⟩
          clear hK K
          try simp only [Act.put, List.setIfInBounds_toArray, List.set_cons_zero, List.set_cons_succ]
          refine wpAnyD_take (i := 17) (dst := some 47) (v := ?_) (fuel := 4) rfl rfl (by kernel_rfl) (fun _ _ _ h => h) (by rfl) ?_ (.inr hC) ?_
          rotate_left
          · (intro w; go_simp; try with_reducible rfl)
          simp only [Act.put, List.setIfInBounds_toArray, List.set_cons_zero, List.set_cons_succ]
          refine wpAnyD_ready (fuel := 3) (rs := [18]) (by kernel_rfl) (by simp) ?_
          refine AllReadyD.cons (o := _) rfl (fun K hK => ?_) ?_
          · go_simp
            refine shut_C hK ?_ (fun hC => ?_)
            · first
              | exact ⟨(World.cell?_of_block (HB6.out.block C H5.out.lt)).trans c1, (World.cell?_of_block (HB6.out.block C H5.out.lt)).trans c2, (World.cell?_of_block (HB6.out.block _ HBl.out)).trans b0, (World.cell?_of_block (HB6.out.block _ HBl.out)).trans b1, (World.cell?_of_block (HB6.out.block _ HBl.out)).trans b2⟩
              | exact ⟨(World.cell?_of_block ((mset_far o (Ne.symm H5.out.nM)).trans (HB6.out.block C H5.out.lt))).trans c1, (World.cell?_of_block ((mset_far o (Ne.symm H5.out.nM)).trans (HB6.out.block C H5.out.lt))).trans c2, (World.cell?_of_block ((mset_far o HBM.out).trans (HB6.out.block _ HBl.out))).trans b0, (World.cell?_of_block ((mset_far o HBM.out).trans (HB6.out.block _ HBl.out))).trans b1, (World.cell?_of_block ((mset_far o HBM.out).trans (HB6.out.block _ HBl.out))).trans b2⟩
              | exact ⟨(World.cell?_of_block ((HK7.out C (Ne.symm H5.out.nM)).trans (HB6.out.block C H5.out.lt))).trans c1, (World.cell?_of_block ((HK7.out C (Ne.symm H5.out.nM)).trans (HB6.out.block C H5.out.lt))).trans c2, (World.cell?_of_block ((HK7.out _ HBM.out).trans (HB6.out.block _ HBl.out))).trans b0, (World.cell?_of_block ((HK7.out _ HBM.out).trans (HB6.out.block _ HBl.out))).trans b1, (World.cell?_of_block ((HK7.out _ HBM.out).trans (HB6.out.block _ HBl.out))).trans b2⟩
            clear hK K
            try simp only [Act.put, List.setIfInBounds_toArray, List.set_cons_zero, List.set_cons_succ]
            refine wpAnyD_take (i := 19) (dst := some 48) (v := ?_) (fuel := 2) rfl rfl (by kernel_rfl) (fun _ _ _ h => h) (by rfl) ?_ (.inr hC) ?_
            rotate_left
            · (intro w; go_simp; try with_reducible rfl)
            simp only [Act.put, List.setIfInBounds_toArray, List.set_cons_zero, List.set_cons_succ]
            refine wpAnyD_take (i := 20) (dst := some 49) (v := ?_) (fuel := 1) rfl rfl (by kernel_rfl) (fun _ _ _ h => h) (by rfl) ?_ (.inr hC) ?_
            rotate_left
            · (intro w; go_simp; try with_reducible rfl)
            simp only [Act.put, List.setIfInBounds_toArray, List.set_cons_zero, List.set_cons_succ]
            refine wpAnyD_ready (fuel := 0) (rs := [21]) (by kernel_rfl) (by simp) ?_
            refine AllReadyD.cons (o := _) rfl (fun K hK => ?_) ?_
            · go_simp
              refine shut_K hK (by kernel_rfl) ?_
              clear hK K
              try simp only [Act.put, List.setIfInBounds_toArray, List.set_cons_zero, List.set_cons_succ]
              refine wpAnyD_done (by kernel_rfl) ?_ _
              refine NoPanic.normal ?_
              have htn : tot d1 + n = tot (d1 ++ [(k, l)]) := by
                rw [tot_append]
                have : tot [(k, l)] = n := by rw [← HWt.out]; simp [tot]
                rw [this]
              have H7r : (mset (mset w6 M o) M o2).ownsRow 0 33 3 vo d1.length (kscells (keys d1)) := row_of H5.out.ro fun g hg => (HK7.out g fun e => (H5.out.no g hg).2 e).trans (HB6.out.block g (H5.out.ro.lt g hg).2)
              have HT7 : Touch S w (mset (mset w6 M o) M o2) := mset_touch (mset_touch (HT5.out.trans (.of_below HB6.out) (S' := fun _ => False) (fun _ _ h => h.elim)) (.inl H5.out.sM) o) (.inl H5.out.sM) o2
              obtain ⟨W8, hW8⟩ : ∃ W, (mset (mset w6 M o) M o2).setCell ⟨C, 1, none⟩ (.int .i64 (tot d1 + n)) = W := ⟨_, rfl⟩
              have hfar8 : ∀ b, b ≠ C → W8.heap[b]? = (mset (mset w6 M o) M o2).heap[b]? := fun b hb => by rw [← hW8]; exact Below.heap_setCell _ ⟨C, 1, none⟩ _ b hb
              have hs8 : W8.heap.size = w6.heap.size := by rw [← hW8]; simp [HS7.out]
              have hobj8 : W8.heap[C]? = some (.cells #[.int .i64 d.cap, .int .i64 (tot (d1 ++ [(k, l)])), .map (some M), vo, .int .i64 d.hits, .int .i64 d.misses] 63 (0, 0)) := by
                rw [← hW8, htn]; exact (heap_setCell_any _ C 1 _ _ _ _ HO7.out).trans rfl
              have hF8 : MapF W8 M (upd f k (some (.agg #[.slice A' l.length c', .int .i64 n]))) := HF.out.of_heap (hfar8 M H5.out.nM)
              have hr8 : W8.ownsRow 0 33 3 vo d1.length (kscells (keys d1)) := row_of H7r fun g hg => hfar8 g (H5.out.no g hg).1
              have hB8 : Box W8 w.heap.size k := (hfar8 _ HBC.out).trans ((HK7.out _ HBM.out).trans ((HB6.out.block _ HBl.out).trans HB5.out))
              have hT8 : Touch S w W8 := by rw [← hW8]; exact HT7.setCell (.inl H.out.sC) _
              have h58 : w5.heap.size ≤ W8.heap.size := by rw [hs8]; exact HB6.out.size
              have hk8 : ∀ j, R j → j < w5.heap.size → W8.heap[j]? = w5.heap[j]? := fun j hj hl => by
                rw [hfar8 j fun e => H.out.dj C H.out.sC (e ▸ hj), HK7.out j fun e => H5.out.dj M H5.out.sM (e ▸ hj)]
                exact HB6.out.block j hl
              have hCH8 : Chgs W8 (fun j => w5.heap.size ≤ j ∧ j < w6.heap.size) A' l := HCH.out.frame fun j hj hl => by
                have h1 : j ≠ C := fun e => by have h2 := H5.out.lt; have h3 : w5.heap.size ≤ j := hj.1; omega
                have h2 : j ≠ M := fun e => by have h2 := H5.out.mp.lt; have h3 : w5.heap.size ≤ j := hj.1; omega
                rw [hfar8 j h1, HK7.out j h2]
              have hvC : vo.ownBlock ≠ some C := fun e => (H5.out.no C e).1 rfl
              have hvM : vo.ownBlock ≠ some M := fun e => (H5.out.no M e).2 rfl
              have hvB : vo.ownBlock ≠ some w.heap.size := fun e => by have := hlt _ (.inl (H5.out.so _ e)); omega
              have hv8 : vo.ownBlock ≠ some W8.heap.size := fun e => by have := hlt _ (.inl (H5.out.so _ e)); have := HT5.out.size; omega
              have hC8l : C < W8.heap.size := Nat.lt_of_lt_of_le H5.out.lt h58
              have hB8l : w.heap.size < W8.heap.size := Nat.lt_of_lt_of_le HBl.out h58
              obtain ⟨v9, w9, hrun, hr9, hg9, hb9⟩ := push_key (W8.alloc (.cells #[.int .i64 k.1, .int .i64 k.2.1, .int .i64 k.2.2] 33)).drew vo (keys d1) _ (row_of hr8 fun g hg => Below.heap_alloc W8 _ g (hr8.lt g hg).2) HD1l.out W8.heap.size k (heap_alloc_new W8 _)
              have hT9 : Touch S w w9 := (hT8.alloc _).drew.grown hg9 (fun i hi => .inl (H5.out.so i hi))
              have hk9 : ∀ j, j < W8.heap.size → vo.ownBlock ≠ some j → w9.heap[j]? = W8.heap[j]? := fun j hj hv => (hg9.block j (by simp [World.drew]; omega) (fun e => hv e.symm)).trans (Below.heap_alloc W8 _ j hj)
              have hb9 : v9.ownBlock = vo.ownBlock ∨ ∃ g, v9.ownBlock = some g ∧ W8.heap.size ≤ g := hb9.imp id fun h => ⟨_, h.1, by simp [World.drew]⟩
              have hs9 : W8.heap.size ≤ w9.heap.size := by have := hg9.size; simp [World.drew] at this; omega
              obtain ⟨A9, c9, rfl⟩ := row_sl hr9
              have x3 : W8.cell? ⟨C, 3, none⟩ = some vo := by rw [cell_of_row W8 C 3 _ _ _ hobj8]; rfl
              obtain ⟨y0, y1, y2⟩ := hB8.cells
              have z3 : w9.cell? ⟨C, 3, none⟩ = some vo := (World.cell?_of_block (hk9 C hC8l hvC)).trans x3
              have zf3 : w9.frozen? ⟨C, 3, none⟩ = false := by simp [World.frozen?, (hk9 C hC8l hvC).trans hobj8]
              have HRUN := Lib.hid hrun
              have HO8 := Lib.hid hobj8
              have HF8 := Lib.hid hF8
              have HT9 := Lib.hid hT9
              have HR9 := Lib.hid hr9
              have HCH8 := Lib.hid hCH8
              have HW8 := Lib.hid hW8
              have HS8 := Lib.hid hs8
              have HK8 := Lib.hid hk8
              clear hrun hobj8 hF8 hT8 hT9 hr9 hr8 hB8 hCH8 hW8 hs8 hfar8 H7r HT7 htn hk8 hg9
              rw [HW8.out]
              go_upto_region 7 with (fail)
              refine wp_region_noPanic ?_
              refine wp_region_D 10 (fun w' => w'.cell? ⟨C, 3, none⟩ = some vo ∧ w'.cell? ⟨w.heap.size, 0, none⟩ = some (.int .i64 k.1) ∧ w'.cell? ⟨w.heap.size, 1, none⟩ = some (.int .i64 k.2.1) ∧ w'.cell? ⟨w.heap.size, 2, none⟩ = some (.int .i64 k.2.2)) (by kernel_rfl) ⟨x3, y0, y1, y2⟩ (fun hU => ?_)
              have hC : (fun w' : World => w'.cell? ⟨C, 3, none⟩ = some vo ∧ w'.cell? ⟨w.heap.size, 0, none⟩ = some (.int .i64 k.1) ∧ w'.cell? ⟨w.heap.size, 1, none⟩ = some (.int .i64 k.2.1) ∧ w'.cell? ⟨w.heap.size, 2, none⟩ = some (.int .i64 k.2.2)) W8.drew := ⟨x3, y0, y1, y2⟩
              clear hU
              refine wpAnyD_take (i := 0) (dst := some 50) (v := ?_) (fuel := 10) rfl rfl (by kernel_rfl) (fun _ _ _ h => h) (by rfl) ?_ (.inr hC) ?_
              rotate_left
              · (intro w; go_simp; try with_reducible rfl)
              simp only [Act.put, List.setIfInBounds_toArray, List.set_cons_zero, List.set_cons_succ]
              refine wpAnyD_take (i := 1) (dst := some 51) (v := ?_) (fuel := 9) rfl rfl (by kernel_rfl) (fun _ _ _ h => h) (by rfl) ?_ (.inr hC) ?_
              rotate_left
              · (intro w; go_simp; try with_reducible rfl)
              simp only [Act.put, List.setIfInBounds_toArray, List.set_cons_zero, List.set_cons_succ]
              refine wpAnyD_take (i := 2) (dst := some 52) (v := ?_) (fuel := 8) rfl rfl (by kernel_rfl) (fun _ _ _ h => h) (by rfl) ?_ (.inr hC) ?_
              rotate_left
              · (intro w; go_simp; try with_reducible rfl)
              simp only [Act.put, List.setIfInBounds_toArray, List.set_cons_zero, List.set_cons_succ]
              refine wpAnyD_take (i := 3) (dst := some 53) (v := ?_) (fuel := 7) rfl rfl (by kernel_rfl) (fun _ _ _ h => h) (by rfl) ?_ (.inr hC) ?_
              rotate_left
              · (intro w; go_simp; try with_reducible rfl)
              simp only [Act.put, List.setIfInBounds_toArray, List.set_cons_zero, List.set_cons_succ]
              refine wpAnyD_load (i := 4) (dst := some 54) (v := ?_) (fuel := 6) rfl rfl (by kernel_rfl) (fun _ _ _ h => h) (by rfl) ?_ (.inr hC) ?_
              rotate_left
              · intro w hSw
                try dsimp only at hSw
                go_simp
                try with_reducible rfl
              simp only [Act.put, List.setIfInBounds_toArray, List.set_cons_zero, List.set_cons_succ]
              refine wpAnyD_load (i := 5) (dst := some 55) (v := ?_) (fuel := 5) rfl rfl (by kernel_rfl) (fun _ _ _ h => h) (by rfl) ?_ (.inr hC) ?_
              rotate_left
              · intro w hSw
                try dsimp only at hSw
                go_simp
                try with_reducible rfl
              simp only [Act.put, List.setIfInBounds_toArray, List.set_cons_zero, List.set_cons_succ]
              refine wpAnyD_ready (fuel := 4) (rs := [6]) (by kernel_rfl) (by simp) ?_
              refine AllReadyD.cons (o := _) rfl (fun K hK => ?_) ?_
              · go_simp
                refine shut_C hK ?_ (fun hC => ?_)
                · first
                  | exact four (hk9 C hC8l hvC) (hk9 _ hB8l hvB) ⟨x3, y0, y1, y2⟩
                  | exact four (Below.heap_alloc W8 _ C hC8l) (Below.heap_alloc W8 _ _ hB8l) ⟨x3, y0, y1, y2⟩
                clear hK K
                try simp only [Act.put, List.setIfInBounds_toArray, List.set_cons_zero, List.set_cons_succ]
                refine wpAnyD_ready (fuel := 3) (rs := [7]) (by kernel_rfl) (by simp) ?_
                refine AllReadyD.cons (o := _) rfl (fun K hK => ?_) ?_
                · refine step_append_eq rfl (.tmp 54) (.tmp 56) 55 rfl _ _ _ _ rfl rfl HRUN.out ?_
                  refine shut_C hK ?_ (fun hC => ?_)
                  · first
                    | exact four (hk9 C hC8l hvC) (hk9 _ hB8l hvB) ⟨x3, y0, y1, y2⟩
                    | exact four (Below.heap_alloc W8 _ C hC8l) (Below.heap_alloc W8 _ _ hB8l) ⟨x3, y0, y1, y2⟩
                  clear hK K
                  try simp only [Act.put, List.setIfInBounds_toArray, List.set_cons_zero, List.set_cons_succ]
                  refine wpAnyD_take (i := 8) (dst := some 58) (v := ?_) (fuel := 2) rfl rfl (by kernel_rfl) (fun _ _ _ h => h) (by rfl) ?_ (.inr hC) ?_
                  rotate_left
                  · (intro w; go_simp; try with_reducible rfl)
                  simp only [Act.put, List.setIfInBounds_toArray, List.set_cons_zero, List.set_cons_succ]
                  refine wpAnyD_take (i := 9) (dst := some 59) (v := ?_) (fuel := 1) rfl rfl (by kernel_rfl) (fun _ _ _ h => h) (by rfl) ?_ (.inr hC) ?_
                  rotate_left
                  · (intro w; go_simp; try with_reducible rfl)
                  simp only [Act.put, List.setIfInBounds_toArray, List.set_cons_zero, List.set_cons_succ]
                  refine wpAnyD_ready (fuel := 0) (rs := [10]) (by kernel_rfl) (by simp) ?_
                  refine AllReadyD.cons (o := _) rfl (fun K hK => ?_) ?_
                  · go_simp
                    refine shut_K hK (by kernel_rfl) ?_
                    clear hK K
                    try simp only [Act.put, List.setIfInBounds_toArray, List.set_cons_zero, List.set_cons_succ]
                    refine wpAnyD_done (by kernel_rfl) ?_ _
                    refine NoPanic.normal ?_
                    obtain ⟨W10, hW10⟩ : ∃ W, w9.setCell ⟨C, 3, none⟩ (.slice A9 (d1.length + 1) c9) = W := ⟨_, rfl⟩
                    have hfar10 : ∀ b, b ≠ C → W10.heap[b]? = w9.heap[b]? := fun b hb => by rw [← hW10]; exact Below.heap_setCell _ ⟨C, 3, none⟩ _ b hb
                    have hs10 : W10.heap.size = w9.heap.size := by rw [← hW10]; simp
                    have hobj10 : W10.heap[C]? = some (.cells #[.int .i64 d.cap, .int .i64 (tot (d1 ++ [(k, l)])), .map (some M), .slice A9 (d1.length + 1) c9, .int .i64 d.hits, .int .i64 d.misses] 63 (0, 0)) := by
                      rw [← hW10]; exact (heap_setCell_any w9 C 3 _ _ _ _ ((hk9 C hC8l hvC).trans HO8.out)).trans rfl
                    have hM8l : M < W8.heap.size := HF8.out.lt
                    have hF10 : MapF W10 M (upd f k (some (.agg #[.slice A' l.length c', .int .i64 n]))) := HF8.out.of_heap ((hfar10 M H5.out.nM).trans (hk9 M hM8l hvM))
                    have h9C : ∀ g, (Value.slice A9 (d1.length + 1) c9).ownBlock = some g → g ≠ C := fun g hg e => by
                      rcases hb9 with hb | ⟨g', hb, hl⟩
                      · rw [hb] at hg; rw [e] at hg; exact hvC hg
                      · rw [hb] at hg; injection hg with hg; omega
                    have hCH10 : Chgs W10 (fun j => w5.heap.size ≤ j ∧ j < w6.heap.size) A' l := HCH8.out.frame fun j hj hl => by
                      have h1 : j ≠ C := fun e => by have h2 := H5.out.lt; have h3 : w5.heap.size ≤ j := hj.1; omega
                      rw [hfar10 j h1, hk9 j hl fun e => by have h2 := hlt j (.inl (H5.out.so j e)); have h3 : w5.heap.size ≤ j := hj.1; have h4 := HT5.out.size; omega]
                    rw [← HWt.out] at hF10
                    have hlt5 : ∀ j, S j ∨ R j → j < w5.heap.size := fun j hj => Nat.lt_of_lt_of_le (hlt j hj) HT5.out.size
                    have h10 := H5.out.ins hlt5 (w' := W10) (v' := .slice A9 (d1.length + 1) c9) k l A' c' (fun j => w5.heap.size ≤ j ∧ j < w6.heap.size) hobj10 hF10
                      (row_of HR9.out fun g hg => hfar10 g (h9C g hg)) (hb9.imp id fun ⟨g, h1, h2⟩ => ⟨g, h1, by omega, fun h => by have := h.2; have := HS8.out; omega⟩) (fun j hj => hj.1) hCH10 HK1.out
                      (fun j hj hl => by
                        rw [hfar10 j fun e => H.out.dj C H.out.sC (e ▸ hj), hk9 j (by omega) fun e => H.out.dj j (H5.out.so j e) hj]
                        exact HK8.out j hj hl)
                    have hT10 : Touch S w W10 := by rw [← hW10]; exact HT9.out.setCell (.inl H.out.sC) _
                    obtain ⟨S', hS'⟩ : ∃ S', (fun j => S j ∨ (Value.slice A9 (d1.length + 1) c9).ownBlock = some j) = S' := ⟨_, rfl⟩
                    obtain ⟨R', hR'⟩ : ∃ R', (fun j => R j ∨ (w5.heap.size ≤ j ∧ j < w6.heap.size)) = R' := ⟨_, rfl⟩
                    have hSS : ∀ j, S' j → S j ∨ w.heap.size ≤ j := by
                      rw [← hS']
                      rintro j (hj | hj)
                      · exact .inl hj
                      · rcases hb9 with hb | ⟨g, hb, hl⟩
                        · exact .inl (H5.out.so j (hb ▸ hj))
                        · rw [hb] at hj; injection hj with hj; right; have := HT5.out.size; omega
                    have hRR : ∀ j, R' j → R j ∨ w.heap.size ≤ j := by
                      rw [← hR']
                      rintro j (hj | hj)
                      · exact .inl hj
                      · right; have := HT5.out.size; omega
                    have hLT : ∀ j, S' j ∨ R' j → j < W10.heap.size := by
                      rw [← hS', ← hR']
                      rintro j ((hj | hj) | (hj | hj))
                      · have := hlt5 j (.inl hj); omega
                      · have := (HR9.out.lt j hj).2; omega
                      · have := hlt5 j (.inr hj); omega
                      · have := HS8.out; omega
                    rw [hS', hR'] at h10
                    have HH10 : Hid (Ck S' R' C { d with items := d1 ++ [(k, l)] } W10) := Lib.hid ⟨_, M, _, h10⟩
                    have HT10 := Lib.hid hT10
                    have HW10 := Lib.hid hW10
                    have HSS := Lib.hid hSS
                    have HRR := Lib.hid hRR
                    have HLT := Lib.hid hLT
                    rw [HW10.out]
                    clear h10 hT10 hW10 hSS hRR hLT hS' hR' hCH10 hF10 hobj10 hfar10 hs10 hk9 z3 zf3 x3 y0 y1 y2 c1 c2 b0 b1 b2 hme hes z1 zf hC
                    go_wp2_with fail
                    go_loopw [] (fun wr => ∃ its, Ck S' R' C { d with items := its } wr ∧ Touch S w wr ∧ W10.heap.size ≤ wr.heap.size ∧ fitI d.cap (d1 ++ [(k, l)]) = fitI d.cap its ∧ Good { d with items := its } ∧ its.length ≤ 900001) (fun wr => match wr.cell? ⟨C, 1, none⟩ with | some (.int _ t) => t.toNat | _ => 0)
                    case atStart => exact ⟨_, HH10.out, HT10.out, Nat.le_refl _, rfl, HG10.out, by have := HD1l.out; simp; omega⟩
                    case round =>
                      obtain ⟨its, hck, ht, hsz, hfi, hgi, hil⟩ := hrel
                      obtain ⟨vi, Mi, fi, hck⟩ := hck
                      have HC := Lib.hid hck
                      have HT := Lib.hid ht
                      have HFi := Lib.hid hfi
                      have HGi := Lib.hid hgi
                      have HSz := Lib.hid hsz
                      have c0 : wr.cell? ⟨C, 0, none⟩ = some (.int .i64 d.cap) := hck.c0
                      have c1 : wr.cell? ⟨C, 1, none⟩ = some (.int .i64 (tot its)) := hck.c1
                      have c3 : wr.cell? ⟨C, 3, none⟩ = some vi := hck.c3
                      have hro : wr.ownsRow 0 33 3 vi its.length (kscells (keys its)) := hck.ro
                      clear hck ht hfi hgi hsz
                      by_cases hcap : d.cap < tot its
                      · cases its with
                        | nil => exact absurd hcap (by have := hg.cap0; simp [tot]; omega)
                        | cons p its =>
                          obtain ⟨g, cg, rfl, _, _, hcell, _⟩ := row_some hro (by simp)
                          have k0 := hcell 0 _ rfl
                          have k1 := hcell 1 _ rfl
                          have k2 := hcell 2 _ rfl
                          have HFg := Lib.hid fun m => forget_walk (w := wr.drewN m) (HC.out.frame fun _ _ _ => rfl) HGi.out (by show (p :: its).length ≤ 1000000; omega) p.1 p.2 (List.mem_cons_self ..)
                          unfold kv at HFg
                          clear hro hcell
                          go_wp2_with fail
                          go_quiet (fail)
                          go_wp2_with fail
                          refine (HFg.out _).mono ?_
                          rintro e w3 ⟨rfl, ht3, hc3⟩
                          have hc3 : Ck S' R' C { d with items := its } w3 := by
                            have e : delI (p :: its) p.1 = its := delI_head HGi.out.nd
                            rw [← e]; exact hc3
                          have HC3 := Lib.hid hc3
                          have HT3 := Lib.hid ht3
                          clear ht3 hc3
                          go_wp2_with fail
                          go_roundw
                          case rel =>
                            refine ⟨its, HC3.out, ((HT.out.trans (c := wr.drewN nq) (S' := fun _ => False) ⟨rfl, rfl, rfl, Nat.le_refl _, fun _ _ _ => rfl⟩ (fun _ _ h => h.elim)).trans HT3.out fun i hi hs => (HSS.out i hs).elim id fun h => absurd h (by omega)), Nat.le_trans HSz.out HT3.out.size, ?_, ?_, by simp at hil; omega⟩
                            · rw [HFi.out]
                              show (if d.cap < tot (p :: its) then fitI d.cap its else p :: its) = _
                              rw [if_pos hcap]
                            · have e : delI (p :: its) p.1 = its := delI_head HGi.out.nd
                              have := HGi.out.del (k := p.1) (c := p.2) (List.mem_cons_self ..)
                              rw [← e]; exact this
                          case measure =>
                            obtain ⟨v3, M3, f3, h3⟩ := HC3.out
                            have c1' : w3.cell? ⟨C, 1, none⟩ = some (.int .i64 (tot its)) := h3.c1
                            have hw := (wtF_bound p.2 (HGi.out.small p (List.mem_cons_self ..)).2 p.2.length (Nat.le_refl _)).1
                            have ht0 := tot_nonneg its fun q hq => HGi.out.small q (List.mem_cons_of_mem _ hq)
                            have e : tot (p :: its) = wtF p.2 p.2.length + tot its := tot_cons p its
                            rw [c1', c1]
                            show (tot its).toNat < (tot (p :: its)).toNat
                            omega
                      · go_wp2_with fail
                        go_quiet (fail)
                        go_wp2_with fail
                        refine bodyPost_end (results_none rfl _ _ _) rfl ?_
                        refine ⟨S', R', rfl, ⟨(HT.out.trans (S' := fun _ => False) ⟨rfl, rfl, rfl, Nat.le_refl _, fun _ _ _ => rfl⟩ (fun _ _ h => h.elim)), HSS.out, HRR.out, fun j hj => Nat.lt_of_lt_of_le (HLT.out j hj) HSz.out⟩, ?_⟩
                        have e : putF d k l = { d with items := its } := by
                          unfold putF
                          rw [HWt.out, if_neg (show ¬ d.cap < n by omega), HD1.out, HFi.out, fitI_stop (by omega)]
                        rw [e]
                        exact ⟨vi, Mi, fi, HC.out.frame fun _ _ _ => rfl⟩
                  exact AllReadyD.nil
                exact AllReadyD.nil
              exact AllReadyD.nil
            exact AllReadyD.nil
          exact AllReadyD.nil
        exact AllReadyD.nil
      exact AllReadyD.nil
end
end Go.Proofs.Ytphckenihkgoeaa
