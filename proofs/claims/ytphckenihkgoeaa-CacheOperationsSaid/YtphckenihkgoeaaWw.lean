import Derived.Test.YtphckenihkgoeaaWv
namespace Go.Proofs.Ytphckenihkgoeaa
set_option linter.unusedSimpArgs false
set_option linter.unnecessarySimpa false
set_option linter.unusedVariables false
open Go.RowKit
attribute [local go_sem ↓] Go.wp_at_zero Go.wp_at_succ bs22 bs40

theorem qeq {P : Program} {f : FuncId} {args : Array Value} {w : World} {n : Nat} {v : Value}
    (h : Calls P f args (w.drewN n) fun e w' => e = .returned v ∧ w.drewN n = w') : Calls P f args (w.drewN n) fun e w'' => e = .returned v ∧ ∃ m, w'' = w.drewN m :=
  h.mono fun _ _ ⟨he, hm⟩ => ⟨he, n, hm.symm⟩
theorem append_none {w : World} (base : Nat) (t ty e : TypeId) (i : TypeInfo) (size : Nat) (ht : Try.prog.underlying t = some (.slice e)) (hi : Try.prog.info? e = some i)
    (v : Value) (n c : Nat) (xs : List Value) (hown : w.ownsRow base e size v n xs) : (Builtin.append_ #[t, t] ty #[v, .slice none 0 c]).run Try.prog w = .ok v w := by
  rcases hown.2 with ⟨rfl, rfl⟩ | ⟨g, cap, cur, rfl, _, _, hnc, _⟩
  · simp [Builtin.append_, run_underlying ht, sizeOf, typeInfo, hi, Builtin.lenOf, Builtin.firstCells]
  · simp [Builtin.append_, run_underlying ht, sizeOf, typeInfo, hi, Builtin.lenOf, Builtin.firstCells, hnc, storeCells]
/-- a list is copied behind an empty one -/
theorem copy_list (w : World) (g : Nat) (hg : w.heap[g]? = some (.cells #[] 35 (0, 0))) (T : Nat → Prop) (A : Option Addr) (c : Nat) (l : List Chg) (hch : Chgs w T A l) (hl : l.length ≤ 900000) : ∃ A' c' w', (Builtin.append_ #[22, 22] 22 #[.slice (some ⟨g, 0, none⟩) 0 0, .slice A l.length c]).run Try.prog w = .ok (.slice A' l.length c') w' ∧ Chgs w' (fun j => g ≤ j ∧ j < w'.heap.size) A' l ∧ w.grownBy w' (some g) := by
  have hlt := (Array.getElem?_eq_some_iff.1 hg).1
  have hro : w.ownsRow g 35 2 (.slice (some ⟨g, 0, none⟩) 0 0) 0 [] := ⟨rfl, .inr ⟨g, 0, #[], rfl, Nat.le_refl _, hg, Nat.le_refl _, Nat.zero_le _, rfl, rfl⟩⟩
  cases A with
  | none =>
    have hl : l = [] := by
      cases l with
      | nil => rfl
      | cons x l => obtain ⟨a, h1, _⟩ := hch 0 (by simp); cases h1
    subst hl
    exact ⟨_, _, w, append_none g 22 22 35 _ 2 Try.underlying22 rfl _ 0 c [] hro, fun i hi => absurd hi (Nat.not_lt_zero _), ⟨rfl, rfl, rfl, Nat.le_refl _, fun _ _ _ => rfl⟩⟩
  | some a =>
    obtain ⟨v', w', h1, h2, h3, _⟩ := run_append_own (P := Try.prog) w g 22 22 35 _ _ 2 24 Try.underlying22 rfl rfl rfl rfl rfl (by decide) _ 0 [] hro a l.length c (ccells l) (ccells_length l) (fun j u hj => by
      obtain ⟨a', e, _, h3⟩ := hch.flat j u hj
      cases e
      exact h3) (one_cc l) (by unfold maxLen; omega) (by omega) (Nat.le_of_lt hlt)
    obtain ⟨A', c', rfl⟩ := row_sl h2
    rw [Nat.zero_add] at h1 h2
    exact ⟨A', c', w', h1, (row_flat h2).chgs, h3⟩
theorem fitI_cons (cap : Int) (p : K × List Chg) (l : Items) (h : cap < tot (p :: l)) : fitI cap (p :: l) = fitI cap l := by
  show (if cap < tot (p :: l) then fitI cap l else p :: l) = _
  rw [if_pos h]
theorem ri_tail {w : World} {T : Nat → Prop} {a : Addr} {r : RI} {rs : List RI} (h : Flat w T (some a) (ricells (r :: rs))) : Flat w T (some (a.add 4)) (ricells rs) := fun j u hj => by
  obtain ⟨a', e, h1, h2⟩ := h (j + 4) u (by simpa [ricells] using hj)
  cases e
  refine ⟨_, rfl, by rw [add_block]; exact h1, ?_⟩
  have e : (a.add 4).add j = a.add (j + 4) := by
    unfold Addr.add
    rw [if_neg (by decide : ¬ (4 : Nat) = 0), if_neg (by omega : ¬ j + 4 = 0)]
    by_cases h0 : j = 0
    · subst h0; simp
    · rw [if_neg h0]; simp; omega
  rw [e]; exact h2
theorem fourr {C b : Nat} {w w' : World} {v x y z : Value} (h1 : w'.heap[C]? = w.heap[C]?) (h2 : w'.heap[b]? = w.heap[b]?) (h : w.cell? ⟨C, 1, none⟩ = some v ∧ w.cell? ⟨b, 0, none⟩ = some x ∧ w.cell? ⟨b, 1, none⟩ = some y ∧ w.cell? ⟨b, 2, none⟩ = some z) :
    w'.cell? ⟨C, 1, none⟩ = some v ∧ w'.cell? ⟨b, 0, none⟩ = some x ∧ w'.cell? ⟨b, 1, none⟩ = some y ∧ w'.cell? ⟨b, 2, none⟩ = some z :=
  ⟨(World.cell?_of_block h1).trans h.1, (World.cell?_of_block h2).trans h.2.1, (World.cell?_of_block h2).trans h.2.2.1, (World.cell?_of_block h2).trans h.2.2.2⟩
set_option maxRecDepth 100000 in
theorem rput_walk (w : World) (T : Nat → Prop) (hT : ∀ j, T j → j < w.heap.size) (d : CM) (v : Value) (k : K) (hr : RS w T d v) (hg : Good d) (hn : d.items.length ≤ 800000) (Al : Option Addr) (cl : Nat) (l : List Chg) (hl : Chgs w T Al l) (hls : SmallP (k, l)) : Calls Try.prog 32 #[v, kv k, .slice Al l.length cl] w fun e w' => ∃ v', e = .returned v' ∧ Below w.heap.size w w' ∧ RS w' (more T w w') (putF d k l) v' := by
  obtain ⟨A, c, rs, rfl, hrl, hmap⟩ := hr
  have hn' : rs.length ≤ 800000 := by rw [← hmap] at hn; simpa using hn
  clear hn
  obtain ⟨W1, hW1⟩ : ∃ W, ((w.alloc (.cells (rcs d.cap (.slice A rs.length c) d.hits d.misses) 42)).alloc (.cells #[.int .i64 k.1, .int .i64 k.2.1, .int .i64 k.2.2] 48)).alloc (.cells zr42 42) = W := ⟨_, rfl⟩
  have hs1 : W1.heap.size = w.heap.size + 3 := by rw [← hW1]; simp
  have hb1 : Below w.heap.size w W1 := by rw [← hW1]; exact (((Below.refl _ _).alloc (Nat.le_refl _) _).alloc (by simp) _).alloc (by simp; omega) _
  have hX1 : W1.heap[w.heap.size]? = some (.cells (rcs d.cap (.slice A rs.length c) d.hits d.misses) 42 (0, 0)) := by
    rw [← hW1, Below.heap_alloc _ _ _ (by simp; omega), Below.heap_alloc _ _ _ (by simp)]; exact heap_alloc_new w _
  have hK1 : W1.heap[w.heap.size + 1]? = some (.cells #[.int .i64 k.1, .int .i64 k.2.1, .int .i64 k.2.2] 48 (0, 0)) := by
    rw [← hW1, Below.heap_alloc _ _ _ (by simp)]
    have := heap_alloc_new (w.alloc (.cells (rcs d.cap (.slice A rs.length c) d.hits d.misses) 42)) (.cells #[.int .i64 k.1, .int .i64 k.2.1, .int .i64 k.2.2] 48)
    simpa using this
  have hZ1 : W1.heap[w.heap.size + 1 + 1]? = some (.cells zr42 42 (0, 0)) := by
    rw [← hW1]
    have := heap_alloc_new ((w.alloc (.cells (rcs d.cap (.slice A rs.length c) d.hits d.misses) 42)).alloc (.cells #[.int .i64 k.1, .int .i64 k.2.1, .int .i64 k.2.2] 48)) (.cells zr42 42)
    simpa using this
  have HS1 := Lib.hid hs1
  have HB1 := Lib.hid hb1
  have HX1 := Lib.hid hX1
  have HK1 := Lib.hid hK1
  have HZ1 := Lib.hid hZ1
  have HW1 := Lib.hid hW1
  clear hs1 hb1 hX1 hK1 hZ1 hW1
  have HRL := Lib.hid hrl
  have HMap := Lib.hid hmap
  have HL := Lib.hid hl
  have HWo := Lib.hid (without_walk W1 T A c rs k (hrl.frame fun j hj hl => HB1.out.block j hl) (by omega))
  unfold kv at HWo
  have hll : l.length ≤ 1000 := hls.1
  have hwp := weight_pos hls
  have hwp : 16 ≤ weight l ∧ weight l ≤ 1073741824 := hwp
  obtain ⟨n, hwt⟩ : ∃ n, weight l = n := ⟨_, rfl⟩
  rw [hwt] at hwp
  have HWt := Lib.hid hwt
  clear hrl hmap hl hwt
  unfold rcv kv
  go_enter Try.func32, Try.ntmps32
  go_upto_region 1 with (fail)
  rw [show ((w.alloc (.cells #[.int .i64 d.cap, .slice A rs.length c, .int .i64 d.hits, .int .i64 d.misses] 42)).alloc (.cells #[.int .i64 k.1, .int .i64 k.2.1, .int .i64 k.2.2] 48)).alloc (.cells #[.int .i64 0, .slice none 0 0, .int .i64 0, .int .i64 0] 42) = W1 from HW1.out]
  obtain ⟨x0, x1, x2, x3, xf⟩ := rcell HX1.out
  have y0 : W1.cell? ⟨w.heap.size + 1, 0, none⟩ = some (.int .i64 k.1) := by rw [cell_of_row W1 _ 0 _ _ _ HK1.out]; rfl
  have y1 : W1.cell? ⟨w.heap.size + 1, 1, none⟩ = some (.int .i64 k.2.1) := by rw [cell_of_row W1 _ 1 _ _ _ HK1.out]; rfl
  have y2 : W1.cell? ⟨w.heap.size + 1, 2, none⟩ = some (.int .i64 k.2.2) := by rw [cell_of_row W1 _ 2 _ _ _ HK1.out]; rfl
  go_wp2_with fail
  refine (HWo.out).mono ?_
  rintro e w2 ⟨v2, vl, b, rfl, hb2, hro2, hown2, hcase⟩
  obtain ⟨A2, c2, rfl⟩ := row_sl hro2
  have hs1 := HS1.out
  have hX2 := (hb2.block w.heap.size (by omega)).trans HX1.out
  have hK2 := (hb2.block (w.heap.size + 1) (by omega)).trans HK1.out
  have hZ2 := (hb2.block (w.heap.size + 1 + 1) (by omega)).trans HZ1.out
  have hs12 := hb2.size
  have HB2 := Lib.hid (HB1.out.trans (hb2.mono HB1.out.size))
  obtain ⟨p0, p1, p2, p3, pf⟩ := rcell hX2
  obtain ⟨W3, hW3⟩ : ∃ W, w2.setCell ⟨w.heap.size, 1, none⟩ (.slice A2 (noR rs k).length c2) = W := ⟨_, rfl⟩
  have hfar3 : ∀ j, j ≠ w.heap.size → W3.heap[j]? = w2.heap[j]? := fun j hj => by rw [← hW3]; exact Below.heap_setCell _ ⟨w.heap.size, 1, none⟩ _ j hj
  have hs3 : w2.heap.size = W3.heap.size := by rw [← hW3]; simp
  have hX3 : W3.heap[w.heap.size]? = some (.cells (rcs d.cap (.slice A2 (noR rs k).length c2) d.hits d.misses) 42 (0, 0)) := by
    rw [← hW3]; exact (heap_setCell_any w2 w.heap.size 1 _ _ _ _ hX2).trans rfl
  have hK3 := (hfar3 _ (by omega)).trans hK2
  have hZ3 := (hfar3 _ (by omega)).trans hZ2
  have hnX : ∀ g, (Value.slice A2 (noR rs k).length c2).ownBlock = some g → g ≠ w.heap.size ∧ g ≠ w.heap.size + 1 + 1 := fun g hg => by
    obtain ⟨cur, hcur⟩ := row_block hro2 hg
    constructor
    · rintro rfl; rw [hX2] at hcur; injection hcur with hcur; injection hcur with _ h _; exact absurd h (by decide)
    · rintro rfl; rw [hZ2] at hcur; injection hcur with hcur; injection hcur with _ h _; exact absurd h (by decide)
  have hro3 := row_of hro2 (w' := W3) fun g hg => hfar3 g (hnX g hg).1
  have HB3 : Hid (Below w.heap.size w W3) := Lib.hid (by rw [← hW3]; exact HB2.out.setCell (Nat.le_refl _) _)
  have HWk := Lib.hid fun m => rweight_walk (W3.drewN m) T Al cl l (HL.out.frame (w' := W3.drewN m) fun j hj hl => (HB3.out.block j hl)) (by unfold maxLen; omega)
  rw [HWt.out] at HWk
  have HX3 := Lib.hid hX3
  have HK3 := Lib.hid hK3
  have HZ3 := Lib.hid hZ3
  have HRo3 := Lib.hid hro3
  have HNX := Lib.hid hnX
  have HOw2 := Lib.hid hown2
  have HW3 := Lib.hid hW3
  have HSz := Lib.hid hs3
  have HSz2 := Lib.hid hs12
  clear hW3
  go_upto_region 2 with (fail)
  rw [HW3.out]
  clear x0 x1 x2 x3 xf p0 p1 p2 p3 pf y0 y1 y2 hX2 hK2 hZ2 hs12 hs1 hfar3 hs3 hX3 hK3 hZ3 hnX hro3 hro2 hb2 hown2 hcase
  obtain ⟨x0, x1, x2, x3, xf⟩ := rcell HX3.out
  by_cases hcn : d.cap < n
  · obtain ⟨z0, z1, z2, z3, zf⟩ := rcell HZ3.out
    go_quiet (first | (go_at_call 11; refine qeq (HWk.out _)))
    go_wp2_with fail
    refine bodyPost_ret (v := rcv d.cap (.slice A2 (noR rs k).length c2) d.hits d.misses) (by simp [rcv, results, Try.results32, go_sem, z0, z1, z2, z3, x0, x1, x2, x3]) rfl ?_
    refine ⟨_, rfl, ?_⟩
    have hpf : putF d k l = { d with items := delI d.items k } := by
      unfold putF
      rw [HWt.out, if_pos hcn]
    rw [hpf]
    have hbel : ∀ W', Below w.heap.size w W' → (∀ j, j ≠ w.heap.size + 1 + 1 → W'.heap[j]? = W3.heap[j]?) → W3.heap.size ≤ W'.heap.size → Below w.heap.size w W' ∧ RS W' (more T w W') { d with items := delI d.items k } (rcv d.cap (.slice A2 (noR rs k).length c2) d.hits d.misses) := fun W' hb hf hs => by
      refine ⟨hb, A2, c2, noR rs k, rfl, ⟨fun j u hj => ?_, fun x hx => ?_⟩, by rw [noR_map, HMap.out]⟩
      · obtain ⟨a, rfl, ha1, ha2⟩ := row_flat_own (N := w.heap.size) HRo3.out (fun g hg => Nat.le_trans HB1.out.size (HOw2.out g hg)) j u hj
        have hown : (Value.slice (some a) (noR rs k).length c2).ownBlock = some a.block := by
          rcases HRo3.out.2 with ⟨e, _⟩ | ⟨g, cap, cur, e, _⟩
          · cases e
          · injection e with e; injection e with e; subst e; rfl
        exact ⟨a, rfl, .inr ⟨ha1.1, by omega⟩, (World.cell?_of_block (by rw [add_block]; exact hf _ (HNX.out _ hown).2)).trans ha2⟩
      · exact ((HRL.out.ls x (List.mem_filter.1 hx).1).frame fun j hj hl => hb.block j hl).mono fun j hj => .inl hj
    refine hbel _ ?_ (fun j h3 => ?_) (by simp)
    · repeat (refine Below.setCell ?_ (by simp; try omega) _)
      exact below_drewN HB3.out _
    · repeat (rw [Below.heap_setCell _ _ _ _ (by exact h3)])
      rfl
  · go_quiet (first | (go_at_call 11; refine qeq (HWk.out _)))
    go_upto_region 4 with (fail)
    obtain ⟨W4, hW4⟩ : ∃ W, W3.drewN nq = W := ⟨_, rfl⟩
    rw [hW4]
    have h4 : W4.heap = W3.heap := by rw [← hW4]; rfl
    have hX4 : W4.heap[w.heap.size]? = _ := (by rw [h4] : W4.heap[w.heap.size]? = W3.heap[w.heap.size]?).trans HX3.out
    have hK4 : W4.heap[w.heap.size + 1]? = _ := (by rw [h4] : W4.heap[w.heap.size + 1]? = W3.heap[w.heap.size + 1]?).trans HK3.out
    have hZ4 : W4.heap[w.heap.size + 1 + 1]? = _ := (by rw [h4] : W4.heap[w.heap.size + 1 + 1]? = W3.heap[w.heap.size + 1 + 1]?).trans HZ3.out
    have hro4 := row_of HRo3.out (w' := W4) fun g _ => by rw [h4]
    have hB4 : Below w.heap.size w W4 := by rw [← hW4]; exact below_drewN HB3.out _
    have hl4 : w.heap.size < W4.heap.size := (Array.getElem?_eq_some_iff.1 hX4).1
    have hlz4 : w.heap.size + 1 + 1 < W4.heap.size := (Array.getElem?_eq_some_iff.1 hZ4).1
    have HB5 : Hid (Below w.heap.size w (W4.alloc (.cells #[] 35)).drew) := Lib.hid (hB4.alloc hB4.size _).drew
    obtain ⟨A5, c5, w6, hrun5, hch5, hg5⟩ := copy_list (W4.alloc (.cells #[] 35)).drew W4.heap.size (heap_alloc_new W4 _) T Al cl l (HL.out.frame fun j hj hl => HB5.out.block j hl) (by omega)
    have e6 : ∀ j, j < W4.heap.size → w6.heap[j]? = W4.heap[j]? := fun j hj => (hg5.block j (by simp [World.drew]; omega) (by simp; omega)).trans (Below.heap_alloc W4 _ j hj)
    have hs6 : W4.heap.size < w6.heap.size := by have := hg5.size; simp [World.drew] at this; omega
    have hB6 : Below w.heap.size w w6 := HB5.out.grown hg5 HB5.out.size (by intro g hg; injection hg with hg; omega)
    have e7 : ∀ j, j < W4.heap.size → (w6.alloc (.cells #[.int .i64 k.1, .int .i64 k.2.1, .int .i64 k.2.2, .slice A5 l.length c5] 75)).heap[j]? = W4.heap[j]? := fun j hj => (Below.heap_alloc w6 _ j (by omega)).trans (e6 j hj)
    have hml : (noR rs k).length ≤ 800000 := Nat.le_trans (List.length_filter_le _ _) (by omega)
    obtain ⟨v8, w8, hrun8, hr8, hg8, hb8⟩ := push_item (w6.alloc (.cells #[.int .i64 k.1, .int .i64 k.2.1, .int .i64 k.2.2, .slice A5 l.length c5] 75)) (.slice A2 (noR rs k).length c2) _ _ (row_of hro4 fun g hg => e7 g (hro4.lt g hg).2) (by omega) w6.heap.size ⟨k, l, A5, c5⟩ (heap_alloc_new w6 _)
    have e8 : ∀ j, j < W4.heap.size → (Value.slice A2 (noR rs k).length c2).ownBlock ≠ some j → w8.heap[j]? = W4.heap[j]? := fun j hj hv => (hg8.block j (by simp; omega) fun e => hv e.symm).trans (e7 j hj)
    have hn2 : ∀ g, (Value.slice A2 (noR rs k).length c2).ownBlock = some g → w.heap.size ≤ g ∧ g ≠ w.heap.size ∧ g ≠ w.heap.size + 1 + 1 := fun g hg => ⟨Nat.le_trans HB1.out.size (HOw2.out g hg), HNX.out g hg⟩
    have hv0 : (Value.slice A2 (noR rs k).length c2).ownBlock ≠ some w.heap.size := fun e => (hn2 _ e).2.1 rfl
    have hv1 : (Value.slice A2 (noR rs k).length c2).ownBlock ≠ some (w.heap.size + 1) := fun e => by have h1 := HOw2.out _ e; have h2 := HS1.out; omega
    have hv2 : (Value.slice A2 (noR rs k).length c2).ownBlock ≠ some (w.heap.size + 1 + 1) := fun e => (hn2 _ e).2.2 rfl
    have HB8 : Hid (Below w.heap.size w w8) := Lib.hid ((hB6.alloc hB6.size _).grown hg8 (by have := hB6.size; simp; omega) (fun g hg => (hn2 g hg).1))
    have HB8o : Hid (v8.ownBlock = (Value.slice A2 (noR rs k).length c2).ownBlock ∨ v8.ownBlock = some (w6.heap.size + 1) ∧ w.heap.size + 1 + 1 < w6.heap.size) := Lib.hid (hb8.imp id fun h => ⟨by simpa using h.1, by omega⟩)
    have hCh8 : Chgs w8 (fun j => W4.heap.size ≤ j ∧ j < w6.heap.size) A5 l := hch5.frame fun j hj hl => (hg8.block j (by simp; omega) fun e => by have := (hro4.lt j e.symm).2; have := hj.1; omega).trans (Below.heap_alloc w6 _ j hl)
    obtain ⟨A8, c8, rfl⟩ := row_sl hr8
    have z3 : w8.cell? ⟨w.heap.size, 1, none⟩ = some (.slice A2 (noR rs k).length c2) := by rw [cell_of_row w8 _ 1 _ _ _ ((e8 _ hl4 hv0).trans hX4)]; rfl
    have zf3 : w8.frozen? ⟨w.heap.size, 1, none⟩ = false := by simp [World.frozen?, (e8 _ hl4 hv0).trans hX4]
    have HRUN5 := Lib.hid hrun5
    have HRUN8 := Lib.hid hrun8
    have E6 := Lib.hid e6
    have E7 := Lib.hid e7
    have E8 := Lib.hid e8
    have HX4 := Lib.hid hX4
    have HZ4 := Lib.hid hZ4
    have HR8 := Lib.hid hr8
    have HN2 := Lib.hid hn2
    have HCh8 := Lib.hid hCh8
    have HNl := Lib.hid hml
    have HZl4 := Lib.hid hlz4
    clear x0 x1 x2 x3 xf
    obtain ⟨x0, x1, x2, x3, xf⟩ := rcell HX4.out
    have y0 : W4.cell? ⟨w.heap.size + 1, 0, none⟩ = some (.int .i64 k.1) := by rw [cell_of_row W4 _ 0 _ _ _ hK4]; rfl
    have y1 : W4.cell? ⟨w.heap.size + 1, 1, none⟩ = some (.int .i64 k.2.1) := by rw [cell_of_row W4 _ 1 _ _ _ hK4]; rfl
    have y2 : W4.cell? ⟨w.heap.size + 1, 2, none⟩ = some (.int .i64 k.2.2) := by rw [cell_of_row W4 _ 2 _ _ _ hK4]; rfl
    clear hrun5 hrun8 e6 e7 e8 hX4 hZ4 hr8 hn2 hch5 hCh8 hg5 hg8 hb8 hro4 h4 hW4 hB4 hB6 hK4
    refine wp_region_noPanic ?_
    refine wp_region_D 10 (fun w' => w'.cell? ⟨w.heap.size, 1, none⟩ = some (.slice A2 (noR rs k).length c2) ∧ w'.cell? ⟨w.heap.size + 1, 0, none⟩ = some (.int .i64 k.1) ∧ w'.cell? ⟨w.heap.size + 1, 1, none⟩ = some (.int .i64 k.2.1) ∧ w'.cell? ⟨w.heap.size + 1, 2, none⟩ = some (.int .i64 k.2.2)) (by kernel_rfl) ⟨x1, y0, y1, y2⟩ (fun hU => ?_)
    have hC : (fun w' : World => w'.cell? ⟨w.heap.size, 1, none⟩ = some (.slice A2 (noR rs k).length c2) ∧ w'.cell? ⟨w.heap.size + 1, 0, none⟩ = some (.int .i64 k.1) ∧ w'.cell? ⟨w.heap.size + 1, 1, none⟩ = some (.int .i64 k.2.1) ∧ w'.cell? ⟨w.heap.size + 1, 2, none⟩ = some (.int .i64 k.2.2)) W4.drew := ⟨x1, y0, y1, y2⟩
    clear hU
    refine wpAnyD_take (i := 0) (dst := some 22) (v := ?_) (fuel := 10) rfl rfl (by kernel_rfl) (fun _ _ _ h => h) (by rfl) ?_ (.inr hC) ?_
    rotate_left
    · (intro w; go_simp; try with_reducible rfl)
    simp only [Act.put, List.setIfInBounds_toArray, List.set_cons_zero, List.set_cons_succ]
    refine wpAnyD_load (i := 1) (dst := some 23) (v := ?_) (fuel := 9) rfl rfl (by kernel_rfl) (fun _ _ _ h => h) (by rfl) ?_ (.inr hC) ?_
    rotate_left
    · intro w hSw
      try dsimp only at hSw
      go_simp
      try with_reducible rfl
    simp only [Act.put, List.setIfInBounds_toArray, List.set_cons_zero, List.set_cons_succ]
    refine wpAnyD_load (i := 2) (dst := some 24) (v := ?_) (fuel := 8) rfl rfl (by kernel_rfl) (fun _ _ _ h => h) (by rfl) ?_ (.inr hC) ?_
    rotate_left
    · intro w hSw
      try dsimp only at hSw
      go_simp
      try with_reducible rfl
    simp only [Act.put, List.setIfInBounds_toArray, List.set_cons_zero, List.set_cons_succ]
    refine wpAnyD_take (i := 4) (dst := some 26) (v := ?_) (fuel := 7) rfl rfl (by kernel_rfl) (fun _ _ _ h => h) (by rfl) ?_ (.inr hC) ?_
    rotate_left
    · (intro w; go_simp; try with_reducible rfl)
    simp only [Act.put, List.setIfInBounds_toArray, List.set_cons_zero, List.set_cons_succ]
    refine wpAnyD_ready (fuel := 6) (rs := [3]) (by kernel_rfl) (by simp) ?_
    refine AllReadyD.cons (o := _) rfl (fun K hK => ?_) ?_
    · go_simp
      refine shut_C hK ?_ (fun hC => ?_)
      · first
        | exact fourr (w' := w8) (E8.out _ hl4 hv0) (E8.out _ (by omega) hv1) ⟨x1, y0, y1, y2⟩
        | exact fourr (w' := w6.alloc (.cells #[.int .i64 k.1, .int .i64 k.2.1, .int .i64 k.2.2, .slice A5 l.length c5] 75)) (E7.out _ hl4) (E7.out _ (by omega)) ⟨x1, y0, y1, y2⟩
        | exact fourr (w' := w6) (E6.out _ hl4) (E6.out _ (by omega)) ⟨x1, y0, y1, y2⟩
        | exact fourr (w' := (W4.alloc (.cells #[] 35)).drew) (Below.heap_alloc W4 _ _ hl4) (Below.heap_alloc W4 _ _ (by omega)) ⟨x1, y0, y1, y2⟩
      clear hK K
      try simp only [Act.put, List.setIfInBounds_toArray, List.set_cons_zero, List.set_cons_succ]
      refine wpAnyD_ready (fuel := 5) (rs := [5]) (by kernel_rfl) (by simp) ?_
      refine AllReadyD.cons (o := _) rfl (fun K hK => ?_) ?_
      · refine step_append_eq rfl (.tmp 25) (.tmp 26) 22 rfl _ _ _ _ rfl rfl HRUN5.out ?_
        refine shut_C hK ?_ (fun hC => ?_)
        · first
          | exact fourr (w' := w8) (E8.out _ hl4 hv0) (E8.out _ (by omega) hv1) ⟨x1, y0, y1, y2⟩
          | exact fourr (w' := w6.alloc (.cells #[.int .i64 k.1, .int .i64 k.2.1, .int .i64 k.2.2, .slice A5 l.length c5] 75)) (E7.out _ hl4) (E7.out _ (by omega)) ⟨x1, y0, y1, y2⟩
          | exact fourr (w' := w6) (E6.out _ hl4) (E6.out _ (by omega)) ⟨x1, y0, y1, y2⟩
          | exact fourr (w' := (W4.alloc (.cells #[] 35)).drew) (Below.heap_alloc W4 _ _ hl4) (Below.heap_alloc W4 _ _ (by omega)) ⟨x1, y0, y1, y2⟩
        clear hK K
        try simp only [Act.put, List.setIfInBounds_toArray, List.set_cons_zero, List.set_cons_succ]
        refine wpAnyD_take (i := 6) (dst := some 28) (v := ?_) (fuel := 4) rfl rfl (by kernel_rfl) (fun _ _ _ h => h) (by rfl) ?_ (.inr hC) ?_
        rotate_left
        · (intro w; go_simp; try with_reducible rfl)
        simp only [Act.put, List.setIfInBounds_toArray, List.set_cons_zero, List.set_cons_succ]
        refine wpAnyD_ready (fuel := 3) (rs := [7]) (by kernel_rfl) (by simp) ?_
        refine AllReadyD.cons (o := _) rfl (fun K hK => ?_) ?_
        · go_simp
          refine shut_C hK ?_ (fun hC => ?_)
          · first
            | exact fourr (w' := w8) (E8.out _ hl4 hv0) (E8.out _ (by omega) hv1) ⟨x1, y0, y1, y2⟩
            | exact fourr (w' := w6.alloc (.cells #[.int .i64 k.1, .int .i64 k.2.1, .int .i64 k.2.2, .slice A5 l.length c5] 75)) (E7.out _ hl4) (E7.out _ (by omega)) ⟨x1, y0, y1, y2⟩
            | exact fourr (w' := w6) (E6.out _ hl4) (E6.out _ (by omega)) ⟨x1, y0, y1, y2⟩
            | exact fourr (w' := (W4.alloc (.cells #[] 35)).drew) (Below.heap_alloc W4 _ _ hl4) (Below.heap_alloc W4 _ _ (by omega)) ⟨x1, y0, y1, y2⟩
          clear hK K
          try simp only [Act.put, List.setIfInBounds_toArray, List.set_cons_zero, List.set_cons_succ]
          refine wpAnyD_ready (fuel := 2) (rs := [8]) (by kernel_rfl) (by simp) ?_
          refine AllReadyD.cons (o := _) rfl (fun K hK => ?_) ?_
          · refine step_append_eq rfl (.tmp 23) (.tmp 29) 40 rfl _ _ _ _ rfl rfl HRUN8.out ?_
            refine shut_C hK ?_ (fun hC => ?_)
            · first
              | exact fourr (w' := w8) (E8.out _ hl4 hv0) (E8.out _ (by omega) hv1) ⟨x1, y0, y1, y2⟩
              | exact fourr (w' := w6.alloc (.cells #[.int .i64 k.1, .int .i64 k.2.1, .int .i64 k.2.2, .slice A5 l.length c5] 75)) (E7.out _ hl4) (E7.out _ (by omega)) ⟨x1, y0, y1, y2⟩
              | exact fourr (w' := w6) (E6.out _ hl4) (E6.out _ (by omega)) ⟨x1, y0, y1, y2⟩
              | exact fourr (w' := (W4.alloc (.cells #[] 35)).drew) (Below.heap_alloc W4 _ _ hl4) (Below.heap_alloc W4 _ _ (by omega)) ⟨x1, y0, y1, y2⟩
            clear hK K
            try simp only [Act.put, List.setIfInBounds_toArray, List.set_cons_zero, List.set_cons_succ]
            refine wpAnyD_take (i := 9) (dst := some 31) (v := ?_) (fuel := 1) rfl rfl (by kernel_rfl) (fun _ _ _ h => h) (by rfl) ?_ (.inr hC) ?_
            rotate_left
            · (intro w; go_simp; try with_reducible rfl)
            simp only [Act.put, List.setIfInBounds_toArray, List.set_cons_zero, List.set_cons_succ]
            refine wpAnyD_ready (fuel := 0) (rs := [10]) (by kernel_rfl) (by simp) ?_
            refine AllReadyD.cons (o := _) rfl (fun K hK => ?_) ?_
            · go_simp
              refine shut_K hK (by kernel_rfl) ?_
              clear hK K
              try simp only [Act.put, List.setIfInBounds_toArray, List.set_cons_zero, List.set_cons_succ]
              refine wpAnyD_done (by kernel_rfl) ?_ _
              refine NoPanic.normal ?_
              obtain ⟨W9, hW9⟩ : ∃ W, w8.setCell ⟨w.heap.size, 1, none⟩ (.slice A8 ((noR rs k).length + 1) c8) = W := ⟨_, rfl⟩
              rw [hW9]
              have hfar9 : ∀ j, j ≠ w.heap.size → W9.heap[j]? = w8.heap[j]? := fun j hj => by rw [← hW9]; exact Below.heap_setCell _ ⟨w.heap.size, 1, none⟩ _ j hj
              have hX9 : W9.heap[w.heap.size]? = some (.cells (rcs d.cap (.slice A8 ((noR rs k).length + 1) c8) d.hits d.misses) 42 (0, 0)) := by
                rw [← hW9]; exact (heap_setCell_any w8 w.heap.size 1 _ _ _ _ ((E8.out _ hl4 hv0).trans HX4.out)).trans rfl
              have hZ9 := (hfar9 _ (by omega)).trans ((E8.out _ HZl4.out hv2).trans HZ4.out)
              have HB9 : Hid (Below w.heap.size w W9) := Lib.hid (by rw [← hW9]; exact HB8.out.setCell (Nat.le_refl _) _)
              have hn8 : ∀ g, (Value.slice A8 ((noR rs k).length + 1) c8).ownBlock = some g → w.heap.size ≤ g ∧ g ≠ w.heap.size ∧ g ≠ w.heap.size + 1 + 1 := fun g hg => by
                rcases HB8o.out with h | ⟨h, h1⟩
                · rw [h] at hg; exact HN2.out g hg
                · rw [h] at hg; injection hg with hg; exact ⟨by omega, by omega, by omega⟩
              obtain ⟨T9, hT9⟩ : ∃ T9 : Nat → Prop, T9 = (fun j => T j ∨ (w.heap.size ≤ j ∧ j ≠ w.heap.size ∧ j ≠ w.heap.size + 1 + 1)) := ⟨_, rfl⟩
              have hT9n : ∀ j, T9 j → j ≠ w.heap.size ∧ j ≠ w.heap.size + 1 + 1 := fun j hj => by
                rw [hT9] at hj
                rcases hj with hj | hj
                · have := hT j hj; exact ⟨by omega, by omega⟩
                · exact hj.2
              have hln : (noR rs k ++ [(⟨k, l, A5, c5⟩ : RI)]).length = (noR rs k).length + 1 := by simp
              have hrl9 : RL W9 T9 A8 (noR rs k ++ [⟨k, l, A5, c5⟩]) := by
                refine ⟨?_, fun x hx => ?_⟩
                · have hfl := row_flat_own (N := 0) HR8.out fun g hg => Nat.zero_le _
                  intro j u hj
                  obtain ⟨a, rfl, ha1, ha2⟩ := hfl j u hj
                  have hown : (Value.slice (some a) ((noR rs k).length + 1) c8).ownBlock = some a.block := by
                    rcases HR8.out.2 with ⟨e, _⟩ | ⟨g, cap, cur, e, _⟩
                    · cases e
                    · injection e with e; injection e with e; subst e; rfl
                  have hn := hn8 _ hown
                  exact ⟨a, rfl, by rw [hT9]; exact .inr hn, (World.cell?_of_block (by rw [add_block]; exact hfar9 _ hn.2.1)).trans ha2⟩
                · rcases List.mem_append.1 hx with hx | hx
                  · exact ((HRL.out.ls x (List.mem_filter.1 hx).1).frame fun j hj hl => HB9.out.block j hl).mono fun j hj => by rw [hT9]; exact .inl hj
                  · rw [List.mem_singleton.1 hx]
                    refine (HCh8.out.frame (w' := W9) fun j hj hl => hfar9 j (by have := hj.1; omega)).mono fun j hj => ?_
                    rw [hT9]
                    have := hj.1
                    exact .inr ⟨by omega, by omega, by omega⟩
              have hmap9 : (noR rs k ++ [(⟨k, l, A5, c5⟩ : RI)]).map ri = delI d.items k ++ [(k, l)] := by rw [List.map_append, noR_map, HMap.out]; rfl
              have hsm9 : ∀ r ∈ noR rs k ++ [(⟨k, l, A5, c5⟩ : RI)], SmallP (ri r) := fun r hr => by
                rcases List.mem_append.1 hr with hr | hr
                · exact hg.small (ri r) (by rw [← HMap.out]; exact List.mem_map.2 ⟨r, (List.mem_filter.1 hr).1, rfl⟩)
                · rw [List.mem_singleton.1 hr]; exact hls
              have hc8 : (noR rs k).length + 1 ≤ c8 := by
                obtain ⟨_, _, e, _, h, _⟩ := row_some HR8.out (by omega)
                injection e with _ _ e; subst e; exact h
              have HX9 := Lib.hid hX9
              have HZ9 := Lib.hid hZ9
              have HRL9 := Lib.hid hrl9
              have HMap9 := Lib.hid hmap9
              have HSm9 := Lib.hid hsm9
              have HT9n := Lib.hid hT9n
              have HT9 := Lib.hid hT9
              have HC8 := Lib.hid hc8
              have HLn := Lib.hid hln
              clear hX9 hZ9 hrl9 hmap9 hsm9 hT9n hT9 hc8 hn8 hfar9 hW9 hln
              clear x0 x1 x2 x3 xf y0 y1 y2 z3 zf3 hC
              go_wp2_with fail
              go_loopw [] (fun wr => ∃ A9 c9 rs', wr.heap[w.heap.size]? = some (.cells (rcs d.cap (.slice A9 rs'.length c9) d.hits d.misses) 42 (0, 0)) ∧ rs'.length ≤ c9 ∧ RL wr T9 A9 rs' ∧ fitI d.cap (delI d.items k ++ [(k, l)]) = fitI d.cap (rs'.map ri) ∧ Below w.heap.size w wr ∧ wr.heap[w.heap.size + 1 + 1]? = some (.cells zr42 42 (0, 0)) ∧ (∀ r ∈ rs', SmallP (ri r)) ∧ rs'.length ≤ 900000) (fun wr => match wr.cell? ⟨w.heap.size, 1, none⟩ with | some (.slice _ t _) => t | _ => 0)
              case atStart => exact ⟨A8, c8, noR rs k ++ [⟨k, l, A5, c5⟩], by rw [HLn.out]; exact HX9.out, by rw [HLn.out]; exact HC8.out, HRL9.out, by rw [HMap9.out], HB9.out, HZ9.out, HSm9.out, by rw [HLn.out]; have := HNl.out; omega⟩
              case round =>
                obtain ⟨A9, c9, rs', hX, hcl9, hrl, hfi, hbr, hZ, hsm, hlr⟩ := hrel
                have HTot := Lib.hid (rtotal_walk wr.drew T9 d.cap A9 c9 d.hits d.misses rs' (hrl.frame fun _ _ _ => rfl) (by omega) hsm)
                unfold rcv at HTot
                have HXr := Lib.hid hX
                have HCl : Hid (w.heap.size < wr.heap.size) := Lib.hid (Array.getElem?_eq_some_iff.1 hX).1
                have HZl : Hid (w.heap.size + 1 + 1 < wr.heap.size) := Lib.hid (Array.getElem?_eq_some_iff.1 hZ).1
                have HCL := Lib.hid hcl9
                have HRr := Lib.hid hrl
                have HFi := Lib.hid hfi
                have HBr := Lib.hid hbr
                have HZr := Lib.hid hZ
                have HSmr := Lib.hid hsm
                clear hX hcl9 hrl hfi hbr hZ hsm
                obtain ⟨x0, x1, x2, x3, xf⟩ := rcell HXr.out
                go_upto_region 5 with (fail)
                refine wp_region_noPanic ?_
                refine wp_region_D 99 (fun w' => w'.cell? ⟨w.heap.size, 0, none⟩ = some (.int .i64 d.cap) ∧ w'.cell? ⟨w.heap.size, 1, none⟩ = some (.slice A9 rs'.length c9) ∧ w'.cell? ⟨w.heap.size, 2, none⟩ = some (.int .i64 d.hits) ∧ w'.cell? ⟨w.heap.size, 3, none⟩ = some (.int .i64 d.misses)) (by kernel_rfl) ⟨x0, x1, x2, x3⟩ (fun hU => ?_)
                have hC : (fun w' : World => w'.cell? ⟨w.heap.size, 0, none⟩ = some (.int .i64 d.cap) ∧ w'.cell? ⟨w.heap.size, 1, none⟩ = some (.slice A9 rs'.length c9) ∧ w'.cell? ⟨w.heap.size, 2, none⟩ = some (.int .i64 d.hits) ∧ w'.cell? ⟨w.heap.size, 3, none⟩ = some (.int .i64 d.misses)) wr.drew := ⟨x0, x1, x2, x3⟩
                clear hU
                refine wpAnyD_load (i := 0) (dst := some 32) (v := ?_) (fuel := 4) rfl rfl (by kernel_rfl) (fun _ _ _ h => h) (by rfl) ?_ (.inr hC) ?_
                rotate_left
                · intro w hSw
                  try dsimp only at hSw
                  go_simp
                  try with_reducible rfl
                simp only [Act.put, List.setIfInBounds_toArray, List.set_cons_zero, List.set_cons_succ]
                refine wpAnyD_take (i := 2) (dst := some 34) (v := ?_) (fuel := 3) rfl rfl (by kernel_rfl) (fun _ _ _ h => h) (by rfl) ?_ (.inr hC) ?_
                rotate_left
                · (intro w; go_simp; try with_reducible rfl)
                simp only [Act.put, List.setIfInBounds_toArray, List.set_cons_zero, List.set_cons_succ]
                refine wpAnyD_load (i := 3) (dst := some 35) (v := ?_) (fuel := 2) rfl rfl (by kernel_rfl) (fun _ _ _ h => h) (by rfl) ?_ (.inr hC) ?_
                rotate_left
                · intro w hSw
                  try dsimp only at hSw
                  go_simp
                  try with_reducible rfl
                simp only [Act.put, List.setIfInBounds_toArray, List.set_cons_zero, List.set_cons_succ]
                refine wpAnyD_ready (fuel := 1) (rs := [1]) (by kernel_rfl) (by simp) ?_
                refine AllReadyD.cons (o := _) rfl (fun K hK => ?_) ?_
                · go_simp
                  go_at_call 29
                  with_reducible refine (HTot.out).mono ?_
                  rintro e w10 ⟨rfl, hb10⟩
                  have hb10 : Below wr.heap.size wr w10 := ((Below.refl _ wr).drew).trans hb10
                  have HB10 := Lib.hid hb10
                  clear hb10
                  go_simp
                  refine shut_C hK ?_ (fun hC => ?_)
                  · exact ⟨(World.cell?_of_block (HB10.out.block _ HCl.out)).trans x0, (World.cell?_of_block (HB10.out.block _ HCl.out)).trans x1, (World.cell?_of_block (HB10.out.block _ HCl.out)).trans x2, (World.cell?_of_block (HB10.out.block _ HCl.out)).trans x3⟩
                  clear hK K
                  try simp only [Act.put, List.setIfInBounds_toArray, List.set_cons_zero, List.set_cons_succ]
                  refine wpAnyD_take (i := 4) (dst := some 36) (v := ?_) (fuel := 0) rfl rfl (by kernel_rfl) (fun _ _ _ h => h) (by rfl) ?_ (.inr hC) ?_
                  rotate_left
                  · (intro w; go_simp; try with_reducible rfl)
                  simp only [Act.put, List.setIfInBounds_toArray, List.set_cons_zero, List.set_cons_succ]
                  refine wpAnyD_done (by kernel_rfl) ?_ _
                  refine NoPanic.normal ?_
                  have hX10 := (HB10.out.block _ HCl.out).trans HXr.out
                  have hZ10 := (HB10.out.block _ HZl.out).trans HZr.out
                  have HB11 := Lib.hid (HBr.out.trans (HB10.out.mono HBr.out.size))
                  have hrl10 := HRr.out.frame (w' := w10) fun j _ hl => HB10.out.block j hl
                  have HX10 := Lib.hid hX10
                  have HZ10 := Lib.hid hZ10
                  have HR10 := Lib.hid hrl10
                  clear hX10 hZ10 hrl10 x0 x1 x2 x3 xf
                  obtain ⟨x0, x1, x2, x3, xf⟩ := rcell HX10.out
                  by_cases hcap : d.cap < tot (rs'.map ri)
                  · cases rs' with
                    | nil => exact absurd hcap (by have := hg.cap0; simp [tot]; omega)
                    | cons r rs' =>
                      have hsl : ∃ A9', (∀ W, (Instr.slice 40 (.slice A9 (r :: rs').length c9) (some (.int .i64 1)) none none).run Try.prog W = .ok (.slice A9' rs'.length (c9 - 1)) W) ∧ Flat w10 T9 A9' (ricells rs') := by
                        obtain ⟨a, ha, _⟩ := HR10.out.fl 0 _ rfl
                        subst ha
                        have hcl9 := HCL.out
                        simp only [List.length_cons] at hcl9 ⊢
                        by_cases hc1 : c9 = 1
                        · have h0 : rs' = [] := List.length_eq_zero_iff.1 (by omega)
                          subst h0 hc1
                          exact ⟨some a, fun W => by simp [go_sem, Try.underlying40], flat_nil _ _ _⟩
                        · refine ⟨some (a.add 4), fun W => ?_, ri_tail HR10.out.fl⟩
                          simp [go_sem, Try.underlying40, hc1]
                          intro h; omega
                      obtain ⟨A9', hslr, hfl'⟩ := hsl
                      have HFl := Lib.hid hfl'
                      clear hfl'
                      have hlr1 : rs'.length ≤ 900000 := by simp at hlr; omega
                      obtain ⟨W11, hW11⟩ : ∃ W, w10.setCell ⟨w.heap.size, 1, none⟩ (.slice A9' rs'.length (c9 - 1)) = W := ⟨_, rfl⟩
                      have hfar : ∀ j, j ≠ w.heap.size → W11.heap[j]? = w10.heap[j]? := fun j hj => by rw [← hW11]; exact Below.heap_setCell _ ⟨w.heap.size, 1, none⟩ _ j hj
                      have hX11 : W11.heap[w.heap.size]? = some (.cells (rcs d.cap (.slice A9' rs'.length (c9 - 1)) d.hits d.misses) 42 (0, 0)) := by
                        rw [← hW11]; exact (heap_setCell_any w10 w.heap.size 1 _ _ _ _ HX10.out).trans rfl
                      have HX11 := Lib.hid hX11
                      have HZ11 := Lib.hid ((hfar _ (by omega)).trans HZ10.out)
                      have HRL11 : Hid (RL W11 T9 A9' rs') := Lib.hid ⟨HFl.out.frame fun j hj _ => hfar j (HT9n.out j hj).1, fun x hx => (HR10.out.ls x (List.mem_cons_of_mem _ hx)).frame fun j hj _ => hfar j (HT9n.out j hj).1⟩
                      have HB12 : Hid (Below w.heap.size w W11) := Lib.hid (by rw [← hW11]; exact HB11.out.setCell (Nat.le_refl _) _)
                      have HFe : Hid (fitI d.cap (delI d.items k ++ [(k, l)]) = fitI d.cap (rs'.map ri)) := Lib.hid (by
                        rw [HFi.out]
                        exact fitI_cons _ _ _ hcap)
                      have hm1 : (match wr.cell? ⟨w.heap.size, 1, none⟩ with | some (.slice _ t _) => t | _ => 0) = rs'.length + 1 := by
                        have : wr.cell? ⟨w.heap.size, 1, none⟩ = some (.slice A9 (r :: rs').length c9) := by rw [cell_of_row wr _ 1 _ _ _ HXr.out]; rfl
                        rw [this]; rfl
                      have hm2 : (match W11.cell? ⟨w.heap.size, 1, none⟩ with | some (.slice _ t _) => t | _ => 0) = rs'.length := by
                        have : W11.cell? ⟨w.heap.size, 1, none⟩ = some (.slice A9' rs'.length (c9 - 1)) := by rw [cell_of_row W11 _ 1 _ _ _ HX11.out]; rfl
                        rw [this]
                      have HM1 := Lib.hid hm1
                      have HM2 := Lib.hid hm2
                      have HW11 := Lib.hid hW11
                      clear hfar hX11 hW11 hm1 hm2
                      simp only [List.length_cons] at x1 hslr
                      go_wp2_with fail
                      rw [HW11.out]
                      go_roundw
                      case rel => exact ⟨A9', c9 - 1, rs', HX11.out, by have := HCL.out; simp at this; omega, HRL11.out, HFe.out, HB12.out, HZ11.out, fun x hx => HSmr.out x (List.mem_cons_of_mem _ hx), hlr1⟩
                      case measure => rw [HM1.out, HM2.out]; omega
                  · obtain ⟨z0, z1, z2, z3, zf⟩ := rcell HZ10.out
                    go_wp2_with fail
                    refine bodyPost_ret (v := rcv d.cap (.slice A9 rs'.length c9) d.hits d.misses) (by simp [rcv, results, Try.results32, go_sem, z0, z1, z2, z3, x0, x1, x2, x3]) rfl ?_
                    refine ⟨_, rfl, ?_⟩
                    have hpf : putF d k l = { d with items := rs'.map ri } := by
                      unfold putF
                      rw [HWt.out, if_neg (show ¬ d.cap < n by omega), HFi.out, fitI_stop (by omega)]
                    rw [hpf]
                    have hbel : ∀ W', Below w.heap.size w W' → (∀ j, j ≠ w.heap.size + 1 + 1 → W'.heap[j]? = w10.heap[j]?) → w10.heap.size ≤ W'.heap.size → Below w.heap.size w W' ∧ RS W' (more T w W') { d with items := rs'.map ri } (rcv d.cap (.slice A9 rs'.length c9) d.hits d.misses) := fun W' hb hf hs => by
                      have hT : ∀ j, T9 j → j < w10.heap.size → more T w W' j := fun j hj hl => by
                        have := HT9.out
                        rw [this] at hj
                        rcases hj with hj | hj
                        · exact .inl hj
                        · exact .inr ⟨hj.1, by omega⟩
                      have hch : ∀ x ∈ rs', Chgs W' (more T w W') x.A x.l := fun x hx => ((HR10.out.ls x hx).lt.frame (w' := W') fun j hj hl => hf j (HT9n.out j hj.1).2).mono fun j hj => hT j hj.1 hj.2
                      refine ⟨hb, A9, c9, rs', rfl, ⟨fun j u hj => ?_, hch⟩, rfl⟩
                      obtain ⟨a, h1, h2, h3⟩ := HR10.out.fl j u hj
                      have hbl := World.block_lt_of_cell? w10 _ h3
                      rw [add_block] at hbl
                      exact ⟨a, h1, hT _ h2 hbl, (World.cell?_of_block (by rw [add_block]; exact hf _ (HT9n.out _ h2).2)).trans h3⟩
                    refine hbel _ ?_ (fun j h3 => ?_) (by simp)
                    · repeat (refine Below.setCell ?_ (by simp; try omega) _)
                      exact HB11.out
                    · repeat (rw [Below.heap_setCell _ _ _ _ (by exact h3)])
                exact AllReadyD.nil
            exact AllReadyD.nil
          exact AllReadyD.nil
        exact AllReadyD.nil
      exact AllReadyD.nil
    exact AllReadyD.nil
end Go.Proofs.Ytphckenihkgoeaa
