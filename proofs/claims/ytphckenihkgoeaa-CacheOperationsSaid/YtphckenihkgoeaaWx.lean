import Derived.Test.YtphckenihkgoeaaWw
namespace Go.Proofs.Ytphckenihkgoeaa
set_option linter.unusedSimpArgs false
set_option linter.unnecessarySimpa false
set_option linter.unusedVariables false
open Go.RowKit
attribute [local go_sem ↓] Go.wp_at_zero Go.wp_at_succ bs22 bs40

def keepR (a b : Int) (rs : List RI) : List RI := rs.filter fun r => !hitK a b r.key
theorem keepR_map (a b : Int) (rs : List RI) : (keepR a b rs).map ri = dropI a b (rs.map ri) := by
  unfold keepR dropI
  rw [List.filter_map]
  rfl
theorem keepR_take {a b : Int} {rs : List RI} {r : RI} {j : Nat} (h : rs[j]? = some r) : keepR a b (rs.take (j + 1)) = keepR a b (rs.take j) ++ (if hitK a b r.key then [] else [r]) := by
  unfold keepR
  rw [List.take_add_one, h, List.filter_append]
  cases hh : hitK a b r.key <;> simp [hh]
set_option maxRecDepth 100000 in
theorem rdrop_walk (w : World) (T : Nat → Prop) (hT : ∀ j, T j → j < w.heap.size) (d : CM) (v : Value) (hr : RS w T d v) (hn : d.items.length ≤ 800000) (a b : Int) : Calls Try.prog 33 #[v, .int .i64 a, .int .i64 b] w fun e w' => ∃ v', e = .returned (.tuple #[v', .int .i64 (d.items.length - (dropI a b d.items).length : Nat)]) ∧ Below w.heap.size w w' ∧ RS w' (more T w w') (dropF d a b) v' := by
  obtain ⟨A, c, rs, rfl, hrl, hmap⟩ := hr
  have hn' : rs.length ≤ 800000 := by rw [← hmap] at hn; simpa using hn
  clear hn
  obtain ⟨W1, hW1⟩ : ∃ W, ((w.alloc (.cells (rcs d.cap (.slice A rs.length c) d.hits d.misses) 42)).alloc (.cells zr42 42)).alloc (.cells #[] 75) = W := ⟨_, rfl⟩
  have hs1 : W1.heap.size = w.heap.size + 3 := by rw [← hW1]; simp
  have hb1 : Below w.heap.size w W1 := by rw [← hW1]; exact (((Below.refl _ _).alloc (Nat.le_refl _) _).alloc (by simp) _).alloc (by simp; omega) _
  have hX1 : W1.heap[w.heap.size]? = some (.cells (rcs d.cap (.slice A rs.length c) d.hits d.misses) 42 (0, 0)) := by
    rw [← hW1, Below.heap_alloc _ _ _ (by simp; omega), Below.heap_alloc _ _ _ (by simp)]; exact heap_alloc_new w _
  have hZ1 : W1.heap[w.heap.size + 1]? = some (.cells zr42 42 (0, 0)) := by
    rw [← hW1, Below.heap_alloc _ _ _ (by simp)]
    have := heap_alloc_new (w.alloc (.cells (rcs d.cap (.slice A rs.length c) d.hits d.misses) 42)) (.cells zr42 42)
    simpa using this
  have hO1 : W1.heap[w.heap.size + 1 + 1]? = some (.cells #[] 75 (0, 0)) := by
    rw [← hW1]
    have := heap_alloc_new ((w.alloc (.cells (rcs d.cap (.slice A rs.length c) d.hits d.misses) 42)).alloc (.cells zr42 42)) (.cells #[] 75)
    simpa using this
  have hro1 : W1.ownsRow 0 75 4 (.slice (some ⟨w.heap.size + 1 + 1, 0, none⟩) 0 0) 0 (ricells []) := ⟨rfl, .inr ⟨_, 0, #[], rfl, Nat.zero_le _, hO1, Nat.le_refl _, Nat.zero_le _, rfl, rfl⟩⟩
  have HB1 := Lib.hid hb1
  have HX1 := Lib.hid hX1
  have HZ1 := Lib.hid hZ1
  have HRo1 := Lib.hid hro1
  have HW1 := Lib.hid hW1
  have HRL := Lib.hid hrl
  have HMap := Lib.hid hmap
  clear hs1 hb1 hX1 hZ1 hO1 hro1 hW1 hrl hmap
  unfold rcv
  go_enter Try.func33, Try.ntmps33
  go_upto_region 2 with (fail)
  rw [show ((w.alloc (.cells #[.int .i64 d.cap, .slice A rs.length c, .int .i64 d.hits, .int .i64 d.misses] 42)).alloc (.cells #[.int .i64 0, .slice none 0 0, .int .i64 0, .int .i64 0] 42)).alloc (.cells #[] 75) = W1 from HW1.out]
  go_wp2_with fail
  go_loopw [9, 8] (fun i v wr => ∃ j : Nat, j ≤ rs.length ∧ i = .int .i64 (j : Int) ∧ Below w.heap.size w wr ∧ wr.heap[w.heap.size]? = some (.cells (rcs d.cap (.slice A rs.length c) d.hits d.misses) 42 (0, 0)) ∧ wr.heap[w.heap.size + 1]? = some (.cells zr42 42 (0, 0)) ∧ wr.ownsRow 0 75 4 v (keepR a b (rs.take j)).length (ricells (keepR a b (rs.take j))) ∧ ∀ g, v.ownBlock = some g → w.heap.size + 1 < g) (fun i _ _ => rs.length - (intOf i).toNat)
  case atStart => exact ⟨0, Nat.zero_le _, rfl, HB1.out, HX1.out, HZ1.out, HRo1.out, fun g hg => by simp [Value.ownBlock] at hg; omega⟩
  case round =>
    obtain ⟨j, hj, rfl, hb, hx, hz, hro, hown⟩ := hrel
    have HB := Lib.hid hb
    have HX := Lib.hid hx
    have HZ := Lib.hid hz
    have HRo := Lib.hid hro
    have HOw := Lib.hid hown
    have hxl := (Array.getElem?_eq_some_iff.1 hx).1
    have hzl := (Array.getElem?_eq_some_iff.1 hz).1
    clear hb hx hz hro hown
    have hml : (keepR a b (rs.take j)).length ≤ j := Nat.le_trans (List.length_filter_le _ _) (by rw [List.length_take]; omega)
    obtain ⟨x0, x1, x2, x3, xf⟩ := rcell HX.out
    by_cases hlt : j < rs.length
    · have hjl : (j : Int) < rs.length := by omega
      obtain ⟨r, hr⟩ : ∃ r, rs[j]? = some r := ⟨_, List.getElem?_eq_getElem hlt⟩
      have hrlr := HRL.out.frame (w' := wr) fun k _ hl => HB.out.block k hl
      obtain ⟨ad, rfl, _, y0, y1, y2, y3⟩ := ri_cells hrlr.fl hr
      have HRR := Lib.hid hr
      obtain ⟨W5, hW5⟩ : ∃ W, wr.alloc (.cells #[.int .i64 r.key.1, .int .i64 r.key.2.1, .int .i64 r.key.2.2] 48) = W := ⟨_, rfl⟩
      have hk5 : W5.heap[wr.heap.size]? = some (.cells #[.int .i64 r.key.1, .int .i64 r.key.2.1, .int .i64 r.key.2.2] 48 (0, 0)) := by rw [← hW5]; exact heap_alloc_new wr _
      have hb5 : Below wr.heap.size wr W5 := by rw [← hW5]; exact (Below.refl _ _).alloc (Nat.le_refl _) _
      have HB5 := Lib.hid (HB.out.trans (hb5.mono HB.out.size))
      have hX5 := (hb5.block _ hxl).trans HX.out
      have hZ5 := (hb5.block _ hzl).trans HZ.out
      have hro5 := row_of HRo.out (w' := W5) fun g hg => hb5.block g (HRo.out.lt g hg).2
      have hs5 := hb5.size
      have HX5 := Lib.hid hX5
      have HZ5 := Lib.hid hZ5
      have HRo5 := Lib.hid hro5
      have HS5 := Lib.hid hs5
      have HW5 := Lib.hid hW5
      have hrl5 := hrlr.frame (w' := W5) fun k _ hl => hb5.block k hl
      go_upto_region 6 with (fail)
      clear hW5
      try rw [HW5.out]
      clear y0 y1 y2 y3 x0 x1 x2 x3 xf hrlr hb5 hX5 hZ5 hro5 hs5
      obtain ⟨x0, x1, x2, x3, xf⟩ := rcell HX5.out
      obtain ⟨ad', e, _, y0, y1, y2, y3⟩ := ri_cells hrl5.fl hr
      cases e
      have q0 : W5.cell? ⟨wr.heap.size, 0, none⟩ = some (.int .i64 r.key.1) := by rw [cell_of_row W5 _ 0 _ _ _ hk5]; rfl
      have q1 : W5.cell? ⟨wr.heap.size, 1, none⟩ = some (.int .i64 r.key.2.1) := by rw [cell_of_row W5 _ 1 _ _ _ hk5]; rfl
      clear hk5 hr hrl5
      by_cases hh : hitK a b r.key = true
      · have hh' : max r.key.1 a < min r.key.2.1 b := by unfold hitK at hh; exact of_decide_eq_true hh
        have g1 : a < b := by omega
        have g2 : r.key.1 < r.key.2.1 := by omega
        go_wp2_with fail
        all_goals
          go_roundw
          case rel => exact ⟨j + 1, by omega, by go_num, HB5.out, HX5.out, HZ5.out, by rw [keepR_take HRR.out, if_pos hh, List.append_nil]; exact HRo5.out, HOw.out⟩
          case measure => simp [intOf]; omega
      · have hh' : ¬ (max r.key.1 a < min r.key.2.1 b) := by unfold hitK at hh; simpa using hh
        obtain ⟨v6, w6, hrun, hr6, hg6, hb6⟩ := push_item (W5.alloc (.cells #[.int .i64 r.key.1, .int .i64 r.key.2.1, .int .i64 r.key.2.2, .slice r.A r.l.length r.c] 75)) _ _ _ (row_of HRo5.out fun g hg => Below.heap_alloc W5 _ g (HRo5.out.lt g hg).2) (by omega) W5.heap.size r (heap_alloc_new W5 _)
        have hs5 := HS5.out
        have HRel : Hid (Below w.heap.size w w6 ∧ w6.heap[w.heap.size]? = some (.cells (rcs d.cap (.slice (some ad) rs.length c) d.hits d.misses) 42 (0, 0)) ∧ w6.heap[w.heap.size + 1]? = some (.cells zr42 42 (0, 0)) ∧ w6.ownsRow 0 75 4 v6 (keepR a b (rs.take (j + 1))).length (ricells (keepR a b (rs.take (j + 1)))) ∧ ∀ g, v6.ownBlock = some g → w.heap.size + 1 < g) := Lib.hid (by
          refine ⟨(HB5.out.alloc HB5.out.size _).grown hg6 (by simp; omega) (fun g hg => by have := HOw.out g hg; omega), ?_, ?_, ?_, fun g hg => ?_⟩
          · exact (hg6.block _ (by simp; omega) fun e => by have := HOw.out _ e.symm; omega).trans ((Below.heap_alloc W5 _ _ (by omega)).trans HX5.out)
          · exact (hg6.block _ (by simp; omega) fun e => by have := HOw.out _ e.symm; omega).trans ((Below.heap_alloc W5 _ _ (by omega)).trans HZ5.out)
          · rw [keepR_take HRR.out, if_neg hh]; simpa using hr6
          · rcases hb6 with h | ⟨h, _⟩
            · exact HOw.out g (h ▸ hg)
            · rw [h] at hg; injection hg with hg; simp at hg; omega)
        have HRUN := Lib.hid hrun
        clear hrun hr6 hg6 hb6 hs5
        by_cases g2 : r.key.1 < r.key.2.1
        · by_cases g1 : a < b
          · go_upto_region 7 with (fail)
            all_goals
              go_wp2_with (at_builtin; refine wpList_append_eq rfl _ _ _ rfl _ _ rfl rfl HRUN.out ?_)
              go_roundw
              case rel => exact ⟨j + 1, by omega, by go_num, HRel.out⟩
              case measure => simp [intOf]; omega
          · go_upto_region 7 with (fail)
            go_wp2_with (at_builtin; refine wpList_append_eq rfl _ _ _ rfl _ _ rfl rfl HRUN.out ?_)
            go_roundw
            case rel => exact ⟨j + 1, by omega, by go_num, HRel.out⟩
            case measure => simp [intOf]; omega
        · go_upto_region 7 with (fail)
          go_wp2_with (at_builtin; refine wpList_append_eq rfl _ _ _ rfl _ _ rfl rfl HRUN.out ?_)
          go_roundw
          case rel => exact ⟨j + 1, by omega, by go_num, HRel.out⟩
          case measure => simp [intOf]; omega
    · obtain rfl : j = rs.length := by omega
      rw [List.take_length] at HRo hml
      obtain ⟨A8, c8, rfl⟩ := row_sl HRo.out
      obtain ⟨z0, z1, z2, z3, zf⟩ := rcell HZ.out
      have hlen : (d.items.length - (dropI a b d.items).length : Nat) = rs.length - (keepR a b rs).length := by
        rw [← HMap.out, ← keepR_map]; simp
      have hwr : IntKind.i64.wrap ((rs.length : Int) - ((keepR a b rs).length : Int)) = (rs.length : Int) - ((keepR a b rs).length : Int) := (IntWalk.i64_left _).trans (wrap_small (by omega) (by omega))
      go_wp2_with fail
      refine bodyPost_ret (v := .tuple #[rcv d.cap (.slice A8 (keepR a b rs).length c8) d.hits d.misses, .int .i64 ((rs.length : Int) - ((keepR a b rs).length : Int))]) (by simp [rcv, results, Try.results33, go_sem, z0, z1, z2, z3, x0, x1, x2, x3]) rfl ?_
      have hi : (rs.length : Int) - ((keepR a b rs).length : Int) = ((d.items.length - (dropI a b d.items).length : Nat) : Int) := by
        rw [hlen]; omega
      rw [hi]
      refine ⟨_, rfl, ?_⟩
      have hbel : ∀ W', Below w.heap.size w W' → (∀ j, j ≠ w.heap.size → j ≠ w.heap.size + 1 → W'.heap[j]? = wr.heap[j]?) → wr.heap.size ≤ W'.heap.size → Below w.heap.size w W' ∧ RS W' (more T w W') (dropF d a b) (rcv d.cap (.slice A8 (keepR a b rs).length c8) d.hits d.misses) := fun W' hb hf hs => by
        refine ⟨hb, A8, c8, keepR a b rs, rfl, ⟨fun j u hj => ?_, fun x hx => ?_⟩, by rw [keepR_map, HMap.out]; rfl⟩
        · obtain ⟨ad, rfl, ha1, ha2⟩ := row_flat_own (N := w.heap.size) HRo.out (fun g hg => by have := HOw.out g hg; omega) j u hj
          have hown : (Value.slice (some ad) (keepR a b rs).length c8).ownBlock = some ad.block := by
            rcases HRo.out.2 with ⟨e, _⟩ | ⟨g, cap, cur, e, _⟩
            · cases e
            · injection e with e; injection e with e; subst e; rfl
          have h3 := HOw.out _ hown
          exact ⟨ad, rfl, .inr ⟨ha1.1, by omega⟩, (World.cell?_of_block (by rw [add_block]; exact hf _ (by omega) (by omega))).trans ha2⟩
        · exact ((HRL.out.ls x (List.mem_filter.1 hx).1).frame fun j hj hl => hb.block j hl).mono fun j hj => .inl hj
      refine hbel _ ?_ (fun j h3 h4 => ?_) (by simp)
      · repeat (refine Below.setCell ?_ (by simp; try omega) _)
        exact HB.out
      · repeat (rw [Below.heap_setCell _ _ _ _ (by first | exact h3 | exact h4)])
end Go.Proofs.Ytphckenihkgoeaa
