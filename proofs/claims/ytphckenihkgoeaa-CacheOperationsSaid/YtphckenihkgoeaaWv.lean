import Derived.Test.YtphckenihkgoeaaWu
namespace Go.Proofs.Ytphckenihkgoeaa
set_option linter.unusedSimpArgs false
set_option linter.unnecessarySimpa false
set_option linter.unusedVariables false
open Go.RowKit
attribute [local go_sem ↓] Go.wp_at_zero Go.wp_at_succ

theorem noR_map (rs : List RI) (k : K) : (noR rs k).map ri = delI (rs.map ri) k := by
  unfold noR delI
  rw [List.filter_map]
  rfl
theorem lookI_mem : ∀ {l : Items} {k : K} {c : List Chg}, (keys l).Nodup → (k, c) ∈ l → lookI l k = some c
  | p :: l, k, c, hn, h => by
    have hn' : p.1 ∉ keys l ∧ (keys l).Nodup := by simpa [keys] using hn
    unfold lookI
    rcases List.mem_cons.1 h with h | h
    · subst h; rw [if_pos rfl]
    · have : p.1 ≠ k := fun e => hn'.1 (by rw [e]; exact List.mem_map.2 ⟨_, h, rfl⟩)
      rw [if_neg this]
      exact lookI_mem hn'.2 h
/-- the state of the reference -/
def RS (w : World) (T : Nat → Prop) (d : CM) (v : Value) : Prop := ∃ A c rs, v = rcv d.cap (.slice A rs.length c) d.hits d.misses ∧ RL w T A rs ∧ rs.map ri = d.items
theorem RS.frame {w w' : World} {T : Nat → Prop} {d : CM} {v : Value} (h : RS w T d v) (hf : ∀ k, T k → k < w.heap.size → w'.heap[k]? = w.heap[k]?) : RS w' T d v := by
  obtain ⟨A, c, rs, h1, h2, h3⟩ := h
  exact ⟨A, c, rs, h1, h2.frame hf, h3⟩
theorem RS.mono {w : World} {T T' : Nat → Prop} {d : CM} {v : Value} (h : RS w T d v) (hT : ∀ k, T k → T' k) : RS w T' d v := by
  obtain ⟨A, c, rs, h1, h2, h3⟩ := h
  exact ⟨A, c, rs, h1, h2.mono hT, h3⟩
def more (T : Nat → Prop) (w w' : World) (k : Nat) : Prop := T k ∨ (w.heap.size ≤ k ∧ k < w'.heap.size)
def zr42 : Array Value := rcs 0 (.slice none 0 0) 0 0
set_option maxRecDepth 100000 in
theorem rget_walk (w : World) (T : Nat → Prop) (hT : ∀ j, T j → j < w.heap.size) (d : CM) (v : Value) (k : K) (hr : RS w T d v) (hg : Good d) (hn : d.items.length ≤ 800000) (hh : 0 ≤ d.hits ∧ d.hits ≤ 1000000) (hm : 0 ≤ d.misses ∧ d.misses ≤ 1000000) : Calls Try.prog 31 #[v, kv k] w fun e w' => ∃ v' A' c', e = .returned (.tuple #[v', .slice A' (getF d k).2.1.length c', .bool (getF d k).2.2]) ∧ Below w.heap.size w w' ∧ RS w' (more T w w') (getF d k).1 v' ∧ Chgs w' (more T w w') A' (getF d k).2.1 := by
  obtain ⟨A, c, rs, rfl, hrl, hmap⟩ := hr
  have hn' : rs.length ≤ 800000 := by rw [← hmap] at hn; simpa using hn
  clear hn
  obtain ⟨W1, hW1⟩ : ∃ W, ((w.alloc (.cells (rcs d.cap (.slice A rs.length c) d.hits d.misses) 42)).alloc (.cells #[.int .i64 k.1, .int .i64 k.2.1, .int .i64 k.2.2] 48)).alloc (.cells zr42 42) = W := ⟨_, rfl⟩
  have hs1 : W1.heap.size = w.heap.size + 3 := by rw [← hW1]; simp
  have hb1 : Below w.heap.size w W1 := by rw [← hW1]; exact (((Below.refl _ _).alloc (Nat.le_refl _) _).alloc (by simp) _).alloc (by simp; omega) _
  have hX1 : W1.heap[w.heap.size]? = some (.cells (rcs d.cap (.slice A rs.length c) d.hits d.misses) 42 (0, 0)) := by
    rw [← hW1, Below.heap_alloc _ _ _ (by simp; omega), Below.heap_alloc _ _ _ (by simp)]; exact heap_alloc_new w _
  have hK1 : W1.heap[w.heap.size + 1]? = some (.cells #[.int .i64 k.1, .int .i64 k.2.1, .int .i64 k.2.2] 48 (0, 0)) := by
    rw [← hW1, Below.heap_alloc _ _ _ (by simp)]
    have := heap_alloc_new (w.alloc (.cells (rcs d.cap (.slice A rs.length c) d.hits d.misses) 42)) (.cells #[.int .i64 k.1, .int .i64 k.2.1, .int .i64 k.2.2] 48)
    simpa using this
  have hZ1 : W1.heap[w.heap.size + 1 + 1]? = some (.cells zr42 42 (0, 0)) := by
    rw [← hW1]
    have := heap_alloc_new ((w.alloc (.cells (rcs d.cap (.slice A rs.length c) d.hits d.misses) 42)).alloc (.cells #[.int .i64 k.1, .int .i64 k.2.1, .int .i64 k.2.2] 48)) (.cells zr42 42)
    simpa using this
  have HS1 := Lib.hid hs1
  have HB1 := Lib.hid hb1
  have HX1 := Lib.hid hX1
  have HK1 := Lib.hid hK1
  have HZ1 := Lib.hid hZ1
  have HW1 := Lib.hid hW1
  clear hs1 hb1 hX1 hK1 hZ1 hW1
  have HRL := Lib.hid hrl
  have HMap := Lib.hid hmap
  have HWo := Lib.hid (without_walk W1 T A c rs k (hrl.frame fun j hj hl => HB1.out.block j hl) (by omega))
  unfold kv at HWo
  clear hrl hmap
  unfold rcv kv
  go_enter Try.func31, Try.ntmps31
  go_upto_region 1 with (fail)
  rw [show ((w.alloc (.cells #[.int .i64 d.cap, .slice A rs.length c, .int .i64 d.hits, .int .i64 d.misses] 42)).alloc (.cells #[.int .i64 k.1, .int .i64 k.2.1, .int .i64 k.2.2] 48)).alloc (.cells #[.int .i64 0, .slice none 0 0, .int .i64 0, .int .i64 0] 42) = W1 from HW1.out]
  obtain ⟨x0, x1, x2, x3, xf⟩ := rcell HX1.out
  have y0 : W1.cell? ⟨w.heap.size + 1, 0, none⟩ = some (.int .i64 k.1) := by rw [cell_of_row W1 _ 0 _ _ _ HK1.out]; rfl
  have y1 : W1.cell? ⟨w.heap.size + 1, 1, none⟩ = some (.int .i64 k.2.1) := by rw [cell_of_row W1 _ 1 _ _ _ HK1.out]; rfl
  have y2 : W1.cell? ⟨w.heap.size + 1, 2, none⟩ = some (.int .i64 k.2.2) := by rw [cell_of_row W1 _ 2 _ _ _ HK1.out]; rfl
  go_wp2_with fail
  refine (HWo.out).mono ?_
  rintro e w2 ⟨v2, vl, b, rfl, hb2, hro2, hown2, hcase⟩
  have hs1 := HS1.out
  have hX2 := (hb2.block w.heap.size (by omega)).trans HX1.out
  have hK2 := (hb2.block (w.heap.size + 1) (by omega)).trans HK1.out
  have hZ2 := (hb2.block (w.heap.size + 1 + 1) (by omega)).trans HZ1.out
  have hs12 := hb2.size
  have HB2 := Lib.hid (HB1.out.trans (hb2.mono HB1.out.size))
  have HRo2 := Lib.hid hro2
  have HOw2 := Lib.hid hown2
  have HX2 := Lib.hid hX2
  have HK2 := Lib.hid hK2
  have HZ2 := Lib.hid hZ2
  clear x0 x1 x2 x3 xf y0 y1 y2 hb2 hro2 hown2 hX2 hK2 hZ2 hs1
  obtain ⟨x0, x1, x2, x3, xf⟩ := rcell HX2.out
  obtain ⟨z0, z1, z2, z3, zf⟩ := rcell HZ2.out
  rcases hcase with ⟨rfl, hno⟩ | ⟨r, hmem, rfl, hk, rfl⟩
  · have hl : lookI d.items k = none := lookI_not (by
      rw [← HMap.out]
      intro h
      obtain ⟨p, hp, e⟩ := List.mem_map.1 h
      obtain ⟨r, hr, rfl⟩ := List.mem_map.1 hp
      exact hno r hr e)
    have e1 : getF d k = ({ d with misses := d.misses + 1 }, [], false) := by unfold getF; rw [hl]
    have E1 := Lib.hid e1
    have e5 : wrap64 (d.misses + 1) = d.misses + 1 := wrap_small (by omega) (by omega)
    clear e1
    go_wp2_with fail
    refine bodyPost_ret (v := .tuple #[rcv d.cap (.slice A rs.length c) d.hits (d.misses + 1), .slice none 0 0, .bool false]) (by simp [rcv, results, Try.results31, go_sem, z0, z1, z2, z3, x0, x1, x2, x3]) rfl ?_
    rw [E1.out]
    have hbel : ∀ W', Below w.heap.size w W' → Below w.heap.size w W' ∧ RS W' (more T w W') { d with misses := d.misses + 1 } (rcv d.cap (.slice A rs.length c) d.hits (d.misses + 1)) ∧ Chgs W' (more T w W') none [] := fun W' hb =>
      ⟨hb, ⟨A, c, rs, rfl, (HRL.out.frame fun j hj hl => hb.block j hl).mono fun j hj => .inl hj, HMap.out⟩, fun i hi => absurd hi (Nat.not_lt_zero _)⟩
    refine ⟨_, none, 0, rfl, ?_⟩
    refine hbel _ ?_
    repeat (refine Below.setCell ?_ (by simp; try omega) _)
    exact HB2.out
  · have hl : lookI d.items k = some r.l := by
      refine lookI_mem hg.nd ?_
      rw [← HMap.out]
      exact List.mem_map.2 ⟨r, hmem, by unfold ri; rw [hk]⟩
    have e1 : getF d k = ({ d with items := delI d.items k ++ [(k, r.l)], hits := d.hits + 1 }, r.l, true) := by unfold getF; rw [hl]
    have E1 := Lib.hid e1
    have e5 : wrap64 (d.hits + 1) = d.hits + 1 := wrap_small (by omega) (by omega)
    obtain ⟨W3, hW3⟩ : ∃ W, w2.setCell ⟨w.heap.size, 2, none⟩ (.int .i64 (d.hits + 1)) = W := ⟨_, rfl⟩
    have hfar3 : ∀ j, j ≠ w.heap.size → W3.heap[j]? = w2.heap[j]? := fun j hj => by rw [← hW3]; exact Below.heap_setCell _ ⟨w.heap.size, 2, none⟩ _ j hj
    have hs3 : w2.heap.size = W3.heap.size := by rw [← hW3]; simp
    have hX3 : W3.heap[w.heap.size]? = some (.cells (rcs d.cap (.slice A rs.length c) (d.hits + 1) d.misses) 42 (0, 0)) := by
      rw [← hW3]; exact (heap_setCell_any w2 w.heap.size 2 _ _ _ _ HX2.out).trans rfl
    have hK3 := (hfar3 _ (by omega)).trans HK2.out
    have hZ3 := (hfar3 _ (by omega)).trans HZ2.out
    have hnX : ∀ g, v2.ownBlock = some g → g ≠ w.heap.size ∧ g ≠ w.heap.size + 1 + 1 := fun g hg => by
      obtain ⟨cur, hcur⟩ := row_block HRo2.out hg
      constructor
      · rintro rfl; rw [HX2.out] at hcur; injection hcur with hcur; injection hcur with _ h _; exact absurd h (by decide)
      · rintro rfl; rw [HZ2.out] at hcur; injection hcur with hcur; injection hcur with _ h _; exact absurd h (by decide)
    have hro3 := row_of HRo2.out (w' := W3) fun g hg => hfar3 g (hnX g hg).1
    have HB3 : Hid (Below w.heap.size w W3) := Lib.hid (by rw [← hW3]; exact HB2.out.setCell (Nat.le_refl _) _)
    have hml : (noR rs k).length ≤ 900000 := Nat.le_trans (List.length_filter_le _ _) (by omega)
    obtain ⟨v6, w6, hrun, hr6, hg6, hb6⟩ := push_item (W3.alloc (.cells #[.int .i64 k.1, .int .i64 k.2.1, .int .i64 k.2.2, .slice r.A r.l.length r.c] 75)) v2 _ _ (row_of hro3 fun g hg => Below.heap_alloc W3 _ g (hro3.lt g hg).2) hml W3.heap.size ⟨k, r.l, r.A, r.c⟩ (heap_alloc_new W3 _)
    have hb36 : Below w.heap.size w w6 := (HB3.out.alloc HB3.out.size _).grown hg6 (by have := HB3.out.size; simp; omega) (fun g hg => Nat.le_trans HB1.out.size (HOw2.out g hg))
    have hl12 : w.heap.size + 1 + 1 < w2.heap.size := by have := HS1.out; omega
    have hX6 : w6.heap[w.heap.size]? = _ := (hg6.block _ (by simp; omega) fun e => (hnX _ e.symm).1 rfl).trans ((Below.heap_alloc W3 _ _ (by omega)).trans hX3)
    have hZ6 : w6.heap[w.heap.size + 1 + 1]? = _ := (hg6.block _ (by simp; omega) fun e => (hnX _ e.symm).2 rfl).trans ((Below.heap_alloc W3 _ _ (by omega)).trans hZ3)
    have hn6 : ∀ g, v6.ownBlock = some g → w.heap.size ≤ g ∧ g ≠ w.heap.size ∧ g ≠ w.heap.size + 1 + 1 := fun g hg => by
      rcases hb6 with h | ⟨h, _⟩
      · exact ⟨Nat.le_trans HB1.out.size (HOw2.out g (h ▸ hg)), hnX g (h ▸ hg)⟩
      · rw [h] at hg; injection hg with hg; simp at hg; exact ⟨by omega, by omega, by omega⟩
    obtain ⟨A6, c6, rfl⟩ := row_sl hr6
    have HRUN := Lib.hid hrun
    have HX3 := Lib.hid hX3
    have HX6 := Lib.hid hX6
    have HZ6 := Lib.hid hZ6
    have HR6 := Lib.hid hr6
    have HN6 := Lib.hid hn6
    have HB6 := Lib.hid hb36
    have HW3 := Lib.hid hW3
    clear e1 hl hrun hX6 hZ6 hr6 hn6 hb36 hb6 hg6 hfar3 hs3 hW3 hZ3 hro3 hnX hX3
    go_upto_region 6 with (fail)
    rw [HW3.out]
    clear x0 x1 x2 x3 xf z0 z1 z2 z3 zf
    obtain ⟨x0, x1, x2, x3, xf⟩ := rcell HX3.out
    have y0 : W3.cell? ⟨w.heap.size + 1, 0, none⟩ = some (.int .i64 k.1) := by rw [cell_of_row W3 _ 0 _ _ _ hK3]; rfl
    have y1 : W3.cell? ⟨w.heap.size + 1, 1, none⟩ = some (.int .i64 k.2.1) := by rw [cell_of_row W3 _ 1 _ _ _ hK3]; rfl
    have y2 : W3.cell? ⟨w.heap.size + 1, 2, none⟩ = some (.int .i64 k.2.2) := by rw [cell_of_row W3 _ 2 _ _ _ hK3]; rfl
    obtain ⟨p0, p1, p2, p3, pf⟩ := rcell HX6.out
    obtain ⟨z0, z1, z2, z3, zf⟩ := rcell HZ6.out
    clear hK3
    go_wp2_with (at_builtin; refine wpList_append_eq rfl _ _ _ rfl _ _ rfl rfl HRUN.out ?_)
    refine bodyPost_ret (v := .tuple #[rcv d.cap (.slice A6 ((noR rs k).length + 1) c6) (d.hits + 1) d.misses, .slice r.A r.l.length r.c, .bool true]) (by simp [rcv, results, Try.results31, go_sem, z0, z1, z2, z3, x0, x1, x2, x3, p0, p1, p2, p3]) rfl ?_
    rw [E1.out]
    have hln : (noR rs k ++ [(⟨k, r.l, r.A, r.c⟩ : RI)]).length = (noR rs k).length + 1 := by simp
    have hbel : ∀ W', Below w.heap.size w W' → (∀ j, j < w6.heap.size → j ≠ w.heap.size → j ≠ w.heap.size + 1 + 1 → W'.heap[j]? = w6.heap[j]?) → w6.heap.size ≤ W'.heap.size → Below w.heap.size w W' ∧ RS W' (more T w W') { d with items := delI d.items k ++ [(k, r.l)], hits := d.hits + 1 } (rcv d.cap (.slice A6 ((noR rs k).length + 1) c6) (d.hits + 1) d.misses) ∧ Chgs W' (more T w W') r.A r.l := fun W' hb hf hs => by
      have hch : Chgs W' (more T w W') r.A r.l := ((HRL.out.ls r hmem).frame fun j hj hl => hb.block j hl).mono fun j hj => .inl hj
      refine ⟨hb, ⟨A6, c6, noR rs k ++ [⟨k, r.l, r.A, r.c⟩], by rw [hln], ⟨?_, fun x hx => ?_⟩, ?_⟩, hch⟩
      · have hfl := row_flat_own (N := w.heap.size) HR6.out fun g hg => (HN6.out g hg).1
        intro j u hj
        obtain ⟨a, rfl, ha1, ha2⟩ := hfl j u hj
        have hown : (Value.slice (some a) ((noR rs k).length + 1) c6).ownBlock = some a.block := by
          rcases HR6.out.2 with ⟨e, _⟩ | ⟨g, cap, cur, e, _⟩
          · cases e
          · injection e with e; injection e with e; subst e; rfl
        have hn := HN6.out _ hown
        exact ⟨a, rfl, .inr ⟨ha1.1, by omega⟩, (World.cell?_of_block (by rw [add_block]; exact hf _ ha1.2 hn.2.1 hn.2.2)).trans ha2⟩
      · rcases List.mem_append.1 hx with hx | hx
        · exact ((HRL.out.ls x (List.mem_filter.1 hx).1).frame fun j hj hl => hb.block j hl).mono fun j hj => .inl hj
        · rw [List.mem_singleton.1 hx]; exact hch
      · rw [List.map_append, noR_map, HMap.out]; rfl
    refine ⟨_, r.A, r.c, rfl, ?_⟩
    refine hbel _ ?_ (fun j h1 h2 h3 => ?_) (by simp)
    · repeat (refine Below.setCell ?_ (by simp; try omega) _)
      exact HB6.out
    · repeat (rw [Below.heap_setCell _ _ _ _ (by first | exact h2 | exact h3)])
end Go.Proofs.Ytphckenihkgoeaa
