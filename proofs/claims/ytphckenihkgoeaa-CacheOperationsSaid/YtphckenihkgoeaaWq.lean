import Derived.Test.YtphckenihkgoeaaWp
namespace Go.Proofs.Ytphckenihkgoeaa
set_option linter.unusedSimpArgs false
set_option linter.unnecessarySimpa false
set_option linter.unusedVariables false
open Go.RowKit Go.ChangeShapes Go.WideShapes Go.ChangeAt
attribute [local go_sem ↓] Go.wp_at_zero Go.wp_at_succ bs22 bs55

/-! what is kept apart -/
theorem weight_small (l : List Chg) (h : ∀ i, i < l.length → (l.getD i default).2.size ≤ 150) (h2 : l.length ≤ 20) : weight l ≤ 16 + 166 * l.length := by
  have key : ∀ j, j ≤ l.length → 16 ≤ wtF l j ∧ wtF l j ≤ 16 + 166 * (j : Int) := by
    intro j
    induction j with
    | zero => intro _; exact ⟨Int.le_refl 16, Int.le_refl 16⟩
    | succ j ih =>
      intro hj
      have ih := ih (by omega)
      have hs := h j (by omega)
      have e : wtF l (j + 1) = min (wrap64 (wrap64 (wtF l j + 16) + (l.getD j default).2.size)) 1073741824 := rfl
      rw [e, wrap_small (n := wtF l j + 16) (by omega) (by omega), wrap_small (by omega) (by omega)]
      omega
  exact (key l.length (Nat.le_refl _)).2
theorem few33_iff {l : List Chg} {n : Nat} (h : few33 l n = true) : l.length ≤ n ∧ ∀ i, i < l.length → (l.getD i default).2.size ≤ 150 := by
  unfold few33 at h
  have h' : l.all (smallC 150) = true ∧ l.length ≤ n := by simpa using h
  exact ⟨h'.2, fun i hi => by have := all_get h'.1 hi; simpa [smallC] using this⟩
theorem apart_put (l : List Chg) (k : K) (h : ∀ i, i < l.length → (l.getD i default).2.size ≤ 150) (h2 : l.length ≤ 20) : putF ⟨1048576, [], 0, 0⟩ k l = ⟨1048576, [(k, l)], 0, 0⟩ := by
  have hw := weight_small l h h2
  have e : (CM.items ⟨1048576, [], 0, 0⟩) = [] := rfl
  unfold putF
  show CM.mk _ _ _ _ = _
  have h1 : ¬ (1048576 : Int) < weight l := by omega
  have h2 : ¬ (1048576 : Int) < tot [(k, l)] := by simp [tot]; omega
  simp [h1, delI, fitI, h2]
theorem apart_get (l : List Chg) (k : K) (n : Int) : getF ⟨1048576, [(k, l)], n, 0⟩ k = (⟨1048576, [(k, l)], n + 1, 0⟩, l, true) := by
  simp [getF, lookI, delI]
/-- a cell of the list's own block is written -/
theorem apart_law (w : World) (A : Option Addr) (c : Nat) (l : List Chg) (hA : Chgs w (fun k => k < w.heap.size) A l) (hml : l.length ≤ maxLen) : Calls Try.prog 4 #[.slice A l.length c] w fun e w' => e = .returned (.bool true) ∧ Below w.heap.size w w' := by
  have hml' := hml
  unfold maxLen at hml'
  have HA := Lib.hid hA
  clear hA
  go_enter Try.func4, Try.ntmps4
  go_wp2_with fail
  refine (awake_walk _).mono ?_; rintro e w1 ⟨rfl, hb1⟩
  have B1 := Lib.hid hb1
  have h1 := HA.out.frame (w' := w1) fun k hk _ => hb1.block k hk
  have HF := Lib.hid (few33_walk w1 _ A c l 20 h1 hml)
  clear hb1
  go_wp2_with fail
  refine (HF.out).mono ?_; rintro e _ ⟨rfl, rfl⟩
  cases hfew : few33 l 20 with
  | false =>
    go_wp2_with fail
    go_ret
    exact ⟨rfl, B1.out⟩
  | true =>
    obtain ⟨hl20, hsm⟩ := few33_iff hfew
    by_cases hz : l.length = 0
    · have hz' : ((l.length : Int) == 0) = true := by simp [hz]
      go_wp2_with fail
      go_ret
      exact ⟨rfl, B1.out⟩
    · have hz' : ((l.length : Int) == 0) = false := by simpa using hz
      have H1 := Lib.hid h1
      clear h1
      go_wp2_with fail
      refine (new_c w1 1048576 (by decide) (by decide)).mono ?_
      rintro e w2 ⟨C, S0, rfl, hb2, hc2, hs2⟩
      obtain ⟨a, rfl, _⟩ := H1.out 0 (by omega)
      have B2 := Lib.hid (B1.out.trans (hb2.mono B1.out.size))
      have hflat : Flat w2 (fun k => k < w.heap.size) (some a) (ccells l) := (H1.out.frame (w' := w2) fun k hk hl => hb2.block k hl).flat
      have HFl := Lib.hid hflat
      have HC2 := Lib.hid hc2
      have HS2 := Lib.hid hs2
      have HB2 := Lib.hid hb2
      obtain ⟨i0, hi, hz0, hz1, hz2⟩ : ∃ i0, Try.prog.info? 35 = some i0 ∧ i0.zero = some (.agg #[.int .i64 0, .string ⟨#[]⟩]) ∧ i0.size = 2 ∧ i0.bytes = 24 := ⟨_, rfl, rfl, rfl, rfl⟩
      have HI := Lib.hid hi
      clear hb2 hc2 hs2 hflat hi
      go_upto_region 8 with (fail)
      go_wp2_with (at_builtin; refine wpList_append_own _ rfl _ _ 22 rfl w2.heap.size 35 i0 (.agg #[.int .i64 0, .string ⟨#[]⟩]) 2 24 Try.underlying22 HI.out hz0 hz1 hz2 rfl (by decide) _ _ _ rfl (World.ownsRow_made w2 #[] 0 (Nat.le_refl _) (Nat.zero_le _) rfl) a l.length c (ccells l) rfl ?qc1 ?qc2 ?qc3 ?qc4 ?qc5 ?qc6 ?_)
      case qc1 => exact ccells_length l
      case qc2 =>
        intro j u hj
        obtain ⟨a', e, _, h3⟩ := HFl.out j u hj
        cases e
        exact Lib.cell?_alloc_some _ h3
      case qc3 => exact one_cc l
      case qc4 => unfold maxLen; omega
      case qc5 => omega
      case qc6 => simp
      intro v' w3 hown hgrow hnil
      have hb3 : Below w2.heap.size w2 w3 := ((Below.refl _ w2).alloc (Nat.le_refl _) _).grown hgrow (by simp) (by intro k hk; simp [Value.ownBlock] at hk; omega)
      have hlt3 := hown.lt
      obtain ⟨g, cap, cur, rfl, hBg, hg, _⟩ := hown.2.resolve_left (by rintro ⟨_, h⟩; omega)
      have hg3 := (hlt3 g rfl).2
      have hch3 := (row_flat hown).chgs
      have hc3 := HC2.out.below hb3
      have HP := Lib.hid (put_c hc3 (by decide) (0, 1, 0) ⟨by decide, by decide, by decide⟩ _ _ cap l hch3 (fun j hj hs => by have := HC2.out.lt j (.inl hs); have h3 : w2.heap.size ≤ j := hj.1; omega) ⟨by show l.length ≤ 1000; omega, fun i hi => Nat.le_trans (hsm i hi) (by decide)⟩)
      rw [apart_put l (0, 1, 0) hsm hl20] at HP
      unfold kv at HP
      have HB3 := Lib.hid hb3
      have HC3 := Lib.hid hc3
      have HG3 := Lib.hid hg
      have HCh3 := Lib.hid hch3
      have B3 : Hid (Below w.heap.size w w3) := Lib.hid (B2.out.trans (hb3.mono B2.out.size))
      obtain ⟨x0, hx0⟩ : ∃ x, l.getD 0 default = x := ⟨_, rfl⟩
      obtain ⟨_, e0, hat⟩ := hch3 0 (by omega)
      cases e0
      rw [hx0] at hat
      have hz0 : ∃ t, cur[0]? = some (.int .i64 t) := by
        have := hat.c0
        rw [Nat.zero_mul, Addr.add_lit, cell_of_row w3 g _ _ _ _ hg] at this
        exact ⟨_, this⟩
      obtain ⟨t0, ht0⟩ := hz0
      clear hown hgrow hnil hb3 hc3 hch3 hat hg hz1 hz2
      go_upto_region 9 with (fail)
      go_wp2_with fail
      refine (HP.out).mono ?_
      rintro e w4 ⟨S4, R4, rfl, hx4, hc4⟩
      have hg4 : w4.heap[g]? = some (.cells cur 35 (0, 0)) := (hx4.touch.block g hg3 fun hs => by have := HC2.out.lt g (.inl hs); omega).trans HG3.out
      have c0 : w4.cell? ⟨g, 0, none⟩ = some (.int .i64 t0) := by rw [cell_of_row w4 g _ _ _ _ hg4]; exact ht0
      have f0 : w4.frozen? ⟨g, 0, none⟩ = false := by simp [World.frozen?, hg4]
      have hSR4 : ∀ k, S4 k ∨ R4 k → w1.heap.size ≤ k ∧ k ≠ g := fun k hk => by
        have h12 := HB2.out.size
        have h23 := HB3.out.size
        rcases hk with hk | hk
        · rcases hx4.s k hk with h | h
          · have h1 := HS2.out k h; have h2 := HC2.out.lt k (.inl h); exact ⟨h1, by omega⟩
          · exact ⟨by omega, by omega⟩
        · rcases hx4.r k hk with h | h
          · exact h.elim
          · exact ⟨by omega, by omega⟩
      have b4 := hx4.below w.heap.size B3.out.size fun i hi => Nat.le_trans B1.out.size (HS2.out i hi)
      have HB4 := Lib.hid (B3.out.trans b4)
      have HSR4 := Lib.hid hSR4
      have HC4 := Lib.hid hc4
      have HX4 := Lib.hid hx4.touch.size
      clear hx4 hc4 hSR4 b4
      go_upto_region 11 with (fail)
      obtain ⟨W5, hW5⟩ : ∃ W, w4.setCell ⟨g, 0, none⟩ (.int .i64 (wrap64 (t0 + 1))) = W := ⟨_, rfl⟩
      rw [hW5]
      have hfar5 : ∀ b, b ≠ g → W5.heap[b]? = w4.heap[b]? := fun b hb => by rw [← hW5]; exact Below.heap_setCell _ ⟨g, 0, none⟩ _ b hb
      have hs5 : W5.heap.size = w4.heap.size := by rw [← hW5]; simp
      have hgw : w.heap.size ≤ g := by have h1 := B1.out.size; have h2 := HB2.out.size; omega
      have hb5 : Below w.heap.size w4 W5 := by rw [← hW5]; exact (Below.refl _ _).setCell (by exact hgw) _
      have B5 := Lib.hid (HB4.out.trans hb5)
      have hc5 := HC4.out.frame (w' := W5) (by omega) fun k hk _ => hfar5 k (HSR4.out k hk).2
      have hget := get_c hc5 (by decide) (0, 1, 0) ⟨by decide, by decide, by decide⟩
      rw [apart_get l (0, 1, 0) 0] at hget
      have HG := Lib.hid hget
      unfold kv at HG
      clear hW5 hfar5 hb5 hc5 hget c0 f0 hg4
      go_wp2_with fail
      refine (HG.out).mono ?_
      rintro e w6 ⟨S6, A6, c6, rfl, hx6, hc6, hch6, hni6⟩
      have hc6 : Cw S6 R4 C ⟨1048576, [((0, 1, 0), l)], 0 + 1, 0⟩ w6 2 := hc6
      have hSw : ∀ i, S4 i → w.heap.size ≤ i := fun i hi => Nat.le_trans B1.out.size (HSR4.out i (.inl hi)).1
      have B6 := Lib.hid (B5.out.trans (hx6.below w.heap.size B5.out.size hSw))
      have HSame := Lib.hid (same_walk w6 _ (fun k => k < w.heap.size) A6 (some a) c6 c l hch6 (HA.out.frame (w' := w6) fun k hk _ => B6.out.block k hk) hml)
      have HX6 := Lib.hid hx6
      have HC6 := Lib.hid hc6
      have HCh6 := Lib.hid hch6
      have HNi6 := Lib.hid hni6
      clear hx6 hc6 hch6 hni6
      go_wp2_with fail
      refine (HSame.out).mono ?_
      rintro e w7 ⟨rfl, hb7⟩
      obtain ⟨a6, rfl, hat6⟩ := HCh6.out 0 (by omega)
      obtain ⟨g6, cur6, rfl, hg6⟩ := HNi6.out a6 rfl
      rw [hx0] at hat6
      have hT6 := hat6.bl
      have hg7 : w7.heap[g6]? = some (.cells cur6 35 (0, 0)) := (hb7.block g6 hT6.2.1).trans hg6
      have c0 : w7.cell? ⟨g6, 0, none⟩ = some (.int .i64 x0.1) := by
        have := hat6.c0
        rw [Nat.zero_mul, Addr.add_lit, cell_of_row w6 g6 _ _ _ _ hg6] at this
        rw [cell_of_row w7 g6 _ _ _ _ hg7]; exact this
      have f0 : w7.frozen? ⟨g6, 0, none⟩ = false := by simp [World.frozen?, hg7]
      have B7 := Lib.hid (bstep B6.out (Nat.le_refl _) hb7)
      have HC7 := Lib.hid (HC6.out.below hb7)
      have HT6 : Hid (W5.heap.size ≤ g6 ∧ g6 < w6.heap.size ∧ ¬ S6 g6 ∧ ¬ R4 g6) := Lib.hid hT6
      clear hb7 hat6 hg6 hg7 hT6
      go_upto_region 15 with (fail)
      obtain ⟨W8, hW8⟩ : ∃ W, w7.setCell ⟨g6, 0, none⟩ (.int .i64 (wrap64 (x0.1 + 1))) = W := ⟨_, rfl⟩
      rw [hW8]
      have hfar8 : ∀ b, b ≠ g6 → W8.heap[b]? = w7.heap[b]? := fun b hb => by rw [← hW8]; exact Below.heap_setCell _ ⟨g6, 0, none⟩ _ b hb
      have hs8 : W8.heap.size = w7.heap.size := by rw [← hW8]; simp
      have hb8 : Below w.heap.size w7 W8 := by rw [← hW8]; exact (Below.refl _ _).setCell (by have h1 := B5.out.size; have h2 := HT6.out.1; show w.heap.size ≤ g6; omega) _
      have B8 := Lib.hid (B7.out.trans hb8)
      have hc8 := HC7.out.frame (w' := W8) (by omega) fun k hk _ => hfar8 k (fun e => by
        subst e
        exact hk.elim HT6.out.2.2.1 HT6.out.2.2.2)
      have hget := get_c hc8 (by decide) (0, 1, 0) ⟨by decide, by decide, by decide⟩
      rw [apart_get l (0, 1, 0) (0 + 1)] at hget
      have HG := Lib.hid hget
      unfold kv at HG
      clear hW8 hfar8 hb8 hc8 hget c0 f0
      go_wp2_with fail
      refine (HG.out).mono ?_
      rintro e w9 ⟨S9, A9, c9, rfl, hx9, hc9, hch9, hni9⟩
      have hS6w : ∀ i, S6 i → w.heap.size ≤ i := fun i hi => (HX6.out.s i hi).elim (hSw i) fun h => Nat.le_trans B5.out.size h
      have B9 := Lib.hid (B8.out.trans (hx9.below w.heap.size B8.out.size hS6w))
      have HSame := Lib.hid (same_walk w9 _ (fun k => k < w.heap.size) A9 (some a) c9 c l hch9 (HA.out.frame (w' := w9) fun k hk _ => B9.out.block k hk) hml)
      clear hx9 hc9 hch9 hni9
      go_wp2_with fail
      refine (HSame.out).mono ?_
      rintro e w10 ⟨rfl, hb10⟩
      go_wp2_with fail
      go_ret
      exact ⟨rfl, bstep B9.out (Nat.le_refl _) hb10⟩
section
variable {H : Type} {enc : TypeId × Value → H} {w : World} {base b0 : Nat} {held : Bool}
theorem apart_in {d1 : DataW H} {p1 : List MemPlace} (v1 : Value) (h1 : DataW.Trod enc Try.prog w base (fun _ => true) held 22 v1 d1 p1) (hv1 : Value.okWide Try.prog w .any b0 22 v1) :
    Calls Try.prog 4 #[v1] w fun e w' => e = .returned (.bool true) ∧ Below w.heap.size w w' := by
  obtain ⟨A, c, l, rfl, hml, hA⟩ := open_chgs hv1 h1
  exact apart_law w A c l hA hml
end
end Go.Proofs.Ytphckenihkgoeaa
