import Derived.Test.YtphckenihkgoeaaWm
namespace Go.Proofs.Ytphckenihkgoeaa
set_option linter.unusedSimpArgs false
set_option linter.unnecessarySimpa false
set_option linter.unusedVariables false
open Go.RowKit
attribute [local go_sem ↓] Go.wp_at_zero Go.wp_at_succ

def awL : List Chg := [(1, ⟨#[97]⟩)]
def awD : Nat → CM
  | 0 => ⟨70, [], 0, 0⟩
  | j + 1 => putF (awD j) (0, 0, (j : Int)) awL
def awK (j : Int) : K := (0, 0, j)
theorem awL_w : weight awL = 33 := by kernel_rfl
theorem aw1 : awD 1 = ⟨70, [(awK 0, awL)], 0, 0⟩ := by kernel_rfl
theorem aw2 : awD 2 = ⟨70, [(awK 0, awL), (awK 1, awL)], 0, 0⟩ := by kernel_rfl
theorem aw3 : awD 3 = ⟨70, [(awK 1, awL), (awK 2, awL)], 0, 0⟩ := by kernel_rfl
theorem aw4 : getF (awD 3) (awK 0) = (⟨70, [(awK 1, awL), (awK 2, awL)], 0, 1⟩, [], false) := by kernel_rfl
theorem aw5 : getF ⟨70, [(awK 1, awL), (awK 2, awL)], 0, 1⟩ (awK 1) = (⟨70, [(awK 2, awL), (awK 1, awL)], 1, 1⟩, awL, true) := by kernel_rfl
theorem aw6 : tot [(awK 2, awL), (awK 1, awL)] = 66 := by kernel_rfl
theorem awS (k : K) : SmallP (k, awL) := ⟨(by decide : awL.length ≤ 1000), fun i hi => by
  have : i = 0 := by simp [awL] at hi; omega
  subst this; exact (by decide : (awL.getD 0 default).2.size ≤ 1000)⟩
theorem Nx.below {S R S' R' : Nat → Prop} {w w' : World} (h : Nx S R S' R' w w') (B : Nat) (hB : B ≤ w.heap.size) (hS : ∀ i, S i → B ≤ i) : Below B w w' := h.touch.below B hB hS
theorem awake_walk (w : World) : Calls Try.prog 9 #[] w fun e w' => e = .returned (.bool true) ∧ Below w.heap.size w w' := by
  go_enter Try.func9, Try.ntmps9
  go_wp2_with fail
  refine (new_c w 70 (by decide) (by decide)).mono ?_
  rintro e w1 ⟨C, S0, rfl, hb1, hc1, hs1⟩
  have HB1 := Lib.hid hb1
  have HC1 := Lib.hid hc1
  have HS1 := Lib.hid hs1
  clear hb1 hc1 hs1
  go_wp2_with fail
  go_loopw [21, 4] (fun i _ wr => ∃ (j : Nat) (S R : Nat → Prop), j ≤ 3 ∧ i = .int .i64 (j : Int) ∧ Below w.heap.size w wr ∧ Cw S R C (awD j) wr j ∧ (∀ k, S k ∨ R k → w.heap.size ≤ k ∧ k ≠ w1.heap.size) ∧ wr.heap[w1.heap.size]? = some (.cells #[.int .i64 1, .string ⟨#[97]⟩] 35 (0, 0))) (fun i _ _ => 3 - (intOf i).toNat)
  case atStart =>
    refine ⟨0, S0, _, by decide, rfl, HB1.out.alloc HB1.out.size _, HC1.out.frame (by simp) fun k _ hl => Below.heap_alloc w1 _ k hl, ?_, heap_alloc_new w1 _⟩
    rintro k (hk | hk)
    · exact ⟨HS1.out k hk, fun e => by have := HC1.out.lt k (.inl hk); omega⟩
    · exact hk.elim
  case round =>
    obtain ⟨j, S, R, hj, rfl, hb, hc, hsr, hl⟩ := hrel
    have HB := Lib.hid hb
    have HC := Lib.hid hc
    have HSR := Lib.hid hsr
    have HL := Lib.hid hl
    clear hb hc hsr hl
    have hch : Chgs wr (fun k => k = w1.heap.size) (some ⟨w1.heap.size, 0, none⟩) awL := by
      intro i hi
      have : i = 0 := by simp [awL] at hi; omega
      subst this
      refine ⟨_, rfl, rfl, ?_, ?_⟩
      · rw [Addr.add_lit, cell_of_row wr _ _ _ _ _ HL.out]; rfl
      · rw [Addr.add_lit, cell_of_row wr _ _ _ _ _ HL.out]; rfl
    have HCh := Lib.hid hch
    clear hch
    by_cases hlt : j < 3
    · have hjl : (j : Int) < 3 := by omega
      have hput := put_c HC.out (by omega) (0, 0, (j : Int)) (by have : j = 0 ∨ j = 1 ∨ j = 2 := by omega
                                                                 rcases this with rfl | rfl | rfl <;> exact ⟨by decide, by decide, by decide⟩) (fun k => k = w1.heap.size) (some ⟨w1.heap.size, 0, none⟩) 1 awL HCh.out (fun k hk hs => (HSR.out k (.inl hs)).2 hk) (awS _)
      have HP := Lib.hid hput
      clear hput
      unfold kv at HP
      go_wp2_with fail
      refine (HP.out).mono ?_
      rintro e w2 ⟨S', R', rfl, hx, hc2⟩
      have HX := Lib.hid hx
      have HC2 := Lib.hid hc2
      clear hx hc2
      go_wp2_with fail
      go_roundw
      case rel =>
        have hlL := (Array.getElem?_eq_some_iff.1 HL.out).1
        have hwl := HB.out.size
        refine ⟨j + 1, S', R', by omega, by go_num, HB.out.trans (HX.out.below _ hwl fun i hi => (HSR.out i (.inl hi)).1), HC2.out, ?_, (HX.out.touch.block _ hlL fun hs => (HSR.out _ (.inl hs)).2 rfl).trans HL.out⟩
        rintro k (hk | hk)
        · rcases HX.out.s k hk with h | h
          · exact HSR.out k (.inl h)
          · exact ⟨by omega, by omega⟩
        · rcases HX.out.r k hk with h | h
          · exact HSR.out k (.inr h)
          · exact ⟨by omega, by omega⟩
      case measure => simp [intOf]; omega
    · obtain rfl : j = 3 := by omega
      have hwl := HB.out.size
      have hget := get_c HC.out (by decide) (awK 0) ⟨by decide, by decide, by decide⟩
      rw [aw4] at hget
      have HG := Lib.hid hget
      clear hget
      unfold kv awK at HG
      go_wp2_with fail
      refine (HG.out).mono ?_
      rintro e w2 ⟨S2, A2, c2, rfl, hx, hc2, _, _⟩
      have hc2 : Cw S2 R C ⟨70, [(awK 1, awL), (awK 2, awL)], 0, 1⟩ w2 4 := hc2
      have hb2 := hx.below _ hwl fun i hi => (HSR.out i (.inl hi)).1
      have hwl2 := hb2.size
      have hget := get_c hc2 (by decide) (awK 1) ⟨by decide, by decide, by decide⟩
      rw [aw5] at hget
      have HG2 := Lib.hid hget
      have HX2 := Lib.hid hx
      have HB2 := Lib.hid (HB.out.trans hb2)
      clear hget hx hc2 hb2
      unfold kv awK at HG2
      go_wp2_with fail
      refine (HG2.out).mono ?_
      rintro e w3 ⟨S3, A3, c3, rfl, hx3, hc3, hch3, _⟩
      have hc3 : Cw S3 R C ⟨70, [(awK 2, awL), (awK 1, awL)], 1, 1⟩ w3 5 := hc3
      have hS2 : ∀ i, S2 i → w.heap.size ≤ i ∧ i ≠ w1.heap.size := fun i hi => by
        rcases HX2.out.s i hi with h | h
        · exact HSR.out i (.inl h)
        · have hlL := (Array.getElem?_eq_some_iff.1 HL.out).1
          exact ⟨by omega, by omega⟩
      have HB3 := Lib.hid (HB2.out.trans (hx3.below _ (by have := HB.out.size; have := HX2.out.touch.size; omega) fun i hi => (hS2 i hi).1))
      have hch' := (HCh.out.frame (w' := w2) fun k hk hl => HX2.out.touch.block k hl fun hs => (HSR.out k (.inl hs)).2 hk).frame (w' := w3) fun k hk hl => hx3.touch.block k hl fun hs => (hS2 k hs).2 hk
      have HSame := Lib.hid (same_walk w3 _ _ A3 (some ⟨w1.heap.size, 0, none⟩) c3 1 awL hch3 hch' (by decide))
      have HC3 := Lib.hid hc3
      have HCh3 := Lib.hid hch'
      clear hx3 hc3 hch3 hch' hS2
      go_wp2_with fail
      refine (HSame.out).mono ?_
      rintro e w4 ⟨rfl, hb4⟩
      have HT4 := Lib.hid (total_c (HC3.out.below hb4))
      rw [show tot (CM.items ⟨70, [(awK 2, awL), (awK 1, awL)], 1, 1⟩) = 66 from aw6] at HT4
      have HW4 := Lib.hid (weight_walk w4 (fun k => k = w1.heap.size ∧ k < w4.heap.size) (some ⟨w1.heap.size, 0, none⟩) 1 awL ((HCh3.out.frame (w' := w4) fun k _ hl => hb4.block k hl).lt) (by decide) fun k hk => hk.2)
      rw [awL_w] at HW4
      have HB4 := Lib.hid (bstep HB3.out (Nat.le_refl _) hb4)
      clear hb4
      go_wp2_with fail
      refine (HT4.out).mono ?_
      rintro e _ ⟨rfl, rfl⟩
      go_wp2_with fail
      refine (HW4.out).mono ?_
      rintro e w5 ⟨rfl, hb5⟩
      go_wp2_with fail
      go_ret
      exact ⟨rfl, bstep HB4.out (Nat.le_refl _) hb5⟩
end Go.Proofs.Ytphckenihkgoeaa
