import Derived.Test.YtphckenihkgoeaaXb
namespace Go.Proofs.Ytphckenihkgoeaa
set_option linter.unusedSimpArgs false
set_option linter.unnecessarySimpa false
set_option linter.unusedVariables false
open Go.RowKit Go.ChangeShapes Go.WideShapes Go.ChangeAt
attribute [local go_sem ↓] Go.wp_at_zero Go.wp_at_succ

theorem do_walk {S R T : Nat → Prop} {C N : Nat} {d : CM} {v : Value} (w : World) (h : Cw S R C d w N) (hN : N ≤ 700000) (hr : RS w T d v) (hT : ∀ j, T j → j < w.heap.size ∧ ¬ S j) (o : OpC) (hwf : wfK o.key) (hsm : SmallP (o.key, o.list)) (hls : Chgs w T o.lA o.list) : Calls Try.prog 23 #[.pointer (some ⟨C, 0, none⟩), v, .agg (ocells o)] w fun e w' => DoR S R T w C (stepO d o) N e w' := by
  have hlt3 : o.kind % 3 < 3 := Nat.mod_lt _ (by decide)
  unfold stepO
  rcases (by omega : o.kind % 3 = 0 ∨ o.kind % 3 = 1 ∨ o.kind % 3 = 2) with hk | hk | hk
  · rw [if_pos hk]
    exact do_get w h hN hr hT o hwf hk
  · rw [if_neg (by omega), if_pos hk]
    exact do_put w h hN hr hT o hwf hk hsm hls
  · rw [if_neg (by omega), if_neg (by omega)]
    exact do_drop w h hN hr hT o hk
theorem stepO_cap (d : CM) (o : OpC) : (stepO d o).cap = d.cap := by
  unfold stepO
  split
  · exact getF_cap _ _
  · split <;> rfl
/-- the loop of the operations: X holds the reference's state -/
structure OL (w : World) (C X : Nat) (cap : Int) (wr : World) (S R T : Nat → Prop) (d : CM) (N : Nat) (A : Option Addr) (c : Nat) (rs : List RI) : Prop where
  pl : PL w C cap wr S R d N
  x : wr.heap[X]? = some (.cells (rcs d.cap (.slice A rs.length c) d.hits d.misses) 42 (0, 0))
  xn : ¬ S X ∧ ¬ R X ∧ w.heap.size ≤ X
  rl : RL wr T A rs
  mp : rs.map ri = d.items
  t : ∀ j, T j → j < wr.heap.size ∧ ¬ S j ∧ j ≠ X
  ta : ∀ j, j < w.heap.size → T j
set_option maxRecDepth 100000 in
theorem operations_law (w : World) (n : Int) (A : Option Addr) (c : Nat) (l : List OpC) (hA : Ops w (fun k => k < w.heap.size) A l) (hml : l.length ≤ maxLen) : Calls Try.prog 8 #[.int .i64 n, .slice A l.length c] w fun e w' => e = .returned (.bool true) ∧ Below w.heap.size w w' := by
  have hml' := hml
  unfold maxLen at hml'
  have HA := Lib.hid hA
  clear hA
  by_cases hbad : n < 0 ∨ 1073741824 < n
  · have HN := Lib.hid fun W => new_bad W n hbad
    go_enter Try.func8, Try.ntmps8
    go_wp2_with fail
    refine (awake_walk _).mono ?_; rintro e w1 ⟨rfl, hb1⟩
    have B1 := Lib.hid hb1
    have HF := Lib.hid (few41_walk w1 _ A c l 40 (HA.out.frame (w' := w1) fun k hk _ => hb1.block k hk) hml)
    clear hb1
    go_wp2_with fail
    refine (HF.out).mono ?_; rintro e _ ⟨rfl, rfl⟩
    cases hfew : fewB l 40 with
    | false =>
      go_wp2_with fail
      go_ret
      exact ⟨rfl, B1.out⟩
    | true =>
      go_wp2_with fail
      refine (HN.out _).mono ?_; rintro e _ ⟨rfl, rfl⟩
      go_wp2_with fail
      go_ret
      exact ⟨rfl, B1.out⟩
  · go_enter Try.func8, Try.ntmps8
    go_wp2_with fail
    refine (awake_walk _).mono ?_; rintro e w1 ⟨rfl, hb1⟩
    have B1 := Lib.hid hb1
    have HF := Lib.hid (few41_walk w1 _ A c l 40 (HA.out.frame (w' := w1) fun k hk _ => hb1.block k hk) hml)
    clear hb1
    go_wp2_with fail
    refine (HF.out).mono ?_; rintro e _ ⟨rfl, rfl⟩
    cases hfew : fewB l 40 with
    | false =>
      go_wp2_with fail
      go_ret
      exact ⟨rfl, B1.out⟩
    | true =>
      obtain ⟨hl40, hsm⟩ := fewB_iff hfew
      have HSM := Lib.hid hsm
      clear hsm
      go_wp2_with fail
      refine (new_c w1 n (by omega) (by omega)).mono ?_
      rintro e w2 ⟨C, S0, rfl, hb2, hc2, hs2⟩
      have hP0 : PL w C n w2 S0 (fun _ => False) ⟨n, [], 0, 0⟩ 0 := by
        refine ⟨B1.out.trans (hb2.mono B1.out.size), hc2, ?_, rfl⟩
        rintro k (hk | hk)
        · exact Nat.le_trans B1.out.size (hs2 k hk)
        · exact hk.elim
      have hX0 : (w2.alloc (.cells (rcs n (.slice none 0 0) 0 0) 42)).heap[w2.heap.size]? = some (.cells (rcs n (.slice none 0 0) 0 0) 42 (0, 0)) := heap_alloc_new w2 _
      have HL0 : Hid (OL w C w2.heap.size n (w2.alloc (.cells (rcs n (.slice none 0 0) 0 0) 42)) S0 (fun _ => False) (fun j => j < w.heap.size) ⟨n, [], 0, 0⟩ 0 none 0 []) := Lib.hid
        ⟨hP0.below ((Below.refl _ _).alloc (Nat.le_refl _) _), hX0, ⟨fun h => by have := hc2.lt _ (.inl h); omega, fun h => h, hP0.bel.size⟩, ⟨flat_nil _ _ _, fun r hr => by cases hr⟩, rfl, fun j hj => ⟨by have := hP0.bel.size; simp; omega, fun hs => by have := hP0.own j (.inl hs); omega, by have := hP0.bel.size; omega⟩, fun j hj => hj⟩
      clear hP0 hb2 hc2 hs2 hX0
      go_upto_region 9 with (fail)
      rw [show w2.alloc (.cells #[.int .i64 n, .slice none 0 0, .int .i64 0, .int .i64 0] 42) = w2.alloc (.cells (rcs n (.slice none 0 0) 0 0) 42) from rfl]
      go_wp2_with fail
      go_loopw [37, 10] (fun i _ wr => ∃ (j : Nat) (S R T : Nat → Prop) (d : CM) (A : Option Addr) (c : Nat) (rs : List RI), j ≤ l.length ∧ i = .int .i64 (j : Int) ∧ OL w C w2.heap.size n wr S R T d j A c rs) (fun i _ _ => l.length - (intOf i).toNat)
      case atStart => exact ⟨0, _, _, _, _, _, _, _, Nat.zero_le _, rfl, HL0.out⟩
      case round =>
        obtain ⟨j, S, R, T, d, A1, c1, rs, hj, rfl, hp⟩ := hrel
        have HP := Lib.hid hp
        clear hp
        by_cases hlt : j < l.length
        · have hjl : (j : Int) < l.length := by omega
          obtain ⟨ad, rfl, ho⟩ := HA.out j hlt
          obtain ⟨o, hoo⟩ : ∃ o, l.getD j default = o := ⟨_, rfl⟩
          have HSm := Lib.hid (HSM.out j hlt)
          rw [hoo] at ho HSm
          have HO0 := Lib.hid ho
          have ho := ho.frame (w' := wr) fun k hk _ => HP.out.pl.bel.block k hk
          have c0 := ho.c0
          have c1' := ho.c1
          have c2 := ho.c2
          have c3 := ho.c3
          have c4 := ho.c4
          have c5 := ho.c5
          have c6 := ho.c6
          have hxl := (Array.getElem?_eq_some_iff.1 HP.out.x).1
          obtain ⟨W2, hW2⟩ : ∃ W, wr.alloc (.cells (ocells o) 50) = W := ⟨_, rfl⟩
          have hX2 : W2.heap[wr.heap.size]? = some (.cells (ocells o) 50 (0, 0)) := by rw [← hW2]; exact heap_alloc_new wr _
          have hb2 : Below wr.heap.size wr W2 := by rw [← hW2]; exact (Below.refl _ _).alloc (Nat.le_refl _) _
          have hP2 := HP.out.pl.below hb2
          have hx2 := (hb2.block _ hxl).trans HP.out.x
          have hrs2 : RS W2 T d (rcv d.cap (.slice A1 rs.length c1) d.hits d.misses) := ⟨A1, c1, rs, rfl, HP.out.rl.frame fun k _ hl => hb2.block k hl, HP.out.mp⟩
          have hT2 : ∀ j, T j → j < W2.heap.size ∧ ¬ S j := fun j hj => ⟨Nat.lt_of_lt_of_le (HP.out.t j hj).1 hb2.size, (HP.out.t j hj).2.1⟩
          have HDo := Lib.hid (do_walk W2 hP2.cw (by omega) hrs2 hT2 o HO0.out.wf HSm.out ((HO0.out.ls.frame (w' := W2) fun k hk _ => hP2.bel.block k hk).mono fun k hk => HP.out.ta k hk))
          unfold rcv ocells at HDo
          have HP2 := Lib.hid hP2
          have HX2 := Lib.hid hx2
          have HBs := Lib.hid hb2.size
          have HW2 := Lib.hid hW2
          obtain ⟨k0, k1, k2, k3, k4, k5, k6⟩ := ocell hX2
          clear ho hoo hX2 hb2 hW2 hP2 hrs2 hT2 hx2
          go_upto_region 12 with (fail)
          rw [show wr.alloc (.cells #[.int .u8 (o.kind : Int), .int .i64 o.key.1, .int .i64 o.key.2.1, .int .i64 o.key.2.2, .slice o.lA o.list.length o.lc, .int .i64 o.from_, .int .i64 o.to_] 50) = W2 from HW2.out]
          clear c0 c1' c2 c3 c4 c5 c6
          obtain ⟨x0, x1, x2, x3, xf⟩ := rcell HX2.out
          go_wp2_with fail
          refine (HDo.out).mono ?_
          rintro e w3 ⟨v', S', R', T', rfl, hx3, hc3, hrs3, hT3⟩
          obtain ⟨A3, c3, rs3, rfl, hrl3, hmap3⟩ := hrs3
          obtain ⟨d', hd'⟩ : ∃ d', stepO d o = d' := ⟨_, rfl⟩
          have hcap' : d'.cap = d.cap := by rw [← hd']; exact stepO_cap d o
          rw [hd'] at hc3 hmap3 ⊢
          have hX3 := (hx3.touch.block _ (Nat.lt_of_lt_of_le hxl HBs.out) HP.out.xn.1).trans HX2.out
          have hP3 := HP2.out.next hx3 hc3 hcap'
          have hxw := HP.out.xn.2.2
          have hS3 : ¬ S' w2.heap.size := fun hs => (hx3.s _ hs).elim HP.out.xn.1 fun h => by have := HBs.out; omega
          have hR3 : ¬ R' w2.heap.size := fun hs => (hx3.r _ hs).elim HP.out.xn.2.1 fun h => by have := HBs.out; omega
          obtain ⟨W4, hW4⟩ : ∃ W, (((w3.setCell ⟨w2.heap.size, 0, none⟩ (.int .i64 d'.cap)).setCell ⟨w2.heap.size, 1, none⟩ (.slice A3 rs3.length c3)).setCell ⟨w2.heap.size, 2, none⟩ (.int .i64 d'.hits)).setCell ⟨w2.heap.size, 3, none⟩ (.int .i64 d'.misses) = W := ⟨_, rfl⟩
          have hX4 : W4.heap[w2.heap.size]? = some (.cells (rcs d'.cap (.slice A3 rs3.length c3) d'.hits d'.misses) 42 (0, 0)) := by
            rw [← hW4]
            exact (heap_setCell_any _ w2.heap.size 3 _ _ _ _ (heap_setCell_any _ w2.heap.size 2 _ _ _ _ (heap_setCell_any _ w2.heap.size 1 _ _ _ _ (heap_setCell_any w3 w2.heap.size 0 _ _ _ _ hX3)))).trans rfl
          have hfar4 : ∀ j, j ≠ w2.heap.size → W4.heap[j]? = w3.heap[j]? := fun j hj => by
            rw [← hW4]
            repeat (rw [Below.heap_setCell _ _ _ _ (by exact hj)])
          have hs4 : w3.heap.size ≤ W4.heap.size := by rw [← hW4]; simp
          have hb4 : Below w.heap.size w3 W4 := by
            rw [← hW4]
            repeat (refine Below.setCell ?_ (by exact hxw) _)
            exact Below.refl _ _
          have hc4 := hc3.frame (w' := W4) hs4 fun k hk _ => hfar4 k fun e => by subst e; exact hk.elim hS3 hR3
          have hP4 : PL w C n W4 S' R' d' (j + 1) := ⟨hP3.bel.trans hb4, hc4, hP3.own, hP3.cap⟩
          have hTX : ∀ k, T' k → k ≠ w2.heap.size := fun k hk => by
            rcases (hT3 k hk).1 with h | h
            · exact (HP.out.t k h).2.2
            · have := HBs.out; omega
          have hrl4 : RL W4 (fun k => T' k ∨ k < w.heap.size) A3 rs3 := (hrl3.frame fun k hk _ => hfar4 k (hTX k hk)).mono fun k hk => .inl hk
          have HOL : Hid (OL w C w2.heap.size n W4 S' R' (fun k => T' k ∨ k < w.heap.size) d' (j + 1) A3 c3 rs3) := Lib.hid
            ⟨hP4, hX4, ⟨hS3, hR3, hxw⟩, hrl4, hmap3, fun k hk => hk.elim (fun hk => ⟨Nat.lt_of_lt_of_le (hT3 k hk).2.1 hs4, (hT3 k hk).2.2, hTX k hk⟩) (fun hk => ⟨by have := hP4.bel.size; omega, fun hs => by have := hP4.own k (.inl hs); omega, by omega⟩), fun k hk => .inr hk⟩
          have HSame := Lib.hid (same_cache W4 hc4 (by omega) ⟨A3, c3, rs3, rfl, hrl4, hmap3⟩)
          unfold rcv at HSame
          have HW4 := Lib.hid hW4
          clear x0 x1 x2 x3 xf k0 k1 k2 k3 k4 k5 k6
          obtain ⟨x0, x1, x2, x3, xf⟩ := rcell hX3
          have HX4 := Lib.hid hX4
          clear hx3 hc3 hrl3 hmap3 hT3 hX3 hP3 hS3 hR3 hW4 hfar4 hs4 hb4 hc4 hP4 hTX hrl4 hd' hcap'
          unfold rcv
          go_upto_region 14 with (fail)
          rw [HW4.out]
          clear x0 x1 x2 x3 xf
          obtain ⟨x0, x1, x2, x3, xf⟩ := rcell hX4
          clear hX4
          go_wp2_with fail
          refine (HSame.out).mono ?_
          rintro e w5 ⟨rfl, hb5⟩
          have HOL5 : Hid (OL w C w2.heap.size n w5 S' R' (fun k => T' k ∨ k < w.heap.size) d' (j + 1) A3 c3 rs3) := Lib.hid
            ⟨HOL.out.pl.below hb5, (hb5.block _ (Array.getElem?_eq_some_iff.1 HX4.out).1).trans HX4.out, HOL.out.xn, HOL.out.rl.frame fun k _ hl => hb5.block k hl, HOL.out.mp, fun k hk => ⟨Nat.lt_of_lt_of_le (HOL.out.t k hk).1 hb5.size, (HOL.out.t k hk).2⟩, HOL.out.ta⟩
          clear hb5
          go_wp2_with fail
          go_roundw
          case rel => exact ⟨j + 1, S', R', _, d', A3, c3, rs3, by omega, by go_num, HOL5.out⟩
          case measure => simp [intOf]; omega
        · obtain rfl : j = l.length := by omega
          go_wp2_with fail
          go_ret
          exact ⟨rfl, HP.out.pl.bel⟩
section
variable {H : Type} {enc : TypeId × Value → H} {w : World} {base b0 : Nat} {held : Bool}
theorem operations_in (a0 : Int) (_ : (Lit.int .i64 a0).wf = true) {d1 : DataW H} {p1 : List MemPlace} (v1 : Value) (h1 : DataW.Trod enc Try.prog w base (fun _ => true) held 45 v1 d1 p1) (hv1 : Value.okWide Try.prog w .any b0 45 v1) :
    Calls Try.prog 8 #[.int .i64 a0, v1] w fun e w' => e = .returned (.bool true) ∧ Below w.heap.size w w' := by
  obtain ⟨A, c, l, rfl, hml, hA⟩ := open_ops hv1 h1
  exact operations_law w a0 A c l hA hml
end
end Go.Proofs.Ytphckenihkgoeaa
