import Derived.Test.YtphckenihkgoeaaWr
namespace Go.Proofs.Ytphckenihkgoeaa
set_option linter.unusedSimpArgs false
set_option linter.unnecessarySimpa false
set_option linter.unusedVariables false
open Go.RowKit Go.ChangeShapes Go.WideShapes Go.ChangeAt
attribute [local go_sem ↓] Go.wp_at_zero Go.wp_at_succ

theorem ne33 (a b : K) (w : World) : (binOp .neq 33 (kv a) (kv b)).run Try.prog w = .ok (.bool (decide (a ≠ b))) w := by
  have u3 := Try.underlying3
  have hS : Try.prog.underlying 33 = some (.struct (Try.prog.fieldsOf 33)) := by kernel_rfl
  have hp : Try.prog.stoodInHeld 33 = false := by kernel_rfl
  obtain ⟨a1, a2, a3'⟩ := a
  obtain ⟨b1, b2, b3⟩ := b
  simp only [kv]
  rw [run_neq_struct, show (10000 : Nat) = 9999 + 1 from rfl, run_equalIn_agg w 9999 33 _ _ hS hp]
  simp only [Program.fieldsOf, Try.underlying33]
  go_simp
  by_cases h1 : a1 = b1 <;> by_cases h2 : a2 = b2 <;> by_cases h3 : a3' = b3 <;> simp [h1, h2, h3]
/-- the cells of an operation -/
def ocells (o : OpC) : Array Value := #[.int .u8 (o.kind : Int), .int .i64 o.key.1, .int .i64 o.key.2.1, .int .i64 o.key.2.2, .slice o.lA o.list.length o.lc, .int .i64 o.from_, .int .i64 o.to_]
theorem ocell {w : World} {B : Nat} {o : OpC} (h : w.heap[B]? = some (.cells (ocells o) 50 (0, 0))) : w.cell? ⟨B, 0, none⟩ = some (.int .u8 (o.kind : Int)) ∧ w.cell? ⟨B, 1, none⟩ = some (.int .i64 o.key.1) ∧ w.cell? ⟨B, 2, none⟩ = some (.int .i64 o.key.2.1) ∧ w.cell? ⟨B, 3, none⟩ = some (.int .i64 o.key.2.2) ∧ w.cell? ⟨B, 4, none⟩ = some (.slice o.lA o.list.length o.lc) ∧ w.cell? ⟨B, 5, none⟩ = some (.int .i64 o.from_) ∧ w.cell? ⟨B, 6, none⟩ = some (.int .i64 o.to_) := by
  refine ⟨?_, ?_, ?_, ?_, ?_, ?_, ?_⟩ <;> (rw [cell_of_row w B _ _ _ _ h]; rfl)
def keepKs (a b : Int) (l : List K) : List K := l.filter fun k => !hitK a b k
theorem keys_dropI (a b : Int) (l : Items) : keys (dropI a b l) = keepKs a b (keys l) := by
  unfold keys dropI keepKs
  rw [List.filter_map]
  rfl
theorem dropI_twice (a b : Int) (l : Items) : dropI a b (dropI a b l) = dropI a b l := by
  unfold dropI
  rw [List.filter_filter]
  simp
theorem keep_take {a b : Int} {ks : List K} {k : K} {j : Nat} (h : ks[j]? = some k) : keepKs a b (ks.take (j + 1)) = keepKs a b (ks.take j) ++ (if hitK a b k then [] else [k]) := by
  unfold keepKs
  rw [List.take_add_one, h, List.filter_append]
  cases hh : hitK a b k <;> simp [hh]
/-- the loop of the puts -/
structure PL (w : World) (C : Nat) (cap : Int) (wr : World) (S R : Nat → Prop) (d : CM) (N : Nat) : Prop where
  bel : Below w.heap.size w wr
  cw : Cw S R C d wr N
  own : ∀ k, S k ∨ R k → w.heap.size ≤ k
  cap : d.cap = cap
theorem PL.next {w : World} {C : Nat} {cap : Int} {wr w' : World} {S R S' R' : Nat → Prop} {d d' : CM} {N N' : Nat} (h : PL w C cap wr S R d N) (hx : Nx S R S' R' wr w') (hc : Cw S' R' C d' w' N') (hd : d'.cap = d.cap) : PL w C cap w' S' R' d' N' := by
  have hs := h.bel.size
  refine ⟨h.bel.trans (hx.below w.heap.size hs fun i hi => h.own i (.inl hi)), hc, ?_, hd.trans h.cap⟩
  rintro k (hk | hk)
  · rcases hx.s k hk with h1 | h1
    · exact h.own k (.inl h1)
    · omega
  · rcases hx.r k hk with h1 | h1
    · exact h.own k (.inr h1)
    · omega
theorem PL.below {w : World} {C : Nat} {cap : Int} {wr w' : World} {S R : Nat → Prop} {d : CM} {N : Nat} (h : PL w C cap wr S R d N) (hb : Below wr.heap.size wr w') : PL w C cap w' S R d N :=
  ⟨bstep h.bel (Nat.le_refl _) hb, h.cw.below hb, h.own, h.cap⟩
theorem PL.frame {w : World} {C : Nat} {cap : Int} {wr w' : World} {S R : Nat → Prop} {d : CM} {N : Nat} (h : PL w C cap wr S R d N) (hb : Below wr.heap.size wr w') : PL w C cap w' S R d N := h.below hb
theorem PL.more {w : World} {C : Nat} {cap : Int} {wr : World} {S R : Nat → Prop} {d : CM} {N N' : Nat} (h : PL w C cap wr S R d N) (hN : N ≤ N') : PL w C cap wr S R d N' := ⟨h.bel, h.cw.more hN, h.own, h.cap⟩
theorem putF_cap (d : CM) (k : K) (l : List Chg) : (putF d k l).cap = d.cap := rfl
theorem dropF_cap (d : CM) (a b : Int) : (dropF d a b).cap = d.cap := rfl
theorem getF_cap (d : CM) (k : K) : (getF d k).1.cap = d.cap := by
  unfold getF; split <;> rfl
theorem row_flat_own {w : World} {N : Nat} {e : TypeId} {size : Nat} {A : Option Addr} {n c : Nat} {xs : List Value} (h : w.ownsRow 0 e size (.slice A n c) n xs) (ho : ∀ g, (Value.slice A n c).ownBlock = some g → N ≤ g) : Flat w (fun k => N ≤ k ∧ k < w.heap.size) A xs := by
  refine row_flat (B := N) (e := e) (size := size) (n := n) (c := c) ⟨h.1, ?_⟩
  rcases h.2 with h' | ⟨g, cap, cur, h1, h0, h2⟩
  · exact .inl h'
  · exact .inr ⟨g, cap, cur, h1, ho g (by rw [h1]; rfl), h2⟩
set_option maxRecDepth 100000 in
theorem drops_law (w : World) (n : Nat) (hn : n < 65536) (A : Option Addr) (c : Nat) (l : List OpC) (a b : Int) (hA : Ops w (fun k => k < w.heap.size) A l) (hml : l.length ≤ maxLen) : Calls Try.prog 7 #[.int .u16 (n : Int), .slice A l.length c, .int .i64 a, .int .i64 b] w fun e w' => e = .returned (.bool true) ∧ Below w.heap.size w w' := by
  have hml' := hml
  unfold maxLen at hml'
  have HA := Lib.hid hA
  clear hA
  go_enter Try.func7, Try.ntmps7
  go_wp2_with fail
  refine (awake_walk _).mono ?_; rintro e w1 ⟨rfl, hb1⟩
  have B1 := Lib.hid hb1
  have HF := Lib.hid (few41_walk w1 _ A c l 30 (HA.out.frame (w' := w1) fun k hk _ => hb1.block k hk) hml)
  clear hb1
  go_wp2_with fail
  refine (HF.out).mono ?_; rintro e _ ⟨rfl, rfl⟩
  cases hfew : fewB l 30 with
  | false =>
    go_wp2_with fail
    go_ret
    exact ⟨rfl, B1.out⟩
  | true =>
    obtain ⟨hl30, hsm⟩ := fewB_iff hfew
    have HSM := Lib.hid hsm
    clear hsm
    go_wp2_with fail
    refine (new_c w1 (n : Int) (by omega) (by omega)).mono ?_
    rintro e w2 ⟨C, S0, rfl, hb2, hc2, hs2⟩
    have hP0 : PL w C n w2 S0 (fun _ => False) ⟨n, [], 0, 0⟩ 0 := by
      refine ⟨B1.out.trans (hb2.mono B1.out.size), hc2, ?_, rfl⟩
      rintro k (hk | hk)
      · exact Nat.le_trans B1.out.size (hs2 k hk)
      · exact hk.elim
    have HP0 := Lib.hid hP0
    clear hP0 hb2 hc2 hs2
    go_wp2_with fail
    go_loopw [39] (fun i wr => ∃ (j : Nat) (S R : Nat → Prop) (d : CM), j ≤ l.length ∧ i = .int .i64 (j : Int) ∧ PL w C n wr S R d j) (fun i _ => l.length - (intOf i).toNat)
    case atStart => exact ⟨0, _, _, _, Nat.zero_le _, rfl, HP0.out⟩
    case round =>
      obtain ⟨j, S, R, d, hj, rfl, hp⟩ := hrel
      have HP := Lib.hid hp
      clear hp
      by_cases hlt : j < l.length
      · have hjl : (j : Int) < l.length := by omega
        obtain ⟨ad, rfl, ho⟩ := HA.out j hlt
        have ho := ho.frame (w' := wr) fun k hk _ => HP.out.bel.block k hk
        obtain ⟨o, hoo⟩ : ∃ o, l.getD j default = o := ⟨_, rfl⟩
        have HSm := Lib.hid (HSM.out j hlt)
        rw [hoo] at ho HSm
        have hkd := ho.kd
        have c0 := ho.c0
        have c1 := ho.c1
        have c2 := ho.c2
        have c3 := ho.c3
        have c4 := ho.c4
        have c5 := ho.c5
        have c6 := ho.c6
        have HO := Lib.hid ho
        obtain ⟨W2, hW2⟩ : ∃ W, wr.alloc (.cells (ocells o) 50) = W := ⟨_, rfl⟩
        have hX2 : W2.heap[wr.heap.size]? = some (.cells (ocells o) 50 (0, 0)) := by rw [← hW2]; exact heap_alloc_new wr _
        have hb2 : Below wr.heap.size wr W2 := by rw [← hW2]; exact (Below.refl _ _).alloc (Nat.le_refl _) _
        have HP2 := Lib.hid (HP.out.below hb2)
        have HO2 := Lib.hid (ho.frame (w' := W2) fun k _ hl => hb2.block k hl)
        obtain ⟨k0, k1, k2, k3, k4, k5, k6⟩ := ocell hX2
        have HX2l : Hid (wr.heap.size < W2.heap.size) := Lib.hid (Array.getElem?_eq_some_iff.1 hX2).1
        have HX2n : Hid (¬ S wr.heap.size) := Lib.hid fun hs => by have := HP.out.cw.lt _ (.inl hs); omega
        have HW2 := Lib.hid hW2
        clear ho hoo hX2 hb2 hW2
        go_upto_region 11 with (fail)
        rw [show wr.alloc (.cells #[.int .u8 (o.kind : Int), .int .i64 o.key.1, .int .i64 o.key.2.1, .int .i64 o.key.2.2, .slice o.lA o.list.length o.lc, .int .i64 o.from_, .int .i64 o.to_] 50) = W2 from HW2.out]
        clear c0 c1 c2 c3 c4 c5 c6
        have hlt3 : o.kind % 3 < 3 := Nat.mod_lt _ (by decide)
        by_cases hk : o.kind % 3 = 1
        · have hkk : ((o.kind : Int) % 3) = 1 := by omega
          go_upto_region 12 with (fail)
          refine wp_region_noPanic ?_
          refine wp_region_D 99 (fun w' => w'.cell? ⟨wr.heap.size, 1, none⟩ = some (.int .i64 o.key.1) ∧ w'.cell? ⟨wr.heap.size, 2, none⟩ = some (.int .i64 o.key.2.1) ∧ w'.cell? ⟨wr.heap.size, 3, none⟩ = some (.int .i64 o.key.2.2) ∧ w'.cell? ⟨wr.heap.size, 4, none⟩ = some (.slice o.lA o.list.length o.lc)) (by kernel_rfl) ⟨k1, k2, k3, k4⟩ (fun hU => ?_)
          have hC : (fun w' : World => w'.cell? ⟨wr.heap.size, 1, none⟩ = some (.int .i64 o.key.1) ∧ w'.cell? ⟨wr.heap.size, 2, none⟩ = some (.int .i64 o.key.2.1) ∧ w'.cell? ⟨wr.heap.size, 3, none⟩ = some (.int .i64 o.key.2.2) ∧ w'.cell? ⟨wr.heap.size, 4, none⟩ = some (.slice o.lA o.list.length o.lc)) W2.drew := ⟨k1, k2, k3, k4⟩
          clear hU
          refine wpAnyD_take (i := 0) (dst := some 47) (v := ?_) (fuel := 6) rfl rfl (by kernel_rfl) (fun _ _ _ h => h) (by rfl) ?_ (.inr hC) ?_
          rotate_left
          · (intro w; go_simp; try with_reducible rfl)
          simp only [Act.put, List.setIfInBounds_toArray, List.set_cons_zero, List.set_cons_succ]
          refine wpAnyD_take (i := 1) (dst := some 48) (v := ?_) (fuel := 5) rfl rfl (by kernel_rfl) (fun _ _ _ h => h) (by rfl) ?_ (.inr hC) ?_
          rotate_left
          · (intro w; go_simp; try with_reducible rfl)
          simp only [Act.put, List.setIfInBounds_toArray, List.set_cons_zero, List.set_cons_succ]
          refine wpAnyD_load (i := 2) (dst := some 49) (v := ?_) (fuel := 4) rfl rfl (by kernel_rfl) (fun _ _ _ h => h) (by rfl) ?_ (.inr hC) ?_
          rotate_left
          · intro w hSw
            try dsimp only at hSw
            go_simp
            try with_reducible rfl
          simp only [Act.put, List.setIfInBounds_toArray, List.set_cons_zero, List.set_cons_succ]
          refine wpAnyD_take (i := 4) (dst := some 51) (v := ?_) (fuel := 3) rfl rfl (by kernel_rfl) (fun _ _ _ h => h) (by rfl) ?_ (.inr hC) ?_
          rotate_left
          · (intro w; go_simp; try with_reducible rfl)
          simp only [Act.put, List.setIfInBounds_toArray, List.set_cons_zero, List.set_cons_succ]
          refine wpAnyD_load (i := 5) (dst := some 52) (v := ?_) (fuel := 2) rfl rfl (by kernel_rfl) (fun _ _ _ h => h) (by rfl) ?_ (.inr hC) ?_
          rotate_left
          · intro w hSw
            try dsimp only at hSw
            go_simp
            try with_reducible rfl
          simp only [Act.put, List.setIfInBounds_toArray, List.set_cons_zero, List.set_cons_succ]
          refine wpAnyD_ready (fuel := 1) (rs := [3]) (by kernel_rfl) (by simp) ?_
          refine AllReadyD.cons (o := _) rfl (fun K hK => ?_) ?_
          · go_simp
            go_at_call 19
            have hkw := key_walk W2.drew o.key
            unfold kv at hkw
            with_reducible refine hkw.mono ?_
            rintro e w3 ⟨rfl, hb3⟩
            have hb3 : Below W2.heap.size W2 w3 := ((Below.refl _ W2).drew).trans hb3
            have HB3 := Lib.hid hb3
            have hP3 := HP2.out.below hb3
            have HP3 := Lib.hid hP3
            clear hb3 hP3 hkw
            go_simp
            refine shut_C hK ?_ (fun hC => ?_)
            · first
              | exact ⟨k1, k2, k3, k4⟩
              | exact ⟨(World.cell?_of_block (HT4.out.block _ HX2l.out HX2n.out)).trans k1, (World.cell?_of_block (HT4.out.block _ HX2l.out HX2n.out)).trans k2, (World.cell?_of_block (HT4.out.block _ HX2l.out HX2n.out)).trans k3, (World.cell?_of_block (HT4.out.block _ HX2l.out HX2n.out)).trans k4⟩
              | exact ⟨(World.cell?_of_block (HB3.out.block _ HX2l.out)).trans k1, (World.cell?_of_block (HB3.out.block _ HX2l.out)).trans k2, (World.cell?_of_block (HB3.out.block _ HX2l.out)).trans k3, (World.cell?_of_block (HB3.out.block _ HX2l.out)).trans k4⟩
            clear hK K
            try simp only [Act.put, List.setIfInBounds_toArray, List.set_cons_zero, List.set_cons_succ]
            refine wpAnyD_ready (fuel := 0) (rs := [6]) (by kernel_rfl) (by simp) ?_
            refine AllReadyD.cons (o := _) rfl (fun K hK => ?_) ?_
            · go_simp
              go_at_call 14
              have hput := put_c HP3.out.cw (by omega) o.key HO.out.wf (fun k => k < w.heap.size) o.lA o.lc o.list ((HO2.out.ls).frame fun k hk hl => HB3.out.block k hl) (fun k hk hs => by have := HP3.out.own k (.inl hs); omega) HSm.out
              unfold kv at hput
              with_reducible refine hput.mono ?_
              rintro e w4 ⟨S', R', rfl, hx4, hc4⟩
              have HT4 : Hid (Touch S W2 w4) := Lib.hid ((Touch.of_below HB3.out).trans hx4.touch fun _ _ h => h)
              have HP4 := Lib.hid (HP3.out.next hx4 hc4 (putF_cap _ _ _))
              clear hx4 hc4 hput
              go_simp
              refine shut_C hK ?_ (fun hC => ?_)
              · first
                | exact ⟨k1, k2, k3, k4⟩
                | exact ⟨(World.cell?_of_block (HT4.out.block _ HX2l.out HX2n.out)).trans k1, (World.cell?_of_block (HT4.out.block _ HX2l.out HX2n.out)).trans k2, (World.cell?_of_block (HT4.out.block _ HX2l.out HX2n.out)).trans k3, (World.cell?_of_block (HT4.out.block _ HX2l.out HX2n.out)).trans k4⟩
                | exact ⟨(World.cell?_of_block (HB3.out.block _ HX2l.out)).trans k1, (World.cell?_of_block (HB3.out.block _ HX2l.out)).trans k2, (World.cell?_of_block (HB3.out.block _ HX2l.out)).trans k3, (World.cell?_of_block (HB3.out.block _ HX2l.out)).trans k4⟩
              clear hK K
              try simp only [Act.put, List.setIfInBounds_toArray, List.set_cons_zero, List.set_cons_succ]
              refine wpAnyD_done (by kernel_rfl) ?_ _
              refine NoPanic.normal ?_
              go_wp2_with fail
              go_roundw
              case rel => exact ⟨j + 1, S', R', _, by omega, by go_num, HP4.out⟩
              case measure => simp [intOf]; omega
            exact AllReadyD.nil
          exact AllReadyD.nil
        · have hkk : ((o.kind : Int) % 3) ≠ 1 := by omega
          go_wp2_with fail
          go_roundw
          case rel => exact ⟨j + 1, S, R, _, by omega, by go_num, HP2.out.more (by omega)⟩
          case measure => simp [intOf]; omega
      · obtain rfl : j = l.length := by omega
        have hlen := HP.out.cw.len
        obtain ⟨WA, hWA⟩ : ∃ W, wr = W := ⟨_, rfl⟩
        subst hWA
        have HKc := Lib.hid (keys_c HP.out.cw (by omega))
        go_wp2_with fail
        refine (HKc.out).mono ?_
        rintro e w3 ⟨A1, q1, rfl, hf1, hb3⟩
        have el : (keys d.items).length = d.items.length := by simp [keys]
        have HP3 := Lib.hid (HP.out.below hb3)
        have HF1 := Lib.hid hf1
        have HB3 := Lib.hid hb3
        clear hf1 hb3
        go_wp2_with fail
        go_loopw [59, 13] (fun i v wr => ∃ j : Nat, j ≤ d.items.length ∧ i = .int .i64 (j : Int) ∧ Below w3.heap.size w3 wr ∧ wr.ownsRow 0 33 3 v (keepKs a b ((keys d.items).take j)).length (kscells (keepKs a b ((keys d.items).take j))) ∧ ∀ g, v.ownBlock = some g → w3.heap.size ≤ g) (fun i _ _ => d.items.length - (intOf i).toNat)
        case atStart => exact ⟨0, Nat.zero_le _, rfl, Below.refl _ _, World.ownsRow_nil _ _ _ _, fun g hg => by cases hg⟩
        case round =>
          obtain ⟨j, hj, rfl, hb, hro, hown⟩ := hrel
          have HB := Lib.hid hb
          have HRo := Lib.hid hro
          have HOw := Lib.hid hown
          clear hb hro hown
          have hkl : (keepKs a b ((keys d.items).take j)).length ≤ j := Nat.le_trans (List.length_filter_le _ _) (by rw [List.length_take]; omega)
          by_cases hlt2 : j < d.items.length
          · have hjl : (j : Int) < d.items.length := by omega
            obtain ⟨k, hk⟩ : ∃ k, (keys d.items)[j]? = some k := ⟨_, List.getElem?_eq_getElem (by omega)⟩
            obtain ⟨a1, rfl, _, k0, k1, k2⟩ := keys_cells (HF1.out.frame (w' := wr) fun k hk hl => HB.out.block k hl) hk
            have HK := Lib.hid hk
            obtain ⟨W5, hW5⟩ : ∃ W, wr.alloc (.cells #[.int .i64 k.1, .int .i64 k.2.1, .int .i64 k.2.2] 33) = W := ⟨_, rfl⟩
            have hx5 : Box W5 wr.heap.size k := by rw [← hW5]; exact heap_alloc_new wr _
            have hb5 : Below wr.heap.size wr W5 := by rw [← hW5]; exact (Below.refl _ _).alloc (Nat.le_refl _) _
            have hro5 := row_of HRo.out (w' := W5) fun g hg => hb5.block g (HRo.out.lt g hg).2
            have HB5 := Lib.hid (HB.out.trans (hb5.mono HB.out.size))
            have HRo5 := Lib.hid hro5
            have HW5 := Lib.hid hW5
            obtain ⟨y0, y1, y2⟩ := hx5.cells
            clear hk hx5 hb5 hro5 hW5
            go_upto_region 19 with (fail)
            rw [HW5.out]
            clear k0 k1 k2
            by_cases hh : hitK a b k = true
            · have hh' : max k.1 a < min k.2.1 b := by unfold hitK at hh; exact of_decide_eq_true hh
              have g1 : a < b := by omega
              have g2 : k.1 < k.2.1 := by omega
              go_wp2_with fail
              all_goals
                go_roundw
                case rel => exact ⟨j + 1, by omega, by go_num, HB5.out, by rw [keep_take HK.out, if_pos hh, List.append_nil]; exact HRo5.out, HOw.out⟩
                case measure => simp [intOf]; omega
            · have hh' : ¬ (max k.1 a < min k.2.1 b) := by unfold hitK at hh; simpa using hh
              obtain ⟨v6, w6, hrun, hr6, hg6, hb6⟩ := push_key (W5.alloc (.cells #[.int .i64 k.1, .int .i64 k.2.1, .int .i64 k.2.2] 33)) _ _ _ (row_of HRo5.out fun g hg => Below.heap_alloc W5 _ g (HRo5.out.lt g hg).2) (by omega) W5.heap.size k (heap_alloc_new W5 _)
              have hb56 : Below w3.heap.size w3 w6 := (HB5.out.alloc HB5.out.size _).grown hg6 (by have := HB5.out.size; simp; omega) (fun g hg => HOw.out g hg)
              have HRel : Hid (Below w3.heap.size w3 w6 ∧ w6.ownsRow 0 33 3 v6 (keepKs a b ((keys d.items).take (j + 1))).length (kscells (keepKs a b ((keys d.items).take (j + 1)))) ∧ ∀ g, v6.ownBlock = some g → w3.heap.size ≤ g) := Lib.hid (by
                refine ⟨hb56, ?_, fun g hg => ?_⟩
                · rw [keep_take HK.out, if_neg hh]; simpa using hr6
                · rcases hb6 with h | ⟨h, _⟩
                  · exact HOw.out g (h ▸ hg)
                  · rw [h] at hg; injection hg with hg; have := HB5.out.size; simp at hg; omega)
              have HRUN := Lib.hid hrun
              clear hrun hr6 hg6 hb6 hb56
              by_cases g1 : a < b
              · by_cases g2 : k.1 < k.2.1
                · go_upto_region 20 with (fail)
                  all_goals
                    go_wp2_with (at_builtin; refine wpList_append_eq rfl _ _ _ rfl _ _ rfl rfl HRUN.out ?_)
                    go_roundw
                    case rel => exact ⟨j + 1, by omega, by go_num, HRel.out⟩
                    case measure => simp [intOf]; omega
                · go_upto_region 20 with (fail)
                  go_wp2_with (at_builtin; refine wpList_append_eq rfl _ _ _ rfl _ _ rfl rfl HRUN.out ?_)
                  go_roundw
                  case rel => exact ⟨j + 1, by omega, by go_num, HRel.out⟩
                  case measure => simp [intOf]; omega
              · go_upto_region 20 with (fail)
                go_wp2_with (at_builtin; refine wpList_append_eq rfl _ _ _ rfl _ _ rfl rfl HRUN.out ?_)
                go_roundw
                case rel => exact ⟨j + 1, by omega, by go_num, HRel.out⟩
                case measure => simp [intOf]; omega
          · obtain rfl : j = d.items.length := by omega
            obtain ⟨A13, c13, rfl⟩ := row_sl HRo.out
            have hfw := row_flat_own HRo.out HOw.out
            rw [← el, List.take_length, ← keys_dropI] at hfw HRo hkl ⊢
            obtain ⟨ks, hks⟩ : ∃ ks, keys (dropI a b d.items) = ks := ⟨_, rfl⟩
            have hkm : ks.length = (dropI a b d.items).length := by rw [← hks]; simp [keys]
            rw [hks] at hfw HRo hkl ⊢
            have hml2 : (dropI a b d.items).length ≤ d.items.length := (dropI_sub a b d.items).length_le
            obtain ⟨WB, hWB⟩ : ∃ W, wr = W := ⟨_, rfl⟩
            subst hWB
            have HP4 := Lib.hid (HP3.out.frame HB.out)
            have HDr := Lib.hid (drop_c HP4.out.cw (by omega) a b)
            have HFw := Lib.hid hfw
            clear hfw
            go_wp2_with fail
            refine (HDr.out).mono ?_
            rintro e w5 ⟨rfl, hx5, hc5⟩
            have HP5 := Lib.hid (HP4.out.next hx5 hc5 (dropF_cap _ _ _))
            have HFw5 := Lib.hid (HFw.out.frame (w' := w5) fun k hk hl => hx5.touch.block k hl fun hs => by have := HP3.out.cw.lt k (.inl hs); omega)
            have HKc2 := Lib.hid (keys_c hc5 (by omega))
            have HZ5 := Lib.hid hx5.touch.size
            clear hx5 hc5
            go_wp2_with fail
            refine (HKc2.out).mono ?_
            rintro e w6 ⟨A2, q2, rfl, hf2, hb6⟩
            have hf2 : Flat w6 (fun k => w5.heap.size ≤ k ∧ k < w6.heap.size) A2 (kscells ks) := by rw [← hks]; exact hf2
            have HP6 := Lib.hid (HP5.out.below hb6)
            have hdr := drop_c HP6.out.cw (by omega) a b
            rw [show dropI a b (dropF d a b).items = (dropF d a b).items from dropI_twice a b d.items, Nat.sub_self] at hdr
            have HDr2 := Lib.hid hdr
            have HFw6 := Lib.hid (HFw5.out.frame (w' := w6) fun k hk hl => hb6.block k hl)
            have HF2 := Lib.hid hf2
            clear hb6 hf2 hdr
            go_upto_region 24 with (fail)
            go_wp2_with fail
            refine (HDr2.out).mono ?_
            rintro e w7 ⟨rfl, hx7, hc7⟩
            have HP7 := Lib.hid (HP6.out.next hx7 hc7 (dropF_cap _ _ _))
            have HFw7 := Lib.hid (HFw6.out.frame (w' := w7) fun k hk hl => hx7.touch.block k hl fun hs => by have := HP3.out.cw.lt k (.inl hs); omega)
            have HF7 := Lib.hid (HF2.out.frame (w' := w7) fun k hk hl => hx7.touch.block k hl fun hs => by have := HP5.out.cw.lt k (.inl hs); omega)
            clear hx7 hc7
            go_wp2_with fail
            go_loopw [118, 19] (fun i _ wr => ∃ j : Nat, j ≤ (dropI a b d.items).length ∧ i = .int .i64 (j : Int) ∧ Below w7.heap.size w7 wr) (fun i _ _ => (dropI a b d.items).length - (intOf i).toNat)
            case atStart => exact ⟨0, Nat.zero_le _, rfl, Below.refl _ _⟩
            case round =>
              obtain ⟨j, hj, rfl, hb⟩ := hrel
              have HB8 := Lib.hid hb
              clear hb
              by_cases hlt3 : j < (dropI a b d.items).length
              · have hjl : (j : Int) < (dropI a b d.items).length := by omega
                obtain ⟨k, hk⟩ : ∃ k, ks[j]? = some k := ⟨_, List.getElem?_eq_getElem (by omega)⟩
                obtain ⟨a1, rfl, _, k0, k1, k2⟩ := keys_cells (HF7.out.frame (w' := wr) fun k hk hl => HB8.out.block k hl) hk
                obtain ⟨a2, rfl, _, p0, p1, p2⟩ := keys_cells (HFw7.out.frame (w' := wr) fun k hk hl => HB8.out.block k hl) hk
                have hne := fun W => ne33 k k W
                simp only [ne_eq, not_true_eq_false, decide_false] at hne
                unfold kv at hne
                go_wp2_with fail
                go_quiet (fail)
                go_wp2_with fail
                go_roundw
                case rel => exact ⟨j + 1, by omega, by go_num, below_drewN HB8.out _⟩
                case measure => simp [intOf]; omega
              · obtain rfl : j = (dropI a b d.items).length := by omega
                go_wp2_with fail
                go_ret
                exact ⟨rfl, bstep HP7.out.bel (Nat.le_refl _) HB8.out⟩
section
variable {H : Type} {enc : TypeId × Value → H} {w : World} {base b0 : Nat} {held : Bool}
theorem u16_of {m : Int} (h : (Lit.int .u16 m).wf = true) : ∃ n : Nat, m = (n : Int) ∧ n < 65536 := by
  have h' : 0 ≤ m ∧ m < 65536 := by
    simp [Lit.wf, IntKind.min, IntKind.max, IntKind.signed, IntKind.bits] at h; omega
  exact ⟨m.toNat, by omega, by omega⟩
theorem drops_in (a0 : Int) (h0 : (Lit.int .u16 a0).wf = true) {d1 : DataW H} {p1 : List MemPlace} (v1 : Value) (h1 : DataW.Trod enc Try.prog w base (fun _ => true) held 45 v1 d1 p1) (hv1 : Value.okWide Try.prog w .any b0 45 v1)
    (a2 : Int) (_ : (Lit.int .i64 a2).wf = true) (a3 : Int) (_ : (Lit.int .i64 a3).wf = true) :
    Calls Try.prog 7 #[.int .u16 a0, v1, .int .i64 a2, .int .i64 a3] w fun e w' => e = .returned (.bool true) ∧ Below w.heap.size w w' := by
  obtain ⟨n, rfl, hn⟩ := u16_of h0
  obtain ⟨A, c, l, rfl, hml, hA⟩ := open_ops hv1 h1
  exact drops_law w n hn A c l a2 a3 hA hml
end
end Go.Proofs.Ytphckenihkgoeaa
