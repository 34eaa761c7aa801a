import Derived.Test.YtphckenihkgoeaaWs
namespace Go.Proofs.Ytphckenihkgoeaa
set_option linter.unusedSimpArgs false
set_option linter.unnecessarySimpa false
set_option linter.unusedVariables false
open Go.RowKit Go.ChangeShapes Go.WideShapes Go.ChangeAt
attribute [local go_sem ↓] Go.wp_at_zero Go.wp_at_succ

/-! what a Put leaves, plain -/
theorem lookI_not : ∀ {l : Items} {k : K}, k ∉ keys l → lookI l k = none
  | [], _, _ => rfl
  | p :: l, k, h => by
    have h' : k ≠ p.1 ∧ k ∉ keys l := by simpa [keys] using h
    unfold lookI
    rw [if_neg (Ne.symm h'.1), lookI_not h'.2]
theorem lookI_snoc : ∀ {l : Items} {k : K} {c : List Chg}, k ∉ keys l → lookI (l ++ [(k, c)]) k = some c
  | [], _, _, _ => by simp [lookI]
  | p :: l, k, c, h => by
    have h' : k ≠ p.1 ∧ k ∉ keys l := by simpa [keys] using h
    show (if p.1 = k then some p.2 else lookI (l ++ [(k, c)]) k) = some c
    rw [if_neg (Ne.symm h'.1), lookI_snoc h'.2]
theorem fitI_last {cap : Int} {y : K × List Chg} (hy : weight y.2 ≤ cap) : ∀ l : Items, ∃ z, fitI cap (l ++ [y]) = z ++ [y] ∧ z.Sublist l
  | [] => ⟨[], by
      have : ¬ cap < tot [y] := by simp [tot]; omega
      simp [fitI, this], .slnil⟩
  | p :: l => by
    show ∃ z, (if cap < tot (p :: (l ++ [y])) then fitI cap (l ++ [y]) else p :: (l ++ [y])) = z ++ [y] ∧ z.Sublist (p :: l)
    split
    · obtain ⟨z, h1, h2⟩ := fitI_last hy l
      exact ⟨z, h1, h2.cons p⟩
    · exact ⟨p :: l, rfl, List.Sublist.refl _⟩
theorem put_look (d : CM) (k : K) (l : List Chg) : (getF (putF d k l) k).2.2 = decide (weight l ≤ d.cap) := by
  have e : lookI (putF d k l).items k = if weight l ≤ d.cap then some l else none := by
    unfold putF
    by_cases h : d.cap < weight l
    · simp only [h, if_true]
      rw [if_neg (by omega)]
      exact lookI_not (not_delI _ _)
    · simp only [h, if_false]
      rw [if_pos (by omega)]
      obtain ⟨z, h1, h2⟩ := fitI_last (cap := d.cap) (y := (k, l)) (by show weight l ≤ d.cap; omega) (delI d.items k)
      rw [h1]
      exact lookI_snoc fun hm => not_delI d.items k ((h2.map _).subset hm)
  unfold getF
  rw [e]
  by_cases h : weight l ≤ d.cap <;> simp [h]
theorem put_mem {d : CM} {k : K} {l : List Chg} {p : K × List Chg} (h : p ∈ (putF d k l).items) : (p ∈ d.items ∧ p.1 ≠ k) ∨ p = (k, l) := by
  unfold putF at h
  by_cases hc : d.cap < weight l
  · simp only [hc, if_true] at h
    exact .inl (mem_delI h)
  · simp only [hc, if_false] at h
    have := (fitI_suf _ _).subset h
    rcases List.mem_append.1 this with h | h
    · exact .inl (mem_delI h)
    · exact .inr (List.mem_singleton.1 h)
theorem get_mem {d : CM} {k : K} {p : K × List Chg} (h : p ∈ (getF d k).1.items) : p ∈ d.items := by
  unfold getF at h
  cases hk : lookI d.items k with
  | none => rw [hk] at h; exact h
  | some l =>
    rw [hk] at h
    rcases List.mem_append.1 h with h | h
    · exact (mem_delI h).1
    · rw [List.mem_singleton.1 h]; exact lookI_some hk
/-- the loop of the operations -/
structure LL (w : World) (C M : Nat) (cap : Int) (wr : World) (S R : Nat → Prop) (d : CM) (N : Nat) (f : K → Option Value) : Prop where
  pl : PL w C cap wr S R d N
  mp : MapF wr M f
  mn : ¬ S M ∧ ¬ R M ∧ w.heap.size ≤ M
  inv : ∀ p ∈ d.items, ∃ A c, f p.1 = some (.slice A p.2.length c) ∧ Chgs w (fun k => k < w.heap.size) A p.2
section
variable {w : World} {C M : Nat} {cap : Int} {wr w' : World} {S R S' R' : Nat → Prop} {d d' : CM} {N N' : Nat} {f : K → Option Value}
theorem LL.next (h : LL w C M cap wr S R d N f) (hx : Nx S R S' R' wr w') (hc : Cw S' R' C d' w' N') (hd : d'.cap = d.cap) (hi : ∀ p ∈ d'.items, ∃ A c, f p.1 = some (.slice A p.2.length c) ∧ Chgs w (fun k => k < w.heap.size) A p.2) : LL w C M cap w' S' R' d' N' f := by
  have hl := h.mp.lt
  exact ⟨h.pl.next hx hc hd, h.mp.of_heap (hx.touch.block M hl h.mn.1), ⟨fun hs => (hx.s M hs).elim h.mn.1 fun h => by omega, fun hs => (hx.r M hs).elim h.mn.2.1 fun h => by omega, h.mn.2.2⟩, hi⟩
theorem LL.below (h : LL w C M cap wr S R d N f) (hb : Below wr.heap.size wr w') : LL w C M cap w' S R d N f :=
  ⟨h.pl.below hb, h.mp.of_heap (hb.block M h.mp.lt), h.mn, h.inv⟩
theorem LL.more (h : LL w C M cap wr S R d N f) (hN : N ≤ N') : LL w C M cap wr S R d N' f := ⟨h.pl.more hN, h.mp, h.mn, h.inv⟩
theorem LL.put (h : LL w C M cap wr S R d N f) (hx : Nx S R S' R' wr w') (hc : Cw S' R' C d' w' N') (hd : d'.cap = d.cap) (o : Obj) {g : K → Option Value} (hm : MapF (mset w' M o) M g) (hi : ∀ p ∈ d'.items, ∃ A c, g p.1 = some (.slice A p.2.length c) ∧ Chgs w (fun k => k < w.heap.size) A p.2) : LL w C M cap (mset w' M o) S' R' d' N' g := by
  have hl := h.mp.lt
  have hp := h.pl.next hx hc hd
  have hS : ¬ S' M := fun hs => (hx.s M hs).elim h.mn.1 fun h => by omega
  have hR : ¬ R' M := fun hs => (hx.r M hs).elim h.mn.2.1 fun h => by omega
  refine ⟨⟨mset_below hp.bel h.mn.2.2 o, hp.cw.frame (by rw [mset_size]; exact Nat.le_refl _) fun k hk _ => mset_far o fun e => ?_, hp.own, hp.cap⟩, hm, ⟨hS, hR, h.mn.2.2⟩, hi⟩
  subst e
  exact hk.elim hS hR
end
set_option maxRecDepth 100000 in
theorem last_law (w : World) (n : Nat) (hn : n < 65536) (A : Option Addr) (c : Nat) (l : List OpC) (hA : Ops w (fun k => k < w.heap.size) A l) (hml : l.length ≤ maxLen) : Calls Try.prog 6 #[.int .u16 (n : Int), .slice A l.length c] w fun e w' => e = .returned (.bool true) ∧ Below w.heap.size w w' := by
  have hml' := hml
  unfold maxLen at hml'
  have HA := Lib.hid hA
  clear hA
  go_enter Try.func6, Try.ntmps6
  go_wp2_with fail
  refine (awake_walk _).mono ?_; rintro e w1 ⟨rfl, hb1⟩
  have B1 := Lib.hid hb1
  have HF := Lib.hid (few41_walk w1 _ A c l 40 (HA.out.frame (w' := w1) fun k hk _ => hb1.block k hk) hml)
  clear hb1
  go_wp2_with fail
  refine (HF.out).mono ?_; rintro e _ ⟨rfl, rfl⟩
  cases hfew : fewB l 40 with
  | false =>
    go_wp2_with fail
    go_ret
    exact ⟨rfl, B1.out⟩
  | true =>
    obtain ⟨hl40, hsm⟩ := fewB_iff hfew
    have HSM := Lib.hid hsm
    clear hsm
    go_wp2_with fail
    refine (new_c w1 (n : Int) (by omega) (by omega)).mono ?_
    rintro e w2 ⟨C, S0, rfl, hb2, hc2, hs2⟩
    have hP0 : PL w C n w2 S0 (fun _ => False) ⟨n, [], 0, 0⟩ 0 := by
      refine ⟨B1.out.trans (hb2.mono B1.out.size), hc2, ?_, rfl⟩
      rintro k (hk | hk)
      · exact Nat.le_trans B1.out.size (hs2 k hk)
      · exact hk.elim
    have HL0 : Hid (LL w C w2.heap.size n (w2.alloc (.map #[] 0)) S0 (fun _ => False) ⟨n, [], 0, 0⟩ 0 (fun _ => none)) := Lib.hid
      ⟨hP0.below ((Below.refl _ _).alloc (Nat.le_refl _) _), mapF_new w2, ⟨fun h => by have := hc2.lt _ (.inl h); omega, fun h => h, hP0.bel.size⟩, fun p hp => by cases hp⟩
    have hmk : (Instr.makeMap 47 none).run Try.prog w2 = .ok (.map (some w2.heap.size)) (w2.alloc (.map #[] 0)) := by simp [Instr.makeMap, Result.andThen]
    clear hP0 hb2 hc2 hs2
    go_wp2_with fail
    go_loopw [35] (fun i wr => ∃ (j : Nat) (S R : Nat → Prop) (d : CM) (f : K → Option Value), j ≤ l.length ∧ i = .int .i64 (j : Int) ∧ LL w C w2.heap.size n wr S R d (2 * j) f) (fun i _ => l.length - (intOf i).toNat)
    case atStart => exact ⟨0, _, _, _, _, Nat.zero_le _, rfl, HL0.out⟩
    case round =>
      obtain ⟨j, S, R, d, f, hj, rfl, hp⟩ := hrel
      have HP := Lib.hid hp
      clear hp
      by_cases hlt : j < l.length
      · have hjl : (j : Int) < l.length := by omega
        obtain ⟨ad, rfl, ho⟩ := HA.out j hlt
        obtain ⟨o, hoo⟩ : ∃ o, l.getD j default = o := ⟨_, rfl⟩
        have HSm := Lib.hid (HSM.out j hlt)
        rw [hoo] at ho HSm
        have HO0 := Lib.hid ho
        have ho := ho.frame (w' := wr) fun k hk _ => HP.out.pl.bel.block k hk
        have hkd := ho.kd
        have c0 := ho.c0
        have c1 := ho.c1
        have c2 := ho.c2
        have c3 := ho.c3
        have c4 := ho.c4
        have c5 := ho.c5
        have c6 := ho.c6
        obtain ⟨W2, hW2⟩ : ∃ W, wr.alloc (.cells (ocells o) 50) = W := ⟨_, rfl⟩
        have hX2 : W2.heap[wr.heap.size]? = some (.cells (ocells o) 50 (0, 0)) := by rw [← hW2]; exact heap_alloc_new wr _
        have hb2 : Below wr.heap.size wr W2 := by rw [← hW2]; exact (Below.refl _ _).alloc (Nat.le_refl _) _
        have HP2 := Lib.hid (HP.out.below hb2)
        obtain ⟨k0, k1, k2, k3, k4, k5, k6⟩ := ocell hX2
        have HX2n : Hid (¬ S wr.heap.size) := Lib.hid fun hs => by have := HP.out.pl.cw.lt _ (.inl hs); omega
        have HX2 := Lib.hid hX2
        have HW2 := Lib.hid hW2
        clear ho hoo hX2 hb2 hW2
        go_upto_region 12 with (fail)
        rw [show wr.alloc (.cells #[.int .u8 (o.kind : Int), .int .i64 o.key.1, .int .i64 o.key.2.1, .int .i64 o.key.2.2, .slice o.lA o.list.length o.lc, .int .i64 o.from_, .int .i64 o.to_] 50) = W2 from HW2.out]
        clear c0 c1 c2 c3 c4 c5 c6 k0 k4 k5 k6
        have hkw := key_walk W2 o.key
        unfold kv at hkw
        go_wp2_with fail
        refine hkw.mono ?_
        rintro e w3 ⟨rfl, hb3⟩
        obtain ⟨W4, hW4⟩ : ∃ W, w3.alloc (.cells #[.int .i64 o.key.1, .int .i64 o.key.2.1, .int .i64 o.key.2.2] 33) = W := ⟨_, rfl⟩
        have hb4 : Below w3.heap.size w3 W4 := by rw [← hW4]; exact (Below.refl _ _).alloc (Nat.le_refl _) _
        have hX4 := (hb4.block _ (Nat.lt_of_lt_of_le (Array.getElem?_eq_some_iff.1 HX2.out).1 hb3.size)).trans ((hb3.block _ (Array.getElem?_eq_some_iff.1 HX2.out).1).trans HX2.out)
        have hK4 : Box W4 w3.heap.size o.key := by rw [← hW4]; exact heap_alloc_new w3 _
        have HP4 := Lib.hid ((HP2.out.below hb3).below hb4)
        have HK4n : Hid (¬ S w3.heap.size) := Lib.hid fun hs => by have := (HP2.out.below hb3).pl.cw.lt _ (.inl hs); omega
        have HB3s : Hid (W2.heap.size ≤ w3.heap.size) := Lib.hid hb3.size
        have HX4 := Lib.hid hX4
        have HK4 := Lib.hid hK4
        have HW4 := Lib.hid hW4
        clear hkw k1 k2 k3 hb3 hb4 hX4 hK4 hW4
        obtain ⟨k0, k1, k2, k3, k4, k5, k6⟩ := ocell HX4.out
        obtain ⟨y0, y1, y2⟩ := HK4.out.cells
        go_upto_region 13 with (fail)
        rw [HW4.out]
        have hlt3 : o.kind % 3 < 3 := Nat.mod_lt _ (by decide)
        rcases (by omega : o.kind % 3 = 0 ∨ o.kind % 3 = 1 ∨ o.kind % 3 = 2) with hk | hk | hk
        · have hkk : ((o.kind : Int) % 3) = 0 := by omega
          have hget := get_c HP4.out.pl.cw (by omega) o.key HO0.out.wf
          cases hlk : lookI d.items o.key with
          | none =>
            rw [show getF d o.key = ({ d with misses := d.misses + 1 }, [], false) by unfold getF; rw [hlk]] at hget
            have HG := Lib.hid hget
            unfold kv at HG
            clear hget
            go_wp2_with fail
            refine (HG.out).mono ?_
            rintro e w5 ⟨S5, A5, q5, rfl, hx5, hc5, _, _⟩
            have HP5 := Lib.hid (HP4.out.next hx5 hc5 rfl fun p hp => HP4.out.inv p hp)
            have HT5 := Lib.hid (total_c hc5)
            have hfit := hc5.fit
            have hfit : tot d.items ≤ n := by have := HP4.out.pl.cap; rw [← this]; exact hfit
            clear hx5 hc5
            go_wp2_with fail
            refine (HT5.out).mono ?_
            rintro e _ ⟨rfl, rfl⟩
            go_wp2_with fail
            go_roundw
            case rel => exact ⟨j + 1, S5, R, _, _, by omega, by go_num, HP5.out.more (by omega)⟩
            case measure => simp [intOf]; omega
          | some ls =>
            rw [show getF d o.key = ({ d with items := delI d.items o.key ++ [(o.key, ls)], hits := d.hits + 1 }, ls, true) by unfold getF; rw [hlk]] at hget
            have HG := Lib.hid hget
            unfold kv at HG
            have hmm : ∀ p ∈ delI d.items o.key ++ [(o.key, ls)], p ∈ d.items := fun p hp => by
              have := get_mem (d := d) (k := o.key) (p := p)
              unfold getF at this
              rw [hlk] at this
              exact this hp
            obtain ⟨Al, ql, hfl, hcl⟩ := HP4.out.inv (o.key, ls) (lookI_some hlk)
            have hfl : f o.key = some (.slice Al ls.length ql) := hfl
            have HCl := Lib.hid hcl
            have hsl := (HP4.out.pl.cw.good.small (o.key, ls) (lookI_some hlk)).1
            have hsl : ls.length ≤ 1000 := hsl
            clear hget hcl hlk
            go_wp2_with fail
            refine (HG.out).mono ?_
            rintro e w5 ⟨S5, A5, q5, rfl, hx5, hc5, hch5, _⟩
            have HP5 := Lib.hid (HP4.out.next hx5 hc5 rfl fun p hp => HP4.out.inv p (hmm p hp))
            have hK5 : Box w5 w3.heap.size o.key := (hx5.touch.block _ (Array.getElem?_eq_some_iff.1 HK4.out).1 HK4n.out).trans HK4.out
            have hlk := mapF_look (t := 47) HP5.out.mp HO0.out.wf Try.underlying47 hfl false
            simp only [Bool.false_eq_true, if_false] at hlk
            unfold kv at hlk
            have HSame := Lib.hid (same_walk w5 _ (fun k => k < w.heap.size) A5 Al q5 ql ls hch5 (HCl.out.frame (w' := w5) fun k hk _ => HP5.out.pl.bel.block k hk) (by unfold maxLen; omega))
            have hfit := hc5.fit
            have hcap : d.cap = n := HP4.out.pl.cap
            clear hx5 hc5 hch5 y0 y1 y2
            obtain ⟨y0, y1, y2⟩ := hK5.cells
            clear hK5
            go_wp2_with fail
            refine (HSame.out).mono ?_
            rintro e w6 ⟨rfl, hb6⟩
            have HP6 := Lib.hid (HP5.out.below hb6)
            have HT6 := Lib.hid (total_c HP6.out.pl.cw)
            have hfit : tot (delI d.items o.key ++ [(o.key, ls)]) ≤ n := by rw [← hcap]; exact hfit
            clear hb6 hlk y0 y1 y2
            go_wp2_with fail
            refine (HT6.out).mono ?_
            rintro e _ ⟨rfl, rfl⟩
            go_wp2_with fail
            go_roundw
            case rel => exact ⟨j + 1, S5, R, _, _, by omega, by go_num, HP6.out.more (by omega)⟩
            case measure => simp [intOf]; omega
        · have hkk : ((o.kind : Int) % 3) = 1 := by omega
          have hput := put_c HP4.out.pl.cw (by omega) o.key HO0.out.wf (fun k => k < w.heap.size) o.lA o.lc o.list (HO0.out.ls.frame (w' := W4) fun k hk _ => HP4.out.pl.bel.block k hk) (fun k hk hs => by have := HP4.out.pl.own k (.inl hs); omega) HSm.out
          have HPut := Lib.hid hput
          unfold kv at HPut
          have hXM : wr.heap.size ≠ w2.heap.size := by have := HP.out.mp.lt; omega
          have hKM : w3.heap.size ≠ w2.heap.size := by have := HP2.out.mp.lt; have := HP4.out.mp.lt; have := (HP.out.mp.lt); have hh := (Array.getElem?_eq_some_iff.1 HX2.out).1; have h3 := HB3s.out; omega
          clear hput
          go_wp2_with fail
          refine (HPut.out).mono ?_
          rintro e w5 ⟨S5, R5, rfl, hx5, hc5⟩
          have hX5 := (hx5.touch.block _ (Array.getElem?_eq_some_iff.1 HX4.out).1 HX2n.out).trans HX4.out
          have hK5 : Box w5 w3.heap.size o.key := (hx5.touch.block _ (Array.getElem?_eq_some_iff.1 HK4.out).1 HK4n.out).trans HK4.out
          have hmp5 : MapF w5 w2.heap.size f := HP4.out.mp.of_heap (hx5.touch.block w2.heap.size HP4.out.mp.lt HP4.out.mn.1)
          obtain ⟨ob, hup, hF⟩ := mapF_upd (t := 47) hmp5 HO0.out.wf Try.underlying47 (.slice o.lA o.list.length o.lc)
          unfold kv at hup
          have HP6 := Lib.hid (HP4.out.put hx5 hc5 (putF_cap _ _ _) ob hF (fun p hp => by
            rcases put_mem hp with ⟨h1, h2⟩ | rfl
            · unfold upd
              rw [if_neg h2]
              exact HP4.out.inv p h1
            · exact ⟨o.lA, o.lc, by simp [upd], HO0.out.ls⟩))
          have HX6n : Hid (¬ S5 wr.heap.size) := Lib.hid fun hs => (hx5.s _ hs).elim HX2n.out fun h => by have := (Array.getElem?_eq_some_iff.1 HX4.out).1; omega
          have hX6 := (mset_far (w := w5) (B := w2.heap.size) ob hXM).trans hX5
          have hK6 : Box (mset w5 w2.heap.size ob) w3.heap.size o.key := (mset_far (w := w5) (B := w2.heap.size) ob hKM).trans hK5
          clear k0 k1 k2 k3 k4 k5 k6 y0 y1 y2
          obtain ⟨_, _, _, _, k4, _, _⟩ := ocell hX5
          obtain ⟨y0, y1, y2⟩ := hK5.cells
          have HX6 := Lib.hid hX6
          have HK6 := Lib.hid hK6
          clear hx5 hc5 hX5 hK5 hmp5 hF hX6 hK6
          go_upto_region 22 with (fail)
          clear k4 y0 y1 y2 hup
          obtain ⟨y0, y1, y2⟩ := HK6.out.cells
          have hget := get_c HP6.out.pl.cw (by omega) o.key HO0.out.wf
          rw [put_look] at hget
          have HG := Lib.hid hget
          unfold kv at HG
          clear hget
          go_wp2_with fail
          refine (HG.out).mono ?_
          rintro e w7 ⟨S7, A7, q7, rfl, hx7, hc7, _, _⟩
          have HP7 := Lib.hid (HP6.out.next hx7 hc7 (getF_cap _ _) fun p hp => HP6.out.inv p (get_mem hp))
          have hX7 := (hx7.touch.block _ (Array.getElem?_eq_some_iff.1 HX6.out).1 HX6n.out).trans HX6.out
          obtain ⟨_, _, _, _, k4, _, _⟩ := ocell hX7
          have HWk := Lib.hid (weight_walk w7 (fun k => k < w.heap.size) o.lA o.lc o.list (HO0.out.ls.frame (w' := w7) fun k hk _ => HP7.out.pl.bel.block k hk) HO0.out.ll fun k hk => Nat.lt_of_lt_of_le hk HP7.out.pl.bel.size)
          have hcap : d.cap = n := HP4.out.pl.cap
          have hfit : tot (getF (putF d o.key o.list) o.key).1.items ≤ n := by have h1 := hc7.fit; have h2 := HP7.out.pl.cap; omega
          clear hx7 hc7 hX7 y0 y1 y2
          go_wp2_with fail
          refine (HWk.out).mono ?_
          rintro e w8 ⟨rfl, hb8⟩
          have HP8 := Lib.hid (HP7.out.below hb8)
          have HT8 := Lib.hid (total_c HP8.out.pl.cw)
          clear hb8 k4
          go_wp2_with fail
          refine (HT8.out).mono ?_
          rintro e _ ⟨rfl, rfl⟩
          go_wp2_with fail
          go_roundw
          case rel => exact ⟨j + 1, S7, R5, _, _, by omega, by go_num, HP8.out.more (by omega)⟩
          case measure => simp [intOf]; omega
        · have hkk : ((o.kind : Int) % 3) = 2 := by omega
          have hdr := Lib.hid (drop_c HP4.out.pl.cw (by omega) o.from_ o.to_)
          go_wp2_with fail
          refine (hdr.out).mono ?_
          rintro e w5 ⟨rfl, hx5, hc5⟩
          have HP5 := Lib.hid (HP4.out.next hx5 hc5 (dropF_cap _ _ _) fun p hp => HP4.out.inv p ((dropI_sub _ _ _).subset hp))
          have HT5 := Lib.hid (total_c hc5)
          have hfit := hc5.fit
          rw [dropF_cap, HP4.out.pl.cap] at hfit
          clear hx5 hc5
          go_wp2_with fail
          refine (HT5.out).mono ?_
          rintro e _ ⟨rfl, rfl⟩
          go_wp2_with fail
          go_roundw
          case rel => exact ⟨j + 1, S, R, _, _, by omega, by go_num, HP5.out.more (by omega)⟩
          case measure => simp [intOf]; omega
      · obtain rfl : j = l.length := by omega
        go_wp2_with fail
        go_ret
        exact ⟨rfl, HP.out.pl.bel⟩
section
variable {H : Type} {enc : TypeId × Value → H} {w : World} {base b0 : Nat} {held : Bool}
theorem last_in (a0 : Int) (h0 : (Lit.int .u16 a0).wf = true) {d1 : DataW H} {p1 : List MemPlace} (v1 : Value) (h1 : DataW.Trod enc Try.prog w base (fun _ => true) held 45 v1 d1 p1) (hv1 : Value.okWide Try.prog w .any b0 45 v1) :
    Calls Try.prog 6 #[.int .u16 a0, v1] w fun e w' => e = .returned (.bool true) ∧ Below w.heap.size w w' := by
  obtain ⟨n, rfl, hn⟩ := u16_of h0
  obtain ⟨A, c, l, rfl, hml, hA⟩ := open_ops hv1 h1
  exact last_law w n hn A c l hA hml
end
end Go.Proofs.Ytphckenihkgoeaa
