import Derived.Test.YtagfnobchdfhfaaXn
namespace Go.Proofs.Ytagfnobchdfhfaa
set_option linter.unusedSimpArgs false
set_option linter.unnecessarySimpa false
set_option linter.unusedVariables false
open Go.RowKit Go.ChangeShapes Go.WideShapes Go.ChangeAt
attribute [local go_sem ↓] Go.wp_at_zero Go.wp_at_succ

set_option maxRecDepth 100000 in
set_option maxHeartbeats 4000000 in
theorem clones_law (w : World) (s : Nat) (hs : s < 256) (A : Option Addr) (c : Nat) (l : List OpM) (A' : Option Addr) (c' : Nat) (l' : List OpM) (hA : Ops w w.heap.size A l) (hA' : Ops w w.heap.size A' l') (hfew : fewB l 20 = true) (hfew' : fewB l' 20 = true) : Calls Try.prog 9 #[.int .u8 (s : Int), .slice A l.length c, .slice A' l'.length c'] w fun e w' => e = .returned (.bool true) ∧ Below w.heap.size w w' := by
  obtain ⟨n, hn⟩ : ∃ n, 1 + s % 6 = n := ⟨_, rfl⟩
  have hn6 : n ≤ 6 := by omega
  have h20 : l.length ≤ 20 := by unfold fewB at hfew; simp at hfew; exact hfew.2
  have h20' : l'.length ≤ 20 := by unfold fewB at hfew'; simp at hfew'; exact hfew'.2
  have HA := Lib.hid hA
  have HA' := Lib.hid hA'
  have HF := Lib.hid hfew
  have HF' := Lib.hid hfew'
  have HN := Lib.hid hn
  clear hA hfew hA' hfew' hn
  go_enter Try.func9, Try.ntmps9
  go_wp2_with fail
  refine (awake_walk _).mono ?_; rintro e w1 ⟨rfl, hb1⟩
  have B1 := Lib.hid hb1
  clear hb1
  go_wp2_with fail
  refine (few_walk w1 A c l 20 _ (HA.out.below B1.out (Nat.le_refl _)) (by unfold maxLen; omega)).mono ?_; rintro e _ ⟨rfl, rfl⟩
  rw [HF.out]
  go_wp2_with fail
  refine (few_walk w1 A' c' l' 20 _ (HA'.out.below B1.out (Nat.le_refl _)) (by unfold maxLen; omega)).mono ?_; rintro e _ ⟨rfl, rfl⟩
  rw [HF'.out]
  go_wp2_with fail
  refine (l8_begin s n hs HN.out w w1 B1.out).mono ?_; rintro e w2 ⟨D, S, T, ad, ab, ap, cd, cb, cp, rfl, hL⟩
  have HL := Lib.hid hL
  clear hL
  go_wp2_with fail
  go_loopw [41] (fun i wr => ∃ (j : Nat) (d : DM) (S T : Nat → Prop) (vd vb vp : Value), j ≤ l.length ∧ i = .int .i64 (j : Int) ∧ L8 w w2.heap.size D d wr S T vd vb vp ∧ d.after ≤ 9223372036854775807 ∧ d.pend.length ≤ j ∧ d.secs.length ≤ 6) (fun i _ => l.length - (intOf i).toNat)
  case atStart => exact ⟨0, _, _, _, _, _, _, by omega, rfl, HL.out, by show (-1 : Int) ≤ _; decide, Nat.le_refl _, by simp [dm0]; exact hn6⟩
  case round =>
    clear HL
    obtain ⟨j, d, S, T, vd, vb, vp, hj, rfl, hL, hda, hdp, hdl⟩ := hrel
    have HL := Lib.hid hL
    obtain ⟨ad, cd, rfl⟩ := row_slice hL.rf.rd
    obtain ⟨ab, cb, rfl⟩ := row_slice hL.rf.rb
    obtain ⟨ap, cp, rfl⟩ := row_slice hL.rf.rp
    clear hL
    by_cases hlt : j < l.length
    · have hjl : (j : Int) < l.length := by omega
      obtain ⟨a, rfl, hab, ho⟩ := (HA.out.below HL.out.st.bel (Nat.le_refl _)) j hlt
      obtain ⟨o, ho'⟩ : ∃ o, l.getD j default = o := ⟨_, rfl⟩
      rw [ho'] at ho
      have c0 := ho.c0
      have c1 := ho.c1
      have c2 := ho.c2
      have c3 := ho.c3
      have c4 := ho.c4
      have c5 := ho.c5
      have c6 := ho.c6
      have HO := Lib.hid ho
      clear ho ho'
      obtain ⟨wa, hwa⟩ : ∃ W, wr.alloc (.cells #[.int .u8 (o.kind : Int), .int .i64 o.n, .int .i64 o.at_, .string o.data, .int .u8 (o.mask.toNat : Int), .bool o.bad, .slice o.sA o.sv.length o.sc] 42) = W := ⟨_, rfl⟩
      have hBa : Below wr.heap.size wr wa := by rw [← hwa]; exact (Below.refl _ _).alloc (Nat.le_refl _) _
      have hOa : wa.heap[wr.heap.size]? = some (.cells #[.int .u8 (o.kind : Int), .int .i64 o.n, .int .i64 o.at_, .string o.data, .int .u8 (o.mask.toNat : Int), .bool o.bad, .slice o.sA o.sv.length o.sc] 42 (0, 0)) := by rw [← hwa]; exact heap_alloc_new wr _
      have hza : wr.heap.size < wa.heap.size := by rw [← hwa]; simp
      obtain ⟨s2, e2, d2, hr⟩ : ∃ s e d2, stepO d o = ((s, e), d2) := ⟨_, _, _, rfl⟩
      have hinv := stepO_inv d o hda (i64_le HO.out.nw)
      rw [hr] at hinv
      have ha2 : d2.after ≤ 9223372036854775807 := hinv.1
      have hp2 : d2.pend.length ≤ d.pend.length + 1 := by have := hinv.2.1; simp only at this; omega
      have hl2 : d2.secs.length ≤ 6 := by have := hinv.2.2; simp only at this; omega
      clear hinv
      have hdk : Dk S D d wa := HL.out.st.dk.frame fun k _ hk => hBa.block k hk
      obtain ⟨vdD, vbD, vpD, dlD, hk⟩ := hdk
      have hsz := HL.out.st.bel.size
      have HDD := Lib.hid (do_walk (S := S) o HO.out.kd hk (fun k hk => by have := HL.out.st.bd k hk; omega) hda (by omega) (fun i hi => by
        obtain ⟨b, e1, e2, e3⟩ := HO.out.sv i hi
        have hlb : (b.add i).block < wr.heap.size := World.block_lt_of_cell? wr _ e3
        refine ⟨b, e1, fun hS => absurd (HL.out.st.bd _ hS).1 (by omega), ?_⟩
        rw [World.cell?_of_block (hBa.block _ hlb)]
        exact e3) _ hr)
      have HBa := Lib.hid hBa
      have HOa := Lib.hid hOa
      have HZa := Lib.hid hza
      have HWA := Lib.hid hwa
      have HR := Lib.hid hr
      clear hBa hOa hza hwa hr hk
      unfold opV at HDD
      go_upto_region 11 with (fail)
      rw [HWA.out]
      clear c0 c1 c2 c3 c4 c5 c6
      obtain ⟨o0, o1, o2, o3, o4, o5, o6⟩ := c42 HOa.out
      go_wp2_with fail
      refine (HDD.out).mono ?_
      rintro e3 w3 ⟨rfl, ht3, hd3⟩
      have hX3 := (HL.out.x2 HBa.out ht3).trans HL.out.x
      have hO3 := (ht3.block wr.heap.size HZa.out (fun hS => by have := (HL.out.st.bd _ hS).2; omega)).trans HOa.out
      have hs3 := ht3.size
      have hza := HZa.out
      have hrf3 := HL.out.rf2 HBa.out ht3
      have b3 : Below w.heap.size w w3 := (HL.out.st.bel.trans (HBa.out.mono hsz)).trans (ht3.below _ (by omega) fun i hi => (HL.out.st.bd i hi).1)
      have hsv : Ones (Value.int .i64) w3 w3.heap.size o.sA o.sv := fun i hi => by
        obtain ⟨b, e1, e2, e3⟩ := HO.out.sv i hi
        have hlb : (b.add i).block < wr.heap.size := World.block_lt_of_cell? wr _ e3
        have hbb : (b.add i).block = b.block := by unfold Addr.add; split <;> rfl
        refine ⟨b, e1, by omega, ?_⟩
        rw [World.cell?_of_block (ht3.block _ (by omega) (fun hS => by have := (HL.out.st.bd _ hS).1; omega)), World.cell?_of_block (HBa.out.block _ (by omega))]
        exact e3
      have HDo := Lib.hid (Do_walk (T := T) (w := w3) o hrf3 hda hsv (by omega) (by omega) _ HR.out)
      have HX3 := Lib.hid hX3
      have HO3 := Lib.hid hO3
      have HT3 := Lib.hid ht3
      have HD3 := Lib.hid hd3
      clear hX3 hO3 hs3 hza hrf3 b3 hsv ht3 hd3 o0 o1 o2 o3 o4 o5 o6
      unfold rv opV at HDo
      obtain ⟨x0, x1, x2, x3, x4, x5, x6, x7, xf⟩ := c33 HX3.out
      obtain ⟨o0, o1, o2, o3, o4, o5, o6⟩ := c42 HO3.out
      go_wp2_with fail
      refine (HDo.out).mono ?_
      rintro e4 w4 ⟨v', rfl, hb4, hv4⟩
      obtain ⟨vd2, vb2, vp2, rfl, hr4⟩ := hv4
      obtain ⟨ad2, cd2, rfl⟩ := row_slice hr4.rd
      obtain ⟨ab2, cb2, rfl⟩ := row_slice hr4.rb
      obtain ⟨ap2, cp2, rfl⟩ := row_slice hr4.rp
      have HN := Lib.hid (HL.out.next2 HBa.out HT3.out HD3.out hb4 hr4)
      have hX4 := (hb4.block w2.heap.size (Array.getElem?_eq_some_iff.1 HX3.out).1).trans HX3.out
      clear x0 x1 x2 x3 x4 x5 x6 x7 xf o0 o1 o2 o3 o4 o5 o6 hb4 hr4
      obtain ⟨y0, y1, y2, y3, y4, y5, y6, y7, yf⟩ := c33 hX4
      clear hX4
      simp only [rv]
      go_wp2_with fail
      go_roundw
      case rel => exact ⟨j + 1, d2, _, _, _, _, _, by omega, by go_num, HN.out, ha2, by omega, hl2⟩
      case measure => simp [intOf]; omega
    · have hlt' : ¬ (j : Int) < l.length := by omega
      obtain ⟨W1, hW1⟩ : ∃ W, W = wr := ⟨_, rfl⟩
      subst hW1
      obtain ⟨vdC, vbC, vpC, dlC, hkC⟩ := HL.out.st.dk
      have hjL : j ≤ 20 := by omega
      have HCL := Lib.hid (clone_walk hkC (by omega) (by omega))
      clear hkC
      go_wp2_with fail
      refine (HCL.out).mono ?_
      rintro e3 w3 ⟨rfl, hb3, hd3⟩
      have hX3 := (hb3.block w2.heap.size (Array.getElem?_eq_some_iff.1 HL.out.x).1).trans HL.out.x
      have HB3 := Lib.hid hb3
      have HC := Lib.hid (HL.out.clone hb3 hd3)
      clear hb3 hd3
      obtain ⟨x0, x1, x2, x3, x4, x5, x6, x7, xf⟩ := c33 hX3
      clear hX3
      go_wp2_with fail
      clear x0 x1 x2 x3 x4 x5 x6 x7 xf
      have hrw := HL.out.st.bel.size
      have hd0 := d
      go_loopw [63] (fun i wq => ∃ (j : Nat) (d : DM) (S T : Nat → Prop) (vd vb vp : Value), j ≤ l'.length ∧ i = .int .i64 (j : Int) ∧ L9 W1 w3.heap.size W1.heap.size d wq S T vd vb vp ∧ d.after ≤ 9223372036854775807 ∧ d.pend.length ≤ 20 + j ∧ d.secs.length ≤ 6) (fun i _ => l'.length - (intOf i).toNat)
      case atStart => exact ⟨0, _, _, _, _, _, _, by omega, rfl, HC.out, hda, by omega, hdl⟩
      case round =>
        clear HC
        obtain ⟨j, d, S, T, vd, vb, vp, hj, rfl, hC, hda, hdp, hdl⟩ := hrel
        have HC := Lib.hid hC
        obtain ⟨ad, cd, rfl⟩ := row_slice hC.rf.rd
        obtain ⟨ab, cb, rfl⟩ := row_slice hC.rf.rb
        obtain ⟨ap, cp, rfl⟩ := row_slice hC.rf.rp
        have hWr := hC.st.bel.size
        have BW := Lib.hid (HL.out.st.bel.trans (hC.st.bel.mono hrw))
        clear hC
        by_cases hlt : j < l'.length
        · have hjl : (j : Int) < l'.length := by omega
          obtain ⟨a, rfl, hab, ho⟩ := (HA'.out.below BW.out (Nat.le_refl _)) j hlt
          obtain ⟨o, ho'⟩ : ∃ o, l'.getD j default = o := ⟨_, rfl⟩
          rw [ho'] at ho
          have c0 := ho.c0
          have c1 := ho.c1
          have c2 := ho.c2
          have c3 := ho.c3
          have c4 := ho.c4
          have c5 := ho.c5
          have c6 := ho.c6
          have HO := Lib.hid ho
          clear ho ho'
          obtain ⟨wa, hwa⟩ : ∃ W, wr.alloc (.cells #[.int .u8 (o.kind : Int), .int .i64 o.n, .int .i64 o.at_, .string o.data, .int .u8 (o.mask.toNat : Int), .bool o.bad, .slice o.sA o.sv.length o.sc] 42) = W := ⟨_, rfl⟩
          have hBa : Below wr.heap.size wr wa := by rw [← hwa]; exact (Below.refl _ _).alloc (Nat.le_refl _) _
          have hOa : wa.heap[wr.heap.size]? = some (.cells #[.int .u8 (o.kind : Int), .int .i64 o.n, .int .i64 o.at_, .string o.data, .int .u8 (o.mask.toNat : Int), .bool o.bad, .slice o.sA o.sv.length o.sc] 42 (0, 0)) := by rw [← hwa]; exact heap_alloc_new wr _
          have hza : wr.heap.size < wa.heap.size := by rw [← hwa]; simp
          obtain ⟨s2, e2, d2, hr⟩ : ∃ s e d2, stepO d o = ((s, e), d2) := ⟨_, _, _, rfl⟩
          have hinv := stepO_inv d o hda (i64_le HO.out.nw)
          rw [hr] at hinv
          have ha2 : d2.after ≤ 9223372036854775807 := hinv.1
          have hp2 : d2.pend.length ≤ d.pend.length + 1 := by have := hinv.2.1; simp only at this; omega
          have hl2 : d2.secs.length ≤ 6 := by have := hinv.2.2; simp only at this; omega
          clear hinv
          have hXa := (hBa.block w3.heap.size (Array.getElem?_eq_some_iff.1 HC.out.x).1).trans HC.out.x
          have HDo := Lib.hid (Do_walk (T := T) (w := wa) o (HC.out.rf.frame fun k _ hk => hBa.block k hk) hda ((HO.out.sv.below (hBa.mono (by omega)) (Nat.le_refl _)).wide (by omega)) (by omega) (by omega) _ hr)
          obtain ⟨x0, x1, x2, x3, x4, x5, x6, x7, xf⟩ := c33 hXa
          have HBa := Lib.hid hBa
          have HOa := Lib.hid hOa
          have HXa := Lib.hid hXa
          have HZa := Lib.hid hza
          have HWA := Lib.hid hwa
          have HR := Lib.hid hr
          clear hBa hOa hXa hza hwa hr
          unfold rv opV at HDo
          go_upto_region 21 with (fail)
          rw [HWA.out]
          obtain ⟨o0, o1, o2, o3, o4, o5, o6⟩ := c42 HOa.out
          go_wp2_with fail
          refine (HDo.out).mono ?_
          rintro e4 w4 ⟨v', rfl, hb4, hv4⟩
          obtain ⟨vd2, vb2, vp2, rfl, hr2⟩ := hv4
          obtain ⟨ad2, cd2, rfl⟩ := row_slice hr2.rd
          obtain ⟨ab2, cb2, rfl⟩ := row_slice hr2.rb
          obtain ⟨ap2, cp2, rfl⟩ := row_slice hr2.rp
          have HB4 := Lib.hid hb4
          have HR2 := Lib.hid hr2
          obtain ⟨wb, hwb⟩ : ∃ W, w4.alloc (.cells #[.slice ad2 d2.secs.length cd2, .slice ab2 d2.secs.length cb2, .slice ap2 d2.pend.length cp2, .int .i64 d2.after, .bool d2.failed, .int .i64 d2.r, .int .i64 d2.wn, .int .i64 d2.sy] 33) = W := ⟨_, rfl⟩
          have hBb : Below w4.heap.size w4 wb := by rw [← hwb]; exact (Below.refl _ _).alloc (Nat.le_refl _) _
          have hzb : w4.heap.size < wb.heap.size := by rw [← hwb]; simp
          have hVb : wb.heap[w4.heap.size]? = some (.cells #[.slice ad2 d2.secs.length cd2, .slice ab2 d2.secs.length cb2, .slice ap2 d2.pend.length cp2, .int .i64 d2.after, .bool d2.failed, .int .i64 d2.r, .int .i64 d2.wn, .int .i64 d2.sy] 33 (0, 0)) := by rw [← hwb]; exact heap_alloc_new w4 _
          have hOb := (hBb.block wr.heap.size (Nat.lt_of_lt_of_le HZa.out hb4.size)).trans ((hb4.block wr.heap.size HZa.out).trans HOa.out)
          have hdk := HC.out.dk3 HBa.out hb4 hBb
          obtain ⟨vdD, vbD, vpD, dlD, hk⟩ := hdk
          have hs3 := hb4.size
          have hza := HZa.out
          have HDD := Lib.hid (do_walk (S := S) o HO.out.kd hk (fun k hk => by have := HC.out.st.bd k hk; omega) hda (by omega) (fun i hi => by
            obtain ⟨b, e1, e2, e3⟩ := HO.out.sv i hi
            have hlb : (b.add i).block < wr.heap.size := World.block_lt_of_cell? wr _ e3
            have hbb : (b.add i).block = b.block := by unfold Addr.add; split <;> rfl
            refine ⟨b, e1, fun hS => absurd (HC.out.st.bd _ hS).1 (by omega), ?_⟩
            rw [World.cell?_of_block (hBb.block _ (by omega)), World.cell?_of_block (hb4.block _ (by omega)), World.cell?_of_block (HBa.out.block _ hlb)]
            exact e3) _ HR.out)
          have HBb := Lib.hid hBb
          have HVb := Lib.hid hVb
          have HOb := Lib.hid hOb
          have HZb := Lib.hid hzb
          have HWB := Lib.hid hwb
          clear hr2 hb4 hBb hVb hOb hzb hwb hk hs3 hza x0 x1 x2 x3 x4 x5 x6 x7 xf o0 o1 o2 o3 o4 o5 o6 c0 c1 c2 c3 c4 c5 c6
          unfold opV at HDD
          simp only [rv]
          go_upto_region 22 with (fail)
          rw [HWB.out]
          obtain ⟨o0, o1, o2, o3, o4, o5, o6⟩ := c42 HOb.out
          go_wp2_with fail
          refine (HDD.out).mono ?_
          rintro e5 w5 ⟨rfl, ht5, hd5⟩
          have hV5 := (ht5.block w4.heap.size HZb.out (fun hS => by have := (HC.out.st.bd _ hS).2; have := HZa.out; have := HB4.out.size; omega)).trans HVb.out
          have HN := Lib.hid (HC.out.next HBa.out HB4.out HR2.out HBb.out ht5 hd5 (Below.refl _ _))
          have hX5 := (HC.out.x3 HBa.out HB4.out HBb.out ht5).trans HC.out.x
          clear o0 o1 o2 o3 o4 o5 o6 ht5 hd5
          obtain ⟨x0, x1, x2, x3, x4, x5, x6, x7, xf⟩ := c33 hV5
          obtain ⟨y0, y1, y2, y3, y4, y5, y6, y7, yf⟩ := c33 hX5
          clear hV5 hX5
          go_wp2_with fail
          go_roundw
          case rel => exact ⟨j + 1, d2, _, _, _, _, _, by omega, by go_num, HN.out, ha2, by omega, hl2⟩
          case measure => simp [intOf]; omega
        · have hlt' : ¬ (j : Int) < l'.length := by omega
          obtain ⟨vdD, vbD, vpD, dlD, hk⟩ := HC.out.st.dk
          have hjL : j ≤ 20 := by omega
          have HS1 := Lib.hid (same_walk hk HC.out.rf (by omega) (by omega))
          unfold rv at HS1
          obtain ⟨x0, x1, x2, x3, x4, x5, x6, x7, xf⟩ := c33 HC.out.x
          clear hk
          go_wp2_with fail
          refine (HS1.out).mono ?_
          rintro e4 w4 ⟨rfl, hb4⟩
          have HQ := Lib.hid (HL.out.same (HC.out.st.bel.trans (hb4.mono hWr)))
          have HBZ := Lib.hid hb4
          clear hb4 x0 x1 x2 x3 x4 x5 x6 x7 xf
          obtain ⟨vdE, vbE, vpE, dlE, hk⟩ := HQ.out.st.dk
          have HS2 := Lib.hid (same_walk hk HQ.out.rf (by omega) (by omega))
          unfold rv at HS2
          obtain ⟨x0, x1, x2, x3, x4, x5, x6, x7, xf⟩ := c33 HQ.out.x
          clear hk
          go_wp2_with fail
          refine (HS2.out).mono ?_
          rintro e5 w5 ⟨rfl, hb5⟩
          go_wp2_with fail
          go_ret
          exact ⟨rfl, HQ.out.st.bel.trans (hb5.mono HQ.out.st.bel.size)⟩
theorem clones_many (w : World) (s : Nat) (A : Option Addr) (c : Nat) (l : List OpM) (A' : Option Addr) (c' : Nat) (l' : List OpM) (hA : Ops w w.heap.size A l) (hA' : Ops w w.heap.size A' l') (hml : l.length ≤ maxLen) (hml' : l'.length ≤ maxLen) (hf : fewB l 20 = false ∨ fewB l' 20 = false) : Calls Try.prog 9 #[.int .u8 (s : Int), .slice A l.length c, .slice A' l'.length c'] w fun e w' => e = .returned (.bool true) ∧ Below w.heap.size w w' := by
  have HA := Lib.hid hA
  have HA' := Lib.hid hA'
  clear hA hA'
  go_enter Try.func9, Try.ntmps9
  go_wp2_with fail
  refine (awake_walk _).mono ?_; rintro e w1 ⟨rfl, hb1⟩
  have B1 := Lib.hid hb1
  clear hb1
  go_wp2_with fail
  refine (few_walk w1 A c l 20 _ (HA.out.below B1.out (Nat.le_refl _)) hml).mono ?_; rintro e _ ⟨rfl, rfl⟩
  cases h1 : fewB l 20 with
  | false =>
    go_wp2_with fail
    go_ret
    exact ⟨rfl, B1.out⟩
  | true =>
    have h2 : fewB l' 20 = false := by rcases hf with h | h <;> simp_all
    go_wp2_with fail
    refine (few_walk w1 A' c' l' 20 _ (HA'.out.below B1.out (Nat.le_refl _)) hml').mono ?_; rintro e _ ⟨rfl, rfl⟩
    rw [h2]
    go_wp2_with fail
    go_ret
    exact ⟨rfl, B1.out⟩
section
variable {H : Type} {enc : TypeId × Value → H} {w : World} {base b0 : Nat} {held : Bool}
theorem clones_in (a : Int) (ha : (Lit.int .u8 a).wf = true) {d1 : DataW H} {p1 : List MemPlace} (v1 : Value) (h1 : DataW.Trod enc Try.prog w base (fun _ => true) held 22 v1 d1 p1) (hv1 : Value.okWide Try.prog w .any b0 22 v1) {d2 : DataW H} {p2 : List MemPlace} (v2 : Value) (h2 : DataW.Trod enc Try.prog w base (fun _ => true) held 22 v2 d2 p2) (hv2 : Value.okWide Try.prog w .any b0 22 v2) :
    Calls Try.prog 9 #[.int .u8 a, v1, v2] w fun e w' => e = .returned (.bool true) ∧ Below w.heap.size w w' := by
  obtain ⟨m, rfl, hm⟩ := u8_of ha
  obtain ⟨A, n, c, l, rfl, rfl, hml, hA⟩ := open_ops hv1 h1
  obtain ⟨A', n', c', l', rfl, rfl, hml', hA'⟩ := open_ops hv2 h2
  cases hf : fewB l 20 with
  | false => exact clones_many w m A c l A' c' l' hA hA' hml hml' (.inl hf)
  | true =>
    cases hf' : fewB l' 20 with
    | false => exact clones_many w m A c l A' c' l' hA hA' hml hml' (.inr hf')
    | true => exact clones_law w m hm A c l A' c' l' hA hA' hf hf'
end
end Go.Proofs.Ytagfnobchdfhfaa
