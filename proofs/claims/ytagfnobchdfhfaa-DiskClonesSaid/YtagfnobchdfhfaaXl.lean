import Derived.Test.YtagfnobchdfhfaaXk
namespace Go.Proofs.Ytagfnobchdfhfaa
set_option linter.unusedSimpArgs false
set_option linter.unnecessarySimpa false
set_option linter.unusedVariables false
open Go.RowKit Go.ChangeShapes Go.WideShapes Go.ChangeAt
attribute [local go_sem ↓] Go.wp_at_zero Go.wp_at_succ

theorem c42 {w : World} {B : Nat} {v0 v1 v2 v3 v4 v5 v6 : Value} (h : w.heap[B]? = some (.cells #[v0, v1, v2, v3, v4, v5, v6] 42 (0, 0))) : w.cell? ⟨B, 0, none⟩ = some v0 ∧ w.cell? ⟨B, 1, none⟩ = some v1 ∧ w.cell? ⟨B, 2, none⟩ = some v2 ∧ w.cell? ⟨B, 3, none⟩ = some v3 ∧ w.cell? ⟨B, 4, none⟩ = some v4 ∧ w.cell? ⟨B, 5, none⟩ = some v5 ∧ w.cell? ⟨B, 6, none⟩ = some v6 := by
  have z : ∀ i (_ : i < 7), w.cell? ⟨B, i, none⟩ = #[v0, v1, v2, v3, v4, v5, v6][i]? := fun i _ => by rw [cell_of_row w _ i _ _ _ h]
  exact ⟨z 0 (by decide), z 1 (by decide), z 2 (by decide), z 3 (by decide), z 4 (by decide), z 5 (by decide), z 6 (by decide)⟩
/-- a law begins: the disk, and the reference's value in a block of its own -/
theorem l8_begin (s n : Nat) (hs : s < 256) (hn : 1 + s % 6 = n) (w0 w : World) (hb : Below w0.heap.size w0 w) : Calls Try.prog 12 #[.int .u8 (s : Int)] w fun e w' => ∃ (D : Nat) (S T : Nat → Prop) (ad ab ap : Option Addr) (cd cb cp : Nat), e = .returned (.tuple #[.pointer (some ⟨D, 0, none⟩), .agg #[.slice ad n cd, .slice ab n cb, .slice ap 0 cp, .int .i64 (-1), .bool false, .int .i64 0, .int .i64 0, .int .i64 0], .bool true]) ∧ L8 w0 w'.heap.size D (dm0 n) (w'.alloc (.cells #[.slice ad n cd, .slice ab n cb, .slice ap 0 cp, .int .i64 (-1), .bool false, .int .i64 0, .int .i64 0, .int .i64 0] 33)) S T (.slice ad n cd) (.slice ab n cb) (.slice ap 0 cp) := by
  refine (begin_walk s n hs hn w).mono ?_
  rintro e w' ⟨D, v, S, T, rfl, hS, hR, hT, hd⟩
  obtain ⟨vd, vb, vp, rfl, hr⟩ := hR
  obtain ⟨ad, cd, rfl⟩ := row_slice hr.rd
  obtain ⟨ab, cb, rfl⟩ := row_slice hr.rb
  obtain ⟨ap, cp, rfl⟩ := row_slice hr.rp
  have en : (dm0 n).secs.length = n := by simp [dm0]
  have em : (dm0 n).pend.length = 0 := rfl
  rw [en, em] at hr
  have s1 := hb.size
  have s2 := hS.bel.size
  refine ⟨D, S, T, ad, ab, ap, cd, cb, cp, by rw [en, em]; rfl, ⟨?_, ?_, ?_⟩, hr.frame fun k _ hk => Below.heap_alloc _ _ k hk, fun k hk => ?_, hd, heap_alloc_new w' _, fun hx => ?_, by omega⟩
  · exact hS.dk.frame fun k _ hk => Below.heap_alloc _ _ k hk
  · exact (hb.trans (hS.bel.mono s1)).alloc (by omega) _
  · intro k hk
    have := hS.bd k hk
    simp; omega
  · have := hT k hk
    simp; omega
  · have := hS.bd _ hx
    omega
set_option maxRecDepth 100000 in
set_option maxHeartbeats 2000000 in
theorem operations_law (w : World) (s : Nat) (hs : s < 256) (A : Option Addr) (c : Nat) (l : List OpM) (hA : Ops w w.heap.size A l) (hfew : fewB l 30 = true) : Calls Try.prog 8 #[.int .u8 (s : Int), .slice A l.length c] w fun e w' => e = .returned (.bool true) ∧ Below w.heap.size w w' := by
  obtain ⟨n, hn⟩ : ∃ n, 1 + s % 6 = n := ⟨_, rfl⟩
  have hn6 : n ≤ 6 := by omega
  have h30 : l.length ≤ 30 := by unfold fewB at hfew; simp at hfew; exact hfew.2
  have HA := Lib.hid hA
  have HF := Lib.hid hfew
  have HN := Lib.hid hn
  clear hA hfew hn
  go_enter Try.func8, Try.ntmps8
  go_wp2_with fail
  refine (awake_walk _).mono ?_; rintro e w1 ⟨rfl, hb1⟩
  have B1 := Lib.hid hb1
  clear hb1
  go_wp2_with fail
  refine (few_walk w1 A c l 30 _ (HA.out.below B1.out (Nat.le_refl _)) (by unfold maxLen; omega)).mono ?_; rintro e _ ⟨rfl, rfl⟩
  rw [HF.out]
  go_wp2_with fail
  refine (l8_begin s n hs HN.out w w1 B1.out).mono ?_; rintro e w2 ⟨D, S, T, ad, ab, ap, cd, cb, cp, rfl, hL⟩
  have HL := Lib.hid hL
  clear hL
  go_wp2_with fail
  go_loopw [30] (fun i wr => ∃ (j : Nat) (d : DM) (S T : Nat → Prop) (vd vb vp : Value), j ≤ l.length ∧ i = .int .i64 (j : Int) ∧ L8 w w2.heap.size D d wr S T vd vb vp ∧ d.after ≤ 9223372036854775807 ∧ d.pend.length ≤ j ∧ d.secs.length ≤ 6) (fun i _ => l.length - (intOf i).toNat)
  case atStart => exact ⟨0, _, _, _, _, _, _, by omega, rfl, HL.out, by show (-1 : Int) ≤ _; decide, Nat.le_refl _, by simp [dm0]; exact hn6⟩
  case round =>
    clear HL
    obtain ⟨j, d, S, T, vd, vb, vp, hj, rfl, hL, hda, hdp, hdl⟩ := hrel
    have HL := Lib.hid hL
    obtain ⟨ad, cd, rfl⟩ := row_slice hL.rf.rd
    obtain ⟨ab, cb, rfl⟩ := row_slice hL.rf.rb
    obtain ⟨ap, cp, rfl⟩ := row_slice hL.rf.rp
    clear hL
    by_cases hlt : j < l.length
    · have hjl : (j : Int) < l.length := by omega
      obtain ⟨a, rfl, hab, ho⟩ := (HA.out.below HL.out.st.bel (Nat.le_refl _)) j hlt
      obtain ⟨o, ho'⟩ : ∃ o, l.getD j default = o := ⟨_, rfl⟩
      rw [ho'] at ho
      have c0 := ho.c0
      have c1 := ho.c1
      have c2 := ho.c2
      have c3 := ho.c3
      have c4 := ho.c4
      have c5 := ho.c5
      have c6 := ho.c6
      have HO := Lib.hid ho
      clear ho ho'
      obtain ⟨wa, hwa⟩ : ∃ W, wr.alloc (.cells #[.int .u8 (o.kind : Int), .int .i64 o.n, .int .i64 o.at_, .string o.data, .int .u8 (o.mask.toNat : Int), .bool o.bad, .slice o.sA o.sv.length o.sc] 42) = W := ⟨_, rfl⟩
      have hBa : Below wr.heap.size wr wa := by rw [← hwa]; exact (Below.refl _ _).alloc (Nat.le_refl _) _
      have hOa : wa.heap[wr.heap.size]? = some (.cells #[.int .u8 (o.kind : Int), .int .i64 o.n, .int .i64 o.at_, .string o.data, .int .u8 (o.mask.toNat : Int), .bool o.bad, .slice o.sA o.sv.length o.sc] 42 (0, 0)) := by rw [← hwa]; exact heap_alloc_new wr _
      have hXa := (hBa.block w2.heap.size (Array.getElem?_eq_some_iff.1 HL.out.x).1).trans HL.out.x
      have hza : wr.heap.size < wa.heap.size := by rw [← hwa]; simp
      obtain ⟨s2, e2, d2, hr⟩ : ∃ s e d2, stepO d o = ((s, e), d2) := ⟨_, _, _, rfl⟩
      have hinv := stepO_inv d o hda (i64_le HO.out.nw)
      rw [hr] at hinv
      have ha2 : d2.after ≤ 9223372036854775807 := hinv.1
      have hp2 : d2.pend.length ≤ j + 1 := by have := hinv.2.1; simp only at this; omega
      have hl2 : d2.secs.length ≤ 6 := by have := hinv.2.2; simp only at this; omega
      clear hinv
      have HDo := Lib.hid (Do_walk (T := T) (w := wa) o (HL.out.rf.frame fun k _ hk => hBa.block k hk) hda ((HO.out.sv.below (hBa.mono HL.out.st.bel.size) (Nat.le_refl _)).wide (by have := HL.out.st.bel.size; omega)) (by omega) (by omega) _ hr)
      obtain ⟨x0, x1, x2, x3, x4, x5, x6, x7, xf⟩ := c33 hXa
      have HBa := Lib.hid hBa
      have HOa := Lib.hid hOa
      have HXa := Lib.hid hXa
      have HZa := Lib.hid hza
      have HWA := Lib.hid hwa
      have HR := Lib.hid hr
      clear hBa hOa hXa hza hwa hr
      unfold rv opV at HDo
      go_upto_region 11 with (fail)
      rw [HWA.out]
      obtain ⟨o0, o1, o2, o3, o4, o5, o6⟩ := c42 HOa.out
      go_wp2_with fail
      refine (HDo.out).mono ?_
      rintro e3 w3 ⟨v', rfl, hb3, hv3⟩
      obtain ⟨vd2, vb2, vp2, rfl, hr2⟩ := hv3
      obtain ⟨ad2, cd2, rfl⟩ := row_slice hr2.rd
      obtain ⟨ab2, cb2, rfl⟩ := row_slice hr2.rb
      obtain ⟨ap2, cp2, rfl⟩ := row_slice hr2.rp
      have HB3 := Lib.hid hb3
      have HR2 := Lib.hid hr2
      obtain ⟨wb, hwb⟩ : ∃ W, w3.alloc (.cells #[.slice ad2 d2.secs.length cd2, .slice ab2 d2.secs.length cb2, .slice ap2 d2.pend.length cp2, .int .i64 d2.after, .bool d2.failed, .int .i64 d2.r, .int .i64 d2.wn, .int .i64 d2.sy] 33) = W := ⟨_, rfl⟩
      have hBb : Below w3.heap.size w3 wb := by rw [← hwb]; exact (Below.refl _ _).alloc (Nat.le_refl _) _
      have hzb : w3.heap.size < wb.heap.size := by rw [← hwb]; simp
      have hVb : wb.heap[w3.heap.size]? = some (.cells #[.slice ad2 d2.secs.length cd2, .slice ab2 d2.secs.length cb2, .slice ap2 d2.pend.length cp2, .int .i64 d2.after, .bool d2.failed, .int .i64 d2.r, .int .i64 d2.wn, .int .i64 d2.sy] 33 (0, 0)) := by rw [← hwb]; exact heap_alloc_new w3 _
      have hOb := (hBb.block wr.heap.size (Nat.lt_of_lt_of_le HZa.out hb3.size)).trans ((hb3.block wr.heap.size HZa.out).trans HOa.out)
      have hdk := HL.out.dk3 HBa.out hb3 hBb
      obtain ⟨vdD, vbD, vpD, dlD, hk⟩ := hdk
      have hs3 := hb3.size
      have hza := HZa.out
      have hbel := HL.out.st.bel
      have hsz := hbel.size
      have HDD := Lib.hid (do_walk (S := S) o HO.out.kd hk (fun k hk => by have := HL.out.st.bd k hk; omega) hda (by omega) (fun i hi => by
        obtain ⟨b, e1, e2, e3⟩ := HO.out.sv i hi
        have hlb : (b.add i).block < wr.heap.size := World.block_lt_of_cell? wr _ e3
        refine ⟨b, e1, fun hS => absurd (HL.out.st.bd _ hS).1 (by omega), ?_⟩
        rw [World.cell?_of_block (hBb.block _ (by omega)), World.cell?_of_block (hb3.block _ (by omega)), World.cell?_of_block (HBa.out.block _ hlb)]
        exact e3) _ HR.out)
      have HBb := Lib.hid hBb
      have HVb := Lib.hid hVb
      have HOb := Lib.hid hOb
      have HZb := Lib.hid hzb
      have HWB := Lib.hid hwb
      clear hr2 hb3 hBb hVb hOb hzb hwb hk hs3 hza hbel hsz x0 x1 x2 x3 x4 x5 x6 x7 xf o0 o1 o2 o3 o4 o5 o6 c0 c1 c2 c3 c4 c5 c6
      unfold opV at HDD
      simp only [rv]
      go_upto_region 12 with (fail)
      rw [HWB.out]
      obtain ⟨o0, o1, o2, o3, o4, o5, o6⟩ := c42 HOb.out
      go_wp2_with fail
      refine (HDD.out).mono ?_
      rintro e4 w4 ⟨rfl, ht4, hd4⟩
      have HT4 := Lib.hid ht4
      have HD4 := Lib.hid hd4
      have hV4 := (ht4.block w3.heap.size HZb.out (fun hS => by have := (HL.out.st.bd _ hS).2; have := HZa.out; have := HB3.out.size; omega)).trans HVb.out
      have HV4 := Lib.hid hV4
      have hR4 := HL.out.rf3 HBa.out HR2.out HB3.out HBb.out ht4
      obtain ⟨vdE, vbE, vpE, dlE, hkE⟩ := hd4
      have HSM := Lib.hid (same_walk hkE hR4 (by omega) (by omega))
      clear o0 o1 o2 o3 o4 o5 o6 ht4 hV4 hR4 hkE
      obtain ⟨x0, x1, x2, x3, x4, x5, x6, x7, xf⟩ := c33 HV4.out
      unfold rv at HSM
      go_wp2_with fail
      refine (HSM.out).mono ?_
      rintro e5 w5 ⟨rfl, hb5⟩
      have HB5 := Lib.hid hb5
      have HN := Lib.hid (HL.out.next HBa.out HB3.out HR2.out HBb.out HT4.out HD4.out hb5)
      have hV5 := (hb5.block w3.heap.size (Array.getElem?_eq_some_iff.1 HV4.out).1).trans HV4.out
      have hX5 := (hb5.block w2.heap.size (by
        have h1 := HL.out.x3 HBa.out HB3.out HBb.out HT4.out
        rw [HL.out.x] at h1
        exact (Array.getElem?_eq_some_iff.1 h1).1)).trans ((HL.out.x3 HBa.out HB3.out HBb.out HT4.out).trans HL.out.x)
      clear x0 x1 x2 x3 x4 x5 x6 x7 xf hb5
      obtain ⟨x0, x1, x2, x3, x4, x5, x6, x7, xf⟩ := c33 hV5
      obtain ⟨y0, y1, y2, y3, y4, y5, y6, y7, yf⟩ := c33 hX5
      clear hV5 hX5
      go_wp2_with fail
      go_roundw
      case rel => exact ⟨j + 1, d2, _, _, _, _, _, by omega, by go_num, HN.out, ha2, hp2, hl2⟩
      case measure => simp [intOf]; omega
    · have hlt' : ¬ (j : Int) < l.length := by omega
      go_wp2_with fail
      go_ret
      exact ⟨rfl, HL.out.st.bel⟩
theorem operations_many (w : World) (s : Nat) (A : Option Addr) (c : Nat) (l : List OpM) (hA : Ops w w.heap.size A l) (hml : l.length ≤ maxLen) (hf : fewB l 30 = false) : Calls Try.prog 8 #[.int .u8 (s : Int), .slice A l.length c] w fun e w' => e = .returned (.bool true) ∧ Below w.heap.size w w' := by
  have HA := Lib.hid hA
  clear hA
  go_enter Try.func8, Try.ntmps8
  go_wp2_with fail
  refine (awake_walk _).mono ?_; rintro e w1 ⟨rfl, hb1⟩
  have B1 := Lib.hid hb1
  clear hb1
  go_wp2_with fail
  refine (few_walk w1 A c l 30 _ (HA.out.below B1.out (Nat.le_refl _)) hml).mono ?_; rintro e _ ⟨rfl, rfl⟩
  rw [hf]
  go_wp2_with fail
  go_ret
  exact ⟨rfl, B1.out⟩
section
variable {H : Type} {enc : TypeId × Value → H} {w : World} {base b0 : Nat} {held : Bool}
theorem operations_in (a : Int) (ha : (Lit.int .u8 a).wf = true) {d1 : DataW H} {p1 : List MemPlace} (v1 : Value) (h1 : DataW.Trod enc Try.prog w base (fun _ => true) held 22 v1 d1 p1) (hv1 : Value.okWide Try.prog w .any b0 22 v1) :
    Calls Try.prog 8 #[.int .u8 a, v1] w fun e w' => e = .returned (.bool true) ∧ Below w.heap.size w w' := by
  obtain ⟨m, rfl, hm⟩ := u8_of ha
  obtain ⟨A, n, c, l, rfl, rfl, hml, hA⟩ := open_ops hv1 h1
  cases hf : fewB l 30 with
  | false => exact operations_many w m A c l hA hml hf
  | true => exact operations_law w m hm A c l hA hf
end
end Go.Proofs.Ytagfnobchdfhfaa
