import Derived.Test.YtagfnobchdfhfaaWr
namespace Go.Proofs.Ytagfnobchdfhfaa
set_option linter.unusedSimpArgs false
set_option linter.unnecessarySimpa false
set_option linter.unusedVariables false
open Go.RowKit
attribute [local go_sem ↓] Go.wp_at_zero Go.wp_at_succ

/-- sector n has a content and may be bad; all else is new -/
structure BI (n : Nat) (cur : List UInt8) (b : Bool) (d : DM) : Prop where
  n6 : n < 6
  c64 : cur.length = 64
  secs : d.secs = (List.replicate 6 (List.replicate 64 (0 : UInt8))).set n cur
  bad : d.bad = (List.replicate 6 false).set n b
  pl : d.pend = []
  fl : d.failed = false
  af : d.after = -1
theorem BI.inside {n : Nat} {cur : List UInt8} {b : Bool} {d : DM} (h : BI n cur b d) (i : Nat) (hi : i < 6) : inside d (i : Int) = true := by
  unfold Go.Proofs.Ytagfnobchdfhfaa.inside; rw [h.secs]; simp; omega
theorem BI.other {n : Nat} {cur : List UInt8} {b : Bool} {d : DM} (h : BI n cur b d) (i : Nat) (hi : i < 6) (hne : i ≠ n) : ∃ x d', readF d (i : Int) = ((x, 0), d') ∧ BI n cur b d' := by
  have hb : d.bad.getD (i : Int).toNat false = false := by rw [h.bad, List.getD_eq_getElem?_getD, Int.toNat_natCast, List.getElem?_set_ne (by omega), List.getElem?_replicate]; split <;> rfl
  refine ⟨content d i, { d with r := IntKind.i64.wrap (d.r + 1) }, ?_, h.n6, h.c64, h.secs, h.bad, h.pl, h.fl, h.af⟩
  unfold readF
  rw [h.inside i hi, hb, h.fl]
  simp
theorem BI.none {n : Nat} {cur : List UInt8} {d : DM} (h : BI n cur true d) : readF d (n : Int) = ((⟨#[]⟩, 11), d) := by
  have hb : d.bad.getD (n : Int).toNat false = true := by
    rw [h.bad, List.getD_eq_getElem?_getD, Int.toNat_natCast, List.getElem?_set_self (by simpa using h.n6)]; rfl
  unfold readF
  rw [h.inside n h.n6, hb]
  simp
theorem BI.get {n : Nat} {cur : List UInt8} {b : Bool} {d : DM} (h : BI n cur b d) : d.secs.getD n [] = cur := by
  rw [h.secs, List.getD_eq_getElem?_getD, List.getElem?_set_self (by simpa using h.n6)]; rfl
theorem BI.read {n : Nat} {cur : List UInt8} {d : DM} (h : BI n cur false d) : ∃ d', readF d (n : Int) = ((sB cur, 0), d') ∧ BI n cur false d' := by
  have hb : d.bad.getD (n : Int).toNat false = false := by
    rw [h.bad, List.getD_eq_getElem?_getD, Int.toNat_natCast, List.getElem?_set_self (by simpa using h.n6)]; rfl
  refine ⟨{ d with r := IntKind.i64.wrap (d.r + 1) }, ?_, h.n6, h.c64, h.secs, h.bad, h.pl, h.fl, h.af⟩
  unfold readF
  rw [h.inside n h.n6, hb, h.fl]
  have e : content d n = sB cur := by
    unfold content
    rw [h.pl, h.get]
    rfl
  simp [e]
theorem BI.dam {n : Nat} {cur : List UInt8} {b : Bool} {d : DM} (h : BI n cur b d) (k : Nat) (hk : k < 64) (m : UInt8) (hm : m ≠ 0) : ∃ d', damF d (n : Int) (k : Int) m = (0, d') ∧ BI n (dmg cur k m) b d' := by
  refine ⟨{ d with secs := d.secs.set n (dmg cur k m) }, ?_, h.n6, by simp [dmg, h.c64], ?_, h.bad, h.pl, h.fl, h.af⟩
  · unfold damF
    rw [if_neg (by rw [h.inside n h.n6]; intro hh; rcases hh with hh | hh | hh
                   · cases hh
                   · omega
                   · omega), if_neg hm, Int.toNat_natCast, Int.toNat_natCast, h.get]
  · show d.secs.set n _ = _
    rw [h.secs, List.set_set]
theorem BI.set {n : Nat} {cur : List UInt8} {b : Bool} {d : DM} (h : BI n cur b d) (b' : Bool) : ∃ d', badF d (n : Int) b' = (0, d') ∧ BI n cur b' d' := by
  refine ⟨{ d with bad := d.bad.set n b' }, ?_, h.n6, h.c64, h.secs, ?_, h.pl, h.fl, h.af⟩
  · unfold badF
    rw [h.inside n h.n6]
    rfl
  · show d.bad.set n _ = _
    rw [h.bad, List.set_set]
theorem dmg_dmg (l : List UInt8) (k : Nat) (m : UInt8) (hk : k < l.length) : dmg (dmg l k m) k m = l := by
  unfold dmg
  rw [List.set_set]
  have e : (l.set k (l.getD k 0 ^^^ m)).getD k 0 = l.getD k 0 ^^^ m := by rw [List.getD_eq_getElem?_getD, List.getElem?_set_self hk]; rfl
  rw [e, UInt8.xor_assoc, UInt8.xor_self, UInt8.xor_zero]
  apply List.ext_getElem?
  intro i
  rw [List.getElem?_set]
  split
  · rename_i h
    subst h
    rw [List.getD_eq_getElem?_getD, List.getElem?_eq_getElem hk]; rfl
  · rfl
theorem dmg_extract (s : ByteArray) (k : Nat) (m : UInt8) (hs : s.size = 64) (hk : k < 64) : (sB (dmg s.data.toList k m)).extract 0 k = s.extract 0 k ∧ (sB (dmg s.data.toList k m)).extract (k + 1) 64 = s.extract (k + 1) 64 := by
  have hl : s.data.toList.length = 64 := by rw [Array.length_toList]; exact hs
  constructor
  · apply ByteArray.ext
    apply Array.ext'
    simp only [sB, dmg, ByteArray.data_extract, Array.toList_extract, List.extract_eq_take_drop]
    simp
    rw [List.take_set, List.set_eq_of_length_le (by simp; omega)]
  · apply ByteArray.ext
    apply Array.ext'
    simp only [sB, dmg, ByteArray.data_extract, Array.toList_extract, List.extract_eq_take_drop]
    simp
    rw [List.drop_set_of_lt (by omega)]
theorem dmg_at (s : ByteArray) (k : Nat) (m : UInt8) (x : ByteArray) (hx : sB (dmg s.data.toList k m) = x) (h1 : k < x.size) (h2 : k < s.size) : (((x[k]'h1).toNat : Int) != bits .xor .u8 ((s[k]'h2).toNat : Int) (m.toNat : Int)) = false := by
  subst hx
  have e : (sB (dmg s.data.toList k m))[k]'h1 = s[k]'h2 ^^^ m := by
    show (dmg s.data.toList k m).toArray[k]'_ = s.data[k]'_ ^^^ m
    have hk : k < s.data.toList.length := by simpa using h2
    simp [dmg, List.getD_eq_getElem?_getD, List.getElem?_eq_getElem hk]
  rw [e, u8_xor_nat _ _ (s[k]'h2).toNat_lt m.toNat_lt, UInt8.toNat_xor]
  simp
theorem bi_start (n : Nat) (hn : n < 6) (s : ByteArray) (hs : s.size = 64) : ∃ d1 d2 d3, writeF (dm0 6) (n : Int) s = (0, d1) ∧ d1.after = -1 ∧ d1.pend.length ≤ 1000 ∧ syncF d1 = (0, d2) ∧ badF d2 (n : Int) true = (0, d3) ∧ BI n s.data.toList true d3 := by
  have h1 : ∀ x : Int, 0 ≤ x → x < 100 → IntKind.i64.wrap x = x := fun x a b => wrap_small x a (by omega)
  have hl : s.data.toList.length = 64 := by rw [Array.length_toList]; exact hs
  have hin : inside (dm0 6) (n : Int) = true := by unfold inside dm0; simp; omega
  have hb : BI n s.data.toList false (endF { dm0 6 with wn := 1, pend := [(n, s)], sy := 1 } fun _ => 64) := by
    refine ⟨hn, hl, ?_, ?_, rfl, rfl, rfl⟩
    · show endN (fun _ => 64) (dm0 6).secs [(n, s)] 1 = _
      have e : (dm0 6).secs[n]? = some (List.replicate 64 0) := by show (List.replicate 6 _)[n]? = _; rw [List.getElem?_replicate, if_pos hn]
      show ((dm0 6).secs.modify n _) = _
      rw [modify_set _ _ _ _ e]
      show (dm0 6).secs.set n (List.take 64 s.data.toList ++ List.drop 64 (List.replicate 64 0)) = _
      rw [List.take_of_length_le (by omega)]
      simp [dm0]
    · show List.replicate 6 false = _
      apply List.ext_getElem?
      intro i
      rw [List.getElem?_set]
      split
      · rename_i h; subst h; rw [List.getElem?_replicate]; simp [hn]
      · rfl
  obtain ⟨d3, e3, h3⟩ := hb.set true
  refine ⟨{ dm0 6 with wn := 1, pend := [(n, s)] }, endF { dm0 6 with wn := 1, pend := [(n, s)], sy := 1 } fun _ => 64, d3, ?_, rfl, by simp, ?_, e3, h3⟩
  · have := h1 (0 + 1) (by decide) (by decide)
    unfold writeF
    rw [hin]
    simp [stepF, dm0, hs] at *
    exact this
  · have := h1 (0 + 1) (by decide) (by decide)
    simp [syncF, stepF, dm0] at *
    rw [this]
set_option maxRecDepth 100000 in
set_option maxHeartbeats 2000000 in
theorem bad_law (w : World) (a0 a1 : Nat) (h0 : a0 < 256) (h1 : a1 < 256) (m : UInt8) (hm : m ≠ 0) (t : ByteArray) (ht : t.size ≤ 200) :
    Calls Try.prog 7 #[.int .u8 (a0 : Int), .int .u8 (a1 : Int), .int .u8 (m.toNat : Int), .string t] w fun e w' => e = .returned (.bool true) ∧ Below w.heap.size w w' := by
  obtain ⟨s, hsk⟩ : ∃ s, fullB t = s := ⟨_, rfl⟩
  have hs64 : s.size = 64 := by rw [← hsk]; exact fullB_size _
  obtain ⟨n, hn⟩ : ∃ n, a0 % 6 = n := ⟨_, rfl⟩
  obtain ⟨k, hk⟩ : ∃ k, a1 % 64 = k := ⟨_, rfl⟩
  have hn6 : n < 6 := by omega
  have hk64 : k < 64 := by omega
  have hl : s.data.toList.length = 64 := by rw [Array.length_toList]; exact hs64
  obtain ⟨d1, d2, d3, e1, e2, e3, e4, e5, hb3⟩ := bi_start n hn6 s hs64
  have HS := Lib.hid hsk
  have H1 := Lib.hid e1
  have H2 := Lib.hid e2
  have H3 := Lib.hid e3
  have H4 := Lib.hid e4
  have H5 := Lib.hid e5
  have HBI := Lib.hid hb3
  have HN : Hid (((a0 : Int) % 6) = (n : Int)) := Lib.hid (by omega)
  have HK : Hid (((a1 : Int) % 64) = (k : Int)) := Lib.hid (by omega)
  have hm0 : ((m.toNat : Int) == 0) = false := by
    rw [Bool.eq_false_iff]; intro h; apply hm; apply UInt8.toNat_inj.1
    have : (m.toNat : Int) = 0 := by simpa using h
    simp; omega
  have ht' : (t.size : Int) ≤ 200 := by omega
  have HM := Lib.hid hm
  clear e1 e2 e3 e4 e5 hsk hb3 hn hk hm
  go_enter Try.func7, Try.ntmps7
  go_wp2_with fail
  refine (awake_walk _).mono ?_; rintro e w1 ⟨rfl, hb1⟩
  have B1 := Lib.hid hb1
  clear hb1
  go_wp2_with fail
  refine (st_begin 5 6 (by decide) (by decide) w w1 B1.out).mono ?_; rintro e w2 ⟨D, ad, ab, ap, cd, cb', cp, rfl, g2⟩
  have G2 := Lib.hid (g2.alloc (.cells #[.slice ad 6 cd, .slice ab 6 cb', .slice ap 0 cp, .int .i64 (-1), .bool false, .int .i64 0, .int .i64 0, .int .i64 0] 33))
  clear g2
  go_wp2_with fail
  refine (full_ref _ _ (by unfold maxLen; omega)).mono ?_; rintro e _ ⟨rfl, rfl⟩
  rw [HS.out, HN.out, HK.out]
  go_wp2_with fail
  refine (st_write n s G2.out (by decide) (by decide) _ _ H1.out).mono ?_; rintro e w3 ⟨rfl, g3⟩
  have G3 := Lib.hid g3
  clear g3
  go_wp2_with fail
  refine (st_sync G3.out (by rw [H2.out]; decide) H3.out _ _ H4.out).mono ?_; rintro e w4 ⟨rfl, g4⟩
  have G4 := Lib.hid g4
  clear g4
  go_wp2_with fail
  refine (st_setBad (n : Int) true G4.out _ _ H5.out).mono ?_; rintro e w5 ⟨rfl, g5⟩
  have G5 := Lib.hid g5
  clear g5
  go_wp2_with fail
  go_loopw [62] (fun i wr => ∃ (j : Nat) (d : DM), j ≤ 6 ∧ i = .int .i64 (j : Int) ∧ St w D d wr ∧ BI n s.data.toList true d) (fun i _ => 6 - (intOf i).toNat)
  case atStart => exact ⟨0, _, by omega, rfl, G5.out, HBI.out⟩
  case round =>
    obtain ⟨j, d, hj, rfl, hst, hbi⟩ := hrel
    have HT := Lib.hid hst
    have HF := Lib.hid hbi
    have PL : Hid (d.pend.length ≤ 1000) := Lib.hid (by rw [hbi.pl]; decide)
    clear hst hbi
    by_cases hlt : j < 6
    · have hjl : (j : Int) < 6 := by omega
      by_cases hjn : j = n
      · subst hjn
        have E := Lib.hid HF.out.none
        go_wp2_with fail
        refine (st_read _ HT.out PL.out _ E.out).mono ?_; rintro e w7 ⟨rfl, g7⟩
        have G7 := Lib.hid g7
        clear g7
        go_wp2_with fail
        go_roundw
        case rel => exact ⟨j + 1, _, by omega, by go_num, G7.out, HF.out⟩
        case measure => simp [intOf]; omega
      · obtain ⟨x, d', er, hf'⟩ := HF.out.other j hlt hjn
        have ER := Lib.hid er
        have HF' := Lib.hid hf'
        have hne : ((j : Int) == (n : Int)) = false := by rw [Bool.eq_false_iff]; simp; omega
        clear er hf'
        go_wp2_with fail
        refine (st_read _ HT.out PL.out _ ER.out).mono ?_; rintro e w7 ⟨rfl, g7⟩
        have G7 := Lib.hid g7
        clear g7
        go_wp2_with fail
        go_roundw
        case rel => exact ⟨j + 1, _, by omega, by go_num, G7.out, HF'.out⟩
        case measure => simp [intOf]; omega
    · obtain rfl : j = 6 := by omega
      obtain ⟨d4, e4, hb4⟩ := HF.out.dam k hk64 m HM.out
      obtain ⟨d5, e5, hb5⟩ := hb4.set false
      obtain ⟨d6, e6, hb6⟩ := hb5.read
      obtain ⟨d7, e7, hb7⟩ := hb6.dam k hk64 m HM.out
      rw [dmg_dmg _ _ _ (by rw [hl]; exact hk64)] at hb7
      obtain ⟨d8, e8, hb8⟩ := hb7.read
      have es : sB s.data.toList = s := rfl
      rw [es] at e8
      have E4 := Lib.hid e4
      have E5 := Lib.hid e5
      have E6 := Lib.hid e6
      have E7 := Lib.hid e7
      have E8 := Lib.hid e8
      have P5 : Hid (d5.pend.length ≤ 1000) := Lib.hid (by rw [hb5.pl]; decide)
      have P7 : Hid (d7.pend.length ≤ 1000) := Lib.hid (by rw [hb7.pl]; decide)
      clear e4 e5 e6 e7 e8 hb4 hb5 hb6 hb7 hb8 es
      go_wp2_with fail
      refine (st_damage (n : Int) (k : Int) m HT.out _ _ E4.out).mono ?_; rintro e w7 ⟨rfl, g7⟩
      have G7 := Lib.hid g7
      clear g7
      go_wp2_with fail
      refine (st_setBad (n : Int) false G7.out _ _ E5.out).mono ?_; rintro e w8 ⟨rfl, g8⟩
      have G8 := Lib.hid g8
      clear g8
      go_wp2_with fail
      refine (st_read _ G8.out P5.out _ E6.out).mono ?_; rintro e w9 ⟨rfl, g9⟩
      have G9 := Lib.hid g9
      clear g9
      go_wp2_with fail
      obtain ⟨x, hx⟩ : ∃ x, sB (dmg s.data.toList k m) = x := ⟨_, rfl⟩
      have hk0 : (0 : Int) ≤ k := by omega
      have hk1 : (k : Int) < 64 := by omega
      have hk2 : (k : Int) ≤ 64 := by omega
      have hxs : (x.size : Int) = 64 := by rw [← hx]; show (((dmg s.data.toList k m).toArray.size : Nat) : Int) = 64; simp [dmg, hl]
      have hss : (s.size : Int) = 64 := by omega
      have hw1 : IntKind.i64.wrap ((k : Int) + 1) = (k : Int) + 1 := wrap_small _ (by omega) (by omega)
      have hw2 : (0 : Int) ≤ (k : Int) + 1 := by omega
      have hw3 : ((k : Int) + 1).toNat = k + 1 := by omega
      obtain ⟨hx1, hx2⟩ := dmg_extract s k m hs64 hk64
      rw [hx] at hx1 hx2
      have hx2' : x.extract (k + 1) x.size = s.extract (k + 1) 64 := by rw [show x.size = 64 by omega]; exact hx2
      clear hx2
      have hx3 := dmg_at s k m x hx
      go_wp2_with fail
      rw [hx]
      go_wp2_with fail
      go_quiet (fail)
      have G9d := Lib.hid (G9.out.same (below_drewN (Below.refl _ _) 1))
      go_wp2_with fail
      refine (st_damage (n : Int) (k : Int) m (G9.out.same (below_drewN (Below.refl _ _) _)) _ _ E7.out).mono ?_; rintro e w10 ⟨rfl, g10⟩
      have G10 := Lib.hid g10
      clear g10
      go_wp2_with fail
      refine (st_read _ G10.out P7.out _ E8.out).mono ?_; rintro e w11 ⟨rfl, g11⟩
      have G11 := Lib.hid g11
      clear g11
      go_wp2_with fail
      go_ret
      exact ⟨rfl, G11.out.below⟩
set_option maxRecDepth 100000 in
theorem bad_many (w : World) (a0 a1 m : Nat) (t : ByteArray) (h : m = 0 ∨ 200 < t.size) :
    Calls Try.prog 7 #[.int .u8 (a0 : Int), .int .u8 (a1 : Int), .int .u8 (m : Int), .string t] w fun e w' => e = .returned (.bool true) ∧ Below w.heap.size w w' := by
  by_cases h1 : m = 0
  · subst h1
    clear h
    go_enter Try.func7, Try.ntmps7
    go_wp2_with fail
    refine (awake_walk _).mono ?_; rintro e w1 ⟨rfl, hb1⟩
    have B1 := Lib.hid hb1
    clear hb1
    go_wp2_with fail
    go_ret
    exact ⟨rfl, B1.out⟩
  · have h1' : ((m : Int) == 0) = false := by rw [Bool.eq_false_iff]; simp; omega
    have h2' : (200 : Int) < t.size := by omega
    clear h h1
    go_enter Try.func7, Try.ntmps7
    go_wp2_with fail
    refine (awake_walk _).mono ?_; rintro e w1 ⟨rfl, hb1⟩
    have B1 := Lib.hid hb1
    clear hb1
    go_wp2_with fail
    go_ret
    exact ⟨rfl, B1.out⟩
theorem bad_in (a : Int) (ha : (Lit.int .u8 a).wf = true) (b : Int) (hb : (Lit.int .u8 b).wf = true) (c : Int) (hc : (Lit.int .u8 c).wf = true) (t : ByteArray) (_ : t.size ≤ maxLen) (w : World) :
    Calls Try.prog 7 #[.int .u8 a, .int .u8 b, .int .u8 c, .string t] w fun e w' => e = .returned (.bool true) ∧ Below w.heap.size w w' := by
  obtain ⟨m, rfl, hm⟩ := u8_of hc
  obtain ⟨x, rfl, hx⟩ := u8_of ha
  obtain ⟨y, rfl, hy⟩ := u8_of hb
  by_cases h : m = 0 ∨ 200 < t.size
  · exact bad_many w x y m t h
  · have e : (UInt8.ofNat m).toNat = m := by rw [UInt8.toNat_ofNat']; omega
    have := bad_law w x y hx hy (UInt8.ofNat m) (by intro h0; apply h; left; rw [← e, h0]; rfl) t (by omega)
    rw [e] at this
    exact this
end Go.Proofs.Ytagfnobchdfhfaa
