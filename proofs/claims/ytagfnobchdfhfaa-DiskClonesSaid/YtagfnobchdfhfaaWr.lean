import Derived.Test.YtagfnobchdfhfaaWq
namespace Go.Proofs.Ytagfnobchdfhfaa
set_option linter.unusedSimpArgs false
set_option linter.unnecessarySimpa false
set_option linter.unusedVariables false
open Go.RowKit
attribute [local go_sem ↓] Go.wp_at_zero Go.wp_at_succ

/-- a law begins with a disk; the reference's value is put into a block of its own -/
theorem st_begin (s n : Nat) (hs : s < 256) (hn : 1 + s % 6 = n) (w0 w : World) (hb : Below w0.heap.size w0 w) : Calls Try.prog 12 #[.int .u8 (s : Int)] w fun e w' => ∃ (D : Nat) (ad ab ap : Option Addr) (cd cb cp : Nat), e = .returned (.tuple #[.pointer (some ⟨D, 0, none⟩), .agg #[.slice ad n cd, .slice ab n cb, .slice ap 0 cp, .int .i64 (-1), .bool false, .int .i64 0, .int .i64 0, .int .i64 0], .bool true]) ∧ St w0 D (dm0 n) w' := by
  refine (begin_walk s n hs hn w).mono ?_
  rintro e w' ⟨D, v, S, T, rfl, hS, hR, hT, hd⟩
  obtain ⟨vd, vb, vp, rfl, hr⟩ := hR
  obtain ⟨ad, cd, rfl⟩ := row_slice hr.rd
  obtain ⟨ab, cb, rfl⟩ := row_slice hr.rb
  obtain ⟨ap, cp, rfl⟩ := row_slice hr.rp
  refine ⟨D, ad, ab, ap, cd, cb, cp, by simp [rv, dm0], S, hS.dk, hb.trans (hS.bel.mono hb.size), fun k hk => ?_⟩
  have := hS.bd k hk
  have := hb.size
  omega
theorem fi_start (s : ByteArray) (hs : s.size = 64) (m : Nat) : ∃ d1 d2, writeF (dm0 6) 0 s = (0, d1) ∧ d1.after = -1 ∧ d1.pend.length ≤ 1000 ∧ syncF d1 = (0, d2) ∧ FI s.data.toList m 0 (failF d2 m) := by
  have h1 : ∀ x : Int, 0 ≤ x → x < 100 → IntKind.i64.wrap x = x := fun x a b => wrap_small x a (by omega)
  refine ⟨{ dm0 6 with wn := 1, pend := [(0, s)] }, endF { dm0 6 with wn := 1, pend := [(0, s)], sy := 1 } fun _ => 64, ?_, rfl, by simp, ?_, ?_, ?_, rfl, fun p hp => (by cases hp), Nat.zero_le _, .inl ⟨Nat.zero_le _, rfl, ?_⟩⟩
  · have := h1 (0 + 1) (by decide) (by decide)
    simp [writeF, inside, stepF, dm0, hs] at *
    exact this
  · have := h1 (0 + 1) (by decide) (by decide)
    simp [syncF, stepF, dm0] at *
    rw [this]
  · rfl
  · show (endN (fun _ => 64) (dm0 6).secs [(0, s)] 1)[0]? = _
    have hl : s.data.toList.length = 64 := by rw [Array.length_toList]; exact hs
    simp [endN, dm0, torn]
    rw [List.take_of_length_le (by omega)]
  · show max (m : Int) (-1) = (m : Int) - ((0 : Nat) : Int)
    omega
set_option maxRecDepth 100000 in
set_option maxHeartbeats 1000000 in
theorem fails_law (w : World) (m0 : Nat) (hm0 : m0 < 256) (A : Option Addr) (c : Nat) (l : List Bool) (B : Option Addr) (cb : Nat) (sv : List Int) (hA : Ones Value.bool w w.heap.size A l) (hB : Ones (Value.int .i64) w w.heap.size B sv) (h20 : l.length ≤ 20) (h40 : sv.length ≤ 40) :
    Calls Try.prog 6 #[.int .u8 (m0 : Int), .slice A l.length c, .slice B sv.length cb] w fun e w' => e = .returned (.bool true) ∧ Below w.heap.size w w' := by
  obtain ⟨sk, hsk⟩ : ∃ s, fullB ⟨#[107, 101, 112, 116]⟩ = s := ⟨_, rfl⟩
  have hsk64 : sk.size = 64 := by rw [← hsk]; exact fullB_size _
  obtain ⟨m, hm⟩ : ∃ m, m0 % 24 = m := ⟨_, rfl⟩
  obtain ⟨d1, d2, e1, e2, e3, e4, e5⟩ := fi_start sk hsk64 m
  have HS := Lib.hid hsk
  have HA := Lib.hid hA
  have HB := Lib.hid hB
  have H1 := Lib.hid e1
  have H2 := Lib.hid e2
  have H3 := Lib.hid e3
  have H4 := Lib.hid e4
  have H5 := Lib.hid e5
  have HM : Hid (((m0 : Int) % 24) = (m : Int)) := Lib.hid (by omega)
  have hm24 : m < 24 := by omega
  have hl1 : (l.length : Int) ≤ 20 := by omega
  have hl2 : (sv.length : Int) ≤ 40 := by omega
  clear e1 e2 e3 e4 e5 hsk hA hB hm hsk64
  go_enter Try.func6, Try.ntmps6
  go_wp2_with fail
  refine (awake_walk _).mono ?_; rintro e w1 ⟨rfl, hb1⟩
  have B1 := Lib.hid hb1
  clear hb1
  go_wp2_with fail
  refine (st_begin 5 6 (by decide) (by decide) w w1 B1.out).mono ?_; rintro e w2 ⟨D, ad, ab, ap, cd, cb', cp, rfl, g2⟩
  have G2 := Lib.hid (g2.alloc (.cells #[.slice ad 6 cd, .slice ab 6 cb', .slice ap 0 cp, .int .i64 (-1), .bool false, .int .i64 0, .int .i64 0, .int .i64 0] 33))
  clear g2
  go_wp2_with fail
  refine (full_ref _ _ (by decide)).mono ?_; rintro e _ ⟨rfl, rfl⟩
  rw [HS.out]
  go_wp2_with fail
  refine (st_write 0 sk G2.out (by decide) (by decide) _ _ H1.out).mono ?_; rintro e w3 ⟨rfl, g3⟩
  have G3 := Lib.hid g3
  clear g3
  go_wp2_with fail
  refine (st_sync G3.out (by rw [H2.out]; decide) H3.out _ _ H4.out).mono ?_; rintro e w4 ⟨rfl, g4⟩
  have G4 := Lib.hid g4
  clear g4
  go_wp2_with fail
  rw [HM.out]
  refine (st_failAfter (m : Int) G4.out).mono ?_; rintro e w5 ⟨rfl, g5⟩
  have G5 := Lib.hid g5
  clear g5
  go_wp2_with fail
  go_loopw [51] (fun i wr => ∃ (k : Nat) (d : DM), k ≤ l.length ∧ i = .int .i64 (k : Int) ∧ St w D d wr ∧ FI sk.data.toList m k d) (fun i _ => l.length - (intOf i).toNat)
  case atStart => exact ⟨0, _, by omega, rfl, G5.out, H5.out⟩
  case round =>
    obtain ⟨k, d, hk, rfl, hst, hfi⟩ := hrel
    have HT := Lib.hid hst
    have HF := Lib.hid hfi
    clear hst hfi
    by_cases hlt : k < l.length
    · have hkl : (k : Int) < l.length := by omega
      have hmm := HM.out
      obtain ⟨a, rfl, _, hcell⟩ := (HA.out.below HT.out.below (Nat.le_refl _)) k hlt
      obtain ⟨b, hb⟩ : ∃ b, l.getD k default = b := ⟨_, rfl⟩
      rw [hb] at hcell
      clear hb
      have hpl : d.pend.length ≤ 1000 := by have := HF.out.pl; omega
      have haf : d.after ≤ 9223372036854775807 := by rcases HF.out.st with ⟨_, _, h⟩ | ⟨_, _, h⟩ <;> omega
      by_cases hkm : k < m
      · have hkm' : ¬ (m : Int) ≤ k := by omega
        cases b with
        | true =>
          obtain ⟨d', ew, hfi'⟩ := HF.out.sync
          rw [show okE (decide (k < m)) = 0 by simp [okE, hkm]] at ew
          obtain ⟨bb, d'', er, hfi''⟩ := hfi'.read
          rw [show okE (decide (k < m)) = 0 by simp [okE, hkm]] at er
          have hfl : d''.failed = false := by rw [hfi''.failed]; simp [hkm]
          have hpl' : d'.pend.length ≤ 1000 := by have := hfi'.pl; omega
          have FI2 := Lib.hid hfi''
          have EW := Lib.hid ew
          have ER := Lib.hid er
          have FL := Lib.hid hfl
          clear ew er hfl hfi' hfi''
          go_wp2_with fail
          refine (st_sync HT.out haf hpl _ _ EW.out).mono ?_; rintro e w6 ⟨rfl, g6⟩
          have G6 := Lib.hid g6
          clear g6
          go_wp2_with fail
          refine (st_read 0 G6.out hpl' _ ER.out).mono ?_; rintro e w7 ⟨rfl, g7⟩
          have G7 := Lib.hid g7
          clear g7
          go_wp2_with fail
          refine (st_failed G7.out).mono ?_; rintro e _ ⟨rfl, rfl⟩
          rw [FL.out]
          go_wp2_with fail
          go_roundw
          case rel => exact ⟨k + 1, _, by omega, by go_num, G7.out, FI2.out⟩
          case measure => simp [intOf]; omega
        | false =>
          obtain ⟨d', ew, hfi'⟩ := (HF.out.write (1 + k % 5) (by omega) (fullB ⟨#[120]⟩) (fullB_size _))
          rw [show okE (decide (k < m)) = 0 by simp [okE, hkm]] at ew
          obtain ⟨bb, d'', er, hfi''⟩ := hfi'.read
          rw [show okE (decide (k < m)) = 0 by simp [okE, hkm]] at er
          have hfl : d''.failed = false := by rw [hfi''.failed]; simp [hkm]
          have hpl' : d'.pend.length ≤ 1000 := by have := hfi'.pl; omega
          have FI2 := Lib.hid hfi''
          have EW := Lib.hid ew
          have ER := Lib.hid er
          have FL := Lib.hid hfl
          clear ew er hfl hfi' hfi''
          go_wp2_with fail
          refine (full_ref _ _ (by decide)).mono ?_; rintro e _ ⟨rfl, rfl⟩
          go_wp2_with fail
          rw [show (1 + (k : Int) % 5) = ((1 + k % 5 : Nat) : Int) by omega]
          refine (st_write _ _ HT.out haf hpl _ _ EW.out).mono ?_; rintro e w6 ⟨rfl, g6⟩
          have G6 := Lib.hid g6
          clear g6
          go_wp2_with fail
          refine (st_read 0 G6.out hpl' _ ER.out).mono ?_; rintro e w7 ⟨rfl, g7⟩
          have G7 := Lib.hid g7
          clear g7
          go_wp2_with fail
          refine (st_failed G7.out).mono ?_; rintro e _ ⟨rfl, rfl⟩
          rw [FL.out]
          go_wp2_with fail
          go_roundw
          case rel => exact ⟨k + 1, _, by omega, by go_num, G7.out, FI2.out⟩
          case measure => simp [intOf]; omega
      · have hkm' : (m : Int) ≤ k := by omega
        cases b with
        | true =>
          obtain ⟨d', ew, hfi'⟩ := HF.out.sync
          rw [show okE (decide (k < m)) = 11 by simp [okE, hkm]] at ew
          obtain ⟨bb, d'', er, hfi''⟩ := hfi'.read
          rw [show okE (decide (k < m)) = 11 by simp [okE, hkm]] at er
          have hfl : d''.failed = true := by rw [hfi''.failed]; simp [hkm]
          have hpl' : d'.pend.length ≤ 1000 := by have := hfi'.pl; omega
          have FI2 := Lib.hid hfi''
          have EW := Lib.hid ew
          have ER := Lib.hid er
          have FL := Lib.hid hfl
          clear ew er hfl hfi' hfi''
          go_wp2_with fail
          refine (st_sync HT.out haf hpl _ _ EW.out).mono ?_; rintro e w6 ⟨rfl, g6⟩
          have G6 := Lib.hid g6
          clear g6
          go_wp2_with fail
          refine (st_read 0 G6.out hpl' _ ER.out).mono ?_; rintro e w7 ⟨rfl, g7⟩
          have G7 := Lib.hid g7
          clear g7
          go_wp2_with fail
          refine (st_failed G7.out).mono ?_; rintro e _ ⟨rfl, rfl⟩
          rw [FL.out]
          go_wp2_with fail
          go_roundw
          case rel => exact ⟨k + 1, _, by omega, by go_num, G7.out, FI2.out⟩
          case measure => simp [intOf]; omega
        | false =>
          obtain ⟨d', ew, hfi'⟩ := (HF.out.write (1 + k % 5) (by omega) (fullB ⟨#[120]⟩) (fullB_size _))
          rw [show okE (decide (k < m)) = 11 by simp [okE, hkm]] at ew
          obtain ⟨bb, d'', er, hfi''⟩ := hfi'.read
          rw [show okE (decide (k < m)) = 11 by simp [okE, hkm]] at er
          have hfl : d''.failed = true := by rw [hfi''.failed]; simp [hkm]
          have hpl' : d'.pend.length ≤ 1000 := by have := hfi'.pl; omega
          have FI2 := Lib.hid hfi''
          have EW := Lib.hid ew
          have ER := Lib.hid er
          have FL := Lib.hid hfl
          clear ew er hfl hfi' hfi''
          go_wp2_with fail
          refine (full_ref _ _ (by decide)).mono ?_; rintro e _ ⟨rfl, rfl⟩
          go_wp2_with fail
          rw [show (1 + (k : Int) % 5) = ((1 + k % 5 : Nat) : Int) by omega]
          refine (st_write _ _ HT.out haf hpl _ _ EW.out).mono ?_; rintro e w6 ⟨rfl, g6⟩
          have G6 := Lib.hid g6
          clear g6
          go_wp2_with fail
          refine (st_read 0 G6.out hpl' _ ER.out).mono ?_; rintro e w7 ⟨rfl, g7⟩
          have G7 := Lib.hid g7
          clear g7
          go_wp2_with fail
          refine (st_failed G7.out).mono ?_; rintro e _ ⟨rfl, rfl⟩
          rw [FL.out]
          go_wp2_with fail
          go_roundw
          case rel => exact ⟨k + 1, _, by omega, by go_num, G7.out, FI2.out⟩
          case measure => simp [intOf]; omega
    · obtain rfl : k = l.length := by omega
      have HC := Lib.hid (HF.out.crash sv)
      have hpl : d.pend.length ≤ 1000 := by have := HF.out.pl; omega
      obtain ⟨d3, e3, h3⟩ := HC.out.read
      have hf3 := h3.fl
      have hp3 : d3.pend.length ≤ 1000 := by rw [h3.pl]; decide
      have ha3 : d3.after ≤ 9223372036854775807 := by rw [h3.af]; decide
      obtain ⟨d4, e4, hp4, ha4, hf4⟩ := h3.write (fullB ⟨#[121]⟩) (fullB_size _)
      obtain ⟨d5, e5⟩ := sync_ok d4 ha4 hf4
      have hsk' : sB sk.data.toList = sk := rfl
      rw [hsk'] at e3
      have E3 := Lib.hid e3
      have E4 := Lib.hid e4
      have E5 := Lib.hid e5
      have P4 : Hid (d4.pend.length ≤ 1000) := Lib.hid (by rw [hp4]; decide)
      have A4 : Hid (d4.after ≤ 9223372036854775807) := Lib.hid (by rw [ha4]; decide)
      have F3 := Lib.hid hf3
      clear e3 e4 e5 h3 hp4 ha4 hf4 hf3 hsk'
      go_wp2_with fail
      refine (st_crash sv B cb HT.out hpl HB.out).mono ?_; rintro e w6 ⟨rfl, g6⟩
      have G6 := Lib.hid g6
      clear g6
      go_wp2_with fail
      refine (st_read 0 G6.out (Nat.zero_le 1000) _ E3.out).mono ?_; rintro e w7 ⟨rfl, g7⟩
      have G7 := Lib.hid g7
      clear g7
      go_wp2_with fail
      refine (full_ref _ _ (by decide)).mono ?_; rintro e _ ⟨rfl, rfl⟩
      rw [HS.out]
      go_wp2_with fail
      refine (st_failed G7.out).mono ?_; rintro e _ ⟨rfl, rfl⟩
      rw [F3.out]
      go_wp2_with fail
      refine (full_ref _ _ (by decide)).mono ?_; rintro e _ ⟨rfl, rfl⟩
      go_wp2_with fail
      refine (st_write 0 _ G7.out ha3 hp3 _ _ E4.out).mono ?_; rintro e w8 ⟨rfl, g8⟩
      have G8 := Lib.hid g8
      clear g8
      go_wp2_with fail
      refine (st_sync G8.out A4.out P4.out _ _ E5.out).mono ?_; rintro e w9 ⟨rfl, g9⟩
      have G9 := Lib.hid g9
      clear g9
      go_wp2_with fail
      go_ret
      exact ⟨rfl, G9.out.below⟩
theorem fails_many (w : World) (m0 : Nat) (A : Option Addr) (c n : Nat) (B : Option Addr) (cb nb : Nat) (h : 20 < n ∨ 40 < nb) :
    Calls Try.prog 6 #[.int .u8 (m0 : Int), .slice A n c, .slice B nb cb] w fun e w' => e = .returned (.bool true) ∧ Below w.heap.size w w' := by
  by_cases h1 : 20 < n
  · have h1' : (20 : Int) < n := by omega
    clear h
    go_enter Try.func6, Try.ntmps6
    go_wp2_with fail
    refine (awake_walk _).mono ?_; rintro e w1 ⟨rfl, hb1⟩
    have B1 := Lib.hid hb1
    clear hb1
    go_wp2_with fail
    go_ret
    exact ⟨rfl, B1.out⟩
  · have h1' : ¬ (20 : Int) < n := by omega
    have h2' : (40 : Int) < nb := by omega
    clear h
    go_enter Try.func6, Try.ntmps6
    go_wp2_with fail
    refine (awake_walk _).mono ?_; rintro e w1 ⟨rfl, hb1⟩
    have B1 := Lib.hid hb1
    clear hb1
    go_wp2_with fail
    go_ret
    exact ⟨rfl, B1.out⟩
section
variable {H : Type} {enc : TypeId × Value → H} {w : World} {base b0 : Nat} {held : Bool}
theorem u8_of {a : Int} (h : (Lit.int .u8 a).wf = true) : ∃ m : Nat, a = m ∧ m < 256 := by
  have hb : 0 ≤ a ∧ a < 256 := by
    simp [Lit.wf, IntKind.min, IntKind.max, IntKind.signed, IntKind.bits] at h; omega
  exact ⟨a.toNat, by omega, by omega⟩
theorem fails_in (a : Int) (ha : (Lit.int .u8 a).wf = true) {d1 : DataW H} {p1 : List MemPlace} (v1 : Value) (h1 : DataW.Trod enc Try.prog w base (fun _ => true) held 28 v1 d1 p1) (hv1 : Value.okWide Try.prog w .any b0 28 v1)
    {d2 : DataW H} {p2 : List MemPlace} (v2 : Value) (h2 : DataW.Trod enc Try.prog w base (fun _ => true) held 23 v2 d2 p2) (hv2 : Value.okWide Try.prog w .any b0 23 v2) :
    Calls Try.prog 6 #[.int .u8 a, v1, v2] w fun e w' => e = .returned (.bool true) ∧ Below w.heap.size w w' := by
  obtain ⟨m, rfl, hm⟩ := u8_of ha
  obtain ⟨A, n, c, l, rfl, rfl, hA⟩ := open_bool28 hv1 h1
  obtain ⟨B, nb, cb, sv, rfl, rfl, hB⟩ := open_int23 hv2 h2
  by_cases h : 20 < l.length ∨ 40 < sv.length
  · exact fails_many w m A c _ B cb _ h
  · exact fails_law w m hm A c l B cb sv hA hB (by omega) (by omega)
end
end Go.Proofs.Ytagfnobchdfhfaa
