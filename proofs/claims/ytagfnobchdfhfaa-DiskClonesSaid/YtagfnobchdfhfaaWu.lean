import Derived.Test.YtagfnobchdfhfaaWt
namespace Go.Proofs.Ytagfnobchdfhfaa
set_option linter.unusedSimpArgs false
set_option linter.unnecessarySimpa false
set_option linter.unusedVariables false
open Go.RowKit Go.ChangeShapes Go.WideShapes Go.ChangeAt
attribute [local go_sem ↓] Go.wp_at_zero Go.wp_at_succ

/-- after j writes to other sectors -/
structure UI (n : Nat) (kept : List UInt8) (j : Nat) (d : DM) : Prop where
  n6 : n < 6
  len : d.secs.length = 6
  at_ : d.secs[n]? = some kept
  bad : d.bad = List.replicate 6 false
  pne : ∀ p ∈ d.pend, p.1 ≠ n
  pl : d.pend.length = j
  fl : d.failed = false
  af : d.after = -1
theorem UI.write {n : Nat} {kept : List UInt8} {j : Nat} {d : DM} (h : UI n kept j d) (k : Nat) (hk : k < 6) (hne : k ≠ n) (s : ByteArray) (hs : s.size = 64) : ∃ d', writeF d (k : Int) s = (0, d') ∧ UI n kept (j + 1) d' := by
  have hin : inside d (k : Int) = true := by unfold inside; rw [h.len]; simp; omega
  have hst : stepF d = (true, d) := by unfold stepF; simp [h.fl, h.af]
  refine ⟨{ d with wn := IntKind.i64.wrap (d.wn + 1), pend := d.pend ++ [(k, s)] }, ?_, h.n6, h.len, h.at_, h.bad, ?_, by simp [h.pl], h.fl, h.af⟩
  · unfold writeF
    rw [hin, hst]
    simp [hs]
  · intro p hp
    simp only [List.mem_append, List.mem_singleton] at hp
    rcases hp with hp | rfl
    · exact h.pne p hp
    · exact hne
theorem UI.crash {n : Nat} {kept : List UInt8} {j : Nat} {d : DM} (h : UI n kept j d) (sv : List Int) : ∃ d', readF (crashF d sv) (n : Int) = ((sB kept, 0), d') ∧ d'.pend.length = 0 := by
  have hl : (crashF d sv).secs.length = 6 := by show (endN _ _ _ _).length = 6; rw [endN_length]; exact h.len
  have hg : (crashF d sv).secs[n]? = some kept := by
    show (endN _ _ _ _)[n]? = _
    rw [endN_keep _ _ _ _ h.pne]; exact h.at_
  have hin : inside (crashF d sv) (n : Int) = true := by unfold inside; rw [hl]; have := h.n6; simp; omega
  have hb : (crashF d sv).bad.getD (n : Int).toNat false = false := by
    show d.bad.getD _ false = false
    rw [h.bad, List.getD_eq_getElem?_getD, List.getElem?_replicate]; split <;> rfl
  have hf : (crashF d sv).failed = false := rfl
  have hc : content (crashF d sv) n = sB kept := by
    unfold content
    show (lastOf [] n).getD (sB ((crashF d sv).secs.getD n [])) = _
    rw [List.getD_eq_getElem?_getD, hg]; rfl
  refine ⟨{ crashF d sv with r := IntKind.i64.wrap ((crashF d sv).r + 1) }, ?_, rfl⟩
  unfold readF
  rw [hin, hb]
  simp [hc, hf]
theorem ui_start (n : Nat) (hn : n < 6) (s : ByteArray) (hs : s.size = 64) : ∃ d1 d2, writeF (dm0 6) (n : Int) s = (0, d1) ∧ d1.after = -1 ∧ d1.pend.length ≤ 1000 ∧ syncF d1 = (0, d2) ∧ UI n s.data.toList 0 d2 := by
  obtain ⟨d1, d2, d3, e1, e2, e3, e4, e5, h⟩ := bi_start n hn s hs
  obtain ⟨d4, e6, h4⟩ := h.set false
  have hd : d3 = { d2 with bad := d2.bad.set n true } := by
    unfold badF at e5
    split at e5
    · cases e5
    · injection e5 with _ e5; rw [← e5]; simp
  have hsync : d2.pend = [] ∧ d2.failed = false ∧ d2.after = -1 ∧ d2.secs = d3.secs ∧ d2.bad = d1.bad := by
    refine ⟨?_, ?_, ?_, by rw [hd], ?_⟩
    · have := h.pl; rw [hd] at this; exact this
    · have := h.fl; rw [hd] at this; exact this
    · have := h.af; rw [hd] at this; exact this
    · unfold syncF at e4
      split at e4
      · cases e4
      · injection e4 with _ e4
        rw [← e4]
        show (stepF d1).2.bad = d1.bad
        exact (stepF_same d1).2.1
  have hb1 : d1.bad = List.replicate 6 false := by
    unfold writeF at e1
    split at e1
    · cases e1
    · split at e1
      · cases e1
      · split at e1
        · cases e1
        · injection e1 with _ e1
          rw [← e1]
          show (stepF (dm0 6)).2.bad = _
          rw [(stepF_same (dm0 6)).2.1]; rfl
  refine ⟨d1, d2, e1, e2, e3, e4, hn, ?_, ?_, by rw [hsync.2.2.2.2]; exact hb1, (by rw [hsync.1]; intro p hp; cases hp), by rw [hsync.1]; rfl, hsync.2.1, hsync.2.2.1⟩
  · rw [hsync.2.2.2.1, h.secs]; simp
  · rw [hsync.2.2.2.1, h.secs, List.getElem?_set_self (by simpa using hn)]
set_option maxRecDepth 100000 in
set_option maxHeartbeats 1000000 in
theorem durable_law (w : World) (a0 : Nat) (h0 : a0 < 256) (t : ByteArray) (ht : t.size ≤ 200) (A : Option Addr) (c : Nat) (l : List OpM) (B : Option Addr) (cb : Nat) (sv : List Int) (hA : Ops w w.heap.size A l) (hB : Ones (Value.int .i64) w w.heap.size B sv) (hfew : l.all fewO = true) (h15 : l.length ≤ 15) (h40 : sv.length ≤ 40) :
    Calls Try.prog 3 #[.int .u8 (a0 : Int), .string t, .slice A l.length c, .slice B sv.length cb] w fun e w' => e = .returned (.bool true) ∧ Below w.heap.size w w' := by
  obtain ⟨s, hsk⟩ : ∃ s, fullB t = s := ⟨_, rfl⟩
  have hs64 : s.size = 64 := by rw [← hsk]; exact fullB_size _
  obtain ⟨n, hn⟩ : ∃ n, a0 % 6 = n := ⟨_, rfl⟩
  have hn6 : n < 6 := by omega
  obtain ⟨d1, d2, e1, e2, e3, e4, hu⟩ := ui_start n hn6 s hs64
  have HS := Lib.hid hsk
  have H1 := Lib.hid e1
  have H2 := Lib.hid e2
  have H3 := Lib.hid e3
  have H4 := Lib.hid e4
  have HU := Lib.hid hu
  have HA := Lib.hid hA
  have HB := Lib.hid hB
  have HF := Lib.hid hfew
  have HN : Hid (((a0 : Int) % 6) = (n : Int)) := Lib.hid (by omega)
  have ht' : (t.size : Int) ≤ 200 := by omega
  have hl2 : (sv.length : Int) ≤ 40 := by omega
  have HFB : Hid (fewB l 15 = true) := Lib.hid (by unfold fewB; rw [hfew]; simp [h15])
  clear e1 e2 e3 e4 hsk hu hn hA hB hfew
  go_enter Try.func3, Try.ntmps3
  go_wp2_with fail
  refine (awake_walk _).mono ?_; rintro e w1 ⟨rfl, hb1⟩
  have B1 := Lib.hid hb1
  clear hb1
  go_wp2_with fail
  refine (few_walk w1 A c l 15 _ (HA.out.below B1.out (Nat.le_refl _)) (by unfold maxLen; omega)).mono ?_; rintro e _ ⟨rfl, rfl⟩
  rw [HFB.out]
  go_wp2_with fail
  refine (st_begin 5 6 (by decide) (by decide) w w1 B1.out).mono ?_; rintro e w2 ⟨D, ad, ab, ap, cd, cb', cp, rfl, g2⟩
  have G2 := Lib.hid (g2.alloc (.cells #[.slice ad 6 cd, .slice ab 6 cb', .slice ap 0 cp, .int .i64 (-1), .bool false, .int .i64 0, .int .i64 0, .int .i64 0] 33))
  clear g2
  go_wp2_with fail
  refine (full_ref _ _ (by unfold maxLen; omega)).mono ?_; rintro e _ ⟨rfl, rfl⟩
  rw [HS.out, HN.out]
  go_wp2_with fail
  refine (st_write n s G2.out (by decide) (by decide) _ _ H1.out).mono ?_; rintro e w3 ⟨rfl, g3⟩
  have G3 := Lib.hid g3
  clear g3
  go_wp2_with fail
  refine (st_sync G3.out (by rw [H2.out]; decide) H3.out _ _ H4.out).mono ?_; rintro e w4 ⟨rfl, g4⟩
  have G4 := Lib.hid g4
  clear g4
  go_wp2_with fail
  refine (st_pending G4.out).mono ?_; rintro e _ ⟨rfl, rfl⟩
  rw [HU.out.pl]
  go_wp2_with fail
  go_loopw [14, 64] (fun cnt i wr => ∃ (j : Nat) (d : DM), j ≤ l.length ∧ cnt = .int .i64 (j : Int) ∧ i = .int .i64 (j : Int) ∧ St w D d wr ∧ UI n s.data.toList j d) (fun _ i _ => l.length - (intOf i).toNat)
  case atStart => exact ⟨0, _, by omega, rfl, rfl, G4.out, HU.out⟩
  case round =>
    obtain ⟨j, d, hj, rfl, rfl, hst, hui⟩ := hrel
    have HT := Lib.hid hst
    have HI := Lib.hid hui
    have PL : Hid (d.pend.length ≤ 1000) := Lib.hid (by rw [hui.pl]; omega)
    have AF : Hid (d.after ≤ 9223372036854775807) := Lib.hid (by rw [hui.af]; decide)
    clear hst hui
    by_cases hlt : j < l.length
    · have hjl : (j : Int) < l.length := by omega
      obtain ⟨a, rfl, _, ho⟩ := (HA.out.below HT.out.below (Nat.le_refl _)) j hlt
      have hf2 := few_get HF.out hlt
      obtain ⟨o, ho'⟩ : ∃ o, l.getD j default = o := ⟨_, rfl⟩
      rw [ho'] at ho hf2
      obtain ⟨gA, cA, eS⟩ : ∃ x y, (Value.slice o.sA o.sv.length o.sc) = .slice x o.sv.length y := ⟨_, _, rfl⟩
      have c0 := ho.c0
      have c1 := ho.c1
      have c2 := ho.c2
      have c3 := ho.c3
      have c4 := ho.c4
      have c5 := ho.c5
      have c6 := ho.c6
      have hm := o.mask.toNat_lt
      obtain ⟨m, hmm⟩ : ∃ m, o.mask.toNat = m := ⟨_, rfl⟩
      rw [hmm] at c4 hm
      have hm' : (m : Int) < 256 := by omega
      have hds : o.data.size ≤ maxLen := by unfold maxLen; omega
      have hne : (n + 1 + m % 5) % 6 ≠ n := by omega
      obtain ⟨d', ew, hu'⟩ := HI.out.write ((n + 1 + m % 5) % 6) (by omega) hne (fullB o.data) (fullB_size _)
      have EW := Lib.hid ew
      have HU' := Lib.hid hu'
      have HE : Hid (((n : Int) + 1 + (m : Int) % 5) % 6 = (((n + 1 + m % 5) % 6 : Nat) : Int)) := Lib.hid (by omega)
      clear ho ho' hf2 eS hmm ew hu' hne
      go_wp2_with fail
      refine (full_ref _ _ hds).mono ?_; rintro e _ ⟨rfl, rfl⟩
      rw [HE.out]
      go_wp2_with fail
      refine (st_write _ _ (HT.out.alloc _) AF.out PL.out _ _ EW.out).mono ?_; rintro e w6 ⟨rfl, g6⟩
      have G6 := Lib.hid g6
      clear g6
      go_wp2_with fail
      go_roundw
      case rel => exact ⟨j + 1, _, by omega, by go_num, by go_num, G6.out, HU'.out⟩
      case measure => simp [intOf]; omega
    · obtain rfl : j = l.length := by omega
      obtain ⟨d3, e3, h3⟩ := HI.out.crash sv
      have es : sB s.data.toList = s := rfl
      rw [es] at e3
      have E3 := Lib.hid e3
      have P3 := Lib.hid h3
      clear e3 h3 es
      go_wp2_with fail
      refine (st_pending HT.out).mono ?_; rintro e _ ⟨rfl, rfl⟩
      rw [HI.out.pl]
      go_wp2_with fail
      refine (st_crash sv B cb HT.out PL.out HB.out).mono ?_; rintro e w6 ⟨rfl, g6⟩
      have G6 := Lib.hid g6
      clear g6
      go_wp2_with fail
      refine (st_read _ G6.out (Nat.zero_le 1000) _ E3.out).mono ?_; rintro e w7 ⟨rfl, g7⟩
      have G7 := Lib.hid g7
      clear g7
      go_wp2_with fail
      refine (st_pending G7.out).mono ?_; rintro e _ ⟨rfl, rfl⟩
      rw [P3.out]
      go_wp2_with fail
      go_ret
      exact ⟨rfl, G7.out.below⟩
set_option maxRecDepth 100000 in
theorem durable_many (w : World) (a0 : Nat) (t : ByteArray) (A : Option Addr) (c : Nat) (l : List OpM) (B : Option Addr) (cb nb : Nat) (hA : Ops w w.heap.size A l) (hml : l.length ≤ maxLen) (h : fewB l 15 = false ∨ 40 < nb ∨ 200 < t.size) :
    Calls Try.prog 3 #[.int .u8 (a0 : Int), .string t, .slice A l.length c, .slice B nb cb] w fun e w' => e = .returned (.bool true) ∧ Below w.heap.size w w' := by
  have HA := Lib.hid hA
  clear hA
  cases hf : fewB l 15 with
  | false =>
    clear h
    go_enter Try.func3, Try.ntmps3
    go_wp2_with fail
    refine (awake_walk _).mono ?_; rintro e w1 ⟨rfl, hb1⟩
    have B1 := Lib.hid hb1
    clear hb1
    go_wp2_with fail
    refine (few_walk w1 A c l 15 _ (HA.out.below B1.out (Nat.le_refl _)) hml).mono ?_; rintro e _ ⟨rfl, rfl⟩
    rw [hf]
    go_wp2_with fail
    go_ret
    exact ⟨rfl, B1.out⟩
  | true =>
    by_cases h1 : 40 < nb
    · have h1' : (40 : Int) < nb := by omega
      clear h
      go_enter Try.func3, Try.ntmps3
      go_wp2_with fail
      refine (awake_walk _).mono ?_; rintro e w1 ⟨rfl, hb1⟩
      have B1 := Lib.hid hb1
      clear hb1
      go_wp2_with fail
      refine (few_walk w1 A c l 15 _ (HA.out.below B1.out (Nat.le_refl _)) hml).mono ?_; rintro e _ ⟨rfl, rfl⟩
      rw [hf]
      go_wp2_with fail
      go_ret
      exact ⟨rfl, B1.out⟩
    · have h1' : ¬ (40 : Int) < nb := by omega
      have h2' : (200 : Int) < t.size := by
        rcases h with h | h | h
        · rw [hf] at h; cases h
        · omega
        · omega
      clear h
      go_enter Try.func3, Try.ntmps3
      go_wp2_with fail
      refine (awake_walk _).mono ?_; rintro e w1 ⟨rfl, hb1⟩
      have B1 := Lib.hid hb1
      clear hb1
      go_wp2_with fail
      refine (few_walk w1 A c l 15 _ (HA.out.below B1.out (Nat.le_refl _)) hml).mono ?_; rintro e _ ⟨rfl, rfl⟩
      rw [hf]
      go_wp2_with fail
      go_ret
      exact ⟨rfl, B1.out⟩
section
variable {H : Type} {enc : TypeId × Value → H} {w : World} {base b0 : Nat} {held : Bool}
theorem durable_in (a : Int) (ha : (Lit.int .u8 a).wf = true) (t : ByteArray) (_ : t.size ≤ maxLen) {d1 : DataW H} {p1 : List MemPlace} (v1 : Value) (h1 : DataW.Trod enc Try.prog w base (fun _ => true) held 22 v1 d1 p1) (hv1 : Value.okWide Try.prog w .any b0 22 v1)
    {d2 : DataW H} {p2 : List MemPlace} (v2 : Value) (h2 : DataW.Trod enc Try.prog w base (fun _ => true) held 23 v2 d2 p2) (hv2 : Value.okWide Try.prog w .any b0 23 v2) :
    Calls Try.prog 3 #[.int .u8 a, .string t, v1, v2] w fun e w' => e = .returned (.bool true) ∧ Below w.heap.size w w' := by
  obtain ⟨m, rfl, hm⟩ := u8_of ha
  obtain ⟨A, n, c, l, rfl, rfl, hml, hA⟩ := open_ops hv1 h1
  obtain ⟨B, nb, cb, sv, rfl, rfl, hB⟩ := open_int23 hv2 h2
  by_cases h : fewB l 15 = false ∨ 40 < sv.length ∨ 200 < t.size
  · exact durable_many w m t A c l B cb _ hA hml h
  · have hf : fewB l 15 = true := by
      cases hh : fewB l 15 with
      | true => rfl
      | false => exact absurd (Or.inl hh) h
    have hf' : l.all fewO = true ∧ l.length ≤ 15 := by unfold fewB at hf; simpa using hf
    exact durable_law w m hm t (by omega) A c l B cb sv hA hB hf'.1 hf'.2 (by omega)
end
end Go.Proofs.Ytagfnobchdfhfaa
