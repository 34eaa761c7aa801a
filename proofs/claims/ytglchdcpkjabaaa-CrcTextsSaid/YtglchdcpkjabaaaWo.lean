import Derived.Test.YtglchdcpkjabaaaWn
namespace Go.Proofs.Ytglchdcpkjabaaa
open Go.RowKit

theorem opens_run (l : List UInt8) (h4 : 4 ≤ l.length) : opens l = true ↔ run ones l = C := by
  rw [← syn_zero h4]; unfold opens
  rw [decide_eq_true_eq]
  exact ⟨fun h => h.2, fun h => ⟨h4, h⟩⟩
theorem xor_ne (x y : Nat) (h : y ≠ 0) : x ^^^ y ≠ x := by
  intro e
  have h2 : x ^^^ (x ^^^ y) = x ^^^ x := by rw [e]
  rw [← Nat.xor_assoc, Nat.xor_self, Nat.zero_xor] at h2
  exact h h2
theorem one_flip (l : List UInt8) (i : Nat) (h4 : 4 ≤ l.length) (ho : opens l = true) (hi : i < 8 * l.length) : opens (flip l i) = false := by
  rw [Bool.eq_false_iff]
  intro h
  rw [opens_run _ (by rw [flip_length]; exact h4), run_flip _ _ _ hi, (opens_run l h4).1 ho] at h
  exact xor_ne _ _ (eff_ne_zero _ _) h
theorem two_flips (l : List UInt8) (i j : Nat) (h4 : 4 ≤ l.length) (hm : l.length ≤ 4096) (ho : opens l = true) (hi : i < 8 * l.length) (hj : j < 8 * l.length) (hij : i ≠ j) : opens (flip (flip l i) j) = false := by
  rw [Bool.eq_false_iff]
  intro h
  rw [opens_run _ (by rw [flip_length, flip_length]; exact h4), run_flip _ _ _ (by rw [flip_length]; exact hj), run_flip _ _ _ hi, (opens_run l h4).1 ho, flip_length, Nat.xor_assoc] at h
  refine xor_ne _ _ ?_ h
  intro h2
  exact hij (eff_inj hm hi hj (xor_eq_zero.1 h2))
theorem third_flip (l : List UInt8) (i j n : Nat) (h4 : 4 ≤ l.length) (hm : l.length ≤ 4096) (ho : opens l = true) (hi : i < 8 * l.length) (hj : j < 8 * l.length) (hn : loc (flip (flip l i) j) = some n) :
    n < 8 * l.length ∧ opens (flip (flip (flip l i) j) n) = true ∧ n ≠ i ∧ n ≠ j := by
  obtain ⟨_, _, hw⟩ := loc_wrong hn
  have hlen : (flip (flip l i) j).length = l.length := by rw [flip_length, flip_length]
  have hnl : n < 8 * l.length := by rw [← hlen]; exact hw.1
  have hop : opens (flip (flip (flip l i) j) n) = true := by
    rw [wrongAt_flip (by rw [hlen]; exact h4) n (by rw [hlen]; exact hnl)] at hw
    unfold opens
    exact decide_eq_true ⟨by rw [flip_length, hlen]; exact h4, hw⟩
  have hr := (opens_run _ (by rw [flip_length, hlen]; exact h4)).1 hop
  rw [run_flip _ _ _ (by rw [hlen]; exact hnl), run_flip _ _ _ (by rw [flip_length]; exact hj), run_flip _ _ _ hi, (opens_run l h4).1 ho, hlen, flip_length] at hr
  refine ⟨hnl, hop, ?_, ?_⟩
  · rintro rfl
    rw [show C ^^^ eff l.length n ^^^ eff l.length j ^^^ eff l.length n = (C ^^^ eff l.length j) ^^^ (eff l.length n ^^^ eff l.length n) from by ac_rfl, Nat.xor_self, Nat.xor_zero] at hr
    exact xor_ne _ _ (eff_ne_zero _ _) hr
  · rintro rfl
    rw [Nat.xor_assoc, Nat.xor_self, Nat.xor_zero] at hr
    exact xor_ne _ _ (eff_ne_zero _ _) hr
theorem flip_at (s t : ByteArray) (bit : Nat) (hs : s.size ≤ 1048576) (h : bit < 8 * s.size) (hf : flipB s bit = t) (w : World) :
    Calls Try.prog 13 #[.string s, .int .i64 bit] w fun e w' => e = .returned (.tuple #[.string t, .bool true]) ∧ Below w.heap.size w w' := by
  subst hf; exact flip_yes s bit hs h w
theorem openok_at (s : ByteArray) (hs : s.size ≤ 1048576) (h : opens s.data.toList = true) (w : World) : Calls Try.prog 11 #[.string s] w fun e w' => e = .returned (.tuple #[.string (s.extract 0 (s.size - 4)), .int .i64 0]) ∧ w = w' := open_yes s hs h w
set_option maxHeartbeats 1000000 in
theorem locates_same (s : ByteArray) (a b : Nat) (ha : a < 2 ^ 16) (hb : b < 2 ^ 16) (h1 : s.size ≤ 1000) (hab : a % (8 * s.size + 32) = b % (8 * s.size + 32)) (w : World) : Calls Try.prog 6 #[.string s, .int .u16 a, .int .u16 b] w fun e w' => e = .returned (.bool true) ∧ Below w.heap.size w w' := by
  obtain ⟨t, ht⟩ : ∃ t, sealB s = t := ⟨_, rfl⟩
  have hsz : t.size = s.size + 4 := by rw [← ht, sealB_size]
  have ht4 : 4 ≤ t.size := by omega
  have ht1 : t.size ≤ 1004 := by omega
  have hL : t.data.toList.length = t.size := by simp
  have hts : t.size ≤ 1048576 := by omega
  have hop : opens t.data.toList = true := by rw [← ht]; exact opens_sealed s
  have hsy : syn t.data.toList = 0 := by
    have : 4 ≤ t.data.toList.length ∧ syn t.data.toList = 0 := by simpa [opens] using hop
    exact this.2
  obtain ⟨i, hi⟩ : ∃ i, i = a % (8 * s.size + 32) := ⟨_, rfl⟩
  obtain ⟨j, hj⟩ : ∃ j, j = b % (8 * s.size + 32) := ⟨_, rfl⟩
  have hil : i < 8 * t.size := by have := Nat.mod_lt a (show 0 < 8 * s.size + 32 by omega); omega
  have hjl : j < 8 * t.size := by have := Nat.mod_lt b (show 0 < 8 * s.size + 32 by omega); omega
  have hci : (a : Int) % (8 * (s.size : Int) + 32) = i := by rw [hi]; simp
  have hcj : (b : Int) % (8 * (s.size : Int) + 32) = j := by rw [hj]; simp
  obtain ⟨u, hu⟩ : ∃ u, flipB t i = u := ⟨_, rfl⟩
  obtain ⟨v, hv⟩ : ∃ v, flipB u j = v := ⟨_, rfl⟩
  have huL : u.data.toList = flip t.data.toList i := by rw [← hu, flipB_list]
  have hvL : v.data.toList = flip (flip t.data.toList i) j := by rw [← hv, flipB_list, huL]
  have hus : u.size = t.size := by rw [← hu, flipB_size]
  have hvs : v.size = t.size := by rw [← hv, flipB_size, hus]
  have hus2 : u.size ≤ 1048576 := by omega
  have hvs2 : v.size ≤ 1048576 := by omega
  have hjl2 : j < 8 * u.size := by omega
  have hlt : loc t.data.toList = none := loc_none (not_wrongAt_of_syn_zero hsy)
  have hlu : loc u.data.toList = some i := by rw [huL]; exact loc_flip_seal _ i (by omega) (by omega) hsy (by omega)
  have hij : i = j := by rw [hi, hj, hab]
  have hvt : v = t := by apply ext_list; rw [hvL, hij, flip_flip]
  have hbq : ((i : Int) == (j : Int)) = true := by rw [hij]; simp
  have hbs : (v.toList == t.toList) = true := by rw [hvt]; exact beq_self t
  clear hij hvt hab
  have HT := Lib.hid ht
  have HCI := Lib.hid hci
  have HCJ := Lib.hid hcj
  have HU := Lib.hid hu
  have HV := Lib.hid hv
  have HLT := Lib.hid hlt
  have HLU := Lib.hid hlu
  have HOP := Lib.hid hop
  clear ht hsz hL hop hsy hi hj hci hcj hu hv huL hvL hus hvs hlt hlu
  go_enter Try.func6, Try.ntmps6
  go_wp2_with (first
    | (go_at_call 10; refine (awake_walk _).mono ?_; rintro e w0 ⟨rfl, hb0⟩)
    | (go_at_call 17; refine (seal_at s t (by omega) HT.out _).mono ?_; rintro e w1 ⟨rfl, hb1⟩))
  go_quiet (fail)
  rw [HCI.out, HCJ.out]
  go_wp2_with fail
  refine (flip_at t u i hts hil HU.out _).mono ?_; rintro e w2 ⟨rfl, hb2⟩
  go_wp2_with fail
  refine (flip_at u v j hus2 hjl2 HV.out _).mono ?_; rintro e w3 ⟨rfl, hb3⟩
  go_wp2_with fail
  refine (locate_not t hts HLT.out _).mono ?_; rintro e w4 ⟨rfl, hb4⟩
  go_wp2_with fail
  refine (locate_at u hus2 i HLU.out _).mono ?_; rintro e w5 ⟨rfl, hb5⟩
  go_wp2_with fail
  go_ret
  exact ⟨rfl, (bstep (bstep (bstep (bstep (below_drewN (bstep hb0 (Nat.le_refl _) hb1) nq) (Nat.le_refl _) hb2) (Nat.le_refl _) hb3) (Nat.le_refl _) hb4) (Nat.le_refl _) hb5)⟩
set_option maxHeartbeats 1000000 in
theorem locates_none (s : ByteArray) (a b : Nat) (ha : a < 2 ^ 16) (hb : b < 2 ^ 16) (h1 : s.size ≤ 1000) (hab : a % (8 * s.size + 32) ≠ b % (8 * s.size + 32)) (hnone : loc (flip (flip (sealB s).data.toList (a % (8 * s.size + 32))) (b % (8 * s.size + 32))) = none) (w : World) : Calls Try.prog 6 #[.string s, .int .u16 a, .int .u16 b] w fun e w' => e = .returned (.bool true) ∧ Below w.heap.size w w' := by
  obtain ⟨t, ht⟩ : ∃ t, sealB s = t := ⟨_, rfl⟩
  have hsz : t.size = s.size + 4 := by rw [← ht, sealB_size]
  have ht4 : 4 ≤ t.size := by omega
  have ht1 : t.size ≤ 1004 := by omega
  have hL : t.data.toList.length = t.size := by simp
  have hts : t.size ≤ 1048576 := by omega
  have hop : opens t.data.toList = true := by rw [← ht]; exact opens_sealed s
  have hsy : syn t.data.toList = 0 := by
    have : 4 ≤ t.data.toList.length ∧ syn t.data.toList = 0 := by simpa [opens] using hop
    exact this.2
  obtain ⟨i, hi⟩ : ∃ i, i = a % (8 * s.size + 32) := ⟨_, rfl⟩
  obtain ⟨j, hj⟩ : ∃ j, j = b % (8 * s.size + 32) := ⟨_, rfl⟩
  have hil : i < 8 * t.size := by have := Nat.mod_lt a (show 0 < 8 * s.size + 32 by omega); omega
  have hjl : j < 8 * t.size := by have := Nat.mod_lt b (show 0 < 8 * s.size + 32 by omega); omega
  have hci : (a : Int) % (8 * (s.size : Int) + 32) = i := by rw [hi]; simp
  have hcj : (b : Int) % (8 * (s.size : Int) + 32) = j := by rw [hj]; simp
  obtain ⟨u, hu⟩ : ∃ u, flipB t i = u := ⟨_, rfl⟩
  obtain ⟨v, hv⟩ : ∃ v, flipB u j = v := ⟨_, rfl⟩
  have huL : u.data.toList = flip t.data.toList i := by rw [← hu, flipB_list]
  have hvL : v.data.toList = flip (flip t.data.toList i) j := by rw [← hv, flipB_list, huL]
  have hus : u.size = t.size := by rw [← hu, flipB_size]
  have hvs : v.size = t.size := by rw [← hv, flipB_size, hus]
  have hus2 : u.size ≤ 1048576 := by omega
  have hvs2 : v.size ≤ 1048576 := by omega
  have hjl2 : j < 8 * u.size := by omega
  have hlt : loc t.data.toList = none := loc_none (not_wrongAt_of_syn_zero hsy)
  have hlu : loc u.data.toList = some i := by rw [huL]; exact loc_flip_seal _ i (by omega) (by omega) hsy (by omega)
  have hij : i ≠ j := by rw [hi, hj]; exact hab
  have hbq : ((i : Int) == (j : Int)) = false := by simp; omega
  have hno : opens v.data.toList = false := by rw [hvL]; exact two_flips _ i j (by omega) (by omega) hop (by omega) (by omega) hij
  have hln : loc v.data.toList = none := by rw [hvL, hi, hj, ← ht]; exact hnone
  have HNO := Lib.hid hno
  have HLN := Lib.hid hln
  clear hij hab hno hln hnone
  have HT := Lib.hid ht
  have HCI := Lib.hid hci
  have HCJ := Lib.hid hcj
  have HU := Lib.hid hu
  have HV := Lib.hid hv
  have HLT := Lib.hid hlt
  have HLU := Lib.hid hlu
  have HOP := Lib.hid hop
  clear ht hsz hL hop hsy hi hj hci hcj hu hv huL hvL hus hvs hlt hlu
  go_enter Try.func6, Try.ntmps6
  go_wp2_with (first
    | (go_at_call 10; refine (awake_walk _).mono ?_; rintro e w0 ⟨rfl, hb0⟩)
    | (go_at_call 17; refine (seal_at s t (by omega) HT.out _).mono ?_; rintro e w1 ⟨rfl, hb1⟩))
  go_quiet (fail)
  rw [HCI.out, HCJ.out]
  go_wp2_with fail
  refine (flip_at t u i hts hil HU.out _).mono ?_; rintro e w2 ⟨rfl, hb2⟩
  go_wp2_with fail
  refine (flip_at u v j hus2 hjl2 HV.out _).mono ?_; rintro e w3 ⟨rfl, hb3⟩
  go_wp2_with fail
  refine (locate_not t hts HLT.out _).mono ?_; rintro e w4 ⟨rfl, hb4⟩
  go_wp2_with fail
  refine (locate_at u hus2 i HLU.out _).mono ?_; rintro e w5 ⟨rfl, hb5⟩
  go_wp2_with fail
  refine (open_no v hvs2 HNO.out _).mono ?_; rintro e _ ⟨rfl, rfl⟩
  go_wp2_with fail
  refine (locate_not v hvs2 HLN.out _).mono ?_; rintro e w6 ⟨rfl, hb6⟩
  go_wp2_with fail
  go_ret
  exact ⟨rfl, bstep (bstep (bstep (bstep (bstep (below_drewN (bstep hb0 (Nat.le_refl _) hb1) nq) (Nat.le_refl _) hb2) (Nat.le_refl _) hb3) (Nat.le_refl _) hb4) (Nat.le_refl _) hb5) (Nat.le_refl _) hb6⟩
set_option maxHeartbeats 1000000 in
theorem locates_some (s : ByteArray) (a b : Nat) (ha : a < 2 ^ 16) (hb : b < 2 ^ 16) (h1 : s.size ≤ 1000) (hab : a % (8 * s.size + 32) ≠ b % (8 * s.size + 32)) (n : Nat) (hsome : loc (flip (flip (sealB s).data.toList (a % (8 * s.size + 32))) (b % (8 * s.size + 32))) = some n) (w : World) : Calls Try.prog 6 #[.string s, .int .u16 a, .int .u16 b] w fun e w' => e = .returned (.bool true) ∧ Below w.heap.size w w' := by
  obtain ⟨t, ht⟩ : ∃ t, sealB s = t := ⟨_, rfl⟩
  have hsz : t.size = s.size + 4 := by rw [← ht, sealB_size]
  have ht4 : 4 ≤ t.size := by omega
  have ht1 : t.size ≤ 1004 := by omega
  have hL : t.data.toList.length = t.size := by simp
  have hts : t.size ≤ 1048576 := by omega
  have hop : opens t.data.toList = true := by rw [← ht]; exact opens_sealed s
  have hsy : syn t.data.toList = 0 := by
    have : 4 ≤ t.data.toList.length ∧ syn t.data.toList = 0 := by simpa [opens] using hop
    exact this.2
  obtain ⟨i, hi⟩ : ∃ i, i = a % (8 * s.size + 32) := ⟨_, rfl⟩
  obtain ⟨j, hj⟩ : ∃ j, j = b % (8 * s.size + 32) := ⟨_, rfl⟩
  have hil : i < 8 * t.size := by have := Nat.mod_lt a (show 0 < 8 * s.size + 32 by omega); omega
  have hjl : j < 8 * t.size := by have := Nat.mod_lt b (show 0 < 8 * s.size + 32 by omega); omega
  have hci : (a : Int) % (8 * (s.size : Int) + 32) = i := by rw [hi]; simp
  have hcj : (b : Int) % (8 * (s.size : Int) + 32) = j := by rw [hj]; simp
  obtain ⟨u, hu⟩ : ∃ u, flipB t i = u := ⟨_, rfl⟩
  obtain ⟨v, hv⟩ : ∃ v, flipB u j = v := ⟨_, rfl⟩
  have huL : u.data.toList = flip t.data.toList i := by rw [← hu, flipB_list]
  have hvL : v.data.toList = flip (flip t.data.toList i) j := by rw [← hv, flipB_list, huL]
  have hus : u.size = t.size := by rw [← hu, flipB_size]
  have hvs : v.size = t.size := by rw [← hv, flipB_size, hus]
  have hus2 : u.size ≤ 1048576 := by omega
  have hvs2 : v.size ≤ 1048576 := by omega
  have hjl2 : j < 8 * u.size := by omega
  have hlt : loc t.data.toList = none := loc_none (not_wrongAt_of_syn_zero hsy)
  have hlu : loc u.data.toList = some i := by rw [huL]; exact loc_flip_seal _ i (by omega) (by omega) hsy (by omega)
  have hij : i ≠ j := by rw [hi, hj]; exact hab
  have hbq : ((i : Int) == (j : Int)) = false := by simp; omega
  have hno : opens v.data.toList = false := by rw [hvL]; exact two_flips _ i j (by omega) (by omega) hop (by omega) (by omega) hij
  have hln : loc v.data.toList = some n := by rw [hvL, hi, hj, ← ht]; exact hsome
  obtain ⟨x, hx⟩ : ∃ x, flipB v n = x := ⟨_, rfl⟩
  have h3 := third_flip t.data.toList i j n (by omega) (by omega) hop (by omega) (by omega) (by rw [← hvL]; exact hln)
  have hxo : opens x.data.toList = true := by rw [← hx, flipB_list, hvL]; exact h3.2.1
  have hnv : n < 8 * v.size := by have := h3.1; omega
  have hxs : x.size ≤ 1048576 := by rw [← hx, flipB_size]; exact hvs2
  have hni : ((n : Int) != (i : Int)) = true := by have := h3.2.2.1; simp; omega
  have hnj : ((n : Int) != (j : Int)) = true := by have := h3.2.2.2; simp; omega
  have HNO := Lib.hid hno
  have HLN := Lib.hid hln
  have HX := Lib.hid hx
  have HXO := Lib.hid hxo
  clear hij hab hno hln hsome hx hxo h3
  have HT := Lib.hid ht
  have HCI := Lib.hid hci
  have HCJ := Lib.hid hcj
  have HU := Lib.hid hu
  have HV := Lib.hid hv
  have HLT := Lib.hid hlt
  have HLU := Lib.hid hlu
  have HOP := Lib.hid hop
  clear ht hsz hL hop hsy hi hj hci hcj hu hv huL hvL hus hvs hlt hlu
  go_enter Try.func6, Try.ntmps6
  go_wp2_with (first
    | (go_at_call 10; refine (awake_walk _).mono ?_; rintro e w0 ⟨rfl, hb0⟩)
    | (go_at_call 17; refine (seal_at s t (by omega) HT.out _).mono ?_; rintro e w1 ⟨rfl, hb1⟩))
  go_quiet (fail)
  rw [HCI.out, HCJ.out]
  go_wp2_with fail
  refine (flip_at t u i hts hil HU.out _).mono ?_; rintro e w2 ⟨rfl, hb2⟩
  go_wp2_with fail
  refine (flip_at u v j hus2 hjl2 HV.out _).mono ?_; rintro e w3 ⟨rfl, hb3⟩
  go_wp2_with fail
  refine (locate_not t hts HLT.out _).mono ?_; rintro e w4 ⟨rfl, hb4⟩
  go_wp2_with fail
  refine (locate_at u hus2 i HLU.out _).mono ?_; rintro e w5 ⟨rfl, hb5⟩
  go_wp2_with fail
  refine (open_no v hvs2 HNO.out _).mono ?_; rintro e _ ⟨rfl, rfl⟩
  go_wp2_with fail
  refine (locate_at v hvs2 n HLN.out _).mono ?_; rintro e w6 ⟨rfl, hb6⟩
  go_wp2_with fail
  refine (flip_at v x n hvs2 hnv HX.out _).mono ?_; rintro e w7 ⟨rfl, hb7⟩
  go_wp2_with fail
  refine (openok_at x hxs HXO.out _).mono ?_; rintro e _ ⟨rfl, rfl⟩
  go_wp2_with fail
  go_ret
  exact ⟨rfl, bstep (bstep (bstep (bstep (bstep (bstep (below_drewN (bstep hb0 (Nat.le_refl _) hb1) nq) (Nat.le_refl _) hb2) (Nat.le_refl _) hb3) (Nat.le_refl _) hb4) (Nat.le_refl _) hb5) (Nat.le_refl _) hb6) (Nat.le_refl _) hb7⟩
theorem locates_in (s : ByteArray) (_ : s.size ≤ maxLen) (a : Int) (wa : (Lit.int .u16 a).wf = true) (b : Int) (wb : (Lit.int .u16 b).wf = true) (w : World) : Calls Try.prog 6 #[.string s, .int .u16 a, .int .u16 b] w fun e w' => e = .returned (.bool true) ∧ Below w.heap.size w w' := by
  obtain ⟨m, rfl, hm⟩ := u16_nat wa
  obtain ⟨n, rfl, hn⟩ := u16_nat wb
  by_cases h1 : s.size ≤ 1000
  · by_cases hab : m % (8 * s.size + 32) = n % (8 * s.size + 32)
    · exact locates_same s m n hm hn h1 hab w
    · rcases hl : loc (flip (flip (sealB s).data.toList (m % (8 * s.size + 32))) (n % (8 * s.size + 32))) with _ | k
      · exact locates_none s m n hm hn h1 hab hl w
      · exact locates_some s m n hm hn h1 hab k hl w
  · have h1' : (1000 : Int) < s.size := by omega
    have HM : m < 2 ^ 16 := hm
    have HN : n < 2 ^ 16 := hn
    clear hm hn
    go_enter Try.func6, Try.ntmps6
    go_wp2_with (go_at_call 10; refine (awake_walk _).mono ?_; rintro e w0 ⟨rfl, hb0⟩)
    go_ret
    exact ⟨rfl, hb0⟩
end Go.Proofs.Ytglchdcpkjabaaa
