import Derived.Test.YtglchdcpkjabaaaWi
namespace Go.Proofs.Ytglchdcpkjabaaa
open Go.RowKit

theorem u32_nat {a : Int} (h : (Lit.int .u32 a).wf = true) : ∃ n : Nat, a = n ∧ n < 2 ^ 32 := by
  have := bounds_u32 h
  exact ⟨a.toNat, by omega, by omega⟩
theorem u16_nat {a : Int} (h : (Lit.int .u16 a).wf = true) : ∃ n : Nat, a = n ∧ n < 65536 := by
  have := bounds_u16 h
  exact ⟨a.toNat, by omega, by omega⟩

/-- CrcSums. -/
theorem sums_law (a b : Nat) (ha : a < 2 ^ 32) (hb : b < 2 ^ 32) (s : ByteArray) (n : Int) (hn1 : -9223372036854775808 ≤ n) (hn2 : n ≤ 9223372036854775807) (w : World) :
    Calls Try.prog 7 #[.int .u32 a, .int .u32 b, .string s, .int .i64 n] w fun e w' => e = .returned (.bool true) ∧ Below w.heap.size w w' := by
  by_cases h1 : 500 < s.size
  · have h1' : (500 : Int) < s.size := by omega
    go_enter Try.func7, Try.ntmps7
    go_wp2_with (go_at_call 10; refine (awake_walk _).mono ?_; rintro e w0 ⟨rfl, hb0⟩)
    go_ret
    exact ⟨rfl, hb0⟩
  · by_cases h2 : 5000 < n
    · go_enter Try.func7, Try.ntmps7
      go_wp2_with (go_at_call 10; refine (awake_walk _).mono ?_; rintro e w0 ⟨rfl, hb0⟩)
      go_ret
      exact ⟨rfl, hb0⟩
    · have hs : s.size ≤ maxLen := by unfold maxLen; omega
      have HS := Lib.hid hs
      clear hs
      go_enter Try.func7, Try.ntmps7
      go_wp2_with (first
        | (go_at_call 10; refine (awake_walk _).mono ?_; rintro e w0 ⟨rfl, hb0⟩)
        | (go_at_call 19; refine (sum_walk _ HS.out _).mono ?_; rintro e _ ⟨rfl, rfl⟩)
        | (go_at_call 20; refine (rsum_walk _ HS.out _).mono ?_; rintro e _ ⟨rfl, rfl⟩)
        | (go_at_call 21; refine (update_walk _ ha _ HS.out _).mono ?_; rintro e _ ⟨rfl, rfl⟩)
        | (go_at_call 22; refine (rupdate_walk _ ha _ HS.out _).mono ?_; rintro e _ ⟨rfl, rfl⟩)
        | (go_at_call 23; refine (combine_walk _ _ _ ha hb hn1 hn2 _).mono ?_; rintro e w1 ⟨rfl, hb1⟩)
        | (go_at_call 24; refine (rcombine_walk _ _ _ ha hb hn2 _).mono ?_; rintro e _ ⟨rfl, rfl⟩))
      go_ret
      exact ⟨rfl, bstep hb0 (Nat.le_refl _) hb1⟩
theorem sums_in (a : Int) (wa : (Lit.int .u32 a).wf = true) (b : Int) (wb : (Lit.int .u32 b).wf = true) (s : ByteArray) (_ : s.size ≤ maxLen) (n : Int) (wn : (Lit.int .i64 n).wf = true) (w : World) :
    Calls Try.prog 7 #[.int .u32 a, .int .u32 b, .string s, .int .i64 n] w fun e w' => e = .returned (.bool true) ∧ Below w.heap.size w w' := by
  obtain ⟨x, rfl, hx⟩ := u32_nat wa
  obtain ⟨y, rfl, hy⟩ := u32_nat wb
  have := bounds_i64 wn
  exact sums_law x y hx hy s n (by omega) (by omega) w

/-- CrcLong. -/
theorem comb_lt (a b n : Nat) (ha : a < 2 ^ 32) (hb : b < 2 ^ 32) : comb a b n < 2 ^ 32 := Nat.xor_lt_two_pow (sh_lt _ ha) hb
theorem combine_at (a b k r : Nat) (n : Int) (ha : a < 2 ^ 32) (hb : b < 2 ^ 32) (hn : -9223372036854775808 ≤ n) (hn2 : n ≤ 9223372036854775807) (hk : n.toNat = k) (h : comb a b k = r) (w : World) :
    Calls Try.prog 23 #[.int .u32 a, .int .u32 b, .int .i64 n] w fun e w' => e = .returned (.int .u32 r) ∧ Below w.heap.size w w' := by
  subst hk; subst h; exact combine_walk a b n ha hb hn hn2 w
theorem long_out (a b c : Nat) (n m : Int) (ha : a < 2 ^ 32) (hb : b < 2 ^ 32) (hn1 : -9223372036854775808 ≤ n) (hn2 : n ≤ 9223372036854775807)
    (h : n < 0 ∨ (0 ≤ n ∧ m < 0) ∨ (0 ≤ n ∧ 0 ≤ m ∧ 1099511627776 < n) ∨ (0 ≤ n ∧ 0 ≤ m ∧ n ≤ 1099511627776 ∧ 1099511627776 < m)) (w : World) :
    Calls Try.prog 9 #[.int .u32 a, .int .u32 b, .int .u32 c, .int .i64 n, .int .i64 m] w fun e w' => e = .returned (.bool true) ∧ Below w.heap.size w w' := by
  have hx : comb a b 0 = a ^^^ b := by simp [comb, sh]
  have HX := Lib.hid (xor_u32 a b ha hb)
  have hbx : (((a ^^^ b : Nat) : Int) == bits .xor .u32 (a : Int) (b : Int)) = true := by rw [HX.out]; simp
  rcases h with h | ⟨h, h'⟩ | ⟨h, h', h''⟩ | ⟨h, h', h'', h'''⟩
  all_goals
    go_enter Try.func9, Try.ntmps9
    go_wp2_with (go_at_call 10; refine (awake_walk _).mono ?_; rintro e w0 ⟨rfl, hb0⟩)
    refine (combine_at a b 0 (a ^^^ b) _ ha hb (by omega) (by omega) (by omega) hx _).mono ?_; rintro e w1 ⟨rfl, hb1⟩
    go_wp2_with fail
    refine (combine_at a b 0 (a ^^^ b) 0 ha hb (by omega) (by omega) rfl hx _).mono ?_; rintro e w2 ⟨rfl, hb2⟩
    go_wp2_with fail
    refine (combine_at a b 0 (a ^^^ b) 0 ha hb (by omega) (by omega) rfl hx _).mono ?_; rintro e w3 ⟨rfl, hb3⟩
    go_wp2_with fail
    go_ret
    exact ⟨rfl, bstep (bstep (bstep hb0 (Nat.le_refl _) hb1) (Nat.le_refl _) hb2) (Nat.le_refl _) hb3⟩
theorem long_in (a b c : Nat) (n m : Nat) (ha : a < 2 ^ 32) (hb : b < 2 ^ 32) (hc : c < 2 ^ 32) (hn : n ≤ 1099511627776) (hm : m ≤ 1099511627776) (w : World) :
    Calls Try.prog 9 #[.int .u32 a, .int .u32 b, .int .u32 c, .int .i64 n, .int .i64 m] w fun e w' => e = .returned (.bool true) ∧ Below w.heap.size w w' := by
  obtain ⟨r, hr⟩ : ∃ r, comb (comb a b n) c m = r := ⟨_, rfl⟩
  have hr2 := (comb_assoc a b c n m).symm.trans hr
  have HR := Lib.hid hr
  have HR2 := Lib.hid hr2
  clear hr hr2
  go_enter Try.func9, Try.ntmps9
  go_wp2_with (go_at_call 10; refine (awake_walk _).mono ?_; rintro e w0 ⟨rfl, hb0⟩)
  refine (combine_at a b n _ _ ha hb (by omega) (by omega) (by omega) rfl _).mono ?_; rintro e w1 ⟨rfl, hb1⟩
  go_wp2_with fail
  refine (combine_at _ c m r _ (comb_lt _ _ _ ha hb) hc (by omega) (by omega) (by omega) HR.out _).mono ?_; rintro e w2 ⟨rfl, hb2⟩
  go_wp2_with fail
  refine (combine_at b c m _ _ hb hc (by omega) (by omega) (by omega) rfl _).mono ?_; rintro e w3 ⟨rfl, hb3⟩
  go_wp2_with fail
  refine (combine_at a _ (n + m) r _ ha (comb_lt _ _ _ hb hc) (by omega) (by omega) (by omega) HR2.out _).mono ?_; rintro e w4 ⟨rfl, hb4⟩
  go_wp2_with fail
  go_ret
  exact ⟨rfl, bstep (bstep (bstep (bstep hb0 (Nat.le_refl _) hb1) (Nat.le_refl _) hb2) (Nat.le_refl _) hb3) (Nat.le_refl _) hb4⟩
theorem longs_in (a : Int) (wa : (Lit.int .u32 a).wf = true) (b : Int) (wb : (Lit.int .u32 b).wf = true) (c : Int) (wc : (Lit.int .u32 c).wf = true) (n : Int) (wn : (Lit.int .i64 n).wf = true) (m : Int) (wm : (Lit.int .i64 m).wf = true) (w : World) :
    Calls Try.prog 9 #[.int .u32 a, .int .u32 b, .int .u32 c, .int .i64 n, .int .i64 m] w fun e w' => e = .returned (.bool true) ∧ Below w.heap.size w w' := by
  obtain ⟨x, rfl, hx⟩ := u32_nat wa
  obtain ⟨y, rfl, hy⟩ := u32_nat wb
  obtain ⟨z, rfl, hz⟩ := u32_nat wc
  have hn := bounds_i64 wn
  have hm := bounds_i64 wm
  by_cases h : 0 ≤ n ∧ 0 ≤ m ∧ n ≤ 1099511627776 ∧ m ≤ 1099511627776
  · obtain ⟨p, rfl⟩ := Int.eq_ofNat_of_zero_le h.1
    obtain ⟨q, rfl⟩ := Int.eq_ofNat_of_zero_le h.2.1
    exact long_in x y z p q hx hy hz (by omega) (by omega) w
  · exact long_out x y z n m hx hy (by omega) (by omega) (by omega) w
end Go.Proofs.Ytglchdcpkjabaaa
