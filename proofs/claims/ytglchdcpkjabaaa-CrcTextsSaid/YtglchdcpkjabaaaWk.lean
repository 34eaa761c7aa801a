import Derived.Test.YtglchdcpkjabaaaWj
namespace Go.Proofs.Ytglchdcpkjabaaa
open Go.RowKit

/-- CrcParts. -/
theorem update_at (r n : Nat) (hr : r < 2 ^ 32) (s : ByteArray) (hs : s.size ≤ maxLen) (h : upd r s.data.toList = n) (w : World) : Calls Try.prog 21 #[.int .u32 r, .string s] w fun e w' => e = .returned (.int .u32 n) ∧ w = w' := by
  subst h; exact update_walk r hr s hs w
theorem extract_drop (s : ByteArray) (n : Nat) (_h : n ≤ s.size) : (s.extract n s.size).data.toList = s.data.toList.drop n := by
  simp
  exact List.take_of_length_le (by simp)
theorem parts_law (s : ByteArray) (c : Nat) (hc : c < 2 ^ 16) (w : World) : Calls Try.prog 8 #[.string s, .int .u16 c] w fun e w' => e = .returned (.bool true) ∧ Below w.heap.size w w' := by
  by_cases h1 : 500 < s.size
  · have h1' : (500 : Int) < s.size := by omega
    go_enter Try.func8, Try.ntmps8
    go_wp2_with (go_at_call 10; refine (awake_walk _).mono ?_; rintro e w0 ⟨rfl, hb0⟩)
    go_ret
    exact ⟨rfl, hb0⟩
  · skip
    obtain ⟨i, hi⟩ : ∃ i, i = c % (s.size + 1) := ⟨_, rfl⟩
    have his : i ≤ s.size := by have := Nat.mod_lt c (show 0 < s.size + 1 by omega); omega
    have hci : (c : Int) % ((s.size : Int) + 1) = i := by rw [hi]; simp
    have HI := Lib.hid hi
    have HCI := Lib.hid hci
    clear hi hci
    go_enter Try.func8, Try.ntmps8
    go_wp2_with (go_at_call 10; refine (awake_walk _).mono ?_; rintro e w0 ⟨rfl, hb0⟩)
    rw [HCI.out]
    go_quiet (fail)
    go_wp2_with fail
    have hm : s.size ≤ maxLen := by unfold maxLen; omega
    have ea : (s.extract 0 i).data.toList = s.data.toList.take i := extract_take s i his
    have eb : (s.extract i s.size).data.toList = s.data.toList.drop i := extract_drop s i his
    have sa : (s.extract 0 i).size ≤ maxLen := by unfold maxLen; simp; omega
    have sb : (s.extract i s.size).size ≤ maxLen := by unfold maxLen; simp; omega
    obtain ⟨T, hT⟩ : ∃ T, sum s.data.toList = T := ⟨_, rfl⟩
    obtain ⟨x, hx⟩ : ∃ x, sum (s.extract 0 i).data.toList = x := ⟨_, rfl⟩
    obtain ⟨y, hy⟩ : ∃ y, sum (s.extract i s.size).data.toList = y := ⟨_, rfl⟩
    have hxl : x < 2 ^ 32 := by rw [← hx]; exact sum_lt _
    have hyl : y < 2 ^ 32 := by rw [← hy]; exact sum_lt _
    have hTl : T < 2 ^ 32 := by rw [← hT]; exact sum_lt _
    have hU : upd x (s.extract i s.size).data.toList = T := by
      rw [← hx, sum, upd_append, ea, eb, List.take_append_drop]; exact hT
    have hC : comb x y (s.extract i s.size).size = T := by
      have hl : (s.extract i s.size).size = (s.extract i s.size).data.toList.length := by simp
      rw [hl, ← hx, ← hy, comb_sum, ea, eb, List.take_append_drop]; exact hT
    have hk : (((s.size - i : Nat) : Nat) : Int).toNat = (s.extract i s.size).size := by simp
    have HM := Lib.hid hm
    have SA := Lib.hid sa
    have SB := Lib.hid sb
    have HT := Lib.hid hT
    have HX := Lib.hid hx
    have HY := Lib.hid hy
    have HU := Lib.hid hU
    have HCB := Lib.hid hC
    have HK := Lib.hid hk
    clear hm ea eb sa sb hT hx hy hU hC hk
    refine (sum_at _ x SA.out HX.out _).mono ?_; rintro e _ ⟨rfl, rfl⟩
    go_wp2_with fail
    refine (update_at x T hxl _ SB.out HU.out _).mono ?_; rintro e _ ⟨rfl, rfl⟩
    go_wp2_with fail
    refine (sum_at _ T HM.out HT.out _).mono ?_; rintro e _ ⟨rfl, rfl⟩
    go_wp2_with fail
    refine (sum_at _ x SA.out HX.out _).mono ?_; rintro e _ ⟨rfl, rfl⟩
    go_wp2_with fail
    refine (sum_at _ y SB.out HY.out _).mono ?_; rintro e _ ⟨rfl, rfl⟩
    go_wp2_with fail
    refine (combine_at x y _ T _ hxl hyl (by omega) (by omega) HK.out HCB.out _).mono ?_; rintro e w1 ⟨rfl, hb1⟩
    go_wp2_with fail
    refine (sum_at _ T HM.out HT.out _).mono ?_; rintro e _ ⟨rfl, rfl⟩
    go_wp2_with fail
    refine (sum_at _ T HM.out HT.out _).mono ?_; rintro e _ ⟨rfl, rfl⟩
    go_wp2_with fail
    refine (update_at T T hTl ⟨#[]⟩ (by decide) (upd_nil T) _).mono ?_; rintro e _ ⟨rfl, rfl⟩
    go_wp2_with fail
    refine (sum_at _ T HM.out HT.out _).mono ?_; rintro e _ ⟨rfl, rfl⟩
    go_wp2_with fail
    go_ret
    exact ⟨rfl, bstep (below_drewN hb0 nq) (Nat.le_refl _) hb1⟩
theorem parts_in (s : ByteArray) (_ : s.size ≤ maxLen) (c : Int) (wc : (Lit.int .u16 c).wf = true) (w : World) : Calls Try.prog 8 #[.string s, .int .u16 c] w fun e w' => e = .returned (.bool true) ∧ Below w.heap.size w w' := by
  obtain ⟨n, rfl, hn⟩ := u16_nat wc
  exact parts_law s n hn w
end Go.Proofs.Ytglchdcpkjabaaa
