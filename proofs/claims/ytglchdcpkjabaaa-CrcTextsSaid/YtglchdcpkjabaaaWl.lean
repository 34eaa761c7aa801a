import Derived.Test.YtglchdcpkjabaaaWk
namespace Go.Proofs.Ytglchdcpkjabaaa
open Go.RowKit

theorem open_at (s r : ByteArray) (hs : s.size ≤ 1048576) (h : opens s.data.toList = true) (hr : s.extract 0 (s.size - 4) = r) (w : World) : Calls Try.prog 11 #[.string s] w fun e w' => e = .returned (.tuple #[.string r, .int .i64 0]) ∧ w = w' := by
  subst hr; exact open_yes s hs h w
theorem seal_front (s : ByteArray) : (sealB s).extract 0 s.size = s := by
  apply ext_list
  rw [extract_take _ _ (by rw [sealB_size]; omega), sealB_list, sealL]
  simp
theorem seal_front4 (s : ByteArray) : (sealB s).extract 0 ((sealB s).size - 4) = s := by
  rw [sealB_size, Nat.add_sub_cancel]; exact seal_front s
theorem opens_sealed (s : ByteArray) : opens (sealB s).data.toList = true := by rw [sealB_list]; exact opens_seal _
theorem beq_self (s : ByteArray) : (s.toList == s.toList) = true := beq_str.2 rfl

/-- CrcSeals, to the second Open -/
theorem seals_law (s : ByteArray) (w : World) : Calls Try.prog 4 #[.string s] w fun e w' => e = .returned (.bool true) ∧ Below w.heap.size w w' := by
  by_cases h1 : 500 < s.size
  · have h1' : (500 : Int) < s.size := by omega
    go_enter Try.func4, Try.ntmps4
    go_wp2_with (go_at_call 10; refine (awake_walk _).mono ?_; rintro e w0 ⟨rfl, hb0⟩)
    go_ret
    exact ⟨rfl, hb0⟩
  · obtain ⟨t, ht⟩ : ∃ t, sealB s = t := ⟨_, rfl⟩
    have hsz : t.size = s.size + 4 := by rw [← ht, sealB_size]
    have hfr : t.extract 0 s.size = s := by rw [← ht]; exact seal_front s
    have hfr4 : t.extract 0 (t.size - 4) = s := by rw [← ht]; exact seal_front4 s
    have hop : opens t.data.toList = true := by rw [← ht]; exact opens_sealed s
    have hbq : ((t.extract 0 s.size).toList == s.toList) = true := by rw [hfr]; exact beq_self s
    have hlen : ((t.size : Int) != (s.size : Int) + 4) = false := by rw [hsz]; simp
    have hts : t.size ≤ 1048576 := by omega
    have hts2 : s.size ≤ t.size := by omega
    have HT := Lib.hid ht
    have HF4 := Lib.hid hfr4
    have HOP := Lib.hid hop
    clear ht hsz hfr hfr4 hop
    by_cases hy : opens s.data.toList = true
    · have h4 : 4 ≤ s.size := by
        have h' : 4 ≤ s.size ∧ syn s.data.toList = 0 := by simpa [opens] using hy
        exact h'.1
      obtain ⟨b, hb⟩ : ∃ b, s.extract 0 (s.size - 4) = b := ⟨_, rfl⟩
      have hsb : sealB b = s := by rw [← hb]; exact (opens_sealB s h4).1 hy
      have hbl : b.size ≤ 1048576 := by rw [← hb]; simp; omega
      have HY := Lib.hid hy
      have HB := Lib.hid hb
      have HSB := Lib.hid hsb
      clear hy hb hsb
      go_enter Try.func4, Try.ntmps4
      go_wp2_with (first
        | (go_at_call 10; refine (awake_walk _).mono ?_; rintro e w0 ⟨rfl, hb0⟩)
        | (go_at_call 17; refine (seal_at s t (by omega) HT.out _).mono ?_; rintro e w1 ⟨rfl, hb1⟩))
      refine (open_at t s hts HOP.out HF4.out _).mono ?_; rintro e _ ⟨rfl, rfl⟩
      go_wp2_with fail
      refine (open_at s b (by omega) HY.out HB.out _).mono ?_; rintro e _ ⟨rfl, rfl⟩
      go_wp2_with fail
      refine (seal_at b s hbl HSB.out _).mono ?_; rintro e w2 ⟨rfl, hb2⟩
      go_wp2_with fail
      go_ret
      exact ⟨rfl, bstep (bstep hb0 (Nat.le_refl _) hb1) (Nat.le_refl _) hb2⟩
    · have HY := Lib.hid (show opens s.data.toList = false by simpa using hy)
      clear hy
      go_enter Try.func4, Try.ntmps4
      go_wp2_with (first
        | (go_at_call 10; refine (awake_walk _).mono ?_; rintro e w0 ⟨rfl, hb0⟩)
        | (go_at_call 17; refine (seal_at s t (by omega) HT.out _).mono ?_; rintro e w1 ⟨rfl, hb1⟩))
      refine (open_at t s hts HOP.out HF4.out _).mono ?_; rintro e _ ⟨rfl, rfl⟩
      go_wp2_with fail
      refine (open_no s (by omega) HY.out _).mono ?_; rintro e _ ⟨rfl, rfl⟩
      go_wp2_with fail
      go_ret
      exact ⟨rfl, bstep hb0 (Nat.le_refl _) hb1⟩
theorem seals_in (s : ByteArray) (_ : s.size ≤ maxLen) (w : World) : Calls Try.prog 4 #[.string s] w fun e w' => e = .returned (.bool true) ∧ Below w.heap.size w w' := seals_law s w
end Go.Proofs.Ytglchdcpkjabaaa
