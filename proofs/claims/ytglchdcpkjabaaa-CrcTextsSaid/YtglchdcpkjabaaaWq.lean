import Derived.Test.YtglchdcpkjabaaaWp
namespace Go.Proofs.Ytglchdcpkjabaaa
open Go.RowKit

theorem open_both (s : ByteArray) (hs : s.size ≤ 1048576) : ∃ (r : ByteArray) (x : Int), (∀ w, Calls Try.prog 11 #[.string s] w fun e w' => e = .returned (.tuple #[.string r, .int .i64 x]) ∧ w = w') ∧
    (∀ w, Calls Try.prog 12 #[.string s] w fun e w' => e = .returned (.tuple #[.string r, .int .i64 x]) ∧ Below w.heap.size w w') := by
  by_cases h : opens s.data.toList = true
  · exact ⟨_, _, open_yes s hs h, ropen_yes s hs h⟩
  · have h' : opens s.data.toList = false := by simpa using h
    exact ⟨_, _, open_no s hs h', ropen_no s hs h'⟩
theorem flip_both (s : ByteArray) (hs : s.size ≤ 1048576) (bit : Int) (hmx : bit ≤ 9223372036854775807) : ∃ (r : ByteArray) (x : Bool), (∀ w, Calls Try.prog 13 #[.string s, .int .i64 bit] w fun e w' => e = .returned (.tuple #[.string r, .bool x]) ∧ Below w.heap.size w w') ∧
    (∀ w, Calls Try.prog 14 #[.string s, .int .i64 bit] w fun e w' => e = .returned (.tuple #[.string r, .bool x]) ∧ Below w.heap.size w w') := by
  by_cases h : bit < 0
  · exact ⟨_, _, flip_low s bit hs h, rflip_low s bit h⟩
  · by_cases h2 : 8 * (s.size : Int) ≤ bit
    · exact ⟨_, _, flip_high s bit hs (by omega) h2, rflip_high s bit hs (by omega) hmx (by omega)⟩
    · obtain ⟨n, rfl⟩ := Int.eq_ofNat_of_zero_le (show 0 ≤ bit by omega)
      exact ⟨_, _, flip_yes s n hs (by omega), rflip_yes s n hs (by omega)⟩
theorem rlocate_any (s : ByteArray) (hs : s.size ≤ 1048576) (w : World) : Calls Try.prog 16 #[.string s] w fun e w' => e = .returned (locV s.data.toList) ∧ Below w.heap.size w w' := by
  by_cases h : s.size < 4 ∨ 4096 < s.size
  · exact rlocate_short s h hs w
  · exact rlocate_walk s (by omega) (by omega) w
theorem locate_both (s : ByteArray) (hs : s.size ≤ 1048576) : ∃ (n : Int) (x : Bool), (∀ w, Calls Try.prog 15 #[.string s] w fun e w' => e = .returned (.tuple #[.int .i64 n, .bool x]) ∧ Below w.heap.size w w') ∧
    (∀ w, Calls Try.prog 16 #[.string s] w fun e w' => e = .returned (.tuple #[.int .i64 n, .bool x]) ∧ Below w.heap.size w w') :=
  ⟨_, _, locate_any s hs, rlocate_any s hs⟩

set_option maxRecDepth 10000 in
set_option maxHeartbeats 400000 in
theorem texts_law (s : ByteArray) (bit : Int) (hmx : bit ≤ 9223372036854775807) (w : World) : Calls Try.prog 3 #[.string s, .int .i64 bit] w fun e w' => e = .returned (.bool true) ∧ Below w.heap.size w w' := by
  by_cases h1 : 40 < s.size
  · have h1' : (40 : Int) < s.size := by omega
    go_enter Try.func3, Try.ntmps3
    go_wp2_with (go_at_call 10; refine (awake_walk _).mono ?_; rintro e w0 ⟨rfl, hb0⟩)
    go_ret
    exact ⟨rfl, hb0⟩
  · have hs : s.size ≤ 1048576 := by omega
    obtain ⟨r1, x1, o1, o2⟩ := open_both s hs
    obtain ⟨r2, x2, f1, f2⟩ := flip_both s hs bit hmx
    obtain ⟨n3, x3, l1, l2⟩ := locate_both s hs
    have O1 := Lib.hid o1
    have O2 := Lib.hid o2
    have F1 := Lib.hid f1
    have F2 := Lib.hid f2
    have L1 := Lib.hid l1
    have L2 := Lib.hid l2
    have HS := Lib.hid hs
    obtain ⟨t, ht⟩ : ∃ t, sealB s = t := ⟨_, rfl⟩
    have S1 : Hid (∀ w, Calls Try.prog 17 #[.string s] w fun e w' => e = .returned (.string t) ∧ Below w.heap.size w w') := Lib.hid (by rw [← ht]; exact seal_walk s hs)
    have S2 : Hid (∀ w, Calls Try.prog 18 #[.string s] w fun e w' => e = .returned (.string t) ∧ Below w.heap.size w w') := Lib.hid (by rw [← ht]; exact rseal_walk s hs)
    clear o1 o2 f1 f2 l1 l2 hs ht
    go_enter Try.func3, Try.ntmps3
    go_wp2_with (first
      | (go_at_call 10; refine (awake_walk _).mono ?_; rintro e w0 ⟨rfl, hb0⟩)
      | (go_at_call 11; refine (O1.out _).mono ?_; rintro e _ ⟨rfl, rfl⟩)
      | (go_at_call 12; refine (O2.out _).mono ?_; rintro e w1 ⟨rfl, hb1⟩)
      | (go_at_call 13; refine (F1.out _).mono ?_; rintro e w2 ⟨rfl, hb2⟩)
      | (go_at_call 14; refine (F2.out _).mono ?_; rintro e w3 ⟨rfl, hb3⟩)
      | (go_at_call 15; refine (L1.out _).mono ?_; rintro e w4 ⟨rfl, hb4⟩)
      | (go_at_call 16; refine (L2.out _).mono ?_; rintro e w5 ⟨rfl, hb5⟩)
      | (go_at_call 17; refine (S1.out _).mono ?_; rintro e w6 ⟨rfl, hb6⟩)
      | (go_at_call 18; refine (S2.out _).mono ?_; rintro e w7 ⟨rfl, hb7⟩))
    go_ret
    exact ⟨rfl, bstep (bstep (bstep (bstep (bstep (bstep (bstep hb0 (Nat.le_refl _) hb1) (Nat.le_refl _) hb2) (Nat.le_refl _) hb3) (Nat.le_refl _) hb4) (Nat.le_refl _) hb5) (Nat.le_refl _) hb6) (Nat.le_refl _) hb7⟩
theorem texts_in (s : ByteArray) (_ : s.size ≤ maxLen) (b : Int) (wb : (Lit.int .i64 b).wf = true) (w : World) : Calls Try.prog 3 #[.string s, .int .i64 b] w fun e w' => e = .returned (.bool true) ∧ Below w.heap.size w w' := by
  have := bounds_i64 wb
  exact texts_law s b (by omega) w
end Go.Proofs.Ytglchdcpkjabaaa
