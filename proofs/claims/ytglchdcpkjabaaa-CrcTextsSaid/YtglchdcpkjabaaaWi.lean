import Derived.Test.YtglchdcpkjabaaaWh
namespace Go.Proofs.Ytglchdcpkjabaaa
open Go.RowKit

theorem bstep {B : Nat} {a b c : World} (h : Below B a b) (hB : B ≤ a.heap.size) (k : Below b.heap.size b c) : Below B a c := h.trans (k.mono (Nat.le_trans hB h.size))
def digits : ByteArray := ⟨#[49, 50, 51, 52, 53, 54, 55, 56, 57]⟩
theorem sum_digits : sum digits.data.toList = 3421780262 := by decide +kernel
theorem seal_digits : sealB digits = ⟨#[49, 50, 51, 52, 53, 54, 55, 56, 57, 38, 57, 244, 203]⟩ := by
  apply ext_list
  rw [sealB_list, sealL, sum_digits]
  decide
theorem sum_at (s : ByteArray) (n : Nat) (hs : s.size ≤ maxLen) (h : sum s.data.toList = n) (w : World) : Calls Try.prog 19 #[.string s] w fun e w' => e = .returned (.int .u32 n) ∧ w = w' := by
  subst h; exact sum_walk s hs w
theorem seal_at (s t : ByteArray) (hs : s.size ≤ 1048576) (h : sealB s = t) (w : World) : Calls Try.prog 17 #[.string s] w fun e w' => e = .returned (.string t) ∧ Below w.heap.size w w' := by
  subst h; exact seal_walk s hs w
/-- Locate, for whatever text -/
theorem locate_any (s : ByteArray) (hs : s.size ≤ 1048576) (w : World) : Calls Try.prog 15 #[.string s] w fun e w' => e = .returned (locV s.data.toList) ∧ Below w.heap.size w w' := by
  by_cases h : s.size < 4 ∨ 4096 < s.size
  · exact locate_short s h hs w
  · by_cases h0 : syn s.data.toList = 0
    · exact locate_zero s (by omega) (by omega) h0 w
    · exact locate_walk s (by omega) (by omega) h0 w
theorem locate_at (s : ByteArray) (hs : s.size ≤ 1048576) (n : Nat) (h : loc s.data.toList = some n) (w : World) : Calls Try.prog 15 #[.string s] w fun e w' => e = .returned (.tuple #[.int .i64 n, .bool true]) ∧ Below w.heap.size w w' := by
  have := locate_any s hs w
  rw [locV, h] at this
  exact this
theorem locate_not (s : ByteArray) (hs : s.size ≤ 1048576) (h : loc s.data.toList = none) (w : World) : Calls Try.prog 15 #[.string s] w fun e w' => e = .returned (.tuple #[.int .i64 0, .bool false]) ∧ Below w.heap.size w w' := by
  have := locate_any s hs w
  rw [locV, h] at this
  exact this
theorem flipB_list (s : ByteArray) (n : Nat) : (flipB s n).data.toList = flip s.data.toList n := by simp [flipB]
theorem flipB_size (s : ByteArray) (n : Nat) : (flipB s n).size = s.size := by
  show (flipB s n).data.size = _
  rw [← Array.length_toList, flipB_list, flip_length]; simp
theorem sealB_size (s : ByteArray) : (sealB s).size = s.size + 4 := by simp [sealB, le4, ByteArray.size_append]; rfl
/-- a changed bit of a sealed text is located -/
theorem loc_flip_seal (l : List UInt8) (n : Nat) (h4 : 4 ≤ l.length) (hm : l.length ≤ 4096) (h0 : syn l = 0) (hn : n < 8 * l.length) : loc (flip l n) = some n := by
  apply loc_some
  · rw [flip_length]; exact h4
  · rw [flip_length]; exact hm
  · rw [wrongAt_flip (by rw [flip_length]; exact h4) n (by rw [flip_length]; exact hn), flip_flip]; exact h0

set_option maxHeartbeats 400000 in
theorem awake_walk (w : World) : Calls Try.prog 10 #[] w fun e w' => e = .returned (.bool true) ∧ Below w.heap.size w w' := by
  have HF : Hid (loc (flipB ⟨#[49, 50, 51, 52, 53, 54, 55, 56, 57, 38, 57, 244, 203]⟩ 10).data.toList = some 10) := Lib.hid (by
    rw [flipB_list]
    refine loc_flip_seal _ 10 (by decide) (by decide) ?_ (by decide)
    rw [← seal_digits, sealB_list]
    exact syn_seal _)
  obtain ⟨t, ht⟩ : ∃ t, t = flipB ⟨#[49, 50, 51, 52, 53, 54, 55, 56, 57, 38, 57, 244, 203]⟩ 10 := ⟨_, rfl⟩
  rw [← ht] at HF
  have HT := Lib.hid ht
  have hts : t.size ≤ 1048576 := by rw [ht, flipB_size]; decide
  clear ht
  go_enter Try.func10, Try.ntmps10
  go_wp2_with fail
  refine (seal_at ⟨#[49, 50, 51, 52, 53, 54, 55, 56, 57]⟩ _ (by decide) seal_digits _).mono ?_; rintro e w1 ⟨rfl, hb1⟩
  go_wp2_with fail
  refine (flip_yes _ 10 (by decide) (by decide) _).mono ?_; rintro e w2 ⟨rfl, hb2⟩
  rw [← HT.out]
  go_wp2_with fail
  refine (locate_at t hts 10 HF.out _).mono ?_; rintro e w3 ⟨rfl, hb3⟩
  go_wp2_with fail
  refine (sum_at ⟨#[49, 50, 51, 52, 53, 54, 55, 56, 57]⟩ 3421780262 (by decide) sum_digits _).mono ?_; rintro e _ ⟨rfl, rfl⟩
  go_wp2_with fail
  refine (sum_at ⟨#[]⟩ 0 (by decide) (by decide +kernel) _).mono ?_; rintro e _ ⟨rfl, rfl⟩
  go_wp2_with fail
  go_ret
  exact ⟨rfl, bstep (bstep hb1 (Nat.le_refl _) hb2) (Nat.le_refl _) hb3⟩
end Go.Proofs.Ytglchdcpkjabaaa
