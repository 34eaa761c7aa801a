import Derived.Test.YtglchdcpkjabaaaWc
namespace Go.Proofs.Ytglchdcpkjabaaa
open Go.RowKit

theorem or_eq_xor (x y m : Nat) (h : x < 2 ^ m) : x ||| (y * 2 ^ m) = x ^^^ (y * 2 ^ m) := by
  apply Nat.eq_of_testBit_eq
  intro i
  rw [Nat.testBit_or, Nat.testBit_xor]
  by_cases hi : i < m
  · have : (y * 2 ^ m).testBit i = false := by rw [Nat.testBit_mul_two_pow]; simp; omega
    simp [this]
  · have : x.testBit i = false := Nat.testBit_lt_two_pow (Nat.lt_of_lt_of_le h (Nat.pow_le_pow_right (by decide) (by omega)))
    simp [this]
/-- the first j bytes of the sum at the end -/
def lastTo (l : List UInt8) : Nat → Nat
  | 0 => 0
  | j + 1 => lastTo l j ^^^ (l.getD (l.length - 4 + j) 0).toNat * 2 ^ (8 * j)
theorem lastTo_lt (l : List UInt8) (j : Nat) : lastTo l j < 2 ^ (8 * j) := by
  induction j with
  | zero => simp [lastTo]
  | succ j ih =>
    unfold lastTo
    have hb := (l.getD (l.length - 4 + j) 0).toNat_lt
    have e : 2 ^ (8 * (j + 1)) = 256 * 2 ^ (8 * j) := by rw [show 8 * (j + 1) = 8 + 8 * j by omega, Nat.pow_add]
    apply Nat.xor_lt_two_pow
    · rw [e]; omega
    · rw [e]; exact Nat.mul_lt_mul_of_pos_right hb (Nat.two_pow_pos _)
theorem lastTo_four (l : List UInt8) (h : 4 ≤ l.length) : lastTo l 4 = last4 l := by
  unfold lastTo lastTo lastTo lastTo lastTo last4 word
  rw [show l.length - 4 + 0 = l.length - 4 by omega, show l.length - 4 + 1 = l.length - 3 by omega, show l.length - 4 + 2 = l.length - 2 by omega, show l.length - 4 + 3 = l.length - 1 by omega]
  simp

theorem last_step (x k : Nat) (b : UInt8) (hk : k < 4) (hx : x < 2 ^ (8 * k)) :
    bits .or .u32 (x : Int) ((b.toNat : Int) % 4294967296 * 2 ^ (8 * k) % 4294967296) = ((x ^^^ b.toNat * 2 ^ (8 * k) : Nat) : Int) := by
  have hb := b.toNat_lt
  rw [← or_eq_xor _ _ _ hx]
  have e : ((b.toNat : Int) % 4294967296 * 2 ^ (8 * k) % 4294967296) = ((b.toNat * 2 ^ (8 * k) : Nat) : Int) := by
    rcases (by omega : k = 0 ∨ k = 1 ∨ k = 2 ∨ k = 3) with rfl | rfl | rfl | rfl <;> simp <;> omega
  rw [e]
  apply u32_or_nat
  · exact Nat.lt_of_lt_of_le hx (Nat.le_trans (Nat.pow_le_pow_right (by decide) (show 8 * k ≤ 32 by omega)) (by decide))
  · rcases (by omega : k = 0 ∨ k = 1 ∨ k = 2 ∨ k = 3) with rfl | rfl | rfl | rfl <;> simp <;> omega
theorem getD_at (s : ByteArray) (j : Nat) (h : j < s.size) : s[j] = s.data.toList.getD j 0 := by
  have h' : j < s.data.size := h
  simp [List.getD, Array.getElem?_eq_getElem h']
  rfl
theorem extract_take (s : ByteArray) (n : Nat) (h : n ≤ s.size) : (s.extract 0 n).data.toList = s.data.toList.take n := by
  simp [ByteArray.extract, ByteArray.copySlice]
theorem syndrome_walk (s : ByteArray) (h4 : 4 ≤ s.size) (hs : s.size ≤ 1048576) (w : World) : Calls Try.prog 25 #[.string s] w fun e w' => e = .returned (.int .u32 (syn s.data.toList)) ∧ w = w' := by
  go_enter Try.func25, Try.ntmps25
  go_wp2_with fail
  go_loop [4, 9] (fun x i => ∃ k : Nat, k ≤ 4 ∧ i = .int .i64 k ∧ x = .int .u32 (lastTo s.data.toList k)) (fun _ i => 4 - (intOf i).toNat)
  case atStart => exact ⟨0, by omega, rfl, rfl⟩
  case round =>
    obtain ⟨k, hk, rfl, rfl⟩ := hrel
    by_cases hlt : k < 4
    · go_wp2_with fail
      go_round
      case rel => exact ⟨k + 1, by omega, by go_num, val_int (by rw [last_step _ k _ hlt (lastTo_lt _ _), getD_at]; rfl)⟩
      case measure => simp [intOf]; omega
    · obtain rfl : k = 4 := by omega
      go_wp2_with fail
      refine (sum_walk _ (by unfold maxLen; simp; omega) _).mono ?_; rintro e _ ⟨rfl, rfl⟩
      go_wp2_with fail
      go_ret
      refine ⟨ret_int ?_, rfl⟩
      have hl : lastTo s.data.toList 4 < 2 ^ 32 := lastTo_lt _ 4
      rw [xor_u32 _ _ (sum_lt _) hl, lastTo_four _ (by simpa using h4)]
      rfl

/-- whether a text is a sealed one -/
def opens (l : List UInt8) : Bool := decide (4 ≤ l.length ∧ syn l = 0)
theorem ret_s_e {s s' : ByteArray} {e e' : Int} (h : s = s') (h' : e = e') : Ending.returned (.tuple #[.string s, .int .i64 e]) = .returned (.tuple #[.string s', .int .i64 e']) := by rw [h, h']
theorem syn_at (s : ByteArray) (n : Nat) (h4 : 4 ≤ s.size) (hs : s.size ≤ 1048576) (h : syn s.data.toList = n) (w : World) : Calls Try.prog 25 #[.string s] w fun e w' => e = .returned (.int .u32 n) ∧ w = w' := by
  subst h; exact syndrome_walk s h4 hs w
theorem open_yes (s : ByteArray) (hs : s.size ≤ 1048576) (h : opens s.data.toList = true) (w : World) : Calls Try.prog 11 #[.string s] w fun e w' => e = .returned (.tuple #[.string (s.extract 0 (s.size - 4)), .int .i64 0]) ∧ w = w' := by
  have h' : 4 ≤ s.size ∧ syn s.data.toList = 0 := by simpa [opens] using h
  have h4 := h'.1
  have HS := Lib.hid h'.2
  clear h h'
  go_enter Try.func11, Try.ntmps11
  go_wp2_with (go_at_call 25; refine (syn_at s 0 h4 hs HS.out _).mono ?_; rintro e _ ⟨rfl, rfl⟩)
  go_ret2
  exact ⟨rfl, rfl⟩
theorem open_no (s : ByteArray) (hs : s.size ≤ 1048576) (h : opens s.data.toList = false) (w : World) : Calls Try.prog 11 #[.string s] w fun e w' => e = .returned (.tuple #[.string ⟨#[]⟩, .int .i64 12]) ∧ w = w' := by
  have h' : ¬ (4 ≤ s.size ∧ syn s.data.toList = 0) := by simpa [opens] using h
  clear h
  by_cases h4 : 4 ≤ s.size
  · have h0 : ¬ syn s.data.toList = 0 := fun h => h' ⟨h4, h⟩
    clear h'
    obtain ⟨n, hn⟩ : ∃ n, syn s.data.toList = n := ⟨_, rfl⟩
    have hne : ((n : Int) != 0) = true := by rw [← hn]; simp; omega
    have HN := Lib.hid hn
    clear hn h0
    go_enter Try.func11, Try.ntmps11
    go_wp2_with (go_at_call 25; refine (syn_at s n h4 hs HN.out _).mono ?_; rintro e _ ⟨rfl, rfl⟩)
    go_ret2
    exact ⟨rfl, rfl⟩
  · clear h'
    go_enter Try.func11, Try.ntmps11
    go_wp2_with fail
    go_ret2
    exact ⟨rfl, rfl⟩

end Go.Proofs.Ytglchdcpkjabaaa
