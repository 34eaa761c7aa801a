/- A part of the proofs of TopCounter and TopStrict: what the functions of the program do, each walked once, and plain laws about it. No condition. -/
import Derived.Test.YtlmjefjimoghcaaGreatA04
namespace Go.Proofs.YtlmjefjimoghcaaGreat.K
set_option linter.unusedSimpArgs false
set_option linter.unnecessarySimpa false
set_option linter.unusedVariables false
open Go.RowKit
def P : Nat := 0xedb88320
def sh1 (r : Nat) : Nat := (r >>> 1) ^^^ ((r % 2) * P)
def sh : Nat → Nat → Nat
 | 0, r => r
 | n + 1, r => sh n (sh1 r)
theorem sh_add (a : Nat) : ∀ (b r : Nat), sh (a + b) r = sh b (sh a r) := by
 induction a with
 | zero => intro b r; simp [sh]
 | succ a ih => intro b r; rw [show a + 1 + b = (a + b) + 1 from by omega]; simp only [sh, ih]
theorem sh_succ' (n r : Nat) : sh (n + 1) r = sh1 (sh n r) := by rw [sh_add]; rfl
theorem sh1_lt {r : Nat} (h : r < 2 ^ 32) : sh1 r < 2 ^ 32 := by
 unfold sh1
 apply Nat.xor_lt_two_pow
 ·rw [Nat.shiftRight_eq_div_pow]; omega
 ·have : r % 2 < 2 := Nat.mod_lt _ (by omega)
  unfold P; omega
theorem sh_lt (n : Nat) : ∀ {r : Nat}, r < 2 ^ 32 → sh n r < 2 ^ 32 := by
 induction n with
 | zero => intro r h; exact h
 | succ n ih => intro r h; exact ih (sh1_lt h)
-- the period
def run (r : Nat) (l : List UInt8) : Nat := l.foldl (fun r b => sh 8 (r ^^^ b.toNat)) r
theorem run_snoc (r : Nat) (a : List UInt8) (b : UInt8) : run r (a ++ [b]) = sh 8 (run r a ^^^ b.toNat) := by simp [run]
theorem u8_lt (b : UInt8) : b.toNat < 2 ^ 32 := Nat.lt_of_lt_of_le b.toNat_lt (by decide)
theorem run_lt (l : List UInt8) : ∀ {r : Nat}, r < 2 ^ 32 → run r l < 2 ^ 32 := by
 induction l with
 | nil => intro r h; exact h
 | cons b l ih => intro r h; exact ih (sh_lt 8 (Nat.xor_lt_two_pow h (u8_lt b)))
def ones : Nat := 0xffffffff
def upd (s : Nat) (l : List UInt8) : Nat := ones ^^^ run (ones ^^^ s) l
def sum (l : List UInt8) : Nat := upd 0 l
theorem ones_lt : ones < 2 ^ 32 := by decide
theorem upd_lt {s : Nat} (h : s < 2 ^ 32) (l : List UInt8) : upd s l < 2 ^ 32 := Nat.xor_lt_two_pow ones_lt (run_lt l (Nat.xor_lt_two_pow ones_lt h))
theorem sum_lt (l : List UInt8) : sum l < 2 ^ 32 := upd_lt (by decide) l
-- the word of four bytes
def word (b0 b1 b2 b3 : UInt8) : Nat := b0.toNat ^^^ b1.toNat * 2 ^ 8 ^^^ b2.toNat * 2 ^ 16 ^^^ b3.toNat * 2 ^ 24
/-- the register behind a sealed text -/
def C : Nat := sh 32 ones
def last4 (l : List UInt8) : Nat := word (l.getD (l.length - 4) 0) (l.getD (l.length - 3) 0) (l.getD (l.length - 2) 0) (l.getD (l.length - 1) 0)
/-- the difference between the sum of a text and the sum at its end -/
def syn (l : List UInt8) : Nat := sum (l.take (l.length - 4)) ^^^ last4 l
theorem u32_step (x : Nat) (hx : x < 2 ^ 32) : bits .xor .u32 ((x : Int) / 2) (bits .and .u32 (-bits .and .u32 (x : Int) 1 % 4294967296) 3988292384) = (sh1 x : Int) := by
 have e1 : bits .and .u32 (x : Int) 1 = ((x % 2 : Nat) : Int) := by
  rw [show (1 : Int) = ((1 : Nat) : Int) from rfl, u32_and_nat x 1 (by omega) (by omega), Nat.and_one_is_mod]
 have e2 : (x : Int) / 2 = ((x / 2 : Nat) : Int) := by omega
 rw [e1, e2]
 unfold sh1 P
 rw [Nat.shiftRight_eq_div_pow]
 rcases Nat.mod_two_eq_zero_or_one x with h | h
 ·rw [h, show (-((0 : Nat) : Int) % 4294967296) = ((0 : Nat) : Int) from by decide, show (3988292384 : Int) = ((3988292384 : Nat) : Int) from rfl, u32_and_nat 0 _ (by omega) (by omega), u32_xor_nat _ _ (by omega) (by simp)]
  simp
 ·rw [h, show (-((1 : Nat) : Int) % 4294967296) = ((4294967295 : Nat) : Int) from by decide, show (3988292384 : Int) = ((3988292384 : Nat) : Int) from rfl, u32_and_nat _ _ (by omega) (by omega),
   show 4294967295 &&& 3988292384 = 3988292384 from by decide, u32_xor_nat _ _ (by omega) (by omega)]
theorem shift_walk (r : Nat) (hr : r < 2 ^ 32) (w : World) : Calls Tryz.prog 178 #[.int .u32 r] w fun e w' => e = .returned (.int .u32 (sh 8 r)) ∧ w = w' := by
 go_enter Tryz.func178, Tryz.ntmps178
 go_wp2
 go_loop [0, 3] (fun x i => ∃ k : Nat, k ≤ 8 ∧ i = .int .i64 k ∧ x = .int .u32 (sh k r)) (fun _ i => 8 - (intOf i).toNat)
 case atStart => exact ⟨0, by omega, rfl, rfl⟩
 case round =>
  obtain ⟨k, hk, rfl, rfl⟩ := hrel
  by_cases hlt : k < 8
  ·go_wp2
   go_round
   case rel => exact ⟨k + 1, by omega, by go_num, val_int (by rw [u32_step _ (sh_lt k hr), sh_succ'])⟩
   case measure => simp [intOf]; omega
  ·obtain rfl : k = 8 := by omega
   go_wp2
   go_ret
   exact ⟨rfl, rfl⟩
theorem xor32 (x : Nat) (hx : x < 2 ^ 32) : bits .xor .u32 4294967295 (x : Int) = ((ones ^^^ x : Nat) : Int) := by
 rw [show (4294967295 : Int) = ((ones : Nat) : Int) from rfl, u32_xor_nat _ _ (by decide) (by omega)]
theorem xor_byte (x : Nat) (b : UInt8) (hx : x < 2 ^ 32) : bits .xor .u32 (x : Int) ((b.toNat : Int) % 4294967296) = ((x ^^^ b.toNat : Nat) : Int) := by
 have := b.toNat_lt
 rw [show (b.toNat : Int) % 4294967296 = ((b.toNat : Nat) : Int) from by omega, u32_xor_nat _ _ (by omega) (by omega)]
theorem take_snoc (s : ByteArray) (k : Nat) (h : k < s.size) : s.data.toList.take (k + 1) = s.data.toList.take k ++ [s[k]] := by
 rw [List.take_succ_eq_append_getElem (by simpa using h)]; rfl
theorem update_walk (r : Nat) (hr : r < 2 ^ 32) (s : ByteArray) (hs : s.size ≤ maxLen) (w : World) : Calls Tryz.prog 162 #[.int .u32 r, .string s] w fun e w' => e = .returned (.int .u32 (upd r s.data.toList)) ∧ w = w' := by
 unfold maxLen at hs
 have hsg : IntKind.u32.signed = false := rfl
 have hmx : IntKind.u32.max = 4294967295 := rfl
 have hr' : (r : Int) < 4294967296 := by omega
 go_enter Tryz.func162, Tryz.ntmps162
 go_wp2
 go_loop [5, 11] (fun x i => ∃ k : Nat, k ≤ s.size ∧ i = .int .i64 k ∧ x = .int .u32 (run (ones ^^^ r) (s.data.toList.take k))) (fun _ i => s.size - (intOf i).toNat)
 case atStart => exact ⟨0, Nat.zero_le _, rfl, val_int (xor32 r hr)⟩
 case round =>
  obtain ⟨k, hk, rfl, rfl⟩ := hrel
  have hR : run (ones ^^^ r) (s.data.toList.take k) < 2 ^ 32 := run_lt _ (Nat.xor_lt_two_pow ones_lt hr)
  by_cases hlt : k < s.size
  ·have HS := Lib.hid (take_snoc s k hlt)
   go_wp2_with fail
   rw [xor_byte _ _ hR]
   refine (shift_walk _ (Nat.xor_lt_two_pow hR (u8_lt _)) _).mono ?_; rintro e _ ⟨rfl, rfl⟩
   go_wp2_with fail
   go_round
   case rel => exact ⟨k + 1, by omega, by go_num, val_int (by rw [HS.out, run_snoc])⟩
   case measure => simp [intOf]; omega
  ·go_wp2_with fail
   go_ret
   exact ⟨ret_int (by rw [xor32 _ hR, List.take_of_length_le (by simp; omega)]; rfl), rfl⟩
theorem sum_walk (s : ByteArray) (hs : s.size ≤ maxLen) (w : World) : Calls Tryz.prog 126 #[.string s] w fun e w' => e = .returned (.int .u32 (sum s.data.toList)) ∧ w = w' := by
 go_enter Tryz.func126, Tryz.ntmps126
 go_wp2_with (go_at_call 162; refine (update_walk 0 (by decide) _ hs _).mono ?_; rintro e _ ⟨rfl, rfl⟩)
 go_ret
 exact ⟨rfl, rfl⟩
-- the reference
/-- the four bytes of a sum -/
theorem xor_u32 (x y : Nat) (hx : x < 2 ^ 32) (hy : y < 2 ^ 32) : bits .xor .u32 (x : Int) (y : Int) = ((x ^^^ y : Nat) : Int) := u32_xor_nat _ _ (by omega) (by omega)
def le4 (n : Nat) : List UInt8 := [UInt8.ofNat n, UInt8.ofNat (n / 256), UInt8.ofNat (n / 65536), UInt8.ofNat (n / 16777216)]
def sealB (s : ByteArray) : ByteArray := s ++ ⟨(le4 (sum s.data.toList)).toArray⟩
theorem conv4 (w : World) (x0 x1 x2 x3 : Int) : (convert 70 9 (.slice (some ⟨w.heap.size, 0, none⟩) 4 4)).run Tryz.prog (w.alloc (.cells #[.int .u8 x0, .int .u8 x1, .int .u8 x2, .int .u8 x3] 5)) =
  .ok (.string ⟨#[UInt8.ofNat x0.toNat, UInt8.ofNat x1.toNat, UInt8.ofNat x2.toNat, UInt8.ofNat x3.toNat]⟩) (w.alloc (.cells #[.int .u8 x0, .int .u8 x1, .int .u8 x2, .int .u8 x3] 5)) := by
 have := run_convert_bytes_arg (P := Tryz.prog) (w.alloc (.cells #[.int .u8 x0, .int .u8 x1, .int .u8 x2, .int .u8 x3] 5)) 70 5 Tryz.underlying70 Tryz.underlying5 w.heap.size 0 4 4 [x0, x1, x2, x3] rfl (by
  intro i hi
  rw [World.cell?_alloc_mark]
  match i, hi with
  | 0, _ => rfl
  | 1, _ => rfl
  | 2, _ => rfl
  | 3, _ => rfl) 9 Tryz.underlying9
 exact this
theorem le4_of (n : Nat) (_h : n < 2 ^ 32) : [UInt8.ofNat ((n : Int) % 256).toNat, UInt8.ofNat ((n : Int) / 256 % 256).toNat, UInt8.ofNat ((n : Int) / 65536 % 256).toNat, UInt8.ofNat ((n : Int) / 16777216).toNat] = le4 n := by
 have e : ∀ m : Nat, UInt8.ofNat (m % 256) = UInt8.ofNat m := fun m => by apply UInt8.toNat_inj.1; simp
 unfold le4
 rw [show ((n : Int) % 256).toNat = n % 256 by omega, show ((n : Int) / 256 % 256).toNat = n / 256 % 256 by omega, show ((n : Int) / 65536 % 256).toNat = n / 65536 % 256 by omega, show ((n : Int) / 16777216).toNat = n / 16777216 by omega, e, e, e]
theorem ret_str {a b : ByteArray} (h : a = b) : Ending.returned (.string a) = .returned (.string b) := by rw [h]
theorem seal_walk (s : ByteArray) (hs : s.size ≤ 1048576) (w : World) : Calls Tryz.prog 86 #[.string s] w fun e w' => e = .returned (.string (sealB s)) ∧ Below w.heap.size w w' := by
 have hN := sum_lt s.data.toList
 obtain ⟨n, hn⟩ : ∃ n, n = sum s.data.toList := ⟨_, rfl⟩
 rw [← hn] at hN
 have HSUM : ∀ w, Calls Tryz.prog 126 #[.string s] w fun e w' => e = .returned (.int .u32 n) ∧ w = w' := by rw [hn]; exact sum_walk s (by unfold maxLen; omega)
 have H1 := Lib.hid HSUM
 have HN : Hid (s ++ ⟨[UInt8.ofNat ((n : Int) % 256).toNat, UInt8.ofNat ((n : Int) / 256 % 256).toNat, UInt8.ofNat ((n : Int) / 65536 % 256).toNat, UInt8.ofNat ((n : Int) / 16777216).toNat].toArray⟩ = sealB s) := Lib.hid (by rw [le4_of n hN, sealB, hn])
 clear hn HSUM
 have hcv := fun x0 x1 x2 x3 => conv4 w x0 x1 x2 x3
 go_enter Tryz.func86, Tryz.ntmps86
 go_wp2_with (go_at_call 126; refine (H1.out _).mono ?_; rintro e _ ⟨rfl, rfl⟩)
 go_ret
 exact ⟨ret_str HN.out, (Below.refl _ _).alloc (Nat.le_refl _) _⟩
theorem or_eq_xor (x y m : Nat) (h : x < 2 ^ m) : x ||| (y * 2 ^ m) = x ^^^ (y * 2 ^ m) := by
 apply Nat.eq_of_testBit_eq
 intro i
 rw [Nat.testBit_or, Nat.testBit_xor]
 by_cases hi : i < m
 ·have : (y * 2 ^ m).testBit i = false := by rw [Nat.testBit_mul_two_pow]; simp; omega
  simp [this]
 ·have : x.testBit i = false := Nat.testBit_lt_two_pow (Nat.lt_of_lt_of_le h (Nat.pow_le_pow_right (by decide) (by omega)))
  simp [this]
/-- the first j bytes of the sum at the end -/
def lastTo (l : List UInt8) : Nat → Nat
 | 0 => 0
 | j + 1 => lastTo l j ^^^ (l.getD (l.length - 4 + j) 0).toNat * 2 ^ (8 * j)
theorem lastTo_lt (l : List UInt8) (j : Nat) : lastTo l j < 2 ^ (8 * j) := by
 induction j with
 | zero => simp [lastTo]
 | succ j ih =>
  unfold lastTo
  have hb := (l.getD (l.length - 4 + j) 0).toNat_lt
  have e : 2 ^ (8 * (j + 1)) = 256 * 2 ^ (8 * j) := by rw [show 8 * (j + 1) = 8 + 8 * j by omega, Nat.pow_add]
  apply Nat.xor_lt_two_pow
  ·rw [e]; omega
  ·rw [e]; exact Nat.mul_lt_mul_of_pos_right hb (Nat.two_pow_pos _)
theorem lastTo_four (l : List UInt8) (h : 4 ≤ l.length) : lastTo l 4 = last4 l := by
 unfold lastTo lastTo lastTo lastTo lastTo last4 word
 rw [show l.length - 4 + 0 = l.length - 4 by omega, show l.length - 4 + 1 = l.length - 3 by omega, show l.length - 4 + 2 = l.length - 2 by omega, show l.length - 4 + 3 = l.length - 1 by omega]
 simp
theorem last_step (x k : Nat) (b : UInt8) (hk : k < 4) (hx : x < 2 ^ (8 * k)) :
  bits .or .u32 (x : Int) ((b.toNat : Int) % 4294967296 * 2 ^ (8 * k) % 4294967296) = ((x ^^^ b.toNat * 2 ^ (8 * k) : Nat) : Int) := by
 have hb := b.toNat_lt
 rw [← or_eq_xor _ _ _ hx]
 have e : ((b.toNat : Int) % 4294967296 * 2 ^ (8 * k) % 4294967296) = ((b.toNat * 2 ^ (8 * k) : Nat) : Int) := by
  rcases (by omega : k = 0 ∨ k = 1 ∨ k = 2 ∨ k = 3) with rfl | rfl | rfl | rfl <;> simp <;> omega
 rw [e]
 apply u32_or_nat
 ·exact Nat.lt_of_lt_of_le hx (Nat.le_trans (Nat.pow_le_pow_right (by decide) (show 8 * k ≤ 32 by omega)) (by decide))
 ·rcases (by omega : k = 0 ∨ k = 1 ∨ k = 2 ∨ k = 3) with rfl | rfl | rfl | rfl <;> simp <;> omega
theorem getD_at (s : ByteArray) (j : Nat) (h : j < s.size) : s[j] = s.data.toList.getD j 0 := by
 have h' : j < s.data.size := h
 simp [List.getD, Array.getElem?_eq_getElem h']
 rfl
theorem syndrome_walk (s : ByteArray) (h4 : 4 ≤ s.size) (hs : s.size ≤ 1048576) (w : World) : Calls Tryz.prog 174 #[.string s] w fun e w' => e = .returned (.int .u32 (syn s.data.toList)) ∧ w = w' := by
 go_enter Tryz.func174, Tryz.ntmps174
 go_wp2_with fail
 go_loop [4, 9] (fun x i => ∃ k : Nat, k ≤ 4 ∧ i = .int .i64 k ∧ x = .int .u32 (lastTo s.data.toList k)) (fun _ i => 4 - (intOf i).toNat)
 case atStart => exact ⟨0, by omega, rfl, rfl⟩
 case round =>
  obtain ⟨k, hk, rfl, rfl⟩ := hrel
  by_cases hlt : k < 4
  ·go_wp2_with fail
   go_round
   case rel => exact ⟨k + 1, by omega, by go_num, val_int (by rw [last_step _ k _ hlt (lastTo_lt _ _), getD_at]; rfl)⟩
   case measure => simp [intOf]; omega
  ·obtain rfl : k = 4 := by omega
   go_wp2_with fail
   refine (sum_walk _ (by unfold maxLen; simp; omega) _).mono ?_; rintro e _ ⟨rfl, rfl⟩
   go_wp2_with fail
   go_ret
   refine ⟨ret_int ?_, rfl⟩
   have hl : lastTo s.data.toList 4 < 2 ^ 32 := lastTo_lt _ 4
   rw [xor_u32 _ _ (sum_lt _) hl, lastTo_four _ (by simpa using h4)]
   rfl
/-- whether a text is a sealed one -/
def opens (l : List UInt8) : Bool := decide (4 ≤ l.length ∧ syn l = 0)
theorem syn_at (s : ByteArray) (n : Nat) (h4 : 4 ≤ s.size) (hs : s.size ≤ 1048576) (h : syn s.data.toList = n) (w : World) : Calls Tryz.prog 174 #[.string s] w fun e w' => e = .returned (.int .u32 n) ∧ w = w' := by
 subst h; exact syndrome_walk s h4 hs w
theorem open_yes (s : ByteArray) (hs : s.size ≤ 1048576) (h : opens s.data.toList = true) (w : World) : Calls Tryz.prog 152 #[.string s] w fun e w' => e = .returned (.tuple #[.string (s.extract 0 (s.size - 4)), .int .i64 0]) ∧ w = w' := by
 have h' : 4 ≤ s.size ∧ syn s.data.toList = 0 := by simpa [opens] using h
 have h4 := h'.1
 have HS := Lib.hid h'.2
 clear h h'
 go_enter Tryz.func152, Tryz.ntmps152
 go_wp2_with (go_at_call 174; refine (syn_at s 0 h4 hs HS.out _).mono ?_; rintro e _ ⟨rfl, rfl⟩)
 go_ret2
 exact ⟨rfl, rfl⟩
theorem open_no (s : ByteArray) (hs : s.size ≤ 1048576) (h : opens s.data.toList = false) (w : World) : Calls Tryz.prog 152 #[.string s] w fun e w' => e = .returned (.tuple #[.string ⟨#[]⟩, .int .i64 12]) ∧ w = w' := by
 have h' : ¬ (4 ≤ s.size ∧ syn s.data.toList = 0) := by simpa [opens] using h
 clear h
 by_cases h4 : 4 ≤ s.size
 ·have h0 : ¬ syn s.data.toList = 0 := fun h => h' ⟨h4, h⟩
  clear h'
  obtain ⟨n, hn⟩ : ∃ n, syn s.data.toList = n := ⟨_, rfl⟩
  have hne : ((n : Int) != 0) = true := by rw [← hn]; simp; omega
  have HN := Lib.hid hn
  clear hn h0
  go_enter Tryz.func152, Tryz.ntmps152
  go_wp2_with (go_at_call 174; refine (syn_at s n h4 hs HN.out _).mono ?_; rintro e _ ⟨rfl, rfl⟩)
  go_ret2
  exact ⟨rfl, rfl⟩
 ·clear h'
  go_enter Tryz.func152, Tryz.ntmps152
  go_wp2_with fail
  go_ret2
  exact ⟨rfl, rfl⟩
def sealL (l : List UInt8) : List UInt8 := l ++ le4 (sum l)
theorem sealL_length (l : List UInt8) : (sealL l).length = l.length + 4 := by simp [sealL, le4]
end Go.Proofs.YtlmjefjimoghcaaGreat.K
