import Derived.Test.YtonkamdipalbpaaRows
import Derived.Test.YtonkamdipalbpaaPa
import Derived.WalkKit
import Derived.ProofKit
import Derived.LoopTactic
import Derived.Lib.Hide
import Derived.Outline
import Derived.OpenShut
import Derived.WalkLawsBesides
import Derived.Laws.IdiomStrings
import Derived.Deep.QuietTactic
import Derived.BigQuiet
import Derived.Deep.RegionHeld3
import Derived.Deep.DrawnRows
import Derived.IntWalk
namespace Go.Proofs.Ytonkamdipalbpaa
open Go.RowKit

theorem ret_int {k : IntKind} {a b : Int} (h : a = b) : Ending.returned (.int k a) = .returned (.int k b) := by rw [h]
theorem val_int {k : IntKind} {a b : Int} (h : a = b) : Value.int k a = .int k b := by rw [h]
theorem u32_step (x : Nat) (hx : x < 2 ^ 32) : bits .xor .u32 ((x : Int) / 2) (bits .and .u32 (-bits .and .u32 (x : Int) 1 % 4294967296) 3988292384) = (sh1 x : Int) := by
  have e1 : bits .and .u32 (x : Int) 1 = ((x % 2 : Nat) : Int) := by
    rw [show (1 : Int) = ((1 : Nat) : Int) from rfl, u32_and_nat x 1 (by omega) (by omega), Nat.and_one_is_mod]
  have e2 : (x : Int) / 2 = ((x / 2 : Nat) : Int) := by omega
  rw [e1, e2]
  unfold sh1 P
  rw [Nat.shiftRight_eq_div_pow]
  rcases Nat.mod_two_eq_zero_or_one x with h | h
  · rw [h, show (-((0 : Nat) : Int) % 4294967296) = ((0 : Nat) : Int) from by decide, show (3988292384 : Int) = ((3988292384 : Nat) : Int) from rfl, u32_and_nat 0 _ (by omega) (by omega), u32_xor_nat _ _ (by omega) (by simp)]
    simp
  · rw [h, show (-((1 : Nat) : Int) % 4294967296) = ((4294967295 : Nat) : Int) from by decide, show (3988292384 : Int) = ((3988292384 : Nat) : Int) from rfl, u32_and_nat _ _ (by omega) (by omega),
      show 4294967295 &&& 3988292384 = 3988292384 from by decide, u32_xor_nat _ _ (by omega) (by omega)]

theorem shift_walk (r : Nat) (hr : r < 2 ^ 32) (w : World) : Calls Try.prog 34 #[.int .u32 r] w fun e w' => e = .returned (.int .u32 (sh 8 r)) ∧ w = w' := by
  go_enter Try.func34, Try.ntmps34
  go_wp2
  go_loop [0, 3] (fun x i => ∃ k : Nat, k ≤ 8 ∧ i = .int .i64 k ∧ x = .int .u32 (sh k r)) (fun _ i => 8 - (intOf i).toNat)
  case atStart => exact ⟨0, by omega, rfl, rfl⟩
  case round =>
    obtain ⟨k, hk, rfl, rfl⟩ := hrel
    by_cases hlt : k < 8
    · go_wp2
      go_round
      case rel => exact ⟨k + 1, by omega, by go_num, val_int (by rw [u32_step _ (sh_lt k hr), sh_succ'])⟩
      case measure => simp [intOf]; omega
    · obtain rfl : k = 8 := by omega
      go_wp2
      go_ret
      exact ⟨rfl, rfl⟩

theorem xor32 (x : Nat) (hx : x < 2 ^ 32) : bits .xor .u32 4294967295 (x : Int) = ((ones ^^^ x : Nat) : Int) := by
  rw [show (4294967295 : Int) = ((ones : Nat) : Int) from rfl, u32_xor_nat _ _ (by decide) (by omega)]
theorem xor_byte (x : Nat) (b : UInt8) (hx : x < 2 ^ 32) : bits .xor .u32 (x : Int) ((b.toNat : Int) % 4294967296) = ((x ^^^ b.toNat : Nat) : Int) := by
  have := b.toNat_lt
  rw [show (b.toNat : Int) % 4294967296 = ((b.toNat : Nat) : Int) from by omega, u32_xor_nat _ _ (by omega) (by omega)]
theorem take_snoc (s : ByteArray) (k : Nat) (h : k < s.size) : s.data.toList.take (k + 1) = s.data.toList.take k ++ [s[k]] := by
  rw [List.take_succ_eq_append_getElem (by simpa using h)]; rfl

theorem update_walk (r : Nat) (hr : r < 2 ^ 32) (s : ByteArray) (hs : s.size ≤ maxLen) (w : World) : Calls Try.prog 32 #[.int .u32 r, .string s] w fun e w' => e = .returned (.int .u32 (upd r s.data.toList)) ∧ w = w' := by
  unfold maxLen at hs
  have hsg : IntKind.u32.signed = false := rfl
  have hmx : IntKind.u32.max = 4294967295 := rfl
  have hr' : (r : Int) < 4294967296 := by omega
  go_enter Try.func32, Try.ntmps32
  go_wp2
  go_loop [5, 11] (fun x i => ∃ k : Nat, k ≤ s.size ∧ i = .int .i64 k ∧ x = .int .u32 (run (ones ^^^ r) (s.data.toList.take k))) (fun _ i => s.size - (intOf i).toNat)
  case atStart => exact ⟨0, Nat.zero_le _, rfl, val_int (xor32 r hr)⟩
  case round =>
    obtain ⟨k, hk, rfl, rfl⟩ := hrel
    have hR : run (ones ^^^ r) (s.data.toList.take k) < 2 ^ 32 := run_lt _ (Nat.xor_lt_two_pow ones_lt hr)
    by_cases hlt : k < s.size
    · have HS := Lib.hid (take_snoc s k hlt)
      go_wp2_with fail
      rw [xor_byte _ _ hR]
      refine (shift_walk _ (Nat.xor_lt_two_pow hR (u8_lt _)) _).mono ?_; rintro e _ ⟨rfl, rfl⟩
      go_wp2_with fail
      go_round
      case rel => exact ⟨k + 1, by omega, by go_num, val_int (by rw [HS.out, run_snoc])⟩
      case measure => simp [intOf]; omega
    · go_wp2_with fail
      go_ret
      exact ⟨ret_int (by rw [xor32 _ hR, List.take_of_length_le (by simp; omega)]; rfl), rfl⟩

theorem sum_walk (s : ByteArray) (hs : s.size ≤ maxLen) (w : World) : Calls Try.prog 30 #[.string s] w fun e w' => e = .returned (.int .u32 (sum s.data.toList)) ∧ w = w' := by
  go_enter Try.func30, Try.ntmps30
  go_wp2_with (go_at_call 32; refine (update_walk 0 (by decide) _ hs _).mono ?_; rintro e _ ⟨rfl, rfl⟩)
  go_ret
  exact ⟨rfl, rfl⟩

theorem and_one (x : Nat) (hx : x < 2 ^ 32) : bits .and .u32 (x : Int) 1 = ((x % 2 : Nat) : Int) := by
  rw [show (1 : Int) = ((1 : Nat) : Int) from rfl, u32_and_nat x 1 (by omega) (by omega), Nat.and_one_is_mod]
theorem rshift_odd (x : Nat) (hx : x < 2 ^ 32) (h : x % 2 = 1) : bits .xor .u32 ((x : Int) / 2) 3988292384 = (sh1 x : Int) := by
  unfold sh1 P
  rw [Nat.shiftRight_eq_div_pow, h, show (x : Int) / 2 = ((x / 2 : Nat) : Int) from by omega, show (3988292384 : Int) = ((3988292384 : Nat) : Int) from rfl, u32_xor_nat _ _ (by omega) (by omega)]
theorem rshift_even (x : Nat) (h : x % 2 = 0) : ((x : Int) / 2) = (sh1 x : Int) := by
  unfold sh1 P
  rw [Nat.shiftRight_eq_div_pow, h]; simp
theorem rsum_walk (s : ByteArray) (hs : s.size ≤ maxLen) (w : World) : Calls Try.prog 26 #[.string s] w fun e w' => e = .returned (.int .i64 (sum s.data.toList : Nat)) ∧ w = w' := by
  unfold maxLen at hs
  have hsg : IntKind.u32.signed = false := rfl
  have hmx : IntKind.u32.max = 4294967295 := rfl
  go_enter Try.func26, Try.ntmps26
  go_wp2_with fail
  go_loop [3, 4] (fun x i => ∃ k : Nat, k ≤ s.size ∧ i = .int .i64 k ∧ x = .int .u32 (run ones (s.data.toList.take k))) (fun _ i => s.size - (intOf i).toNat)
  case atStart => exact ⟨0, Nat.zero_le _, rfl, rfl⟩
  case round =>
    obtain ⟨k, hk, rfl, rfl⟩ := hrel
    have hR : run ones (s.data.toList.take k) < 2 ^ 32 := run_lt _ ones_lt
    by_cases hlt : k < s.size
    · have HS := Lib.hid (take_snoc s k hlt)
      have hX := xor_byte _ s[k] hR
      obtain ⟨r, hr⟩ : ∃ r, run ones (s.data.toList.take k) ^^^ s[k].toNat = r := ⟨_, rfl⟩
      have hx : r < 2 ^ 32 := by rw [← hr]; exact Nat.xor_lt_two_pow hR (u8_lt _)
      have HX := Lib.hid (hX.trans (by rw [hr]))
      have HR := Lib.hid hr
      clear hX hr
      go_wp2_with fail
      rw [HX.out]
      go_loop [3, 5] (fun x i => ∃ m : Nat, m ≤ 8 ∧ i = .int .i64 m ∧ x = .int .u32 (sh m r)) (fun _ i => 8 - (intOf i).toNat)
      case atStart => exact ⟨0, by omega, rfl, rfl⟩
      case round =>
        obtain ⟨m, hm, rfl, rfl⟩ := hrel
        by_cases hlt2 : m < 8
        · have hz := sh_lt m hx
          obtain ⟨z, hzz⟩ : ∃ z, sh m r = z := ⟨_, rfl⟩
          rw [hzz] at hz ⊢
          have HZ : Hid (sh (m + 1) r = sh1 z) := Lib.hid (by rw [sh_succ', hzz])
          have HZL := Lib.hid hz
          clear hzz
          rcases Nat.mod_two_eq_zero_or_one z with h | h
          · have hb : (bits .and .u32 (z : Int) 1 == 1) = false := by rw [and_one z hz, h]; rfl
            have HE := Lib.hid (rshift_even z h)
            clear h hz
            go_wp2_with fail
            go_round
            case rel => exact ⟨m + 1, by omega, by go_num, val_int (by rw [HZ.out]; exact HE.out)⟩
            case measure => simp [intOf]; omega
          · have hb : (bits .and .u32 (z : Int) 1 == 1) = true := by rw [and_one z hz, h]; rfl
            have HE := Lib.hid (rshift_odd z hz h)
            clear h hz
            go_wp2_with fail
            go_round
            case rel => exact ⟨m + 1, by omega, by go_num, val_int (by rw [HZ.out]; exact HE.out)⟩
            case measure => simp [intOf]; omega
        · obtain rfl : m = 8 := by omega
          go_wp2_with fail
          go_round
          case rel => exact ⟨k + 1, by omega, by go_num, val_int (by rw [HS.out, run_snoc, HR.out])⟩
          case measure => simp [intOf]; omega
    · have HT : Hid (s.data.toList.take k = s.data.toList) := Lib.hid (List.take_of_length_le (by simp; omega))
      go_wp2_with fail
      go_ret
      exact ⟨ret_int (by rw [xor32 _ hR, HT.out, sum_eq]; have := sum_lt s.data.toList; rw [sum_eq] at this; unfold wrap64; omega), rfl⟩
end Go.Proofs.Ytonkamdipalbpaa
