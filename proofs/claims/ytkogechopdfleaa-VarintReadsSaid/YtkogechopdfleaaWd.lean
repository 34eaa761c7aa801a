import Derived.Test.YtkogechopdfleaaWc
namespace Go.Proofs.Ytkogechopdfleaa
open Go.RowKit

theorem rsize_walk (n : Nat) (hn : n < 2 ^ 63) (w : World) : Calls Try.prog 18 #[.int .i64 n] w fun e w' => e = .returned (.int .i64 ((kOf n + 1 : Nat) : Int)) ∧ w = w' := by
  have hs := kOf_spec n
  have hl := kOf_le n
  have HS := Lib.hid hs
  clear hs
  go_enter Try.func18, Try.ntmps18
  go_wp2_with fail
  go_loop [3] (fun i => ∃ j : Nat, j ≤ kOf n ∧ i = .int .i64 j) (fun i => 8 - (intOf i).toNat)
  case atStart => exact ⟨0, by omega, rfl⟩
  case round =>
    obtain ⟨j, hj, rfl⟩ := hrel
    by_cases hlt : j < kOf n
    · have hb : decide (bnd (j + 1) ≤ n) = true := by
        apply decide_eq_true
        refine Nat.le_trans ?_ HS.out.1
        rcases Nat.lt_or_ge (j + 1) (kOf n) with h6 | h6
        · exact Nat.le_of_lt (bnd_lt h6 hl)
        · rw [show kOf n = j + 1 by omega]; exact Nat.le_refl _
      have hb' : bnd (j + 1) ≤ n := of_decide_eq_true hb
      have hj8 : (j : Int) < 8 := by omega
      go_wp2_with (go_at_call 30; refine (from_walk (j + 1) (by omega) _).mono ?_; rintro e _ ⟨rfl, rfl⟩)
      go_round
      case rel => exact ⟨j + 1, by omega, by go_num⟩
      case measure => simp [intOf]; omega
    · obtain rfl : j = kOf n := by omega
      by_cases h8 : kOf n = 8
      · have h8' : ((kOf n : Nat) : Int) = 8 := by omega
        have H8 := Lib.hid h8
        clear h8 h8'
        have h9 : ¬ ((kOf n : Nat) : Int) < 8 := by have := H8.out; omega
        go_wp2_with fail
        go_ret
        exact ⟨ret_int (by omega), rfl⟩
      · have hb' : ¬ bnd (kOf n + 1) ≤ n := by have := HS.out.2; omega
        have hj8 : ((kOf n : Nat) : Int) < 8 := by omega
        go_wp2_with (go_at_call 30; refine (from_walk (kOf n + 1) (by omega) _).mono ?_; rintro e _ ⟨rfl, rfl⟩)
        go_ret
        exact ⟨ret_int (by omega), rfl⟩

theorem ret_str {a b : ByteArray} (h : a = b) : Ending.returned (.string a) = .returned (.string b) := by rw [h]
theorem rsize_at (n k : Nat) (hn : n < 2 ^ 63) (hk : kOf n = k) (w : World) : Calls Try.prog 18 #[.int .i64 n] w fun e w' => e = .returned (.int .i64 ((k : Int) + 1)) ∧ w = w' := by
  subst hk; exact rsize_walk n hn w
theorem size_neg (n : Int) (hn : n < 0) (w : World) : Calls Try.prog 17 #[.int .i64 n] w fun e w' => e = .returned (.int .i64 0) ∧ w = w' := by
  go_enter Try.func17, Try.ntmps17
  go_wp2_with fail
  go_ret
  exact ⟨rfl, rfl⟩
theorem rsize_neg (n : Int) (hn : n < 0) (w : World) : Calls Try.prog 18 #[.int .i64 n] w fun e w' => e = .returned (.int .i64 0) ∧ w = w' := by
  go_enter Try.func18, Try.ntmps18
  go_wp2_with fail
  go_ret
  exact ⟨rfl, rfl⟩
theorem rnumber_neg (n : Int) (hn : n < 0) (w : World) : Calls Try.prog 12 #[.int .i64 n] w fun e w' => e = .returned (.string ⟨#[]⟩) ∧ Below w.heap.size w w' := by
  go_enter Try.func12, Try.ntmps12
  go_wp2_with fail
  go_ret
  exact ⟨rfl, Below.refl _ _⟩
theorem conv1 (w : World) (x : Int) : (convert 49 9 (.slice (some ⟨w.heap.size, 0, none⟩) 1 1)).run Try.prog (w.alloc (.cells #[.int .u8 x] 5)) =
    .ok (.string ⟨#[UInt8.ofNat x.toNat]⟩) (w.alloc (.cells #[.int .u8 x] 5)) := by
  have := run_convert_bytes_arg (P := Try.prog) (w.alloc (.cells #[.int .u8 x] 5)) 49 5 Try.underlying49 Try.underlying5 w.heap.size 0 1 1 [x] rfl (by
    intro i hi
    rw [World.cell?_alloc_mark]
    match i, hi with
    | 0, _ => rfl) 9 Try.underlying9
  exact this
theorem ofNat_mod (q : Nat) : UInt8.ofNat (((q : Int) % 256).toNat) = UInt8.ofNat q := by
  apply UInt8.toNat_inj.1
  rw [UInt8.toNat_ofNat', UInt8.toNat_ofNat']; omega
theorem cons_bytes (x : UInt8) (l : List UInt8) : (⟨#[x]⟩ ++ ⟨l.toArray⟩ : ByteArray) = ⟨(x :: l).toArray⟩ := by
  apply ByteArray.ext
  simp
theorem ofNat_mod2 (q : Nat) : UInt8.ofNat (q % 256) = UInt8.ofNat q := by
  apply UInt8.toNat_inj.1
  rw [UInt8.toNat_ofNat', UInt8.toNat_ofNat']; omega
theorem ones_wrap (j q : Nat) (hj : j ≤ 8) (hq : q < 128) : wrap64 (wrap64 (256 - wrap64 (2 ^ (8 - j))) + (q : Int)) = ((256 - 2 ^ (8 - j) + q : Nat) : Int) := by
  rcases (by omega : j = 0 ∨ j = 1 ∨ j = 2 ∨ j = 3 ∨ j = 4 ∨ j = 5 ∨ j = 6 ∨ j = 7 ∨ j = 8) with rfl | rfl | rfl | rfl | rfl | rfl | rfl | rfl | rfl <;> simp [wrap64] <;> omega
theorem ones_form (k : Nat) (hk : k ≤ 8) : (256 : Int) - 2 ^ (8 - k) = ((256 - 2 ^ (8 - k) : Nat) : Int) := by
  rcases (by omega : k = 0 ∨ k = 1 ∨ k = 2 ∨ k = 3 ∨ k = 4 ∨ k = 5 ∨ k = 6 ∨ k = 7 ∨ k = 8) with rfl | rfl | rfl | rfl | rfl | rfl | rfl | rfl | rfl <;> decide

set_option maxRecDepth 10000 in
set_option maxHeartbeats 400000 in
theorem rnumber_walk (n : Nat) (hn : n < 2 ^ 63) (w : World) : Calls Try.prog 12 #[.int .i64 n] w fun e w' => e = .returned (.string ⟨(num n).toArray⟩) ∧ Below w.heap.size w w' := by
  obtain ⟨k, hk⟩ : ∃ k, kOf n = k := ⟨_, rfl⟩
  have hk8 : k ≤ 8 := by rw [← hk]; exact kOf_le n
  have hge : bnd k ≤ n := by rw [← hk]; exact (kOf_spec n).1
  obtain ⟨r, hr⟩ : ∃ r, n - bnd k = r := ⟨_, rfl⟩
  have hsub : (n : Int) - (bnd k : Int) = r := by omega
  have hrl : r < 2 ^ 63 := by omega
  have HK := Lib.hid hk
  have HR := Lib.hid hr
  have HSUB := Lib.hid hsub
  clear hk hr hsub
  go_enter Try.func12, Try.ntmps12
  go_wp2_with fail
  refine (rsize_at n k hn HK.out _).mono ?_; rintro e _ ⟨rfl, rfl⟩
  go_wp2_with fail
  refine (from_walk k hk8 _).mono ?_; rintro e _ ⟨rfl, rfl⟩
  go_wp2_with fail
  rw [HSUB.out]
  go_loopw [0, 4, 5] (fun x o i wr => ∃ j : Nat, j ≤ k ∧ i = .int .i64 j ∧ x = .int .i64 ((r / 2 ^ (8 * j) : Nat) : Int) ∧ o = .string ⟨(beN r j).toArray⟩ ∧ Below w.heap.size w wr) (fun _ _ i _ => k - (intOf i).toNat)
  case atStart => exact ⟨0, by omega, rfl, val_int (by simp), rfl, Below.refl _ _⟩
  case round =>
    obtain ⟨j, hj, rfl, rfl, rfl, hb⟩ := hrel
    obtain ⟨q, hq⟩ : ∃ q, r / 2 ^ (8 * j) = q := ⟨_, rfl⟩
    obtain ⟨o, ho⟩ : ∃ o : ByteArray, (⟨(beN r j).toArray⟩ : ByteArray) = o := ⟨_, rfl⟩
    have hos : o.size = j := by rw [← ho]; show (beN r j).toArray.size = j; simp [beN_length]
    have hql : q < 2 ^ 63 := by rw [← hq]; exact Nat.lt_of_le_of_lt (Nat.div_le_self _ _) hrl
    have hos8 : o.size ≤ 8 := by omega
    have HB := Lib.hid hb
    have hcv := fun x => conv1 wr x
    rw [hq, ho]
    have HQ := Lib.hid hq
    have HO := Lib.hid ho
    clear hb ho hos
    by_cases hlt : j < k
    · clear hq
      go_wp2_with fail
      go_roundw
      case rel =>
        refine ⟨j + 1, by omega, by go_num, val_int ?_, ?_, HB.out.alloc HB.out.size _⟩
        · rw [← HQ.out, show 8 * (j + 1) = 8 * j + 8 by omega, Nat.pow_add, ← Nat.div_div_eq_div_mul]; simp
        · rw [← HO.out, cons_bytes, beN, HQ.out]; rw [ofNat_mod2]
      case measure => simp [intOf]; omega
    · obtain rfl : j = k := by omega
      have hql2 : q < 2 ^ (7 - j) := by
        have := rest_lt n hn
        rw [HK.out, HR.out] at this
        rw [← HQ.out]; exact this
      have hq128 : q < 128 := Nat.lt_of_lt_of_le hql2 (Nat.le_trans (Nat.pow_le_pow_right (by decide) (Nat.sub_le _ _)) (by decide))
      have HONES := Lib.hid (ones_wrap j q hk8 hq128)
      have hk9 : (j : Int) ≤ 8 := by omega
      clear hq hql2
      go_wp2_with fail
      go_ret
      refine ⟨ret_str ?_, HB.out.alloc HB.out.size _⟩
      rw [HONES.out, ofNat_mod, ← HO.out, cons_bytes]
      unfold num first
      rw [HK.out, HR.out, HQ.out]
end Go.Proofs.Ytkogechopdfleaa
