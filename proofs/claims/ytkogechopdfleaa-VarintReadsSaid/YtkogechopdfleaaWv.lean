import Derived.Test.YtkogechopdfleaaWu
namespace Go.Proofs.Ytkogechopdfleaa
open Go.RowKit
attribute [local go_sem ↓] Go.wp_at_zero Go.wp_at_succ

theorem below_drewN {B : Nat} {a w : World} (h : Below B a w) (n : Nat) : Below B a (w.drewN n) := ⟨h.os, h.tape, h.output, h.size, h.block⟩
theorem bit_form (cn j : Nat) : ((cn : Int) / 2 ^ (7 - j)).tmod 2 = ((cn / 2 ^ (7 - j) % 2 : Nat) : Int) := by
  have h : ((cn : Int) / 2 ^ (7 - j)) = ((cn / 2 ^ (7 - j) : Nat) : Int) := by simp
  rw [h]
  generalize cn / 2 ^ (7 - j) = x
  rw [Int.tmod_eq_emod_of_nonneg (by omega)]; omega
theorem first_sub (c k : Nat) (hc : c < 256) (hk : lead c = k) : wrap64 ((c : Int) - wrap64 (256 - wrap64 (2 ^ (8 - k)))) = ((low c : Nat) : Int) := by
  have h := (fin_low ⟨c, hc⟩).2
  simp only at h
  rw [hk] at h
  have hk8 : k ≤ 8 := by rw [← hk]; exact lead_le _
  rcases (by omega : k = 0 ∨ k = 1 ∨ k = 2 ∨ k = 3 ∨ k = 4 ∨ k = 5 ∨ k = 6 ∨ k = 7 ∨ k = 8) with rfl | rfl | rfl | rfl | rfl | rfl | rfl | rfl | rfl <;> simp [wrap64] at h ⊢ <;> omega
theorem pv_big (l : List UInt8) (i k : Nat) (h : i < k) (hp : 36028797018963967 < pv l i) : 9223372036854775808 ≤ pv l k := by
  have h1 := pv_div l k i (by omega)
  have h2 : pv l i * 2 ^ (8 * (k - i)) ≤ pv l k := by rw [← h1]; exact Nat.div_mul_le_self _ _
  have h3 : 2 ^ 8 ≤ 2 ^ (8 * (k - i)) := Nat.pow_le_pow_right (by decide) (by omega)
  have h4 : pv l i * 2 ^ 8 ≤ pv l i * 2 ^ (8 * (k - i)) := Nat.mul_le_mul_left _ h3
  omega
def peekP : Option (Nat × Nat) → Int × Int
  | none => (0, 0)
  | some (n, m) => (n, m)
set_option maxRecDepth 100000 in
set_option maxHeartbeats 1000000 in
theorem rread_walk (b : ByteArray) (l : List UInt8) (hl : b.data.toList = l) (hsz : b.size ≤ 400) (r : Option (Nat × Nat)) (hr : peekF l = r) (w : World) : Calls Try.prog 38 #[.string b] w fun e w' => e = .returned (.tuple #[.int .i64 (peekP r).1, .int .i64 (peekP r).2]) ∧ Below w.heap.size w w' := by
  have HL := Lib.hid hl
  have HP := Lib.hid hr
  clear hl hr
  by_cases h0 : b = ⟨#[]⟩
  · subst h0
    have H0 : r = none := by rw [← HP.out, ← HL.out]; rfl
    subst H0
    go_enter Try.func38, Try.ntmps38
    go_wp2_with fail
    go_ret2
    exact ⟨rfl, Below.refl _ _⟩
  · have hs := size_list b l HL.out
    have hpos : 0 < b.size := by
      rcases Nat.eq_zero_or_pos b.size with h | h
      · exfalso; apply h0; apply ByteArray.ext; exact Array.eq_empty_of_size_eq_zero h
      · exact h
    have hb0 : b.toList.isEmpty = false := by
      rw [ByteArray.toList_eq, HL.out]
      cases l with
      | nil => exact absurd hpos (by rw [hs]; simp)
      | cons => rfl
    have hg := get_list b l HL.out 0 hpos
    obtain ⟨c, hcq⟩ : ∃ c, (l.getD 0 0) = c := ⟨_, rfl⟩
    rw [hcq] at hg
    have hkl : kL l = lead c.toNat := by rw [← hcq]; rfl
    obtain ⟨k, hk⟩ : ∃ k, kL l = k := ⟨_, rfl⟩
    have hk8 : k ≤ 8 := by rw [← hk]; exact lead_le _
    have hkc : lead c.toNat = k := by rw [← hkl, hk]
    have HS := Lib.hid hs
    have HC := Lib.hid hcq
    have HK := Lib.hid hk
    have HKC := Lib.hid hkc
    have hclt := c.toNat_lt
    have hp0 : ¬ b.size = 0 := by omega
    have hpi : ((b.size : Int) == 0) = false := by simp only [beq_eq_false_iff_ne, ne_eq]; omega
    clear hs hcq hk hkc hkl
    go_enter Try.func38, Try.ntmps38
    go_wp2_with fail
    go_loop [4] (fun i => ∃ j : Nat, j ≤ k ∧ i = .int .i64 j) (fun i => 8 - (intOf i).toNat)
    case atStart => exact ⟨0, by omega, rfl⟩
    case round =>
      obtain ⟨j, hj, rfl⟩ := hrel
      by_cases hlt : j < k
      · have hj8 : (j : Int) < 8 := by omega
        have hbit : (((c.toNat : Int) / 2 ^ (7 - j)).tmod 2 == 1) = true := by
          rw [bit_form, (fin_bit ⟨c.toNat, hclt⟩ ⟨j, by omega⟩).1 (by simp only; rw [HKC.out]; exact hlt)]; rfl
        go_wp2_with fail
        go_round
        case rel => exact ⟨j + 1, by omega, by go_num⟩
        case measure => simp [intOf]; omega
      · obtain rfl : k = j := by omega
        have hex : ¬ (k : Int) < 8 ∨ ((k : Int) < 8 ∧ (((c.toNat : Int) / 2 ^ (7 - k)).tmod 2 == 1) = false) := by
          by_cases h8 : k < 8
          · right
            refine ⟨by omega, ?_⟩
            rw [bit_form, (fin_bit ⟨c.toNat, hclt⟩ ⟨k, by omega⟩).2 (by simp only; rw [HKC.out]) h8]; rfl
          · left; omega
        by_cases hlen : b.size < k + 1
        · have hlen' : (b.size : Int) < (k : Int) + 1 := by omega
          have HN : r = none := by rw [← HP.out]; unfold peekF; rw [HK.out, if_pos (by rw [← HS.out]; exact hlen)]
          subst HN
          rcases hex with h8 | ⟨h8, hbit⟩
          all_goals
            go_wp2_with fail
            go_ret2
            exact ⟨rfl, Below.refl _ _⟩
        · have hlen' : ¬ (b.size : Int) < (k : Int) + 1 := by omega
          rcases hex with h8 | ⟨h8, hbit⟩
          all_goals
            go_wp2_with fail
            go_quiet (fail)
            go_wp2_with fail
            rw [first_sub c.toNat k hclt HKC.out]
            go_loop [5, 6] (fun n i => ∃ m : Nat, 1 ≤ m ∧ m ≤ k + 1 ∧ i = .int .i64 m ∧ n = .int .i64 ((pv l (m - 1) : Nat) : Int)) (fun _ i => 9 - (intOf i).toNat)
            case atStart => exact ⟨1, by omega, by omega, rfl, val_int (by show ((low c.toNat : Nat) : Int) = ((pv l 0 : Nat) : Int); rw [pv, HC.out])⟩
            case round =>
              obtain ⟨m, hm1, hm2, rfl, rfl⟩ := hrel
              obtain ⟨p, hp⟩ : ∃ p, pv l (m - 1) = p := ⟨_, rfl⟩
              have HPP := Lib.hid hp
              rw [hp]
              by_cases hlt : m ≤ k
              · have hmk : (m : Int) ≤ k := by omega
                by_cases hbig : 36028797018963967 < p
                · have HN : r = none := by
                    rw [← HP.out]; unfold peekF
                    have := pv_big l (m - 1) k (by omega) (by rw [hp]; exact hbig)
                    rw [HK.out, if_neg (by rw [← HS.out]; omega), if_pos (by omega)]
                  subst HN
                  have hbig' : (36028797018963967 : Int) < p := by omega
                  clear hp hbig
                  go_wp2_with fail
                  go_ret2
                  exact ⟨rfl, below_drewN (Below.refl _ _) _⟩
                · have hbig' : ¬ (36028797018963967 : Int) < p := by omega
                  have hmb : m < b.size := by omega
                  have hgm := get_list b l HL.out m hmb
                  obtain ⟨x, hx⟩ : ∃ x, l.getD m 0 = x := ⟨_, rfl⟩
                  have hxl := x.toNat_lt
                  rw [hx] at hgm
                  have HX := Lib.hid hx
                  clear hx hp
                  go_wp2_with fail
                  go_round
                  case rel => exact ⟨m + 1, by omega, by omega, by go_num, val_int (by
                    show _ = ((pv l m : Nat) : Int)
                    obtain ⟨m, rfl⟩ : ∃ m', m = m' + 1 := ⟨m - 1, by omega⟩
                    rw [pv, HX.out, show pv l m = p from HPP.out]; omega)⟩
                  case measure => simp [intOf]; omega
              · obtain rfl : k + 1 = m := by omega
                have hmk : ¬ ((k + 1 : Nat) : Int) ≤ k := by omega
                have hplt := pv_lt64 l k (by rw [HK.out]; exact Nat.le_refl _)
                rw [Nat.add_sub_cancel] at hp
                rw [hp] at hplt
                have HPK := Lib.hid hp
                have hb8 := bnd_le8 k hk8
                clear hp
                by_cases hgt : (9223372036854775807 : Int) - (bnd k : Int) < (p : Int)
                · have HN : r = none := by
                    rw [← HP.out]; unfold peekF; rw [HK.out, if_neg (by rw [← HS.out]; omega), HPK.out, if_pos (by omega)]
                  subst HN
                  go_wp2_with fail
                  refine (from_walk k hk8 _).mono ?_; rintro e _ ⟨rfl, rfl⟩
                  go_wp2_with fail
                  go_ret2
                  exact ⟨rfl, below_drewN (Below.refl _ _) _⟩
                · have HN : r = some (p + bnd k, k + 1) := by
                    rw [← HP.out]; unfold peekF; rw [HK.out, if_neg (by rw [← HS.out]; omega), HPK.out, if_neg (by omega)]
                  subst HN
                  go_wp2_with fail
                  refine (from_walk k hk8 _).mono ?_; rintro e _ ⟨rfl, rfl⟩
                  go_wp2_with fail
                  refine (from_walk k hk8 _).mono ?_; rintro e _ ⟨rfl, rfl⟩
                  go_wp2_with fail
                  go_ret2
                  exact ⟨rfl, below_drewN (Below.refl _ _) _⟩
end Go.Proofs.Ytkogechopdfleaa
