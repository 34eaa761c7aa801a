import Derived.Test.YtkogechopdfleaaWf
namespace Go.Proofs.Ytkogechopdfleaa
open Go.RowKit

theorem size_list (b : ByteArray) (l : List UInt8) (h : b.data.toList = l) : b.size = l.length := by
  rw [← h]; rfl
theorem get_list (b : ByteArray) (l : List UInt8) (h : b.data.toList = l) (i : Nat) (hi : i < b.size) : b[i] = l.getD i 0 := by
  subst h
  have hi' : i < b.data.toList.length := hi
  rw [List.getD_eq_getElem?_getD, List.getElem?_eq_getElem hi']
  rfl
theorem bnd_le8 (k : Nat) (hk : k ≤ 8) : bnd k ≤ 72624976668147840 := by
  rcases Nat.lt_or_ge k 8 with h | h
  · exact Nat.le_of_lt (bnd_lt h (by omega))
  · rw [show k = 8 by omega]; decide
theorem u64_id (x : Int) (h0 : 0 ≤ x) (h1 : x < 18446744073709551616) : IntKind.u64.wrap x = x := by
  simp [IntKind.wrap, IntKind.bits, IntKind.signed]; omega
theorem or_byte (p : Nat) (x : UInt8) (hp : p < 2 ^ 56) : bits BinOp.or IntKind.u64 ((p : Int) * 256) (x.toNat : Int) = ((p * 256 + x.toNat : Nat) : Int) := by
  have hx := x.toNat_lt
  rw [show ((p : Int) * 256) = ((p * 256 : Nat) : Int) by simp, u64_or_nat _ _ (by omega) (by omega)]
  have := Nat.two_pow_add_eq_or_of_lt (i := 8) (b := x.toNat) (by omega) p
  rw [show p * 256 = 2 ^ 8 * p by omega, this]
def peekE : Option (Nat × Nat) → Ending
  | none => .returned (.tuple #[.int .i64 0, .int .i64 0, .bool false])
  | some (n, m) => .returned (.tuple #[.int .i64 n, .int .i64 m, .bool true])
set_option maxRecDepth 10000 in
set_option maxHeartbeats 400000 in
theorem peek_walk (B b er) (l : List UInt8) (hl : b.data.toList = l) (r : Option (Nat × Nat)) (hr : peekF l = r) (w : World) (h : IsR w B b er) : Calls Try.prog 37 #[.pointer (some ⟨B, 0, none⟩)] w fun e w' => e = peekE r ∧ w = w' := by
  have hc := h.cell0
  have HL := Lib.hid hl
  have HP := Lib.hid hr
  clear h hl hr
  by_cases h0 : b = ⟨#[]⟩
  · subst h0
    have H0 : r = none := by rw [← HP.out, ← HL.out]; rfl
    have H0 := Lib.hid H0
    go_enter Try.func37, Try.ntmps37
    go_wp2_with fail
    go_ret3
    exact ⟨rfl, rfl⟩
  · have hs := size_list b l HL.out
    have hpos : 0 < b.size := by
      rcases Nat.eq_zero_or_pos b.size with h | h
      · exfalso; apply h0; apply ByteArray.ext; exact Array.eq_empty_of_size_eq_zero h
      · exact h
    have hb0 : b.toList.isEmpty = false := by
      rw [ByteArray.toList_eq, HL.out]
      cases l with
      | nil => exact absurd hpos (by rw [hs]; simp)
      | cons => rfl
    have hg := get_list b l HL.out 0 hpos
    obtain ⟨c, hcq⟩ : ∃ c, (l.getD 0 0) = c := ⟨_, rfl⟩
    rw [hcq] at hg
    have hkl : kL l = lead c.toNat := by rw [← hcq]; rfl
    obtain ⟨k, hk⟩ : ∃ k, kL l = k := ⟨_, rfl⟩
    have hk8 : k ≤ 8 := by rw [← hk]; exact lead_le _
    have hkc : lead c.toNat = k := by rw [← hkl, hk]
    have HS := Lib.hid hs
    have HC := Lib.hid hcq
    have HK := Lib.hid hk
    have HKC := Lib.hid hkc
    have hclt := c.toNat_lt
    clear hs hcq hk hkc hkl
    go_enter Try.func37, Try.ntmps37
    go_wp2_with fail
    try rw [hg]
    obtain ⟨cn, hcn⟩ : ∃ cn, c.toNat = cn := ⟨_, rfl⟩
    rw [hcn] at hclt ⊢
    have HCN := Lib.hid hcn
    clear hcn hg
    go_loop [6] (fun i => ∃ j : Nat, j ≤ k ∧ i = .int .i64 j) (fun i => 8 - (intOf i).toNat)
    case atStart => exact ⟨0, by omega, rfl⟩
    case round =>
      obtain ⟨j, hj, rfl⟩ := hrel
      by_cases hlt : j < k
      · have hj8 : (j : Int) < 8 := by omega
        have hne : ¬ bits BinOp.and IntKind.u8 (cn : Int) (128 / 2 ^ j) = 0 := by
          have := (fin_and ⟨cn, hclt⟩ ⟨j, by omega⟩).1 (by simp only; rw [← HCN.out, HKC.out]; exact hlt)
          simp only at this
          rw [show ((128 : Int) / 2 ^ j) = ((128 / 2 ^ j : Nat) : Int) by simp, u8_and_nat _ _ hclt (Nat.lt_of_le_of_lt (Nat.div_le_self _ _) (by decide))]
          omega
        go_wp2_with fail
        go_round
        case rel => exact ⟨j + 1, by omega, by go_num⟩
        case measure => simp [intOf]; omega
      · obtain rfl : j = k := by omega
        by_cases hlen : b.size < j + 1
        · have hlen' : (b.size : Int) < (j : Int) + 1 := by omega
          have HN : r = none := by rw [← HP.out]; unfold peekF; rw [HK.out, if_pos (by rw [← HS.out]; exact hlen)]
          by_cases h8 : (j : Int) < 8
          · have heq : bits BinOp.and IntKind.u8 (cn : Int) (128 / 2 ^ j) = 0 := by
              have := (fin_and ⟨cn, hclt⟩ ⟨j, by omega⟩).2 (by simp only; rw [← HCN.out, HKC.out]) (by simp only; omega)
              simp only at this
              rw [show ((128 : Int) / 2 ^ j) = ((128 / 2 ^ j : Nat) : Int) by simp, u8_and_nat _ _ hclt (Nat.lt_of_le_of_lt (Nat.div_le_self _ _) (by decide)), this]
              rfl
            have HN := Lib.hid HN
            go_wp2_with fail
            go_ret3
            try rw [HN.out]
            exact ⟨rfl, rfl⟩
          · have HN := Lib.hid HN
            go_wp2_with fail
            go_ret3
            try rw [HN.out]
            exact ⟨rfl, rfl⟩
        · have hlen' : ¬ (b.size : Int) < (j : Int) + 1 := by omega
          obtain ⟨p0, hp0⟩ : ∃ p0, pv l 0 = p0 := ⟨_, rfl⟩
          have hlow : bits BinOp.and IntKind.u8 (cn : Int) (127 / 2 ^ j) = (p0 : Int) := by
            have := fin_mask ⟨cn, hclt⟩
            simp only at this
            rw [← HCN.out, HKC.out, HCN.out] at this
            rw [show ((127 : Int) / 2 ^ j) = ((127 / 2 ^ j : Nat) : Int) by simp, u8_and_nat _ _ hclt (Nat.lt_of_le_of_lt (Nat.div_le_self _ _) (by decide)), this, ← hp0, pv, HC.out, HCN.out]
          have hp256 : p0 < 256 := by
            rw [← hp0, pv]
            have := low_lt (l.getD 0 0)
            exact Nat.lt_of_lt_of_le this (Nat.le_trans (Nat.pow_le_pow_right (by decide) (Nat.sub_le _ _)) (by decide))
          have HP0 := Lib.hid hp0
          clear hp0
          have hstop : ((j : Int) < 8 ∧ bits BinOp.and IntKind.u8 (cn : Int) (128 / 2 ^ j) = 0) ∨ ¬ (j : Int) < 8 := by
            by_cases h8 : (j : Int) < 8
            · refine .inl ⟨h8, ?_⟩
              have := (fin_and ⟨cn, hclt⟩ ⟨j, by omega⟩).2 (by simp only; rw [← HCN.out, HKC.out]) (by simp only; omega)
              simp only at this
              rw [show ((128 : Int) / 2 ^ j) = ((128 / 2 ^ j : Nat) : Int) by simp, u8_and_nat _ _ hclt (Nat.lt_of_le_of_lt (Nat.div_le_self _ _) (by decide)), this]
              rfl
            · exact .inr h8
          rcases hstop with ⟨h8, heq⟩ | h8
          all_goals
            go_wp2_with fail
            try clear heq
            clear hlow h8
            go_loop [7, 8] (fun n i => ∃ m : Nat, 1 ≤ m ∧ m ≤ j + 1 ∧ i = .int .i64 m ∧ n = .int .u64 (pv l (m - 1) : Nat)) (fun _ i => 9 - (intOf i).toNat)
            case atStart => exact ⟨1, by omega, by omega, rfl, val_int (by rw [← HP0.out])⟩
            case round =>
              obtain ⟨m, hm1, hm2, rfl, rfl⟩ := hrel
              by_cases hlt : m ≤ j
              · have hp56 := pv_lt56 l (m - 1) (by rw [HK.out]; omega)
                have hmb : m < b.size := by omega
                have hgm := get_list b l HL.out m hmb
                obtain ⟨x, hx⟩ : ∃ x, l.getD m 0 = x := ⟨_, rfl⟩
                obtain ⟨p, hp⟩ : ∃ p, pv l (m - 1) = p := ⟨_, rfl⟩
                have hxl := x.toNat_lt
                rw [hx] at hgm
                rw [hp] at hp56 ⊢
                have HX := Lib.hid hx
                have HPP := Lib.hid hp
                have hmj : (m : Int) ≤ j := by omega
                clear hx hp
                go_wp2_with fail
                go_round
                case rel => exact ⟨m + 1, by omega, by omega, by go_num, val_int (by rw [or_byte p x hp56, ← HPP.out, ← HX.out]; show _ = ((pv l m : Nat) : Int); obtain ⟨m, rfl⟩ : ∃ m', m = m' + 1 := ⟨m - 1, by omega⟩; rw [Nat.add_sub_cancel]; simp [pv])⟩
                case measure => simp [intOf]; omega
              · obtain rfl : m = j + 1 := by omega
                have hmj : ¬ ((j + 1 : Nat) : Int) ≤ j := by omega
                have hplt := pv_lt64 l j (by rw [HK.out]; exact Nat.le_refl _)
                rw [Nat.add_sub_cancel]
                obtain ⟨p, hp⟩ : ∃ p, pv l j = p := ⟨_, rfl⟩
                rw [hp] at hplt ⊢
                have HPP := Lib.hid hp
                clear hp
                have hb8 := bnd_le8 j hk8
                have hbw : IntKind.u64.wrap (bnd j : Int) = (bnd j : Int) := u64_id _ (by omega) (by omega)
                have hsw : IntKind.u64.wrap ((9223372036854775807 : Int) - (bnd j : Int)) = (9223372036854775807 : Int) - (bnd j : Int) := u64_id _ (by omega) (by omega)
                by_cases hgt : (9223372036854775807 : Int) - (bnd j : Int) < (p : Int)
                · have HN : r = none := by
                    rw [← HP.out]; unfold peekF; rw [HK.out, if_neg (by rw [← HS.out]; omega), HPP.out, if_pos (by omega)]
                  have HN := Lib.hid HN
                  go_wp2_with fail
                  refine (bound_walk j hk8 _).mono ?_; rintro e _ ⟨rfl, rfl⟩
                  go_wp2_with fail
                  go_ret3
                  first | exact ⟨rfl, rfl⟩ | (rw [HN.out]; exact ⟨rfl, rfl⟩)
                · have HN : r = some (p + bnd j, j + 1) := by
                    rw [← HP.out]; unfold peekF; rw [HK.out, if_neg (by rw [← HS.out]; omega), HPP.out, if_neg (by omega)]
                  have HN := Lib.hid HN
                  have hpw : IntKind.u64.wrap ((p : Int) + (bnd j : Int)) = (p : Int) + (bnd j : Int) := u64_id _ (by omega) (by omega)
                  have hp64 : wrap64 ((p : Int) + (bnd j : Int)) = (p : Int) + (bnd j : Int) := by unfold wrap64; omega
                  go_wp2_with fail
                  refine (bound_walk j hk8 _).mono ?_; rintro e _ ⟨rfl, rfl⟩
                  go_wp2_with fail
                  go_ret3
                  first | exact ⟨rfl, rfl⟩ | (rw [HN.out]; exact ⟨rfl, rfl⟩)
end Go.Proofs.Ytkogechopdfleaa
