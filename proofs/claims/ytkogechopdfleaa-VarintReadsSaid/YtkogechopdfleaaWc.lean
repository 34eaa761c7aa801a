import Derived.Test.YtkogechopdfleaaWb
namespace Go.Proofs.Ytkogechopdfleaa
open Go.RowKit

theorem set_front (j r m : Nat) : (List.replicate (j + 1) (0 : UInt8) ++ beN r m).set j (UInt8.ofNat (r / 2 ^ (8 * m))) = List.replicate j 0 ++ beN r (m + 1) := by
  rw [List.replicate_succ', List.append_assoc, List.set_append_right _ _ (by simp)]
  simp [beN]
theorem size_at (n k : Nat) (hn : n < 2 ^ 63) (hk : kOf n = k) (w : World) : Calls Try.prog 17 #[.int .i64 n] w fun e w' => e = .returned (.int .i64 ((k : Int) + 1)) ∧ w = w' := by
  subst hk; exact size_walk n hn w
theorem first_form (k q : Nat) (hk : k ≤ 8) (hq : q < 2 ^ (7 - k)) : bits .or .u8 (65280 / 2 ^ k % 256) ((q : Int) % 256) = ((UInt8.ofNat (256 - 2 ^ (8 - k) + q)).toNat : Int) := by
  have hq128 : q < 128 := Nat.lt_of_lt_of_le hq (Nat.le_trans (Nat.pow_le_pow_right (by decide) (Nat.sub_le _ _)) (by decide))
  obtain ⟨h1, h2⟩ := or_first ⟨k, by omega⟩ ⟨q, hq128⟩ hq
  simp only at h1 h2
  have e1 : ((65280 : Int) / 2 ^ k % 256) = ((65280 / 2 ^ k % 256 : Nat) : Int) := by simp
  have e2 : ((q : Int) % 256) = ((q : Nat) : Int) := by omega
  rw [e1, e2, u8_or_nat _ _ (Nat.mod_lt _ (by decide)) (by omega), h1, UInt8.toNat_ofNat']
  omega
theorem number_neg (n : Int) (hn : n < 0) (w : World) : Calls Try.prog 11 #[.int .i64 n] w fun e w' => e = .returned (.string ⟨#[]⟩) ∧ Below w.heap.size w w' := by
  go_enter Try.func11, Try.ntmps11
  go_wp2_with fail
  go_ret
  exact ⟨rfl, Below.refl _ _⟩
set_option maxRecDepth 10000 in
set_option maxHeartbeats 400000 in
theorem number_walk (n : Nat) (hn : n < 2 ^ 63) (w : World) : Calls Try.prog 11 #[.int .i64 n] w fun e w' => e = .returned (.string ⟨(num n).toArray⟩) ∧ Below w.heap.size w w' := by
  obtain ⟨k, hk⟩ : ∃ k, kOf n = k := ⟨_, rfl⟩
  have hk8 : k ≤ 8 := by rw [← hk]; exact kOf_le n
  have hge : bnd k ≤ n := by rw [← hk]; exact (kOf_spec n).1
  obtain ⟨r, hr⟩ : ∃ r, n - bnd k = r := ⟨_, rfl⟩
  have hsub : (n : Int) - (bnd k : Int) = r := by omega
  have hrl : r < 2 ^ 63 := by omega
  have HK := Lib.hid hk
  have HR := Lib.hid hr
  have HSUB := Lib.hid hsub
  have hmk : ∀ W, (Instr.makeSlice 49 (.int .i64 ((k : Int) + 1)) (.int .i64 ((k : Int) + 1))).run Try.prog W = .ok (.slice (some ⟨W.heap.size, 0, none⟩) (k + 1) (k + 1)) (W.alloc (.cells (zrow (k + 1)) 5)) := fun W => make_bytes (k + 1) (by omega) W
  clear hk hr hsub
  go_enter Try.func11, Try.ntmps11
  go_wp2_with fail
  refine (size_at n k hn HK.out _).mono ?_; rintro e _ ⟨rfl, rfl⟩
  go_wp2_with fail
  refine (bound_walk k hk8 _).mono ?_; rintro e _ ⟨rfl, rfl⟩
  go_wp2_with fail
  rw [HSUB.out]
  go_loopw [4, 6] (fun x i wr => ∃ j : Nat, j ≤ k ∧ i = .int .i64 j ∧ x = .int .i64 ((r / 2 ^ (8 * (k - j)) : Nat) : Int) ∧ Below w.heap.size w wr ∧ BRow wr w.heap.size (List.replicate (j + 1) 0 ++ beN r (k - j))) (fun _ i _ => (intOf i).toNat)
  case atStart => exact ⟨k, Nat.le_refl _, rfl, val_int (by simp), (Below.refl _ _).alloc (Nat.le_refl _) _, by simpa [beN] using BRow.zeros w (k + 1)⟩
  case round =>
    obtain ⟨j, hj, rfl, rfl, hb, hB⟩ := hrel
    obtain ⟨q, hq⟩ : ∃ q, r / 2 ^ (8 * (k - j)) = q := ⟨_, rfl⟩
    have hql : q < 2 ^ 63 := by rw [← hq]; exact Nat.lt_of_le_of_lt (Nat.div_le_self _ _) hrl
    have HB := Lib.hid hb
    have HBR := Lib.hid hB
    rw [hq]
    have HQ := Lib.hid hq
    clear hb hq
    by_cases hlt : 0 < j
    · have hc := hB.cell j (by simp; omega)
      have hf := hB.frozen j (by simp; omega)
      have hj1 : (0 : Int) < j := by omega
      have hjk : (j : Int) ≤ k := by omega
      clear hB
      go_wp2_with fail
      go_roundw
      case rel =>
        refine ⟨j - 1, by omega, val_int (by omega), val_int ?_, HB.out.setCell (Nat.le_refl _) _, ?_⟩
        · rw [← HQ.out, show 8 * (k - (j - 1)) = 8 * (k - j) + 8 by omega, Nat.pow_add, ← Nat.div_div_eq_div_mul]; simp
        · have h2 := HBR.out.set_ j (by simp; omega) (UInt8.ofNat (r / 2 ^ (8 * (k - j)))) ((q : Int) % 256) (by rw [HQ.out, UInt8.toNat_ofNat']; omega)
          rw [set_front, show k - j + 1 = k - (j - 1) by omega] at h2
          rw [show j - 1 + 1 = j by omega]
          exact h2
      case measure => simp [intOf]; omega
    · obtain rfl : j = 0 := by omega
      have hc := hB.cell 0 (by simp)
      have hf := hB.frozen 0 (by simp)
      have hk8' : (k : Int) ≤ 8 := by omega
      have hql2 : q < 2 ^ (7 - k) := by
        have := rest_lt n hn
        rw [HK.out, HR.out] at this
        rw [← HQ.out, Nat.sub_zero]; exact this
      have hX := first_form k q (by omega) hql2
      have hB2 := hB.set_ 0 (by simp) (UInt8.ofNat (256 - 2 ^ (8 - k) + q)) _ hX
      have hl : (List.replicate (0 + 1) (0 : UInt8) ++ beN r (k - 0)).set 0 (UInt8.ofNat (256 - 2 ^ (8 - k) + q)) = num n := by
        unfold num first
        rw [HK.out, HR.out, ← HQ.out]; simp
      rw [hl] at hB2
      have hconv := hB2.str (k + 1) (k + 1) (by rw [num_length, HK.out])
      have HB2 := Lib.hid (HB.out.setCell (p := ⟨w.heap.size, 0, none⟩) (Nat.le_refl _) (.int .u8 (bits .or .u8 (65280 / 2 ^ k % 256) ((q : Int) % 256))))
      clear hB hB2 hl hX hql2
      go_wp2
      go_ret
      exact ⟨rfl, HB2.out⟩
end Go.Proofs.Ytkogechopdfleaa
