import Derived.Test.YtkogechopdfleaaWm
import Derived.WalkLawsBesides
namespace Go.Proofs.Ytkogechopdfleaa
open Go.RowKit

theorem ofNat_lt {x y : Nat} (h : x % 256 < y % 256) : UInt8.ofNat x < UInt8.ofNat y := by
  rw [UInt8.lt_iff_toNat_lt, UInt8.toNat_ofNat', UInt8.toNat_ofNat']; exact h
theorem less_be (r s : Nat) : ∀ m, r / 2 ^ (8 * m) = s / 2 ^ (8 * m) → r < s → Op.bytesLess (beN r m) (beN s m) = true
  | 0, h, h2 => by simp at h; omega
  | m + 1, h, h2 => by
    rw [show 8 * (m + 1) = 8 * m + 8 by omega, Nat.pow_add, ← Nat.div_div_eq_div_mul, ← Nat.div_div_eq_div_mul] at h
    have hle : r / 2 ^ (8 * m) ≤ s / 2 ^ (8 * m) := Nat.div_le_div_right (Nat.le_of_lt h2)
    simp only [beN, Op.bytesLess, Bool.or_eq_true, Bool.and_eq_true, decide_eq_true_eq, beq_iff_eq]
    by_cases e : r / 2 ^ (8 * m) = s / 2 ^ (8 * m)
    · exact .inr ⟨by rw [e], less_be r s m e h2⟩
    · exact .inl (ofNat_lt (by omega))
theorem kOf_mono {a b : Nat} (h : a < b) : kOf a ≤ kOf b := by
  have ⟨h1, h2⟩ := kOf_spec a
  have ⟨h3, h4⟩ := kOf_spec b
  have h5 := kOf_le a
  rcases Nat.lt_or_ge (kOf b) (kOf a) with h6 | h6
  · exfalso
    rcases h4 with h4 | h4
    · omega
    · have : bnd (kOf b + 1) ≤ bnd (kOf a) := by
        rcases Nat.lt_or_ge (kOf b + 1) (kOf a) with h7 | h7
        · exact Nat.le_of_lt (bnd_lt h7 h5)
        · rw [show kOf a = kOf b + 1 by omega]; exact Nat.le_refl _
      omega
  · exact h6
theorem less_num (a b : Nat) (h : a < b) (hb : b < 2 ^ 63) : Op.bytesLess (num a) (num b) = true := by
  have hm := kOf_mono h
  have ha8 := kOf_le a
  have hb8 := kOf_le b
  have hqa := rest_lt a (by omega)
  have hqb := rest_lt b hb
  have hga := (kOf_spec a).1
  have hgb := (kOf_spec b).1
  have fa := first_toNat _ _ ha8 hqa
  have fb := first_toNat _ _ hb8 hqb
  simp only [num, first, Op.bytesLess, Bool.or_eq_true, Bool.and_eq_true, decide_eq_true_eq, beq_iff_eq]
  by_cases e : kOf a = kOf b
  · rw [e] at fa hqa hga ⊢
    have hle : (a - bnd (kOf b)) / 2 ^ (8 * kOf b) ≤ (b - bnd (kOf b)) / 2 ^ (8 * kOf b) := Nat.div_le_div_right (by omega)
    by_cases e2 : (a - bnd (kOf b)) / 2 ^ (8 * kOf b) = (b - bnd (kOf b)) / 2 ^ (8 * kOf b)
    · exact .inr ⟨by rw [e2], less_be _ _ _ e2 (by omega)⟩
    · left
      rw [UInt8.lt_iff_toNat_lt, fa, fb]; omega
  · left
    rw [UInt8.lt_iff_toNat_lt, fa, fb]
    have h1 : kOf a + 1 ≤ kOf b := by omega
    generalize (a - bnd (kOf a)) / 2 ^ (8 * kOf a) = qa at *
    generalize (b - bnd (kOf b)) / 2 ^ (8 * kOf b) = qb at *
    clear fa fb hga hgb hm
    generalize kOf a = i at *
    generalize kOf b = j at *
    have p1 : 2 ^ (8 - j) ≤ 2 ^ (7 - i) := Nat.pow_le_pow_right (by decide) (by omega)
    have p2 : 2 ^ (8 - i) = 2 * 2 ^ (7 - i) := by rw [show 8 - i = (7 - i) + 1 by omega, Nat.pow_succ]; omega
    have p3 : 2 ^ (8 - i) ≤ 256 := Nat.le_trans (Nat.pow_le_pow_right (by decide) (Nat.sub_le 8 i)) (by decide)
    omega
theorem num_nofront (a b : Nat) (h : a < b) (hb : b < 2 ^ 63) : (num b).take (num a).length ≠ num a := by
  intro e
  have h1 := peek_num b hb []
  have h2 := peek_num a (by omega) ((num b).drop (num a).length)
  rw [List.append_nil] at h1
  have h3 := List.take_append_drop (num a).length (num b)
  rw [e] at h3
  rw [h3, h1] at h2
  simp at h2
  omega
theorem num_inj_ne {a b : Nat} (h : a < b) (hb : b < 2 ^ 63) : num a ≠ num b := by
  intro e
  apply num_nofront a b h hb
  rw [e]; exact List.take_of_length_le (Nat.le_refl _)
end Go.Proofs.Ytkogechopdfleaa
