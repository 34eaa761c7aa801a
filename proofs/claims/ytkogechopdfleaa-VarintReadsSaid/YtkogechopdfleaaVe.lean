import Derived.Test.YtkogechopdfleaaWd
namespace Go.Proofs.Ytkogechopdfleaa
open Go.RowKit

def lead (c : Nat) : Nat := if c < 128 then 0 else if c < 192 then 1 else if c < 224 then 2 else if c < 240 then 3 else if c < 248 then 4 else if c < 252 then 5 else if c < 254 then 6 else if c < 255 then 7 else 8
def low (c : Nat) : Nat := c - (256 - 2 ^ (8 - lead c))
theorem fin_low : ∀ c : Fin 256, low c < 2 ^ (7 - lead c) ∧ 256 - 2 ^ (8 - lead c) + low c = c := by decide +kernel
theorem fin_first : ∀ k : Fin 9, ∀ q : Fin 128, q.val < 2 ^ (7 - k.val) → lead (256 - 2 ^ (8 - k.val) + q) = k ∧ low (256 - 2 ^ (8 - k.val) + q) = q := by decide +kernel
theorem fin_and : ∀ c : Fin 256, ∀ k : Fin 9, (k.val < lead c → (c.val &&& (128 / 2 ^ k.val)) ≠ 0) ∧ (k.val = lead c → k.val < 8 → (c.val &&& (128 / 2 ^ k.val)) = 0) := by decide +kernel
theorem fin_mask : ∀ c : Fin 256, (c.val &&& (127 / 2 ^ lead c)) = low c := by decide +kernel
theorem fin_bit : ∀ c : Fin 256, ∀ k : Fin 9, (k.val < lead c → c.val / 2 ^ (7 - k.val) % 2 = 1) ∧ (k.val = lead c → k.val < 8 → c.val / 2 ^ (7 - k.val) % 2 = 0) := by decide +kernel
theorem lead_le (c : Nat) : lead c ≤ 8 := by unfold lead; (repeat' split) <;> omega

/-- the value of the front, its first i further bytes -/
def pv (l : List UInt8) : Nat → Nat
  | 0 => low (l.getD 0 0).toNat
  | i + 1 => pv l i * 256 + (l.getD (i + 1) 0).toNat
def kL (l : List UInt8) : Nat := lead (l.getD 0 0).toNat
/-- the number at the front of bytes, and its size -/
def peekF (l : List UInt8) : Option (Nat × Nat) :=
  if l.length < kL l + 1 then none else if 9223372036854775807 - bnd (kL l) < pv l (kL l) then none else some (pv l (kL l) + bnd (kL l), kL l + 1)
theorem low_lt (b : UInt8) : low b.toNat < 2 ^ (7 - lead b.toNat) := (fin_low ⟨b.toNat, b.toNat_lt⟩).1
theorem pv_lt (l : List UInt8) (i : Nat) : pv l i < 2 ^ (7 - kL l + 8 * i) := by
  induction i with
  | zero => exact low_lt _
  | succ i ih =>
    have hb := (l.getD (i + 1) 0).toNat_lt
    rw [pv, show 7 - kL l + 8 * (i + 1) = (7 - kL l + 8 * i) + 8 by omega, Nat.pow_add]
    omega
theorem pv_lt64 (l : List UInt8) (i : Nat) (hi : i ≤ kL l) : pv l i < 2 ^ 64 := by
  have := lead_le (l.getD 0 0).toNat
  refine Nat.lt_of_lt_of_le (pv_lt l i) (Nat.pow_le_pow_right (by decide) ?_)
  unfold kL at *
  omega
theorem pv_lt56 (l : List UInt8) (i : Nat) (hi : i < kL l) : pv l i < 2 ^ 56 := by
  have := lead_le (l.getD 0 0).toNat
  refine Nat.lt_of_lt_of_le (pv_lt l i) (Nat.pow_le_pow_right (by decide) ?_)
  unfold kL at *
  omega

/-- what stands behind the bytes of a number does not matter -/
theorem getD_front (a b : List UInt8) (i : Nat) (h : i < a.length) : (a ++ b).getD i 0 = a.getD i 0 := by
  rw [List.getD_eq_getElem?_getD, List.getD_eq_getElem?_getD, List.getElem?_append_left h]
theorem first_toNat (k q : Nat) (hk : k ≤ 8) (hq : q < 2 ^ (7 - k)) : (UInt8.ofNat (256 - 2 ^ (8 - k) + q)).toNat = 256 - 2 ^ (8 - k) + q := by
  have hq128 : q < 128 := Nat.lt_of_lt_of_le hq (Nat.le_trans (Nat.pow_le_pow_right (by decide) (Nat.sub_le _ _)) (by decide))
  have := (or_first ⟨k, by omega⟩ ⟨q, hq128⟩ hq).2
  rw [UInt8.toNat_ofNat']
  exact Nat.mod_eq_of_lt this
theorem lead_first (k q : Nat) (hk : k ≤ 8) (hq : q < 2 ^ (7 - k)) : lead (256 - 2 ^ (8 - k) + q) = k ∧ low (256 - 2 ^ (8 - k) + q) = q := by
  have hq128 : q < 128 := Nat.lt_of_lt_of_le hq (Nat.le_trans (Nat.pow_le_pow_right (by decide) (Nat.sub_le _ _)) (by decide))
  exact fin_first ⟨k, by omega⟩ ⟨q, hq128⟩ hq
theorem beN_getD (r : Nat) : ∀ (m i : Nat), i < m → (beN r m).getD i 0 = UInt8.ofNat (r / 2 ^ (8 * (m - 1 - i)))
  | 0, i, h => absurd h (by omega)
  | m + 1, 0, _ => by simp [beN]
  | m + 1, i + 1, h => by
    rw [beN, show m + 1 - 1 - (i + 1) = m - 1 - i by omega, List.getD_cons_succ]
    exact beN_getD r m i (by omega)
theorem pv_be (x : UInt8) (r k : Nat) (t : List UInt8) (hx : low x.toNat = r / 2 ^ (8 * k)) : ∀ i, i ≤ k → pv (x :: beN r k ++ t) i = r / 2 ^ (8 * (k - i)) := by
  intro i
  induction i with
  | zero => intro _; simpa [pv] using hx
  | succ i ih =>
    intro hi
    rw [pv, ih (by omega), getD_front _ _ _ (by simp [beN_length]; omega), List.getD_cons_succ, beN_getD _ _ _ (by omega), UInt8.toNat_ofNat']
    rw [show k - 1 - i = k - (i + 1) by omega, show 8 * (k - i) = 8 * (k - (i + 1)) + 8 by omega, Nat.pow_add, ← Nat.div_div_eq_div_mul]
    omega
theorem peek_num (n : Nat) (hn : n < 2 ^ 63) (t : List UInt8) : peekF (num n ++ t) = some (n, (num n).length) := by
  have h8 := kOf_le n
  have hq := rest_lt n hn
  have hge := (kOf_spec n).1
  have hx : (UInt8.ofNat (256 - 2 ^ (8 - kOf n) + (n - bnd (kOf n)) / 2 ^ (8 * kOf n))).toNat = 256 - 2 ^ (8 - kOf n) + (n - bnd (kOf n)) / 2 ^ (8 * kOf n) := first_toNat _ _ h8 hq
  have hl := lead_first _ _ h8 hq
  have hk : kL (num n ++ t) = kOf n := by
    show lead (UInt8.ofNat (256 - 2 ^ (8 - kOf n) + (n - bnd (kOf n)) / 2 ^ (8 * kOf n))).toNat = _
    rw [hx]; exact hl.1
  have hp : pv (num n ++ t) (kOf n) = n - bnd (kOf n) := by
    have := pv_be (first (kOf n) (n - bnd (kOf n))) (n - bnd (kOf n)) (kOf n) t (by unfold first; rw [hx]; exact hl.2) (kOf n) (Nat.le_refl _)
    rw [Nat.sub_self, Nat.mul_zero, Nat.pow_zero, Nat.div_one] at this
    exact this
  unfold peekF
  rw [hk, hp, if_neg (by rw [List.length_append, num_length]; omega), if_neg (by omega), num_length]
  congr 2
  omega
theorem pv_div (l : List UInt8) (k : Nat) : ∀ i, i ≤ k → pv l k / 2 ^ (8 * (k - i)) = pv l i := by
  induction k with
  | zero => intro i hi; obtain rfl : i = 0 := by omega
            simp
  | succ k ih =>
    intro i hi
    by_cases h : i = k + 1
    · subst h; simp
    · have hb := (l.getD (k + 1) 0).toNat_lt
      rw [← ih i (by omega), pv, show 8 * (k + 1 - i) = 8 + 8 * (k - i) by omega, Nat.pow_add, ← Nat.div_div_eq_div_mul]
      congr 1
      omega
/-- what is read, written again, gives the bytes that were read -/
theorem num_peek (l : List UInt8) (n m : Nat) (h : peekF l = some (n, m)) : n < 2 ^ 63 ∧ m ≤ l.length ∧ 1 ≤ m ∧ m ≤ 9 ∧ l.take m = num n := by
  unfold peekF at h
  split at h
  · cases h
  · split at h
    · cases h
    · rename_i h1 h2
      simp only [Option.some.injEq, Prod.mk.injEq] at h
      obtain ⟨rfl, rfl⟩ := h
      have h8 := lead_le (l.getD 0 0).toNat
      have hkl : kL l ≤ 8 := h8
      have hpl := pv_lt l (kL l)
      have hb8 : bnd (kL l) ≤ bnd 8 := by
        rcases Nat.lt_or_ge (kL l) 8 with h | h
        · exact Nat.le_of_lt (bnd_lt h (by omega))
        · rw [show kL l = 8 by omega]; exact Nat.le_refl _
      have hb8' : bnd 8 = 72624976668147840 := by decide
      have hk : kOf (pv l (kL l) + bnd (kL l)) = kL l := by
        apply kOf_eq hkl (by omega)
        by_cases h9 : kL l = 8
        · exact .inl h9
        · right
          rw [bnd]
          have e : 7 - kL l + 8 * kL l = 7 * (kL l + 1) := by omega
          rw [e] at hpl
          omega
      refine ⟨by omega, by omega, by omega, by omega, ?_⟩
      apply List.ext_getElem
      · rw [num_length, hk, List.length_take]; omega
      · intro i h3 h4
        have h3' : i < kL l + 1 := by rw [List.length_take] at h3; omega
        have hil : i < l.length := by omega
        rw [List.getElem_take]
        have e1 : l[i] = l.getD i 0 := by simp [List.getD, hil]
        have e2 : (num (pv l (kL l) + bnd (kL l)))[i] = (num (pv l (kL l) + bnd (kL l))).getD i 0 := by simp [List.getD, h4]
        rw [e1, e2, num, hk, Nat.add_sub_cancel]
        match i, h3' with
        | 0, _ =>
          show l.getD 0 0 = first (kL l) (pv l (kL l))
          have e3 := pv_div l (kL l) 0 (by omega)
          rw [Nat.sub_zero] at e3
          unfold first
          rw [e3]
          apply UInt8.toNat_inj.1
          rw [UInt8.toNat_ofNat']
          have := (fin_low ⟨(l.getD 0 0).toNat, (l.getD 0 0).toNat_lt⟩).2
          have hlt := (l.getD 0 0).toNat_lt
          have e4 : 256 - 2 ^ (8 - kL l) + pv l 0 = (l.getD 0 0).toNat := this
          rw [e4]; omega
        | i + 1, h3' =>
          rw [List.getD_cons_succ, beN_getD _ _ _ (by omega)]
          have e3 := pv_div l (kL l) (i + 1) (by omega)
          rw [show kL l - 1 - i = kL l - (i + 1) by omega, e3]
          apply UInt8.toNat_inj.1
          rw [UInt8.toNat_ofNat', pv]
          have := (l.getD (i + 1) 0).toNat_lt
          omega
end Go.Proofs.Ytkogechopdfleaa
