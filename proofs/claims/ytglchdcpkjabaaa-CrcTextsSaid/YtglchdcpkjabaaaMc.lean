import Derived.Test.YtglchdcpkjabaaaMb
namespace Go.Proofs.Ytglchdcpkjabaaa

theorem period : chk 33000 2147483648 = true := by decide +kernel

theorem sh_top_ne {d : Nat} (h1 : 1 ≤ d) (h2 : d ≤ 33000) : sh d (2 ^ 31) ≠ 2 ^ 31 := chk_spec 33000 _ period d h1 h2
theorem sh_top_inj {a b : Nat} (ha : a ≤ 33000) (hb : b ≤ 33000) (h : sh a (2 ^ 31) = sh b (2 ^ 31)) : a = b := by
  rcases Nat.lt_trichotomy a b with hlt | heq | hgt
  · exfalso
    have e : sh a (sh (b - a) (2 ^ 31)) = sh a (2 ^ 31) := by rw [← sh_add, show b - a + a = b from by omega]; exact h.symm
    exact sh_top_ne (d := b - a) (by omega) (by omega) (sh_inj a (sh_lt _ (by decide)) (by decide) e)
  · exact heq
  · exfalso
    have e : sh b (sh (a - b) (2 ^ 31)) = sh b (2 ^ 31) := by rw [← sh_add, show a - b + b = a from by omega]; exact h
    exact sh_top_ne (d := a - b) (by omega) (by omega) (sh_inj b (sh_lt _ (by decide)) (by decide) e)

/-- what the change of bit n of a text of len bytes does to the register behind the whole text -/
def eff (len n : Nat) : Nat := sh (8 * (len - n / 8)) (2 ^ (7 - n % 8))
theorem pow_top {j : Nat} (h : j ≤ 31) : 2 ^ j = sh (31 - j) (2 ^ 31) := by
  have := sh_pow (31 - j) j
  rw [show 31 - j + j = 31 from by omega] at this
  exact this.symm
theorem eff_top {len n : Nat} (_h : n < 8 * len) : eff len n = sh (8 * (len - n / 8) + 24 + n % 8) (2 ^ 31) := by
  unfold eff
  rw [pow_top (show 7 - n % 8 ≤ 31 by omega), ← sh_add]
  congr 1; omega
theorem eff_inj {len n m : Nat} (hl : len ≤ 4096) (hn : n < 8 * len) (hm : m < 8 * len) (h : eff len n = eff len m) : n = m := by
  rw [eff_top hn, eff_top hm] at h
  have := sh_top_inj (by omega) (by omega) h
  omega
theorem eff_ne_zero (len n : Nat) : eff len n ≠ 0 := by
  intro h
  have := sh_eq_zero _ (Nat.pow_lt_pow_right (by decide) (by omega)) h
  have h2 : 0 < 2 ^ (7 - n % 8) := Nat.two_pow_pos _
  omega
theorem eff_lt (len n : Nat) : eff len n < 2 ^ 32 := sh_lt _ (Nat.pow_lt_pow_right (by decide) (by omega))

/-- a byte changed -/
theorem run_change (r : Nat) (l : List UInt8) (p : Nat) (d : UInt8) (h : p < l.length) :
    run r (l.set p (l[p] ^^^ d)) = run r l ^^^ sh (8 * (l.length - p)) d.toNat := by
  have e1 : l.set p (l[p] ^^^ d) = l.take p ++ (l[p] ^^^ d) :: l.drop (p + 1) := by
    rw [List.set_eq_take_append_cons_drop, if_pos h]
  have e2 : l = l.take p ++ l[p] :: l.drop (p + 1) := by simp
  have e3 : run r l = run r (l.take p ++ l[p] :: l.drop (p + 1)) := congrArg (run r) e2
  rw [e1, e3, run_append, run_append, run_cons, run_cons, UInt8.toNat_xor, ← Nat.xor_assoc, sh_xor, run_xor, ← sh_add]
  congr 2
  simp; omega

def mask (n : Nat) : UInt8 := UInt8.ofNat (2 ^ (7 - n % 8))
theorem mask_toNat (n : Nat) : (mask n).toNat = 2 ^ (7 - n % 8) := by
  unfold mask
  rw [UInt8.toNat_ofNat']
  apply Nat.mod_eq_of_lt
  exact Nat.lt_of_le_of_lt (Nat.pow_le_pow_right (by decide) (show 7 - n % 8 ≤ 7 by omega)) (by decide)
def flip (l : List UInt8) (n : Nat) : List UInt8 := if h : n / 8 < l.length then l.set (n / 8) (l[n / 8] ^^^ mask n) else l
theorem flip_length (l : List UInt8) (n : Nat) : (flip l n).length = l.length := by unfold flip; split <;> simp
theorem run_flip (r : Nat) (l : List UInt8) (n : Nat) (h : n < 8 * l.length) : run r (flip l n) = run r l ^^^ eff l.length n := by
  unfold flip
  rw [dif_pos (by omega), run_change, mask_toNat]; rfl
theorem flip_flip (l : List UInt8) (n : Nat) : flip (flip l n) n = l := by
  unfold flip
  by_cases h : n / 8 < l.length
  · simp only [dif_pos h, List.length_set, List.getElem_set_self, List.set_set, UInt8.xor_assoc, UInt8.xor_self, UInt8.xor_zero, List.set_getElem_self]
  · simp [dif_neg h]

/-- the register behind a sealed text -/
def C : Nat := sh 32 ones
theorem C_lt : C < 2 ^ 32 := sh_lt _ ones_lt
def last4 (l : List UInt8) : Nat := word (l.getD (l.length - 4) 0) (l.getD (l.length - 3) 0) (l.getD (l.length - 2) 0) (l.getD (l.length - 1) 0)
/-- the difference between the sum of a text and the sum at its end -/
def syn (l : List UInt8) : Nat := sum (l.take (l.length - 4)) ^^^ last4 l
theorem split4 {l : List UInt8} (h : 4 ≤ l.length) :
    l = l.take (l.length - 4) ++ [l.getD (l.length - 4) 0, l.getD (l.length - 3) 0, l.getD (l.length - 2) 0, l.getD (l.length - 1) 0] := by
  apply List.ext_getElem?
  intro i
  by_cases h1 : i < l.length - 4
  · rw [List.getElem?_append_left (by simp; omega), List.getElem?_take_of_lt h1]
  · rw [List.getElem?_append_right (by simp; omega)]
    have hl : (List.take (l.length - 4) l).length = l.length - 4 := by simp
    rw [hl]
    by_cases h2 : i < l.length
    · have hg : ∀ j, j < l.length → l.getD j 0 = l[j]?.getD 0 := fun j hj => by simp [List.getD]
      rcases (show i = l.length - 4 ∨ i = l.length - 3 ∨ i = l.length - 2 ∨ i = l.length - 1 by omega) with e | e | e | e
      · rw [show i - (l.length - 4) = 0 by omega, e]; simp [List.getD, List.getElem?_eq_getElem (show l.length - 4 < l.length by omega)]
      · rw [show i - (l.length - 4) = 1 by omega, e]; simp [List.getD, List.getElem?_eq_getElem (show l.length - 3 < l.length by omega)]
      · rw [show i - (l.length - 4) = 2 by omega, e]; simp [List.getD, List.getElem?_eq_getElem (show l.length - 2 < l.length by omega)]
      · rw [show i - (l.length - 4) = 3 by omega, e]; simp [List.getD, List.getElem?_eq_getElem (show l.length - 1 < l.length by omega)]
    · rw [List.getElem?_eq_none (by omega), List.getElem?_eq_none (by simp; omega)]
theorem run_syn {l : List UInt8} (h : 4 ≤ l.length) : run ones l = C ^^^ sh 32 (syn l) := by
  have e : run ones l = run ones (l.take (l.length - 4) ++ [l.getD (l.length - 4) 0, l.getD (l.length - 3) 0, l.getD (l.length - 2) 0, l.getD (l.length - 1) 0]) := congrArg (run ones) (split4 h)
  rw [e, run_append, run_word, C, ← sh_xor, syn, sum_eq]
  congr 1
  rw [show ones ^^^ (ones ^^^ run ones (List.take (l.length - 4) l) ^^^ last4 l) = (ones ^^^ ones) ^^^ (run ones (List.take (l.length - 4) l) ^^^ last4 l) from by ac_rfl, Nat.xor_self, Nat.zero_xor]
  rfl
theorem word_lt (a b c d : UInt8) : word a b c d < 2 ^ 32 := by
  have ha := a.toNat_lt; have hb := b.toNat_lt; have hc := c.toNat_lt; have hd := d.toNat_lt
  unfold word
  refine Nat.xor_lt_two_pow (Nat.xor_lt_two_pow (Nat.xor_lt_two_pow ?_ ?_) ?_) ?_ <;> omega
theorem syn_lt (l : List UInt8) : syn l < 2 ^ 32 := Nat.xor_lt_two_pow (sum_lt _) (word_lt ..)
theorem syn_zero {l : List UInt8} (h : 4 ≤ l.length) : syn l = 0 ↔ run ones l = C := by
  rw [run_syn h]
  constructor
  · intro h0; rw [h0, sh_zero, Nat.xor_zero]
  · intro h0
    apply sh_eq_zero 32 (syn_lt l)
    have h1 : C ^^^ (C ^^^ sh 32 (syn l)) = C ^^^ C := by rw [h0]
    rwa [← Nat.xor_assoc, Nat.xor_self, Nat.zero_xor] at h1
/-- bit n is what is wrong -/
def wrongAt (l : List UInt8) (n : Nat) : Prop := n < 8 * l.length ∧ eff l.length n = sh 32 (syn l)
theorem wrongAt_inj {l : List UInt8} (hl : l.length ≤ 4096) {n m : Nat} (h1 : wrongAt l n) (h2 : wrongAt l m) : n = m :=
  eff_inj hl h1.1 h2.1 (h1.2.trans h2.2.symm)
theorem wrongAt_flip {l : List UInt8} (h : 4 ≤ l.length) (n : Nat) (hn : n < 8 * l.length) : wrongAt l n ↔ syn (flip l n) = 0 := by
  rw [syn_zero (by rw [flip_length]; exact h), run_flip _ _ _ hn, run_syn h, wrongAt]
  constructor
  · intro ⟨_, h1⟩; rw [h1, Nat.xor_assoc, Nat.xor_self, Nat.xor_zero]
  · intro h1
    refine ⟨hn, ?_⟩
    have h2 : (C ^^^ sh 32 (syn l) ^^^ eff l.length n) ^^^ C = C ^^^ C := by rw [h1]
    rw [Nat.xor_self, show (C ^^^ sh 32 (syn l) ^^^ eff l.length n) ^^^ C = (C ^^^ C) ^^^ (sh 32 (syn l) ^^^ eff l.length n) from by ac_rfl, Nat.xor_self, Nat.zero_xor] at h2
    exact (xor_eq_zero.1 h2).symm
theorem not_wrongAt_of_syn_zero {l : List UInt8} (h : syn l = 0) (n : Nat) : ¬ wrongAt l n := by
  intro ⟨_, h1⟩
  rw [h, sh_zero] at h1
  exact eff_ne_zero _ _ h1
end Go.Proofs.Ytglchdcpkjabaaa
