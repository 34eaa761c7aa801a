namespace Go.Proofs.Ytglchdcpkjabaaa

def P : Nat := 0xedb88320
def sh1 (r : Nat) : Nat := (r >>> 1) ^^^ ((r % 2) * P)
def sh : Nat → Nat → Nat
  | 0, r => r
  | n + 1, r => sh n (sh1 r)

theorem sh_succ (n r : Nat) : sh (n + 1) r = sh n (sh1 r) := rfl
theorem sh_add (a : Nat) : ∀ (b r : Nat), sh (a + b) r = sh b (sh a r) := by
  induction a with
  | zero => intro b r; simp [sh]
  | succ a ih => intro b r; rw [show a + 1 + b = (a + b) + 1 from by omega]; simp only [sh, ih]
theorem sh_succ' (n r : Nat) : sh (n + 1) r = sh1 (sh n r) := by rw [sh_add]; rfl

theorem mod2_xor (a b : Nat) : (a ^^^ b) % 2 = (a % 2) ^^^ (b % 2) := by
  have := Nat.xor_mod_two_pow (a := a) (b := b) (n := 1)
  simpa using this

theorem sh1_xor (a b : Nat) : sh1 (a ^^^ b) = sh1 a ^^^ sh1 b := by
  unfold sh1
  rw [Nat.shiftRight_xor_distrib, mod2_xor]
  rcases Nat.mod_two_eq_zero_or_one a with ha | ha <;> rcases Nat.mod_two_eq_zero_or_one b with hb | hb <;> simp [ha, hb]
  · ac_rfl
  · ac_rfl
  · rw [show ((a >>> 1 ^^^ P) ^^^ (b >>> 1 ^^^ P)) = ((a >>> 1 ^^^ b >>> 1) ^^^ (P ^^^ P)) from by ac_rfl]; simp

theorem sh_xor (n : Nat) : ∀ a b, sh n (a ^^^ b) = sh n a ^^^ sh n b := by
  induction n with
  | zero => intros; rfl
  | succ n ih => intro a b; simp only [sh, sh1_xor, ih]
theorem sh1_zero : sh1 0 = 0 := by decide
theorem sh_zero (n : Nat) : sh n 0 = 0 := by
  induction n with
  | zero => rfl
  | succ n ih => simp only [sh, sh1_zero, ih]

theorem sh1_lt {r : Nat} (h : r < 2 ^ 32) : sh1 r < 2 ^ 32 := by
  unfold sh1
  apply Nat.xor_lt_two_pow
  · rw [Nat.shiftRight_eq_div_pow]; omega
  · have : r % 2 < 2 := Nat.mod_lt _ (by omega)
    unfold P; omega
theorem sh_lt (n : Nat) : ∀ {r : Nat}, r < 2 ^ 32 → sh n r < 2 ^ 32 := by
  induction n with
  | zero => intro r h; exact h
  | succ n ih => intro r h; exact ih (sh1_lt h)

theorem sh1_eq_zero {r : Nat} (h : r < 2 ^ 32) (h0 : sh1 r = 0) : r = 0 := by
  unfold sh1 at h0
  have e : r >>> 1 = (r % 2) * P := by
    have h1 : (r >>> 1 ^^^ (r % 2) * P) ^^^ ((r % 2) * P) = 0 ^^^ ((r % 2) * P) := by rw [h0]
    rwa [Nat.xor_assoc, Nat.xor_self, Nat.xor_zero, Nat.zero_xor] at h1
  rw [Nat.shiftRight_eq_div_pow] at e
  unfold P at e
  omega
theorem sh_eq_zero (n : Nat) : ∀ {r : Nat}, r < 2 ^ 32 → sh n r = 0 → r = 0 := by
  induction n with
  | zero => intro r _ h; exact h
  | succ n ih => intro r h h0; exact sh1_eq_zero h (ih (sh1_lt h) h0)
theorem xor_eq_zero {a b : Nat} : a ^^^ b = 0 ↔ a = b := by
  constructor
  · intro h
    have h1 : (a ^^^ b) ^^^ b = 0 ^^^ b := by rw [h]
    rwa [Nat.xor_assoc, Nat.xor_self, Nat.xor_zero, Nat.zero_xor] at h1
  · rintro rfl; simp
theorem sh_inj (n : Nat) {a b : Nat} (ha : a < 2 ^ 32) (hb : b < 2 ^ 32) (h : sh n a = sh n b) : a = b := by
  apply xor_eq_zero.1
  apply sh_eq_zero n (Nat.xor_lt_two_pow ha hb)
  rw [sh_xor, h, Nat.xor_self]

-- the period
def chk : Nat → Nat → Bool
  | 0, _ => true
  | n + 1, r => !(Nat.beq (sh1 r) 2147483648) && chk n (sh1 r)

theorem chk_spec (n : Nat) : ∀ r, chk n r = true → ∀ d, 1 ≤ d → d ≤ n → sh d r ≠ 2 ^ 31 := by
  induction n with
  | zero => intro r _ d h1 h2; omega
  | succ n ih =>
    intro r h d h1 h2
    simp only [chk, Bool.and_eq_true, Bool.not_eq_true'] at h
    match d, h1 with
    | d + 1, _ =>
      rw [sh_succ]
      by_cases h0 : d = 0
      · subst h0
        intro hh
        have h3 := h.1
        rw [show sh1 r = 2147483648 from hh] at h3
        simp at h3
      · exact ih _ h.2 d (by omega) (by omega)
end Go.Proofs.Ytglchdcpkjabaaa
