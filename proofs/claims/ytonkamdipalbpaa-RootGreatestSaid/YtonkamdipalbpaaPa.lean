namespace Go.Proofs.Ytonkamdipalbpaa

def P : Nat := 0xedb88320
def sh1 (r : Nat) : Nat := (r >>> 1) ^^^ ((r % 2) * P)
def sh : Nat → Nat → Nat
  | 0, r => r
  | n + 1, r => sh n (sh1 r)

theorem sh_succ (n r : Nat) : sh (n + 1) r = sh n (sh1 r) := rfl
theorem sh_add (a : Nat) : ∀ (b r : Nat), sh (a + b) r = sh b (sh a r) := by
  induction a with
  | zero => intro b r; simp [sh]
  | succ a ih => intro b r; rw [show a + 1 + b = (a + b) + 1 from by omega]; simp only [sh, ih]
theorem sh_succ' (n r : Nat) : sh (n + 1) r = sh1 (sh n r) := by rw [sh_add]; rfl

theorem mod2_xor (a b : Nat) : (a ^^^ b) % 2 = (a % 2) ^^^ (b % 2) := by
  have := Nat.xor_mod_two_pow (a := a) (b := b) (n := 1)
  simpa using this

theorem sh1_xor (a b : Nat) : sh1 (a ^^^ b) = sh1 a ^^^ sh1 b := by
  unfold sh1
  rw [Nat.shiftRight_xor_distrib, mod2_xor]
  rcases Nat.mod_two_eq_zero_or_one a with ha | ha <;> rcases Nat.mod_two_eq_zero_or_one b with hb | hb <;> simp [ha, hb]
  · ac_rfl
  · ac_rfl
  · rw [show ((a >>> 1 ^^^ P) ^^^ (b >>> 1 ^^^ P)) = ((a >>> 1 ^^^ b >>> 1) ^^^ (P ^^^ P)) from by ac_rfl]; simp

theorem sh_xor (n : Nat) : ∀ a b, sh n (a ^^^ b) = sh n a ^^^ sh n b := by
  induction n with
  | zero => intros; rfl
  | succ n ih => intro a b; simp only [sh, sh1_xor, ih]
theorem sh1_zero : sh1 0 = 0 := by decide
theorem sh_zero (n : Nat) : sh n 0 = 0 := by
  induction n with
  | zero => rfl
  | succ n ih => simp only [sh, sh1_zero, ih]

theorem sh1_lt {r : Nat} (h : r < 2 ^ 32) : sh1 r < 2 ^ 32 := by
  unfold sh1
  apply Nat.xor_lt_two_pow
  · rw [Nat.shiftRight_eq_div_pow]; omega
  · have : r % 2 < 2 := Nat.mod_lt _ (by omega)
    unfold P; omega
theorem sh_lt (n : Nat) : ∀ {r : Nat}, r < 2 ^ 32 → sh n r < 2 ^ 32 := by
  induction n with
  | zero => intro r h; exact h
  | succ n ih => intro r h; exact ih (sh1_lt h)

theorem sh1_eq_zero {r : Nat} (h : r < 2 ^ 32) (h0 : sh1 r = 0) : r = 0 := by
  unfold sh1 at h0
  have e : r >>> 1 = (r % 2) * P := by
    have h1 : (r >>> 1 ^^^ (r % 2) * P) ^^^ ((r % 2) * P) = 0 ^^^ ((r % 2) * P) := by rw [h0]
    rwa [Nat.xor_assoc, Nat.xor_self, Nat.xor_zero, Nat.zero_xor] at h1
  rw [Nat.shiftRight_eq_div_pow] at e
  unfold P at e
  omega
theorem sh_eq_zero (n : Nat) : ∀ {r : Nat}, r < 2 ^ 32 → sh n r = 0 → r = 0 := by
  induction n with
  | zero => intro r _ h; exact h
  | succ n ih => intro r h h0; exact sh1_eq_zero h (ih (sh1_lt h) h0)
theorem xor_eq_zero {a b : Nat} : a ^^^ b = 0 ↔ a = b := by
  constructor
  · intro h
    have h1 : (a ^^^ b) ^^^ b = 0 ^^^ b := by rw [h]
    rwa [Nat.xor_assoc, Nat.xor_self, Nat.xor_zero, Nat.zero_xor] at h1
  · rintro rfl; simp
theorem sh_inj (n : Nat) {a b : Nat} (ha : a < 2 ^ 32) (hb : b < 2 ^ 32) (h : sh n a = sh n b) : a = b := by
  apply xor_eq_zero.1
  apply sh_eq_zero n (Nat.xor_lt_two_pow ha hb)
  rw [sh_xor, h, Nat.xor_self]


def run (r : Nat) (l : List UInt8) : Nat := l.foldl (fun r b => sh 8 (r ^^^ b.toNat)) r
theorem run_nil (r : Nat) : run r [] = r := rfl
theorem run_cons (r : Nat) (b : UInt8) (l : List UInt8) : run r (b :: l) = run (sh 8 (r ^^^ b.toNat)) l := rfl
theorem run_append (r : Nat) (a b : List UInt8) : run r (a ++ b) = run (run r a) b := by simp [run]
theorem run_snoc (r : Nat) (a : List UInt8) (b : UInt8) : run r (a ++ [b]) = sh 8 (run r a ^^^ b.toNat) := by simp [run]
theorem u8_lt (b : UInt8) : b.toNat < 2 ^ 32 := Nat.lt_of_lt_of_le b.toNat_lt (by decide)
theorem run_lt (l : List UInt8) : ∀ {r : Nat}, r < 2 ^ 32 → run r l < 2 ^ 32 := by
  induction l with
  | nil => intro r h; exact h
  | cons b l ih => intro r h; exact ih (sh_lt 8 (Nat.xor_lt_two_pow h (u8_lt b)))
theorem run_xor (l : List UInt8) : ∀ (r d : Nat), run (r ^^^ d) l = run r l ^^^ sh (8 * l.length) d := by
  induction l with
  | nil => intro r d; rfl
  | cons b l ih =>
    intro r d
    rw [run_cons, run_cons, show r ^^^ d ^^^ b.toNat = (r ^^^ b.toNat) ^^^ d from by ac_rfl, sh_xor, ih, ← sh_add]
    congr 2
    simp; omega

def ones : Nat := 0xffffffff
def upd (s : Nat) (l : List UInt8) : Nat := ones ^^^ run (ones ^^^ s) l
def sum (l : List UInt8) : Nat := upd 0 l
def comb (a b n : Nat) : Nat := sh (8 * n) a ^^^ b
theorem ones_lt : ones < 2 ^ 32 := by decide
theorem upd_lt {s : Nat} (h : s < 2 ^ 32) (l : List UInt8) : upd s l < 2 ^ 32 := Nat.xor_lt_two_pow ones_lt (run_lt l (Nat.xor_lt_two_pow ones_lt h))
theorem sum_lt (l : List UInt8) : sum l < 2 ^ 32 := upd_lt (by decide) l
theorem ones_ones (x : Nat) : ones ^^^ (ones ^^^ x) = x := by rw [← Nat.xor_assoc, Nat.xor_self, Nat.zero_xor]
theorem upd_nil (s : Nat) : upd s [] = s := by simp [upd, run_nil, ones_ones]
theorem upd_append (s : Nat) (a b : List UInt8) : upd (upd s a) b = upd s (a ++ b) := by
  simp [upd, ones_ones, run_append]
theorem sum_eq (l : List UInt8) : sum l = ones ^^^ run ones l := by simp [sum, upd]
theorem comb_sum (a b : List UInt8) : comb (sum a) (sum b) b.length = sum (a ++ b) := by
  have h : run ones (a ++ b) = run ones b ^^^ sh (8 * b.length) (sum a) := by
    rw [run_append, ← run_xor, sum_eq, ones_ones]
  rw [sum_eq (a ++ b), h, comb, sum_eq b]
  ac_rfl
theorem comb_assoc (a b c n m : Nat) : comb (comb a b n) c m = comb a (comb b c m) (n + m) := by
  simp only [comb, sh_xor, ← sh_add, Nat.mul_add, Nat.xor_assoc]

-- shifting plain bytes out
theorem sh1_dbl (y : Nat) : sh1 (2 * y) = y := by
  unfold sh1
  rw [Nat.shiftRight_eq_div_pow]; simp
theorem sh_shl (n : Nat) : ∀ y, sh n (y * 2 ^ n) = y := by
  induction n with
  | zero => intro y; simp [sh]
  | succ n ih => intro y; rw [sh_succ, show y * 2 ^ (n + 1) = 2 * (y * 2 ^ n) from by rw [Nat.pow_succ]; ac_rfl, sh1_dbl, ih]
theorem sh_pow (n j : Nat) : sh n (2 ^ (n + j)) = 2 ^ j := by
  have := sh_shl n (2 ^ j)
  rwa [← Nat.pow_add, Nat.add_comm] at this

-- the word of four bytes
def word (b0 b1 b2 b3 : UInt8) : Nat := b0.toNat ^^^ b1.toNat * 2 ^ 8 ^^^ b2.toNat * 2 ^ 16 ^^^ b3.toNat * 2 ^ 24
theorem run_word (r : Nat) (b0 b1 b2 b3 : UInt8) : run r [b0, b1, b2, b3] = sh 32 (r ^^^ word b0 b1 b2 b3) := by
  have e1 : sh 32 (b1.toNat * 2 ^ 8) = sh 24 b1.toNat := by rw [show 32 = 8 + 24 from rfl, sh_add, sh_shl]
  have e2 : sh 32 (b2.toNat * 2 ^ 16) = sh 16 b2.toNat := by rw [show 32 = 16 + 16 from rfl, sh_add, sh_shl]
  have e3 : sh 32 (b3.toNat * 2 ^ 24) = sh 8 b3.toNat := by rw [show 32 = 24 + 8 from rfl, sh_add, sh_shl]
  simp only [run_cons, run_nil, word, sh_xor, e1, e2, e3, ← sh_add, Nat.reduceAdd]
  ac_rfl
/-- a byte changed -/
theorem run_change (r : Nat) (l : List UInt8) (p : Nat) (d : UInt8) (h : p < l.length) :
    run r (l.set p (l[p] ^^^ d)) = run r l ^^^ sh (8 * (l.length - p)) d.toNat := by
  have e1 : l.set p (l[p] ^^^ d) = l.take p ++ (l[p] ^^^ d) :: l.drop (p + 1) := by
    rw [List.set_eq_take_append_cons_drop, if_pos h]
  have e2 : l = l.take p ++ l[p] :: l.drop (p + 1) := by simp
  have e3 : run r l = run r (l.take p ++ l[p] :: l.drop (p + 1)) := congrArg (run r) e2
  rw [e1, e3, run_append, run_append, run_cons, run_cons, UInt8.toNat_xor, ← Nat.xor_assoc, sh_xor, run_xor, ← sh_add]
  congr 2
  simp; omega

/-- the register behind a sealed text -/
def C : Nat := sh 32 ones
theorem C_lt : C < 2 ^ 32 := sh_lt _ ones_lt
def last4 (l : List UInt8) : Nat := word (l.getD (l.length - 4) 0) (l.getD (l.length - 3) 0) (l.getD (l.length - 2) 0) (l.getD (l.length - 1) 0)
/-- the difference between the sum of a text and the sum at its end -/
def syn (l : List UInt8) : Nat := sum (l.take (l.length - 4)) ^^^ last4 l
theorem split4 {l : List UInt8} (h : 4 ≤ l.length) :
    l = l.take (l.length - 4) ++ [l.getD (l.length - 4) 0, l.getD (l.length - 3) 0, l.getD (l.length - 2) 0, l.getD (l.length - 1) 0] := by
  apply List.ext_getElem?
  intro i
  by_cases h1 : i < l.length - 4
  · rw [List.getElem?_append_left (by simp; omega), List.getElem?_take_of_lt h1]
  · rw [List.getElem?_append_right (by simp; omega)]
    have hl : (List.take (l.length - 4) l).length = l.length - 4 := by simp
    rw [hl]
    by_cases h2 : i < l.length
    · have hg : ∀ j, j < l.length → l.getD j 0 = l[j]?.getD 0 := fun j hj => by simp [List.getD]
      rcases (show i = l.length - 4 ∨ i = l.length - 3 ∨ i = l.length - 2 ∨ i = l.length - 1 by omega) with e | e | e | e
      · rw [show i - (l.length - 4) = 0 by omega, e]; simp [List.getD, List.getElem?_eq_getElem (show l.length - 4 < l.length by omega)]
      · rw [show i - (l.length - 4) = 1 by omega, e]; simp [List.getD, List.getElem?_eq_getElem (show l.length - 3 < l.length by omega)]
      · rw [show i - (l.length - 4) = 2 by omega, e]; simp [List.getD, List.getElem?_eq_getElem (show l.length - 2 < l.length by omega)]
      · rw [show i - (l.length - 4) = 3 by omega, e]; simp [List.getD, List.getElem?_eq_getElem (show l.length - 1 < l.length by omega)]
    · rw [List.getElem?_eq_none (by omega), List.getElem?_eq_none (by simp; omega)]
theorem run_syn {l : List UInt8} (h : 4 ≤ l.length) : run ones l = C ^^^ sh 32 (syn l) := by
  have e : run ones l = run ones (l.take (l.length - 4) ++ [l.getD (l.length - 4) 0, l.getD (l.length - 3) 0, l.getD (l.length - 2) 0, l.getD (l.length - 1) 0]) := congrArg (run ones) (split4 h)
  rw [e, run_append, run_word, C, ← sh_xor, syn, sum_eq]
  congr 1
  rw [show ones ^^^ (ones ^^^ run ones (List.take (l.length - 4) l) ^^^ last4 l) = (ones ^^^ ones) ^^^ (run ones (List.take (l.length - 4) l) ^^^ last4 l) from by ac_rfl, Nat.xor_self, Nat.zero_xor]
  rfl
theorem word_lt (a b c d : UInt8) : word a b c d < 2 ^ 32 := by
  have ha := a.toNat_lt; have hb := b.toNat_lt; have hc := c.toNat_lt; have hd := d.toNat_lt
  unfold word
  refine Nat.xor_lt_two_pow (Nat.xor_lt_two_pow (Nat.xor_lt_two_pow ?_ ?_) ?_) ?_ <;> omega
theorem syn_lt (l : List UInt8) : syn l < 2 ^ 32 := Nat.xor_lt_two_pow (sum_lt _) (word_lt ..)
theorem syn_zero {l : List UInt8} (h : 4 ≤ l.length) : syn l = 0 ↔ run ones l = C := by
  rw [run_syn h]
  constructor
  · intro h0; rw [h0, sh_zero, Nat.xor_zero]
  · intro h0
    apply sh_eq_zero 32 (syn_lt l)
    have h1 : C ^^^ (C ^^^ sh 32 (syn l)) = C ^^^ C := by rw [h0]
    rwa [← Nat.xor_assoc, Nat.xor_self, Nat.zero_xor] at h1
theorem or_eq_xor (x y m : Nat) (h : x < 2 ^ m) : x ||| (y * 2 ^ m) = x ^^^ (y * 2 ^ m) := by
  apply Nat.eq_of_testBit_eq
  intro i
  rw [Nat.testBit_or, Nat.testBit_xor]
  by_cases hi : i < m
  · have : (y * 2 ^ m).testBit i = false := by rw [Nat.testBit_mul_two_pow]; simp; omega
    simp [this]
  · have : x.testBit i = false := Nat.testBit_lt_two_pow (Nat.lt_of_lt_of_le h (Nat.pow_le_pow_right (by decide) (by omega)))
    simp [this]
/-- whether a text is a sealed one -/
def opens (l : List UInt8) : Bool := decide (4 ≤ l.length ∧ syn l = 0)
/-- the four bytes of a sum -/
def le4 (n : Nat) : List UInt8 := [UInt8.ofNat n, UInt8.ofNat (n / 256), UInt8.ofNat (n / 65536), UInt8.ofNat (n / 16777216)]
theorem add_xor (x y m : Nat) (h : x < 2 ^ m) : x ^^^ (y * 2 ^ m) = x + y * 2 ^ m := by
  rw [← or_eq_xor x y m h, Nat.or_comm, Nat.mul_comm, ← Nat.two_pow_add_eq_or_of_lt h, Nat.add_comm]
theorem word_add (a b c d : UInt8) : word a b c d = a.toNat + b.toNat * 256 + c.toNat * 65536 + d.toNat * 16777216 := by
  have ha := a.toNat_lt; have hb := b.toNat_lt; have hc := c.toNat_lt; have hd := d.toNat_lt
  unfold word
  rw [add_xor _ _ 8 (by omega), add_xor _ _ 16 (by omega), add_xor _ _ 24 (by omega)]
theorem le4_word (a b c d : UInt8) : le4 (word a b c d) = [a, b, c, d] := by
  have ha := a.toNat_lt; have hb := b.toNat_lt; have hc := c.toNat_lt; have hd := d.toNat_lt
  unfold le4
  rw [word_add]
  congr 1
  · apply UInt8.toNat_inj.1; rw [UInt8.toNat_ofNat']; omega
  congr 1
  · apply UInt8.toNat_inj.1; rw [UInt8.toNat_ofNat']; omega
  congr 1
  · apply UInt8.toNat_inj.1; rw [UInt8.toNat_ofNat']; omega
  congr 1
  · apply UInt8.toNat_inj.1; rw [UInt8.toNat_ofNat']; omega
theorem word_le4 (n : Nat) (hn : n < 2 ^ 32) : word (UInt8.ofNat n) (UInt8.ofNat (n / 256)) (UInt8.ofNat (n / 65536)) (UInt8.ofNat (n / 16777216)) = n := by
  rw [word_add]
  simp only [UInt8.toNat_ofNat']
  omega
def sealL (l : List UInt8) : List UInt8 := l ++ le4 (sum l)
theorem sealL_length (l : List UInt8) : (sealL l).length = l.length + 4 := by simp [sealL, le4]
theorem take_seal (l : List UInt8) : (sealL l).take ((sealL l).length - 4) = l := by
  rw [sealL_length]; simp [sealL]
theorem getD_app (d : List UInt8) (a b c e : UInt8) (k : Nat) : (d ++ [a, b, c, e]).getD (d.length + k) 0 = [a, b, c, e].getD k 0 := by
  rw [List.getD_eq_getElem?_getD, List.getD_eq_getElem?_getD, List.getElem?_append_right (by omega), show d.length + k - d.length = k by omega]
theorem last4_app (d : List UInt8) (a b c e : UInt8) : last4 (d ++ [a, b, c, e]) = word a b c e := by
  have hl : (d ++ [a, b, c, e]).length = d.length + 4 := by simp
  unfold last4
  rw [hl, show d.length + 4 - 4 = d.length + 0 by omega, show d.length + 4 - 3 = d.length + 1 by omega, show d.length + 4 - 2 = d.length + 2 by omega, show d.length + 4 - 1 = d.length + 3 by omega,
    getD_app, getD_app, getD_app, getD_app]
  rfl
theorem syn_seal (l : List UInt8) : syn (sealL l) = 0 := by
  unfold syn
  rw [take_seal]
  have : last4 (sealL l) = sum l := by
    rw [sealL, le4, last4_app, word_le4 _ (sum_lt l)]
  rw [this, Nat.xor_self]
theorem seal_of_syn {l : List UInt8} (h4 : 4 ≤ l.length) (h : syn l = 0) : sealL (l.take (l.length - 4)) = l := by
  have e := split4 h4
  have hw : sum (l.take (l.length - 4)) = last4 l := xor_eq_zero.1 h
  unfold sealL
  rw [hw, last4, le4_word]
  exact e.symm
theorem opens_seal (l : List UInt8) : opens (sealL l) = true := by
  unfold opens
  exact decide_eq_true ⟨by rw [sealL_length]; omega, syn_seal l⟩
theorem opens_iff (l : List UInt8) (h4 : 4 ≤ l.length) : opens l = true ↔ sealL (l.take (l.length - 4)) = l := by
  constructor
  · intro h
    have h' : 4 ≤ l.length ∧ syn l = 0 := by simpa [opens] using h
    exact seal_of_syn h4 h'.2
  · intro h
    rw [← h]; exact opens_seal _
/-- the burst, its first k bytes -/
def bl (l : List UInt8) (i c : Nat) : Nat → List UInt8
  | 0 => l
  | k + 1 => (bl l i c k).set (i + k) ((bl l i c k).getD (i + k) 0 ^^^ UInt8.ofNat (c / 2 ^ (8 * k)))
theorem bl_length (l : List UInt8) (i c k : Nat) : (bl l i c k).length = l.length := by
  induction k with
  | zero => rfl
  | succ k ih => simp [bl, ih]
theorem run_bl (l : List UInt8) (i c k : Nat) (h : i + k < l.length) : run ones (bl l i c (k + 1)) = run ones (bl l i c k) ^^^ sh (8 * (l.length - (i + k))) (UInt8.ofNat (c / 2 ^ (8 * k))).toNat := by
  have hl : i + k < (bl l i c k).length := by rw [bl_length]; exact h
  have e : (bl l i c k).getD (i + k) 0 = (bl l i c k)[i + k] := by simp [List.getD, hl]
  rw [bl, e, run_change _ _ _ _ hl, bl_length]
theorem sh_part (n m b : Nat) (h : m ≤ n) : sh n (b * 2 ^ m) = sh (n - m) b := by
  rw [show n = m + (n - m) by omega, sh_add, sh_shl]
  congr 1; omega
theorem run_burst (l : List UInt8) (i c : Nat) (h : i + 3 < l.length) (hc : c < 2 ^ 32) : run ones (bl l i c 4) = run ones l ^^^ sh (8 * (l.length - i)) c := by
  have e : c = (UInt8.ofNat c).toNat ^^^ (UInt8.ofNat (c / 2 ^ 8)).toNat * 2 ^ 8 ^^^ (UInt8.ofNat (c / 2 ^ 16)).toNat * 2 ^ 16 ^^^ (UInt8.ofNat (c / 2 ^ 24)).toNat * 2 ^ 24 := (word_le4 c hc).symm
  have e2 : sh (8 * (l.length - i)) c = sh (8 * (l.length - i)) ((UInt8.ofNat c).toNat ^^^ (UInt8.ofNat (c / 2 ^ 8)).toNat * 2 ^ 8 ^^^ (UInt8.ofNat (c / 2 ^ 16)).toNat * 2 ^ 16 ^^^ (UInt8.ofNat (c / 2 ^ 24)).toNat * 2 ^ 24) := congrArg _ e
  rw [e2, run_bl l i c 3 (by omega), run_bl l i c 2 (by omega), run_bl l i c 1 (by omega), run_bl l i c 0 (by omega)]
  rw [sh_xor, sh_xor, sh_xor, sh_part _ 8 _ (by omega), sh_part _ 16 _ (by omega), sh_part _ 24 _ (by omega)]
  rw [show 8 * (l.length - (i + 3)) = 8 * (l.length - i) - 24 by omega, show 8 * (l.length - (i + 2)) = 8 * (l.length - i) - 16 by omega, show 8 * (l.length - (i + 1)) = 8 * (l.length - i) - 8 by omega]
  simp only [Nat.mul_zero, Nat.pow_zero, Nat.div_one, Nat.mul_one, Nat.add_zero, bl]
  ac_rfl
theorem burst_noticed (l : List UInt8) (i c : Nat) (h : i + 3 < l.length) (hc : c < 2 ^ 32) (h0 : c ≠ 0) (hs : opens l = true) : opens (bl l i c 4) = false := by
  have hs' : 4 ≤ l.length ∧ syn l = 0 := by simpa [opens] using hs
  unfold opens
  apply decide_eq_false
  rintro ⟨h4, h5⟩
  rw [syn_zero h4, run_burst l i c h hc, (syn_zero hs'.1).1 hs'.2] at h5
  have h6 : C ^^^ (C ^^^ sh (8 * (l.length - i)) c) = C ^^^ C := by rw [h5]
  rw [← Nat.xor_assoc, Nat.xor_self, Nat.zero_xor] at h6
  exact h0 (sh_eq_zero _ hc h6)
theorem burst_zero (l : List UInt8) (i k : Nat) : bl l i 0 k = l := by
  induction k with
  | zero => rfl
  | succ k ih =>
    rw [bl, ih]
    simp only [Nat.zero_div, show UInt8.ofNat 0 = 0 from rfl, UInt8.xor_zero]
    by_cases h : i + k < l.length
    · have e : l.getD (i + k) 0 = l[i + k] := by simp [List.getD, h]
      rw [e, List.set_getElem_self]
    · rw [List.set_eq_of_length_le (by omega)]
end Go.Proofs.Ytonkamdipalbpaa
