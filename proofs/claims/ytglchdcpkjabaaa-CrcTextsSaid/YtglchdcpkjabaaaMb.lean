import Derived.Test.YtglchdcpkjabaaaMa
namespace Go.Proofs.Ytglchdcpkjabaaa

def run (r : Nat) (l : List UInt8) : Nat := l.foldl (fun r b => sh 8 (r ^^^ b.toNat)) r
theorem run_nil (r : Nat) : run r [] = r := rfl
theorem run_cons (r : Nat) (b : UInt8) (l : List UInt8) : run r (b :: l) = run (sh 8 (r ^^^ b.toNat)) l := rfl
theorem run_append (r : Nat) (a b : List UInt8) : run r (a ++ b) = run (run r a) b := by simp [run]
theorem run_snoc (r : Nat) (a : List UInt8) (b : UInt8) : run r (a ++ [b]) = sh 8 (run r a ^^^ b.toNat) := by simp [run]
theorem u8_lt (b : UInt8) : b.toNat < 2 ^ 32 := Nat.lt_of_lt_of_le b.toNat_lt (by decide)
theorem run_lt (l : List UInt8) : ∀ {r : Nat}, r < 2 ^ 32 → run r l < 2 ^ 32 := by
  induction l with
  | nil => intro r h; exact h
  | cons b l ih => intro r h; exact ih (sh_lt 8 (Nat.xor_lt_two_pow h (u8_lt b)))
theorem run_xor (l : List UInt8) : ∀ (r d : Nat), run (r ^^^ d) l = run r l ^^^ sh (8 * l.length) d := by
  induction l with
  | nil => intro r d; rfl
  | cons b l ih =>
    intro r d
    rw [run_cons, run_cons, show r ^^^ d ^^^ b.toNat = (r ^^^ b.toNat) ^^^ d from by ac_rfl, sh_xor, ih, ← sh_add]
    congr 2
    simp; omega

def ones : Nat := 0xffffffff
def upd (s : Nat) (l : List UInt8) : Nat := ones ^^^ run (ones ^^^ s) l
def sum (l : List UInt8) : Nat := upd 0 l
def comb (a b n : Nat) : Nat := sh (8 * n) a ^^^ b
theorem ones_lt : ones < 2 ^ 32 := by decide
theorem upd_lt {s : Nat} (h : s < 2 ^ 32) (l : List UInt8) : upd s l < 2 ^ 32 := Nat.xor_lt_two_pow ones_lt (run_lt l (Nat.xor_lt_two_pow ones_lt h))
theorem sum_lt (l : List UInt8) : sum l < 2 ^ 32 := upd_lt (by decide) l
theorem ones_ones (x : Nat) : ones ^^^ (ones ^^^ x) = x := by rw [← Nat.xor_assoc, Nat.xor_self, Nat.zero_xor]
theorem upd_nil (s : Nat) : upd s [] = s := by simp [upd, run_nil, ones_ones]
theorem upd_append (s : Nat) (a b : List UInt8) : upd (upd s a) b = upd s (a ++ b) := by
  simp [upd, ones_ones, run_append]
theorem sum_eq (l : List UInt8) : sum l = ones ^^^ run ones l := by simp [sum, upd]
theorem comb_sum (a b : List UInt8) : comb (sum a) (sum b) b.length = sum (a ++ b) := by
  have h : run ones (a ++ b) = run ones b ^^^ sh (8 * b.length) (sum a) := by
    rw [run_append, ← run_xor, sum_eq, ones_ones]
  rw [sum_eq (a ++ b), h, comb, sum_eq b]
  ac_rfl
theorem comb_assoc (a b c n m : Nat) : comb (comb a b n) c m = comb a (comb b c m) (n + m) := by
  simp only [comb, sh_xor, ← sh_add, Nat.mul_add, Nat.xor_assoc]

-- shifting plain bytes out
theorem sh1_dbl (y : Nat) : sh1 (2 * y) = y := by
  unfold sh1
  rw [Nat.shiftRight_eq_div_pow]; simp
theorem sh_shl (n : Nat) : ∀ y, sh n (y * 2 ^ n) = y := by
  induction n with
  | zero => intro y; simp [sh]
  | succ n ih => intro y; rw [sh_succ, show y * 2 ^ (n + 1) = 2 * (y * 2 ^ n) from by rw [Nat.pow_succ]; ac_rfl, sh1_dbl, ih]
theorem sh_pow (n j : Nat) : sh n (2 ^ (n + j)) = 2 ^ j := by
  have := sh_shl n (2 ^ j)
  rwa [← Nat.pow_add, Nat.add_comm] at this

-- the word of four bytes
def word (b0 b1 b2 b3 : UInt8) : Nat := b0.toNat ^^^ b1.toNat * 2 ^ 8 ^^^ b2.toNat * 2 ^ 16 ^^^ b3.toNat * 2 ^ 24
theorem run_word (r : Nat) (b0 b1 b2 b3 : UInt8) : run r [b0, b1, b2, b3] = sh 32 (r ^^^ word b0 b1 b2 b3) := by
  have e1 : sh 32 (b1.toNat * 2 ^ 8) = sh 24 b1.toNat := by rw [show 32 = 8 + 24 from rfl, sh_add, sh_shl]
  have e2 : sh 32 (b2.toNat * 2 ^ 16) = sh 16 b2.toNat := by rw [show 32 = 16 + 16 from rfl, sh_add, sh_shl]
  have e3 : sh 32 (b3.toNat * 2 ^ 24) = sh 8 b3.toNat := by rw [show 32 = 24 + 8 from rfl, sh_add, sh_shl]
  simp only [run_cons, run_nil, word, sh_xor, e1, e2, e3, ← sh_add, Nat.reduceAdd]
  ac_rfl
end Go.Proofs.Ytglchdcpkjabaaa
