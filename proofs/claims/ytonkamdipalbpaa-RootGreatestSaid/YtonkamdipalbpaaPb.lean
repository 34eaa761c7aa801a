import Derived.Test.YtonkamdipalbpaaPa
namespace Go.Proofs.Ytonkamdipalbpaa

/-- the low m bytes of r, the most significant first -/
def beN (r : Nat) : Nat → List UInt8
  | 0 => []
  | m + 1 => UInt8.ofNat (r / 2 ^ (8 * m)) :: beN r m
theorem beN_length (r m : Nat) : (beN r m).length = m := by
  induction m with
  | zero => rfl
  | succ m ih => simp [beN, ih]
theorem beN_getElem? (r : Nat) : ∀ (m i : Nat), i < m → (beN r m)[i]? = some (UInt8.ofNat (r / 2 ^ (8 * (m - 1 - i))))
  | 0, i, h => absurd h (by omega)
  | m + 1, 0, _ => by simp [beN]
  | m + 1, i + 1, h => by
    rw [beN, show m + 1 - 1 - (i + 1) = m - 1 - i by omega, List.getElem?_cons_succ]
    exact beN_getElem? r m i (by omega)
theorem beN_zero (m : Nat) : beN 0 m = List.replicate m 0 := by
  induction m with
  | zero => rfl
  | succ m ih => rw [beN, ih, List.replicate_succ]; congr 1; simp
def beV (l : List UInt8) : Nat := l.foldl (fun v b => v * 256 + b.toNat) 0
theorem beV_snoc (l : List UInt8) (b : UInt8) : beV (l ++ [b]) = beV l * 256 + b.toNat := by simp [beV]
theorem foldl_acc (l : List UInt8) : ∀ a : Nat, l.foldl (fun v b => v * 256 + b.toNat) a = a * 256 ^ l.length + beV l := by
  induction l with
  | nil => intro a; simp [beV]
  | cons b l ih =>
    intro a
    simp only [List.foldl_cons, beV, List.length_cons]
    rw [ih, ih (0 * 256 + b.toNat), Nat.pow_succ, Nat.add_mul, Nat.zero_mul, Nat.zero_add, Nat.mul_assoc, Nat.mul_comm 256]; omega
theorem beV_cons (b : UInt8) (l : List UInt8) : beV (b :: l) = b.toNat * 256 ^ l.length + beV l := by
  show l.foldl (fun v b => v * 256 + b.toNat) (0 * 256 + b.toNat) = _
  rw [foldl_acc]; simp
theorem beV_lt (l : List UInt8) : beV l < 256 ^ l.length := by
  induction l with
  | nil => simp [beV]
  | cons b l ih =>
    rw [beV_cons, List.length_cons, Nat.pow_succ]
    have hb := b.toNat_lt
    have h1 : b.toNat * 256 ^ l.length ≤ 255 * 256 ^ l.length := Nat.mul_le_mul_right _ (by omega)
    omega
theorem pow256 (m : Nat) : 2 ^ (8 * m) = 256 ^ m := by rw [Nat.pow_mul]
theorem beV_beN (r : Nat) : ∀ m, beV (beN r m) = r % 256 ^ m
  | 0 => by simp [beN, beV, Nat.mod_one]
  | m + 1 => by
    rw [beN, beV_cons, beN_length, beV_beN r m, UInt8.toNat_ofNat', pow256]
    have h := Nat.mod_mul (x := r) (a := 256 ^ m) (b := 256)
    rw [show 256 ^ (m + 1) = 256 ^ m * 256 from Nat.pow_succ .., h, Nat.mul_comm (256 ^ m)]; exact Nat.add_comm _ _
theorem beV_beN_of_lt (r m : Nat) (h : r < 256 ^ m) : beV (beN r m) = r := by rw [beV_beN, Nat.mod_eq_of_lt h]
theorem beN_beV : ∀ (l : List UInt8), beN (beV l) l.length = l
  | [] => rfl
  | b :: l => by
    have hl := beV_lt l
    have hb := b.toNat_lt
    rw [List.length_cons, beN, beV_cons, pow256]
    have e1 : (b.toNat * 256 ^ l.length + beV l) / 256 ^ l.length = b.toNat := by
      rw [Nat.mul_comm, Nat.mul_add_div (Nat.pow_pos (by decide)), Nat.div_eq_of_lt hl, Nat.add_zero]
    rw [e1]
    congr 1
    · apply UInt8.toNat_inj.1; rw [UInt8.toNat_ofNat']; exact Nat.mod_eq_of_lt hb
    · have e2 : ∀ m, m ≤ l.length → beN (b.toNat * 256 ^ l.length + beV l) m = beN (beV l) m := by
        intro m
        induction m with
        | zero => intro _; rfl
        | succ m ih =>
          intro hm
          rw [beN, beN, ih (by omega)]
          congr 1
          apply UInt8.toNat_inj.1
          rw [UInt8.toNat_ofNat', UInt8.toNat_ofNat', pow256]
          have e3 : 256 ^ l.length = 256 ^ m * (256 * 256 ^ (l.length - m - 1)) := by
            rw [← Nat.pow_succ', ← Nat.pow_add]; congr 1; omega
          rw [e3, show b.toNat * (256 ^ m * (256 * 256 ^ (l.length - m - 1))) + beV l = 256 ^ m * (256 * (b.toNat * 256 ^ (l.length - m - 1))) + beV l by
            congr 1; ac_rfl]
          rw [Nat.mul_add_div (Nat.pow_pos (by decide))]
          omega
      rw [e2 _ (Nat.le_refl _), beN_beV l]
theorem beN_inj {r s m : Nat} (hr : r < 256 ^ m) (hs : s < 256 ^ m) (h : beN r m = beN s m) : r = s := by
  rw [← beV_beN_of_lt r m hr, ← beV_beN_of_lt s m hs, h]

/-- whether a root is valid -/
def validI (n s l c : Int) : Bool := decide (1 ≤ n ∧ n ≤ 1099511627776 ∧ 1 ≤ l ∧ l ≤ 16384 ∧ 0 ≤ c ∧ c < 4294967296 ∧ 4 ≤ s ∧ s < 1024 ∧ (l - 1) / 64 + 1 ≤ 1024 - s)
theorem validI_iff {n s l c : Int} : validI n s l c = true ↔ (1 ≤ n ∧ n ≤ 1099511627776 ∧ 1 ≤ l ∧ l ≤ 16384 ∧ 0 ≤ c ∧ c < 4294967296 ∧ 4 ≤ s ∧ s < 1024 ∧ (l - 1) / 64 + 1 ≤ 1024 - s) := by
  unfold validI; exact decide_eq_true_iff
def bodyL (n s l c : Nat) : List UInt8 := beN n 8 ++ (beN s 4 ++ (beN l 4 ++ (beN c 4 ++ List.replicate 32 0)))
/-- the sector of a root -/
def encL (n s l c : Nat) : List UInt8 := bodyL n s l c ++ (le4 (sum (bodyL n s l c)) ++ beN n 8)
theorem bodyL_length (n s l c : Nat) : (bodyL n s l c).length = 52 := by simp [bodyL, beN_length]
theorem le4_length (n : Nat) : (le4 n).length = 4 := rfl
theorem encL_length (n s l c : Nat) : (encL n s l c).length = 64 := by simp [encL, bodyL_length, le4_length, beN_length]
theorem encL_seal (n s l c : Nat) : encL n s l c = sealL (bodyL n s l c) ++ beN n 8 := by simp [encL, sealL]
theorem sealB_length (n s l c : Nat) : (sealL (bodyL n s l c)).length = 56 := by rw [sealL_length, bodyL_length]
theorem encL_take56 (n s l c : Nat) : (encL n s l c).take 56 = sealL (bodyL n s l c) := by
  rw [encL_seal, List.take_append_of_le_length (by rw [sealB_length]; omega), List.take_of_length_le (by rw [sealB_length]; omega)]
theorem encL_drop56 (n s l c : Nat) : (encL n s l c).drop 56 = beN n 8 := by
  rw [encL_seal, List.drop_append_of_le_length (by rw [sealB_length]; omega), List.drop_of_length_le (by rw [sealB_length]; omega), List.nil_append]
theorem encL_take8 (n s l c : Nat) : (encL n s l c).take 8 = beN n 8 := by
  unfold encL bodyL
  rw [List.append_assoc, List.take_append_of_le_length (by rw [beN_length]; omega), List.take_of_length_le (by rw [beN_length]; omega)]
/-- a list in the midst -/
def mid (D : List UInt8) (a k : Nat) : List UInt8 := (D.drop a).take k
theorem mid_app (A M Z : List UInt8) (a k : Nat) (ha : a = A.length) (hk : k = M.length) : mid (A ++ (M ++ Z)) a k = M := by
  subst ha hk
  unfold mid
  rw [List.drop_append_of_le_length (Nat.le_refl _), List.drop_of_length_le (Nat.le_refl _), List.nil_append, List.take_append_of_le_length (Nat.le_refl _), List.take_of_length_le (Nat.le_refl _)]
def fN (D : List UInt8) : Nat := beV (mid D 0 8)
def fS (D : List UInt8) : Nat := beV (mid D 8 4)
def fL (D : List UInt8) : Nat := beV (mid D 12 4)
def fC (D : List UInt8) : Nat := beV (mid D 16 4)
theorem fN_enc (n s l c : Nat) (h : n < 256 ^ 8) : fN (encL n s l c) = n := by
  unfold fN encL bodyL
  rw [List.append_assoc, ← List.nil_append (beN n 8 ++ _), mid_app [] _ _ 0 8 rfl (by rw [beN_length]), beV_beN_of_lt _ _ h]
theorem fS_enc (n s l c : Nat) (h : s < 256 ^ 4) : fS (encL n s l c) = s := by
  unfold fS encL bodyL
  rw [List.append_assoc, List.append_assoc, mid_app _ _ _ _ _ (by rw [beN_length]) (by rw [beN_length]), beV_beN_of_lt _ _ h]
theorem fL_enc (n s l c : Nat) (h : l < 256 ^ 4) : fL (encL n s l c) = l := by
  unfold fL encL bodyL
  rw [List.append_assoc, List.append_assoc, List.append_assoc, ← List.append_assoc (beN n 8), mid_app _ _ _ _ _ (by simp [beN_length]) (by rw [beN_length]), beV_beN_of_lt _ _ h]
theorem fC_enc (n s l c : Nat) (h : c < 256 ^ 4) : fC (encL n s l c) = c := by
  unfold fC encL bodyL
  rw [List.append_assoc, List.append_assoc, List.append_assoc, List.append_assoc, ← List.append_assoc (beN n 8), ← List.append_assoc (beN n 8 ++ _), mid_app _ _ _ _ _ (by simp [beN_length]) (by rw [beN_length]), beV_beN_of_lt _ _ h]
theorem valid_bounds {n s l c : Nat} (h : validI n s l c = true) : n < 256 ^ 8 ∧ s < 256 ^ 4 ∧ l < 256 ^ 4 ∧ c < 256 ^ 4 := by
  have := validI_iff.1 h
  refine ⟨?_, ?_, ?_, ?_⟩
  · rw [show (256 : Nat) ^ 8 = 18446744073709551616 by decide]; omega
  all_goals
    rw [show (256 : Nat) ^ 4 = 4294967296 by decide]; omega

/-- whether a sector is decoded at a place -/
def decOK (D : List UInt8) (place : Int) : Bool := decide (validI (fN D) (fS D) (fL D) (fC D) = true ∧ encL (fN D) (fS D) (fL D) (fC D) = D ∧ ((fN D : Nat) : Int) % 2 = place % 2)
theorem decOK_iff {D : List UInt8} {p : Int} : decOK D p = true ↔ (validI (fN D) (fS D) (fL D) (fC D) = true ∧ encL (fN D) (fS D) (fL D) (fC D) = D ∧ ((fN D : Nat) : Int) % 2 = p % 2) := by
  unfold decOK; exact decide_eq_true_iff
theorem decOK_enc {n s l c : Nat} {p : Int} (h : validI n s l c = true) : decOK (encL n s l c) p = decide ((n : Int) % 2 = p % 2) := by
  obtain ⟨h1, h2, h3, h4⟩ := valid_bounds h
  unfold decOK
  rw [fN_enc _ _ _ _ h1, fS_enc _ _ _ _ h2, fL_enc _ _ _ _ h3, fC_enc _ _ _ _ h4]
  simp [h]
theorem decOK_len {D : List UInt8} {p : Int} (h : decOK D p = true) : D.length = 64 := by
  have := (decOK_iff.1 h).2.1
  rw [← this, encL_length]
/-- what stands at both ends -/
theorem decOK_ends {D : List UInt8} {p : Int} (h : decOK D p = true) : D.take 8 = beN (fN D) 8 ∧ D.drop 56 = beN (fN D) 8 ∧ 1 ≤ fN D ∧ fN D < 256 ^ 8 ∧ D.take 56 = sealL (bodyL (fN D) (fS D) (fL D) (fC D)) := by
  obtain ⟨h1, h2, h3⟩ := decOK_iff.1 h
  refine ⟨?_, ?_, ?_, (valid_bounds h1).1, ?_⟩
  · have := encL_take8 (fN D) (fS D) (fL D) (fC D); rwa [h2] at this
  · have := encL_drop56 (fN D) (fS D) (fL D) (fC D); rwa [h2] at this
  · have := (validI_iff.1 h1).1; omega
  · have := encL_take56 (fN D) (fS D) (fL D) (fC D); rwa [h2] at this

-- torn writes
theorem take_app_drop (t s : List UInt8) (k j : Nat) (hj : j ≤ k) (ht : k ≤ t.length) : (t.take k ++ s.drop k).take j = t.take j := by
  rw [List.take_append_of_le_length (by simp; omega), List.take_take]; congr 1; omega
theorem drop_app_drop (t s : List UInt8) (k j : Nat) (hj : k ≤ j) (ht : k ≤ t.length) : (t.take k ++ s.drop k).drop j = s.drop j := by
  rw [List.drop_append, List.drop_of_length_le (by simp; omega), List.nil_append, List.drop_drop]; congr 1; simp; omega
theorem torn_old {n0 s0 l0 c0 n s l c k : Nat} {p : Int} (h0 : validI n0 s0 l0 c0 = true) (h1 : validI n s l c = true) (hlt : n0 < n) (hk : k ≤ 64)
    (ht : (encL n s l c).take k ++ (encL n0 s0 l0 c0).drop k ≠ encL n s l c) (hs : (encL n s l c).take k ++ (encL n0 s0 l0 c0).drop k ≠ encL n0 s0 l0 c0) :
    decOK ((encL n s l c).take k ++ (encL n0 s0 l0 c0).drop k) p = false := by
  rw [← Bool.not_eq_true]
  intro h
  obtain ⟨e1, e2, e3, e4, e5⟩ := decOK_ends h
  obtain ⟨b1, _⟩ := valid_bounds h1
  obtain ⟨b0, _⟩ := valid_bounds h0
  have lt := encL_length n s l c
  by_cases hk56 : k ≤ 56
  · rw [drop_app_drop _ _ _ _ hk56 (by omega), encL_drop56] at e2
    have hN := beN_inj b0 e4 e2
    by_cases hk8 : 8 ≤ k
    · rw [take_app_drop _ _ _ _ hk8 (by omega), encL_take8] at e1
      have := beN_inj b1 e4 e1
      omega
    · rw [← hN] at e1
      apply hs
      have e6 : ((encL n s l c).take k ++ (encL n0 s0 l0 c0).drop k).take k = (encL n0 s0 l0 c0).take k := by
        have := congrArg (List.take k) e1
        rw [List.take_take, ← encL_take8 n0 s0 l0 c0, List.take_take] at this
        rwa [show min k 8 = k by omega] at this
      rw [take_app_drop _ _ _ _ (Nat.le_refl _) (by omega)] at e6
      rw [e6, List.take_append_drop]
  · rw [take_app_drop _ _ _ _ (by omega) (by omega), encL_take8] at e1
    have hN := beN_inj b1 e4 e1
    rw [← hN] at e2
    apply ht
    have e7 : ((encL n s l c).take k ++ (encL n0 s0 l0 c0).drop k).drop 56 = (encL n s l c).drop 56 := by rw [e2, encL_drop56]
    have e8 := take_app_drop (encL n s l c) (encL n0 s0 l0 c0) k 56 (by omega) (by omega)
    rw [← List.take_append_drop 56 ((encL n s l c).take k ++ (encL n0 s0 l0 c0).drop k), e7, e8, List.take_append_drop]
theorem torn_fresh {n s l c k : Nat} {p : Int} (h1 : validI n s l c = true) (hk : k ≤ 64)
    (ht : (encL n s l c).take k ++ (List.replicate 64 0).drop k ≠ encL n s l c) :
    decOK ((encL n s l c).take k ++ (List.replicate 64 0).drop k) p = false := by
  rw [← Bool.not_eq_true]
  intro h
  obtain ⟨e1, e2, e3, e4, e5⟩ := decOK_ends h
  obtain ⟨b1, _⟩ := valid_bounds h1
  have lt := encL_length n s l c
  by_cases hk56 : k ≤ 56
  · rw [drop_app_drop _ _ _ _ hk56 (by omega)] at e2
    have e6 : (List.replicate 64 (0 : UInt8)).drop 56 = beN 0 8 := by rw [beN_zero, List.drop_replicate]
    rw [e6] at e2
    have := beN_inj (by decide) e4 e2
    omega
  · rw [take_app_drop _ _ _ _ (by omega) (by omega), encL_take8] at e1
    have hN := beN_inj b1 e4 e1
    rw [← hN] at e2
    apply ht
    have e7 : ((encL n s l c).take k ++ (List.replicate 64 0).drop k).drop 56 = (encL n s l c).drop 56 := by rw [e2, encL_drop56]
    have e8 := take_app_drop (encL n s l c) (List.replicate 64 0) k 56 (by omega) (by omega)
    rw [← List.take_append_drop 56 ((encL n s l c).take k ++ (List.replicate 64 0).drop k), e7, e8, List.take_append_drop]

-- damage
theorem run_inj (Z : List UInt8) {a b : Nat} (ha : a < 2 ^ 32) (hb : b < 2 ^ 32) (h : run a Z = run b Z) : a = b := by
  have h1 := run_xor Z a (a ^^^ b)
  rw [← Nat.xor_assoc, Nat.xor_self, Nat.zero_xor, ← h] at h1
  have h2 : run a Z ^^^ run a Z = run a Z ^^^ (run a Z ^^^ sh (8 * Z.length) (a ^^^ b)) := congrArg (run a Z ^^^ ·) h1
  rw [← Nat.xor_assoc, Nat.xor_self, Nat.zero_xor] at h2
  exact xor_eq_zero.1 (sh_eq_zero _ (Nat.xor_lt_two_pow ha hb) h2.symm)
theorem four {W : List UInt8} (h : W.length = 4) : ∃ a b c d, W = [a, b, c, d] := by
  match W, h with
  | [a, b, c, d], _ => exact ⟨a, b, c, d, rfl⟩
theorem window {A W W' Z : List UInt8} (hw : W.length = 4) (hw' : W'.length = 4) (h : opens (A ++ (W ++ Z)) = true) (h' : opens (A ++ (W' ++ Z)) = true) : W = W' := by
  obtain ⟨a, b, c, d, rfl⟩ := four hw
  obtain ⟨a', b', c', d', rfl⟩ := four hw'
  have e : ∀ l, opens l = true → run ones l = C := fun l h => by
    have h' : 4 ≤ l.length ∧ syn l = 0 := by simpa [opens] using h
    exact (syn_zero h'.1).1 h'.2
  have h1 := (e _ h).trans (e _ h').symm
  rw [run_append, run_append, run_append, run_append, run_word, run_word] at h1
  have hr : run ones A < 2 ^ 32 := run_lt _ ones_lt
  have h2 := run_inj Z (sh_lt 32 (Nat.xor_lt_two_pow hr (word_lt a b c d))) (sh_lt 32 (Nat.xor_lt_two_pow hr (word_lt a' b' c' d'))) h1
  have h3 := sh_inj 32 (Nat.xor_lt_two_pow hr (word_lt a b c d)) (Nat.xor_lt_two_pow hr (word_lt a' b' c' d')) h2
  have h4 : run ones A ^^^ (run ones A ^^^ word a b c d) = run ones A ^^^ (run ones A ^^^ word a' b' c' d') := by rw [h3]
  rw [← Nat.xor_assoc, ← Nat.xor_assoc, Nat.xor_self, Nat.zero_xor, Nat.zero_xor] at h4
  rw [← le4_word a b c d, ← le4_word a' b' c' d', h4]
theorem damage {A W W' Z : List UInt8} {n s l c : Nat} {p : Int} (hv : validI n s l c = true) (hs : encL n s l c = A ++ (W ++ Z)) (hw : W.length = 4) (hw' : W'.length = 4) (hne : W ≠ W') : decOK (A ++ (W' ++ Z)) p = false := by
  rw [← Bool.not_eq_true]
  intro h
  obtain ⟨e1, e2, e3, e4, e5⟩ := decOK_ends h
  obtain ⟨b1, _⟩ := valid_bounds hv
  have hlen := encL_length n s l c
  rw [hs] at hlen
  simp only [List.length_append, hw] at hlen
  have o1 : opens ((A ++ (W' ++ Z)).take 56) = true := by rw [e5]; exact opens_seal _
  have o2 : opens ((A ++ (W ++ Z)).take 56) = true := by rw [← hs, encL_take56]; exact opens_seal _
  by_cases hA : A.length + 4 ≤ 56
  · have t : ∀ V : List UInt8, V.length = 4 → (A ++ (V ++ Z)).take 56 = A ++ (V ++ Z.take (52 - A.length)) := by
      intro V hV
      rw [List.take_append, List.take_of_length_le (by omega), List.take_append, List.take_of_length_le (l := V) (by omega), hV]
      congr 3; omega
    rw [t W' hw'] at o1
    rw [t W hw] at o2
    exact hne (window hw hw' o2 o1)
  · have t8 : ∀ V : List UInt8, (A ++ (V ++ Z)).take 8 = A.take 8 := by
      intro V; rw [List.take_append_of_le_length (by omega)]
    have e6 := encL_take8 n s l c
    rw [hs, t8] at e6
    rw [t8, e6] at e1
    have hN := beN_inj b1 e4 e1
    have e7 := encL_drop56 n s l c
    rw [hs, hN, ← e2] at e7
    -- the sealed parts
    have t52 : ∀ V : List UInt8, (A ++ (V ++ Z)).take 56 = A.take 52 ++ (((A ++ (V ++ Z)).drop 52).take 4 ++ []) := by
      intro V
      rw [List.append_nil, show A.take 52 = (A ++ (V ++ Z)).take 52 by rw [List.take_append_of_le_length (by omega)]]
      rw [← List.take_add]
    rw [t52 W'] at o1
    rw [t52 W] at o2
    have h4 : ∀ V : List UInt8, V.length = 4 → (((A ++ (V ++ Z)).drop 52).take 4).length = 4 := by
      intro V hV
      simp only [List.length_take, List.length_drop, List.length_append, hV]; omega
    have hww := window (h4 W hw) (h4 W' hw') o2 o1
    have h56 : (A ++ (W ++ Z)).take 56 = (A ++ (W' ++ Z)).take 56 := by rw [t52 W, t52 W', hww]
    have hall : A ++ (W ++ Z) = A ++ (W' ++ Z) := by
      rw [← List.take_append_drop 56 (A ++ (W ++ Z)), ← List.take_append_drop 56 (A ++ (W' ++ Z)), h56, e7]
    have := List.append_cancel_left hall
    exact hne ((List.append_inj this (by omega)).1)
end Go.Proofs.Ytonkamdipalbpaa
