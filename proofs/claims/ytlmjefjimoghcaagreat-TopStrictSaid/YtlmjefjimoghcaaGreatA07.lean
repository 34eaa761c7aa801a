/- A part of the proofs of TopCounter and TopStrict: what the functions of the program do, each walked once, and plain laws about it. No condition. -/
import Derived.Test.YtlmjefjimoghcaaGreatA04
namespace Go.Proofs.YtlmjefjimoghcaaGreat.V
set_option linter.unusedSimpArgs false
set_option linter.unnecessarySimpa false
set_option linter.unusedVariables false
open Go.RowKit
/-- the least number with k + 1 bytes -/
def bnd : Nat → Nat
 | 0 => 0
 | k + 1 => bnd k + 2 ^ (7 * (k + 1))
theorem bnd_step (j : Nat) (hj : j < 8) : wrap64 (((bnd j : Nat) : Int) + wrap64 (2 ^ (7 * (j + 1)))) = ((bnd (j + 1) : Nat) : Int) := by
 rcases (by omega : j = 0 ∨ j = 1 ∨ j = 2 ∨ j = 3 ∨ j = 4 ∨ j = 5 ∨ j = 6 ∨ j = 7) with rfl | rfl | rfl | rfl | rfl | rfl | rfl | rfl <;> simp [wrap64, bnd]
theorem bound_walk (k : Nat) (hk : k ≤ 8) (w : World) : Calls Tryz.prog 97 #[.int .i64 k] w fun e w' => e = .returned (.int .i64 (bnd k)) ∧ w = w' := by
 go_enter Tryz.func97, Tryz.ntmps97
 go_wp2_with fail
 go_loop [3, 4] (fun b i => ∃ j : Nat, j ≤ k ∧ i = .int .i64 ((j : Int) + 1) ∧ b = .int .i64 (bnd j)) (fun _ i => k + 1 - (intOf i).toNat)
 case atStart => exact ⟨0, by omega, rfl, rfl⟩
 case round =>
  obtain ⟨j, hj, rfl, rfl⟩ := hrel
  by_cases hlt : j < k
  ·go_wp2_with fail
   go_round
   case rel => exact ⟨j + 1, by omega, by go_num, val_int (bnd_step j (by omega))⟩
   case measure => simp [intOf]; omega
  ·obtain rfl : j = k := by omega
   go_wp2_with fail
   go_ret
   exact ⟨rfl, rfl⟩
/-- how many further bytes a number has -/
def kOf (n : Nat) : Nat := if n < bnd 1 then 0 else if n < bnd 2 then 1 else if n < bnd 3 then 2 else if n < bnd 4 then 3 else if n < bnd 5 then 4 else if n < bnd 6 then 5 else if n < bnd 7 then 6 else if n < bnd 8 then 7 else 8
theorem bnd_mono : ∀ i j : Fin 9, i < j → bnd i < bnd j := by decide
theorem bnd_lt {i j : Nat} (h : i < j) (hj : j ≤ 8) : bnd i < bnd j := bnd_mono ⟨i, by omega⟩ ⟨j, by omega⟩ h
theorem kOf_le (n : Nat) : kOf n ≤ 8 := by unfold kOf; (repeat' split) <;> omega
theorem kOf_spec (n : Nat) : bnd (kOf n) ≤ n ∧ (kOf n = 8 ∨ n < bnd (kOf n + 1)) := by
 unfold kOf
 (repeat' split) <;> simp_all [bnd]
theorem kOf_eq {n k : Nat} (hk : k ≤ 8) (h1 : bnd k ≤ n) (h2 : k = 8 ∨ n < bnd (k + 1)) : kOf n = k := by
 have ⟨h3, h4⟩ := kOf_spec n
 have h5 := kOf_le n
 rcases Nat.lt_trichotomy (kOf n) k with h | h | h
 ·exfalso
  rcases h4 with h4 | h4
  ·omega
  ·have : bnd (kOf n + 1) ≤ bnd k := by
    rcases Nat.lt_or_ge (kOf n + 1) k with h6 | h6
    ·exact Nat.le_of_lt (bnd_lt h6 hk)
    ·rw [show k = kOf n + 1 by omega]; exact Nat.le_refl _
   omega
 ·exact h
 ·exfalso
  rcases h2 with h2 | h2
  ·omega
  ·have : bnd (k + 1) ≤ bnd (kOf n) := by
    rcases Nat.lt_or_ge (k + 1) (kOf n) with h6 | h6
    ·exact Nat.le_of_lt (bnd_lt h6 h5)
    ·rw [show kOf n = k + 1 by omega]; exact Nat.le_refl _
   omega
theorem size_walk (n : Nat) (hn : n < 2 ^ 63) (w : World) : Calls Tryz.prog 96 #[.int .i64 n] w fun e w' => e = .returned (.int .i64 ((kOf n + 1 : Nat) : Int)) ∧ w = w' := by
 have hs := kOf_spec n
 have hl := kOf_le n
 have HS := Lib.hid hs
 clear hs
 go_enter Tryz.func96, Tryz.ntmps96
 go_wp2_with fail
 go_loop [3] (fun i => ∃ j : Nat, j ≤ kOf n ∧ i = .int .i64 j) (fun i => 8 - (intOf i).toNat)
 case atStart => exact ⟨0, by omega, rfl⟩
 case round =>
  obtain ⟨j, hj, rfl⟩ := hrel
  by_cases hlt : j < kOf n
  ·have hb : decide (bnd (j + 1) ≤ n) = true := by
    apply decide_eq_true
    refine Nat.le_trans ?_ HS.out.1
    rcases Nat.lt_or_ge (j + 1) (kOf n) with h6 | h6
    ·exact Nat.le_of_lt (bnd_lt h6 hl)
    ·rw [show kOf n = j + 1 by omega]; exact Nat.le_refl _
   have hb' : bnd (j + 1) ≤ n := of_decide_eq_true hb
   have hj8 : (j : Int) < 8 := by omega
   go_wp2_with (go_at_call 97; refine (bound_walk (j + 1) (by omega) _).mono ?_; rintro e _ ⟨rfl, rfl⟩)
   go_round
   case rel => exact ⟨j + 1, by omega, by go_num⟩
   case measure => simp [intOf]; omega
  ·obtain rfl : j = kOf n := by omega
   by_cases h8 : kOf n = 8
   ·have h8' : ((kOf n : Nat) : Int) = 8 := by omega
    have H8 := Lib.hid h8
    clear h8 h8'
    have h9 : ¬ ((kOf n : Nat) : Int) < 8 := by have := H8.out; omega
    go_wp2_with fail
    go_ret
    exact ⟨ret_int (by omega), rfl⟩
   ·have hb' : ¬ bnd (kOf n + 1) ≤ n := by have := HS.out.2; omega
    have hj8 : ((kOf n : Nat) : Int) < 8 := by omega
    go_wp2_with (go_at_call 97; refine (bound_walk (kOf n + 1) (by omega) _).mono ?_; rintro e _ ⟨rfl, rfl⟩)
    go_ret
    exact ⟨ret_int (by omega), rfl⟩
/-- block B is a row of bytes that begins with l, and none of these is frozen -/
def BRow (w : World) (B : Nat) (l : List UInt8) : Prop :=
 ∃ (cs : Array Value) (fr : Nat × Nat), w.heap[B]? = some (.cells cs 5 fr) ∧ (∀ i, i < l.length → (decide (fr.1 ≤ i) && decide (i < fr.2)) = false) ∧ ∀ i, i < l.length → cs[i]? = some (.int .u8 (((l.getD i 0).toNat : Nat) : Int))
theorem BRow.cell {w : World} {B : Nat} {l : List UInt8} (h : BRow w B l) (i : Nat) (hi : i < l.length) : w.cell? ⟨B, i, none⟩ = some (.int .u8 (((l.getD i 0).toNat : Nat) : Int)) := by
 obtain ⟨cs, fr, h1, h2, h3⟩ := h
 rw [cell_of_row w B i cs _ _ h1, h3 i hi]
theorem BRow.frozen {w : World} {B : Nat} {l : List UInt8} (h : BRow w B l) (i : Nat) (hi : i < l.length) : w.frozen? ⟨B, i, none⟩ = false := by
 obtain ⟨cs, fr, h1, h2, h3⟩ := h
 simp only [World.frozen?, h1]
 exact h2 i hi
theorem BRow.drewN {w : World} {B : Nat} {l : List UInt8} (h : BRow w B l) (n : Nat) : BRow (w.drewN n) B l := h
theorem BRow.drew {w : World} {B : Nat} {l : List UInt8} (h : BRow w B l) : BRow w.drew B l := h
theorem BRow.lt {w : World} {B : Nat} {l : List UInt8} (h : BRow w B l) : B < w.heap.size := by
 obtain ⟨cs, fr, h1, _⟩ := h
 exact (Array.getElem?_eq_some_iff.1 h1).1
theorem BRow.block {w w' : World} {B : Nat} {l : List UInt8} (h : BRow w B l) (e : w'.heap[B]? = w.heap[B]?) : BRow w' B l := by
 obtain ⟨cs, fr, h1, h2⟩ := h
 exact ⟨cs, fr, by rw [e]; exact h1, h2⟩
theorem BRow.set_ {w : World} {B : Nat} {l : List UInt8} (h : BRow w B l) (k : Nat) (hk : k < l.length) (b : UInt8) (x : Int) (hx : x = b.toNat) : BRow (w.setCell ⟨B, k, none⟩ (.int .u8 x)) B (l.set k b) := by
 obtain ⟨cs, fr, h1, h2, h3⟩ := h
 subst hx
 have hcs : k < cs.size := by
  have := h3 k hk
  exact (Array.getElem?_eq_some_iff.1 this).1
 refine ⟨_, fr, heap_setCell_any w B k cs _ _ _ h1, fun i hi => h2 i (by simpa using hi), fun i hi => ?_⟩
 have hi' : i < l.length := by simpa using hi
 rw [Array.getElem?_setIfInBounds, List.getD_eq_getElem?_getD, List.getElem?_set]
 by_cases hik : k = i
 ·subst hik
  rw [if_pos rfl, if_pos hcs, if_pos rfl, if_pos hk]; rfl
 ·rw [if_neg hik, if_neg hik, h3 i hi', List.getD_eq_getElem?_getD]
theorem BRow.str {w : World} {B : Nat} {l : List UInt8} (h : BRow w B l) (cap n : Nat) (hn : n = l.length) : (convert 70 9 (.slice (some ⟨B, 0, none⟩) n cap)).run Tryz.prog w = .ok (.string ⟨l.toArray⟩) w := by
 subst hn
 exact run_convert_bytes_back (P := Tryz.prog) w 70 9 5 ⟨B, 0, none⟩ cap l Tryz.underlying70 Tryz.underlying5 Tryz.underlying9 (by
  intro j hj
  have hadd : (⟨B, 0, none⟩ : Addr).add j = ⟨B, j, none⟩ := by unfold Addr.add; split <;> simp_all
  rw [hadd, h.cell j hj]
  simp [List.getD, hj])
theorem info5 : (Tryz.prog.info? 5).map (fun i => (i.zero, i.size, i.bytes)) = some (some (.int .u8 0), 1, 1) := by kernel_rfl
def zrow (n : Nat) : Array Value := madeCells (Value.cells (.int .u8 0)) n
theorem make_bytes (n : Nat) (hn : n ≤ 1024) (w : World) : (Instr.makeSlice 70 (.int .i64 (n : Int)) (.int .i64 (n : Int))).run Tryz.prog w = .ok (.slice (some ⟨w.heap.size, 0, none⟩) n n) (w.alloc (.cells (zrow n) 5)) := by
 obtain ⟨i, hi, hz, hs, hb⟩ := info_parts info5
 have := run_make (P := Tryz.prog) w 70 5 i (.int .u8 0) Tryz.underlying70 hi hz .i64 .i64 (n : Int) (n : Int) (by omega) (by omega) (by rw [hb]; omega) (by omega)
 rw [hs, Int.toNat_natCast, Nat.mul_one] at this
 exact this
theorem BRow.zeros (w : World) (n : Nat) : BRow (w.alloc (.cells (zrow n) 5)) w.heap.size (List.replicate n 0) := by
 refine ⟨_, _, heap_alloc_new _ _, fun i _ => by simp, fun i hi => ?_⟩
 have hi' : i < n := by simpa using hi
 have hl : (zrow n).toList = List.replicate n (.int .u8 0) := toList_madeCells_one _ _
 rw [← Array.getElem?_toList, hl]
 simp [List.getElem?_replicate, hi', List.getD]
/-- the low m bytes of r, the most significant first -/
def beN (r : Nat) : Nat → List UInt8
 | 0 => []
 | m + 1 => UInt8.ofNat (r / 2 ^ (8 * m)) :: beN r m
theorem beN_length (r m : Nat) : (beN r m).length = m := by
 induction m with
 | zero => rfl
 | succ m ih => simp [beN, ih]
def first (k r : Nat) : UInt8 := UInt8.ofNat (256 - 2 ^ (8 - k) + r / 2 ^ (8 * k))
/-- the bytes of a number -/
def num (n : Nat) : List UInt8 := first (kOf n) (n - bnd (kOf n)) :: beN (n - bnd (kOf n)) (kOf n)
theorem num_length (n : Nat) : (num n).length = kOf n + 1 := by simp [num, beN_length]
theorem rest_lt (n : Nat) (hn : n < 2 ^ 63) : (n - bnd (kOf n)) / 2 ^ (8 * kOf n) < 2 ^ (7 - kOf n) := by
 obtain ⟨h1, h2⟩ := kOf_spec n
 have h3 := kOf_le n
 have h4 : bnd 8 = 72624976668147840 := by decide
 generalize kOf n = k at *
 rcases h2 with rfl | h2
 ·rw [Nat.div_eq_of_lt (by omega)]; decide
 ·rcases (by omega : k = 0 ∨ k = 1 ∨ k = 2 ∨ k = 3 ∨ k = 4 ∨ k = 5 ∨ k = 6 ∨ k = 7 ∨ k = 8) with rfl | rfl | rfl | rfl | rfl | rfl | rfl | rfl | rfl <;> simp [bnd] at h1 h2 ⊢ <;> omega
theorem or_first : ∀ k : Fin 9, ∀ x : Fin 128, x.val < 2 ^ (7 - k.val) → ((65280 / 2 ^ k.val % 256) ||| x.val) = 256 - 2 ^ (8 - k.val) + x.val ∧ 256 - 2 ^ (8 - k.val) + x.val < 256 := by decide +kernel
theorem set_front (j r m : Nat) : (List.replicate (j + 1) (0 : UInt8) ++ beN r m).set j (UInt8.ofNat (r / 2 ^ (8 * m))) = List.replicate j 0 ++ beN r (m + 1) := by
 rw [List.replicate_succ', List.append_assoc, List.set_append_right _ _ (by simp)]
 simp [beN]
theorem size_at (n k : Nat) (hn : n < 2 ^ 63) (hk : kOf n = k) (w : World) : Calls Tryz.prog 96 #[.int .i64 n] w fun e w' => e = .returned (.int .i64 ((k : Int) + 1)) ∧ w = w' := by
 subst hk; exact size_walk n hn w
theorem first_form (k q : Nat) (hk : k ≤ 8) (hq : q < 2 ^ (7 - k)) : bits .or .u8 (65280 / 2 ^ k % 256) ((q : Int) % 256) = ((UInt8.ofNat (256 - 2 ^ (8 - k) + q)).toNat : Int) := by
 have hq128 : q < 128 := Nat.lt_of_lt_of_le hq (Nat.le_trans (Nat.pow_le_pow_right (by decide) (Nat.sub_le _ _)) (by decide))
 obtain ⟨h1, h2⟩ := or_first ⟨k, by omega⟩ ⟨q, hq128⟩ hq
 simp only at h1 h2
 have e1 : ((65280 : Int) / 2 ^ k % 256) = ((65280 / 2 ^ k % 256 : Nat) : Int) := by simp
 have e2 : ((q : Int) % 256) = ((q : Nat) : Int) := by omega
 rw [e1, e2, u8_or_nat _ _ (Nat.mod_lt _ (by decide)) (by omega), h1, UInt8.toNat_ofNat']
 omega
set_option maxRecDepth 10000 in
set_option maxHeartbeats 400000 in
theorem number_walk (n : Nat) (hn : n < 2 ^ 63) (w : World) : Calls Tryz.prog 53 #[.int .i64 n] w fun e w' => e = .returned (.string ⟨(num n).toArray⟩) ∧ Below w.heap.size w w' := by
 obtain ⟨k, hk⟩ : ∃ k, kOf n = k := ⟨_, rfl⟩
 have hk8 : k ≤ 8 := by rw [← hk]; exact kOf_le n
 have hge : bnd k ≤ n := by rw [← hk]; exact (kOf_spec n).1
 obtain ⟨r, hr⟩ : ∃ r, n - bnd k = r := ⟨_, rfl⟩
 have hsub : (n : Int) - (bnd k : Int) = r := by omega
 have hrl : r < 2 ^ 63 := by omega
 have HK := Lib.hid hk
 have HR := Lib.hid hr
 have HSUB := Lib.hid hsub
 have hmk : ∀ W, (Instr.makeSlice 70 (.int .i64 ((k : Int) + 1)) (.int .i64 ((k : Int) + 1))).run Tryz.prog W = .ok (.slice (some ⟨W.heap.size, 0, none⟩) (k + 1) (k + 1)) (W.alloc (.cells (zrow (k + 1)) 5)) := fun W => make_bytes (k + 1) (by omega) W
 clear hk hr hsub
 go_enter Tryz.func53, Tryz.ntmps53
 go_wp2_with fail
 refine (size_at n k hn HK.out _).mono ?_; rintro e _ ⟨rfl, rfl⟩
 go_wp2_with fail
 refine (bound_walk k hk8 _).mono ?_; rintro e _ ⟨rfl, rfl⟩
 go_wp2_with fail
 rw [HSUB.out]
 go_loopw [4, 6] (fun x i wr => ∃ j : Nat, j ≤ k ∧ i = .int .i64 j ∧ x = .int .i64 ((r / 2 ^ (8 * (k - j)) : Nat) : Int) ∧ Below w.heap.size w wr ∧ BRow wr w.heap.size (List.replicate (j + 1) 0 ++ beN r (k - j))) (fun _ i _ => (intOf i).toNat)
 case atStart => exact ⟨k, Nat.le_refl _, rfl, val_int (by simp), (Below.refl _ _).alloc (Nat.le_refl _) _, by simpa [beN] using BRow.zeros w (k + 1)⟩
 case round =>
  obtain ⟨j, hj, rfl, rfl, hb, hB⟩ := hrel
  obtain ⟨q, hq⟩ : ∃ q, r / 2 ^ (8 * (k - j)) = q := ⟨_, rfl⟩
  have hql : q < 2 ^ 63 := by rw [← hq]; exact Nat.lt_of_le_of_lt (Nat.div_le_self _ _) hrl
  have HB := Lib.hid hb
  have HBR := Lib.hid hB
  rw [hq]
  have HQ := Lib.hid hq
  clear hb hq
  by_cases hlt : 0 < j
  ·have hc := hB.cell j (by simp; omega)
   have hf := hB.frozen j (by simp; omega)
   have hj1 : (0 : Int) < j := by omega
   have hjk : (j : Int) ≤ k := by omega
   clear hB
   go_wp2_with fail
   go_roundw
   case rel =>
    refine ⟨j - 1, by omega, val_int (by omega), val_int ?_, HB.out.setCell (Nat.le_refl _) _, ?_⟩
    ·rw [← HQ.out, show 8 * (k - (j - 1)) = 8 * (k - j) + 8 by omega, Nat.pow_add, ← Nat.div_div_eq_div_mul]; simp
    ·have h2 := HBR.out.set_ j (by simp; omega) (UInt8.ofNat (r / 2 ^ (8 * (k - j)))) ((q : Int) % 256) (by rw [HQ.out, UInt8.toNat_ofNat']; omega)
     rw [set_front, show k - j + 1 = k - (j - 1) by omega] at h2
     rw [show j - 1 + 1 = j by omega]
     exact h2
   case measure => simp [intOf]; omega
  ·obtain rfl : j = 0 := by omega
   have hc := hB.cell 0 (by simp)
   have hf := hB.frozen 0 (by simp)
   have hk8' : (k : Int) ≤ 8 := by omega
   have hql2 : q < 2 ^ (7 - k) := by
    have := rest_lt n hn
    rw [HK.out, HR.out] at this
    rw [← HQ.out, Nat.sub_zero]; exact this
   have hX := first_form k q (by omega) hql2
   have hB2 := hB.set_ 0 (by simp) (UInt8.ofNat (256 - 2 ^ (8 - k) + q)) _ hX
   have hl : (List.replicate (0 + 1) (0 : UInt8) ++ beN r (k - 0)).set 0 (UInt8.ofNat (256 - 2 ^ (8 - k) + q)) = num n := by
    unfold num first
    rw [HK.out, HR.out, ← HQ.out]; simp
   rw [hl] at hB2
   have hconv := hB2.str (k + 1) (k + 1) (by rw [num_length, HK.out])
   have HB2 := Lib.hid (HB.out.setCell (p := ⟨w.heap.size, 0, none⟩) (Nat.le_refl _) (.int .u8 (bits .or .u8 (65280 / 2 ^ k % 256) ((q : Int) % 256))))
   clear hB hB2 hl hX hql2
   go_wp2
   go_ret
   exact ⟨rfl, HB2.out⟩
theorem ret_str {a b : ByteArray} (h : a = b) : Ending.returned (.string a) = .returned (.string b) := by rw [h]
def lead (c : Nat) : Nat := if c < 128 then 0 else if c < 192 then 1 else if c < 224 then 2 else if c < 240 then 3 else if c < 248 then 4 else if c < 252 then 5 else if c < 254 then 6 else if c < 255 then 7 else 8
def low (c : Nat) : Nat := c - (256 - 2 ^ (8 - lead c))
theorem fin_low : ∀ c : Fin 256, low c < 2 ^ (7 - lead c) ∧ 256 - 2 ^ (8 - lead c) + low c = c := by decide +kernel
theorem fin_and : ∀ c : Fin 256, ∀ k : Fin 9, (k.val < lead c → (c.val &&& (128 / 2 ^ k.val)) ≠ 0) ∧ (k.val = lead c → k.val < 8 → (c.val &&& (128 / 2 ^ k.val)) = 0) := by decide +kernel
theorem fin_mask : ∀ c : Fin 256, (c.val &&& (127 / 2 ^ lead c)) = low c := by decide +kernel
theorem lead_le (c : Nat) : lead c ≤ 8 := by unfold lead; (repeat' split) <;> omega
/-- the value of the front, its first i further bytes -/
def pv (l : List UInt8) : Nat → Nat
 | 0 => low (l.getD 0 0).toNat
 | i + 1 => pv l i * 256 + (l.getD (i + 1) 0).toNat
def kL (l : List UInt8) : Nat := lead (l.getD 0 0).toNat
/-- the number at the front of bytes, and its size -/
def peekF (l : List UInt8) : Option (Nat × Nat) :=
 if l.length < kL l + 1 then none else if 9223372036854775807 - bnd (kL l) < pv l (kL l) then none else some (pv l (kL l) + bnd (kL l), kL l + 1)
theorem low_lt (b : UInt8) : low b.toNat < 2 ^ (7 - lead b.toNat) := (fin_low ⟨b.toNat, b.toNat_lt⟩).1
theorem pv_lt (l : List UInt8) (i : Nat) : pv l i < 2 ^ (7 - kL l + 8 * i) := by
 induction i with
 | zero => exact low_lt _
 | succ i ih =>
  have hb := (l.getD (i + 1) 0).toNat_lt
  rw [pv, show 7 - kL l + 8 * (i + 1) = (7 - kL l + 8 * i) + 8 by omega, Nat.pow_add]
  omega
theorem pv_lt64 (l : List UInt8) (i : Nat) (hi : i ≤ kL l) : pv l i < 2 ^ 64 := by
 have := lead_le (l.getD 0 0).toNat
 refine Nat.lt_of_lt_of_le (pv_lt l i) (Nat.pow_le_pow_right (by decide) ?_)
 unfold kL at *
 omega
theorem pv_lt56 (l : List UInt8) (i : Nat) (hi : i < kL l) : pv l i < 2 ^ 56 := by
 have := lead_le (l.getD 0 0).toNat
 refine Nat.lt_of_lt_of_le (pv_lt l i) (Nat.pow_le_pow_right (by decide) ?_)
 unfold kL at *
 omega
theorem beN_getD (r : Nat) : ∀ (m i : Nat), i < m → (beN r m).getD i 0 = UInt8.ofNat (r / 2 ^ (8 * (m - 1 - i)))
 | 0, i, h => absurd h (by omega)
 | m + 1, 0, _ => by simp [beN]
 | m + 1, i + 1, h => by
  rw [beN, show m + 1 - 1 - (i + 1) = m - 1 - i by omega, List.getD_cons_succ]
  exact beN_getD r m i (by omega)
theorem pv_div (l : List UInt8) (k : Nat) : ∀ i, i ≤ k → pv l k / 2 ^ (8 * (k - i)) = pv l i := by
 induction k with
 | zero => intro i hi; obtain rfl : i = 0 := by omega
           simp
 | succ k ih =>
  intro i hi
  by_cases h : i = k + 1
  ·subst h; simp
  ·have hb := (l.getD (k + 1) 0).toNat_lt
   rw [← ih i (by omega), pv, show 8 * (k + 1 - i) = 8 + 8 * (k - i) by omega, Nat.pow_add, ← Nat.div_div_eq_div_mul]
   congr 1
   omega
/-- what is read, written again, gives the bytes that were read -/
theorem num_peek (l : List UInt8) (n m : Nat) (h : peekF l = some (n, m)) : n < 2 ^ 63 ∧ m ≤ l.length ∧ 1 ≤ m ∧ m ≤ 9 ∧ l.take m = num n := by
 unfold peekF at h
 split at h
 ·cases h
 ·split at h
  ·cases h
  ·rename_i h1 h2
   simp only [Option.some.injEq, Prod.mk.injEq] at h
   obtain ⟨rfl, rfl⟩ := h
   have h8 := lead_le (l.getD 0 0).toNat
   have hkl : kL l ≤ 8 := h8
   have hpl := pv_lt l (kL l)
   have hb8 : bnd (kL l) ≤ bnd 8 := by
    rcases Nat.lt_or_ge (kL l) 8 with h | h
    ·exact Nat.le_of_lt (bnd_lt h (by omega))
    ·rw [show kL l = 8 by omega]; exact Nat.le_refl _
   have hb8' : bnd 8 = 72624976668147840 := by decide
   have hk : kOf (pv l (kL l) + bnd (kL l)) = kL l := by
    apply kOf_eq hkl (by omega)
    by_cases h9 : kL l = 8
    ·exact .inl h9
    ·right
     rw [bnd]
     have e : 7 - kL l + 8 * kL l = 7 * (kL l + 1) := by omega
     rw [e] at hpl
     omega
   refine ⟨by omega, by omega, by omega, by omega, ?_⟩
   apply List.ext_getElem
   ·rw [num_length, hk, List.length_take]; omega
   ·intro i h3 h4
    have h3' : i < kL l + 1 := by rw [List.length_take] at h3; omega
    have hil : i < l.length := by omega
    rw [List.getElem_take]
    have e1 : l[i] = l.getD i 0 := by simp [List.getD, hil]
    have e2 : (num (pv l (kL l) + bnd (kL l)))[i] = (num (pv l (kL l) + bnd (kL l))).getD i 0 := by simp [List.getD, h4]
    rw [e1, e2, num, hk, Nat.add_sub_cancel]
    match i, h3' with
    | 0, _ =>
     show l.getD 0 0 = first (kL l) (pv l (kL l))
     have e3 := pv_div l (kL l) 0 (by omega)
     rw [Nat.sub_zero] at e3
     unfold first
     rw [e3]
     apply UInt8.toNat_inj.1
     rw [UInt8.toNat_ofNat']
     have := (fin_low ⟨(l.getD 0 0).toNat, (l.getD 0 0).toNat_lt⟩).2
     have hlt := (l.getD 0 0).toNat_lt
     have e4 : 256 - 2 ^ (8 - kL l) + pv l 0 = (l.getD 0 0).toNat := this
     rw [e4]; omega
    | i + 1, h3' =>
     rw [List.getD_cons_succ, beN_getD _ _ _ (by omega)]
     have e3 := pv_div l (kL l) (i + 1) (by omega)
     rw [show kL l - 1 - i = kL l - (i + 1) by omega, e3]
     apply UInt8.toNat_inj.1
     rw [UInt8.toNat_ofNat', pv]
     have := (l.getD (i + 1) 0).toNat_lt
     omega
/-- block B is a reader with these bytes left and this error -/
def IsR (w : World) (B : Nat) (b : ByteArray) (er : Int) : Prop := w.heap[B]? = some (.cells #[.string b, .int .i64 er] 147 (0, 0))
theorem IsR.cell0 {w B b er} (h : IsR w B b er) : w.cell? ⟨B, 0, none⟩ = some (.string b) := by
 rw [cell_of_row w B 0 _ _ _ h]; rfl
theorem IsR.cell1 {w B b er} (h : IsR w B b er) : w.cell? ⟨B, 1, none⟩ = some (.int .i64 er) := by
 rw [cell_of_row w B 1 _ _ _ h]; rfl
theorem IsR.frozen {w B b er} (h : IsR w B b er) (i : Nat) : w.frozen? ⟨B, i, none⟩ = false := by
 have h' : w.heap[B]? = some (.cells #[.string b, .int .i64 er] 147 (0, 0)) := h
 simp only [World.frozen?, h']
 simp
theorem IsR.set0 {w B b er} (h : IsR w B b er) (c : ByteArray) : IsR (w.setCell ⟨B, 0, none⟩ (.string c)) B c er := by
 have := heap_setCell_any w B 0 _ _ _ (.string c) h
 exact this
theorem IsR.set1 {w B b er} (h : IsR w B b er) (c : Int) : IsR (w.setCell ⟨B, 1, none⟩ (.int .i64 c)) B b c := by
 have := heap_setCell_any w B 1 _ _ _ (.int .i64 c) h
 exact this
theorem IsR.new (w : World) (b er) : IsR (w.alloc (.cells #[.string b, .int .i64 er] 147)) w.heap.size b er := heap_alloc_new _ _
/-- nothing below B is changed -/
def Frm (B : Nat) (w w' : World) : Prop := Touch (fun k => k = B) w w'
theorem Frm.refl (B w) : Frm B w w := Touch.refl _ _
theorem Frm.set (B : Nat) (w : World) (i : Nat) (v : Value) : Frm B w (w.setCell ⟨B, i, none⟩ v) := Touch.setCell (S := fun k => k = B) (a := w) (b := w) (p := ⟨B, i, none⟩) (Touch.refl _ _) (.inl rfl) v
theorem Frm.touch {B : Nat} {w w' : World} (h : Frm B w w') : Touch (fun k => k = B) w w' := h
theorem fail_walk (B b er) (x : Int) (w : World) (h : IsR w B b er) : Calls Tryz.prog 94 #[.pointer (some ⟨B, 0, none⟩), .int .i64 x] w fun e w' => e = .returned (.tuple #[]) ∧ IsR w' B b x ∧ Frm B w w' := by
 have HR := Lib.hid h
 have hc := h.cell1
 have hf := h.frozen 1
 clear h
 go_enter Tryz.func94, Tryz.ntmps94
 go_wp2_with fail
 go_end0
 exact ⟨rfl, HR.out.set1 x, Frm.set _ _ _ _⟩
theorem left_walk (B b er) (w : World) (h : IsR w B b er) : Calls Tryz.prog 51 #[.pointer (some ⟨B, 0, none⟩)] w fun e w' => e = .returned (.int .i64 b.size) ∧ w = w' := by
 have hc := h.cell0
 clear h
 go_enter Tryz.func51, Tryz.ntmps51
 go_wp2_with fail
 go_ret
 exact ⟨rfl, rfl⟩
theorem err_walk (B b er) (w : World) (h : IsR w B b er) : Calls Tryz.prog 48 #[.pointer (some ⟨B, 0, none⟩)] w fun e w' => e = .returned (.int .i64 er) ∧ w = w' := by
 have hc := h.cell1
 clear h
 go_enter Tryz.func48, Tryz.ntmps48
 go_wp2_with fail
 go_ret
 exact ⟨rfl, rfl⟩
theorem new_walk (b) (w : World) : Calls Tryz.prog 46 #[.string b] w fun e w' => e = .returned (.pointer (some ⟨w.heap.size, 0, none⟩)) ∧ IsR w' w.heap.size b 0 ∧ Frm w.heap.size w w' := by
 go_enter Tryz.func46, Tryz.ntmps46
 go_wp2_with fail
 go_ret
 exact ⟨rfl, IsR.new _ _ _, (Touch.refl _ _).alloc _⟩
theorem size_list (b : ByteArray) (l : List UInt8) (h : b.data.toList = l) : b.size = l.length := by
 rw [← h]; rfl
theorem get_list (b : ByteArray) (l : List UInt8) (h : b.data.toList = l) (i : Nat) (hi : i < b.size) : b[i] = l.getD i 0 := by
 subst h
 have hi' : i < b.data.toList.length := hi
 rw [List.getD_eq_getElem?_getD, List.getElem?_eq_getElem hi']
 rfl
theorem bnd_le8 (k : Nat) (hk : k ≤ 8) : bnd k ≤ 72624976668147840 := by
 rcases Nat.lt_or_ge k 8 with h | h
 ·exact Nat.le_of_lt (bnd_lt h (by omega))
 ·rw [show k = 8 by omega]; decide
theorem u64_id (x : Int) (h0 : 0 ≤ x) (h1 : x < 18446744073709551616) : IntKind.u64.wrap x = x := by
 simp [IntKind.wrap, IntKind.bits, IntKind.signed]; omega
theorem or_byte (p : Nat) (x : UInt8) (hp : p < 2 ^ 56) : bits BinOp.or IntKind.u64 ((p : Int) * 256) (x.toNat : Int) = ((p * 256 + x.toNat : Nat) : Int) := by
 have hx := x.toNat_lt
 rw [show ((p : Int) * 256) = ((p * 256 : Nat) : Int) by simp, u64_or_nat _ _ (by omega) (by omega)]
 have := Nat.two_pow_add_eq_or_of_lt (i := 8) (b := x.toNat) (by omega) p
 rw [show p * 256 = 2 ^ 8 * p by omega, this]
def peekE : Option (Nat × Nat) → Ending
 | none => .returned (.tuple #[.int .i64 0, .int .i64 0, .bool false])
 | some (n, m) => .returned (.tuple #[.int .i64 n, .int .i64 m, .bool true])
set_option maxRecDepth 10000 in
set_option maxHeartbeats 400000 in
theorem peek_walk (B b er) (l : List UInt8) (hl : b.data.toList = l) (r : Option (Nat × Nat)) (hr : peekF l = r) (w : World) (h : IsR w B b er) : Calls Tryz.prog 127 #[.pointer (some ⟨B, 0, none⟩)] w fun e w' => e = peekE r ∧ w = w' := by
 have hc := h.cell0
 have HL := Lib.hid hl
 have HP := Lib.hid hr
 clear h hl hr
 by_cases h0 : b = ⟨#[]⟩
 ·subst h0
  have H0 : r = none := by rw [← HP.out, ← HL.out]; rfl
  have H0 := Lib.hid H0
  go_enter Tryz.func127, Tryz.ntmps127
  go_wp2_with fail
  go_ret3
  exact ⟨rfl, rfl⟩
 ·have hs := size_list b l HL.out
  have hpos : 0 < b.size := by
   rcases Nat.eq_zero_or_pos b.size with h | h
   ·exfalso; apply h0; apply ByteArray.ext; exact Array.eq_empty_of_size_eq_zero h
   ·exact h
  have hb0 : b.toList.isEmpty = false := by
   rw [ByteArray.toList_eq, HL.out]
   cases l with
   | nil => exact absurd hpos (by rw [hs]; simp)
   | cons => rfl
  have hg := get_list b l HL.out 0 hpos
  obtain ⟨c, hcq⟩ : ∃ c, (l.getD 0 0) = c := ⟨_, rfl⟩
  rw [hcq] at hg
  have hkl : kL l = lead c.toNat := by rw [← hcq]; rfl
  obtain ⟨k, hk⟩ : ∃ k, kL l = k := ⟨_, rfl⟩
  have hk8 : k ≤ 8 := by rw [← hk]; exact lead_le _
  have hkc : lead c.toNat = k := by rw [← hkl, hk]
  have HS := Lib.hid hs
  have HC := Lib.hid hcq
  have HK := Lib.hid hk
  have HKC := Lib.hid hkc
  have hclt := c.toNat_lt
  clear hs hcq hk hkc hkl
  go_enter Tryz.func127, Tryz.ntmps127
  go_wp2_with fail
  try rw [hg]
  obtain ⟨cn, hcn⟩ : ∃ cn, c.toNat = cn := ⟨_, rfl⟩
  rw [hcn] at hclt ⊢
  have HCN := Lib.hid hcn
  clear hcn hg
  go_loop [6] (fun i => ∃ j : Nat, j ≤ k ∧ i = .int .i64 j) (fun i => 8 - (intOf i).toNat)
  case atStart => exact ⟨0, by omega, rfl⟩
  case round =>
   obtain ⟨j, hj, rfl⟩ := hrel
   by_cases hlt : j < k
   ·have hj8 : (j : Int) < 8 := by omega
    have hne : ¬ bits BinOp.and IntKind.u8 (cn : Int) (128 / 2 ^ j) = 0 := by
     have := (fin_and ⟨cn, hclt⟩ ⟨j, by omega⟩).1 (by simp only; rw [← HCN.out, HKC.out]; exact hlt)
     simp only at this
     rw [show ((128 : Int) / 2 ^ j) = ((128 / 2 ^ j : Nat) : Int) by simp, u8_and_nat _ _ hclt (Nat.lt_of_le_of_lt (Nat.div_le_self _ _) (by decide))]
     omega
    go_wp2_with fail
    go_round
    case rel => exact ⟨j + 1, by omega, by go_num⟩
    case measure => simp [intOf]; omega
   ·obtain rfl : j = k := by omega
    by_cases hlen : b.size < j + 1
    ·have hlen' : (b.size : Int) < (j : Int) + 1 := by omega
     have HN : r = none := by rw [← HP.out]; unfold peekF; rw [HK.out, if_pos (by rw [← HS.out]; exact hlen)]
     by_cases h8 : (j : Int) < 8
     ·have heq : bits BinOp.and IntKind.u8 (cn : Int) (128 / 2 ^ j) = 0 := by
       have := (fin_and ⟨cn, hclt⟩ ⟨j, by omega⟩).2 (by simp only; rw [← HCN.out, HKC.out]) (by simp only; omega)
       simp only at this
       rw [show ((128 : Int) / 2 ^ j) = ((128 / 2 ^ j : Nat) : Int) by simp, u8_and_nat _ _ hclt (Nat.lt_of_le_of_lt (Nat.div_le_self _ _) (by decide)), this]
       rfl
      have HN := Lib.hid HN
      go_wp2_with fail
      go_ret3
      try rw [HN.out]
      exact ⟨rfl, rfl⟩
     ·have HN := Lib.hid HN
      go_wp2_with fail
      go_ret3
      try rw [HN.out]
      exact ⟨rfl, rfl⟩
    ·have hlen' : ¬ (b.size : Int) < (j : Int) + 1 := by omega
     obtain ⟨p0, hp0⟩ : ∃ p0, pv l 0 = p0 := ⟨_, rfl⟩
     have hlow : bits BinOp.and IntKind.u8 (cn : Int) (127 / 2 ^ j) = (p0 : Int) := by
      have := fin_mask ⟨cn, hclt⟩
      simp only at this
      rw [← HCN.out, HKC.out, HCN.out] at this
      rw [show ((127 : Int) / 2 ^ j) = ((127 / 2 ^ j : Nat) : Int) by simp, u8_and_nat _ _ hclt (Nat.lt_of_le_of_lt (Nat.div_le_self _ _) (by decide)), this, ← hp0, pv, HC.out, HCN.out]
     have hp256 : p0 < 256 := by
      rw [← hp0, pv]
      have := low_lt (l.getD 0 0)
      exact Nat.lt_of_lt_of_le this (Nat.le_trans (Nat.pow_le_pow_right (by decide) (Nat.sub_le _ _)) (by decide))
     have HP0 := Lib.hid hp0
     clear hp0
     have hstop : ((j : Int) < 8 ∧ bits BinOp.and IntKind.u8 (cn : Int) (128 / 2 ^ j) = 0) ∨ ¬ (j : Int) < 8 := by
      by_cases h8 : (j : Int) < 8
      ·refine .inl ⟨h8, ?_⟩
       have := (fin_and ⟨cn, hclt⟩ ⟨j, by omega⟩).2 (by simp only; rw [← HCN.out, HKC.out]) (by simp only; omega)
       simp only at this
       rw [show ((128 : Int) / 2 ^ j) = ((128 / 2 ^ j : Nat) : Int) by simp, u8_and_nat _ _ hclt (Nat.lt_of_le_of_lt (Nat.div_le_self _ _) (by decide)), this]
       rfl
      ·exact .inr h8
     rcases hstop with ⟨h8, heq⟩ | h8
     all_goals
      go_wp2_with fail
      try clear heq
      clear hlow h8
      go_loop [7, 8] (fun n i => ∃ m : Nat, 1 ≤ m ∧ m ≤ j + 1 ∧ i = .int .i64 m ∧ n = .int .u64 (pv l (m - 1) : Nat)) (fun _ i => 9 - (intOf i).toNat)
      case atStart => exact ⟨1, by omega, by omega, rfl, val_int (by rw [← HP0.out])⟩
      case round =>
       obtain ⟨m, hm1, hm2, rfl, rfl⟩ := hrel
       by_cases hlt : m ≤ j
       ·have hp56 := pv_lt56 l (m - 1) (by rw [HK.out]; omega)
        have hmb : m < b.size := by omega
        have hgm := get_list b l HL.out m hmb
        obtain ⟨x, hx⟩ : ∃ x, l.getD m 0 = x := ⟨_, rfl⟩
        obtain ⟨p, hp⟩ : ∃ p, pv l (m - 1) = p := ⟨_, rfl⟩
        have hxl := x.toNat_lt
        rw [hx] at hgm
        rw [hp] at hp56 ⊢
        have HX := Lib.hid hx
        have HPP := Lib.hid hp
        have hmj : (m : Int) ≤ j := by omega
        clear hx hp
        go_wp2_with fail
        go_round
        case rel => exact ⟨m + 1, by omega, by omega, by go_num, val_int (by rw [or_byte p x hp56, ← HPP.out, ← HX.out]; show _ = ((pv l m : Nat) : Int); obtain ⟨m, rfl⟩ : ∃ m', m = m' + 1 := ⟨m - 1, by omega⟩; rw [Nat.add_sub_cancel]; simp [pv])⟩
        case measure => simp [intOf]; omega
       ·obtain rfl : m = j + 1 := by omega
        have hmj : ¬ ((j + 1 : Nat) : Int) ≤ j := by omega
        have hplt := pv_lt64 l j (by rw [HK.out]; exact Nat.le_refl _)
        rw [Nat.add_sub_cancel]
        obtain ⟨p, hp⟩ : ∃ p, pv l j = p := ⟨_, rfl⟩
        rw [hp] at hplt ⊢
        have HPP := Lib.hid hp
        clear hp
        have hb8 := bnd_le8 j hk8
        have hbw : IntKind.u64.wrap (bnd j : Int) = (bnd j : Int) := u64_id _ (by omega) (by omega)
        have hsw : IntKind.u64.wrap ((9223372036854775807 : Int) - (bnd j : Int)) = (9223372036854775807 : Int) - (bnd j : Int) := u64_id _ (by omega) (by omega)
        by_cases hgt : (9223372036854775807 : Int) - (bnd j : Int) < (p : Int)
        ·have HN : r = none := by
          rw [← HP.out]; unfold peekF; rw [HK.out, if_neg (by rw [← HS.out]; omega), HPP.out, if_pos (by omega)]
         have HN := Lib.hid HN
         go_wp2_with fail
         refine (bound_walk j hk8 _).mono ?_; rintro e _ ⟨rfl, rfl⟩
         go_wp2_with fail
         go_ret3
         first | exact ⟨rfl, rfl⟩ | (rw [HN.out]; exact ⟨rfl, rfl⟩)
        ·have HN : r = some (p + bnd j, j + 1) := by
          rw [← HP.out]; unfold peekF; rw [HK.out, if_neg (by rw [← HS.out]; omega), HPP.out, if_neg (by omega)]
         have HN := Lib.hid HN
         have hpw : IntKind.u64.wrap ((p : Int) + (bnd j : Int)) = (p : Int) + (bnd j : Int) := u64_id _ (by omega) (by omega)
         have hp64 : wrap64 ((p : Int) + (bnd j : Int)) = (p : Int) + (bnd j : Int) := by unfold wrap64; omega
         go_wp2_with fail
         refine (bound_walk j hk8 _).mono ?_; rintro e _ ⟨rfl, rfl⟩
         go_wp2_with fail
         go_ret3
         first | exact ⟨rfl, rfl⟩ | (rw [HN.out]; exact ⟨rfl, rfl⟩)
end Go.Proofs.YtlmjefjimoghcaaGreat.V
