/- A part of the proofs of TopCounter and TopStrict: what the functions of the program do, each walked once, and plain laws about it. No condition. -/
import Derived.BigQuiet
import Derived.Deep.Cut
import Derived.Deep.DrawnRows
import Derived.Deep.QuietTactic
import Derived.Deep.RegionHeld3
import Derived.DeepKeys4
import Derived.IntWalk
import Derived.Laws.AppendOwn
import Derived.Laws.IdiomStrings
import Derived.Lib.Hide
import Derived.LoopTactic
import Derived.MapKept
import Derived.OpenShut
import Derived.Outline
import Derived.ProofKit
import Derived.Test.YtlmjefjimoghcaaGreatRows
import Derived.WalkKit
import Derived.WalkLawsBesides
import Derived.WideLaws
import Derived.StillTail
import Derived.Laws.CopyRow
import Derived.Lib.SliceRun
namespace Go.Proofs.YtlmjefjimoghcaaGreat
set_option linter.unusedSimpArgs false
set_option linter.unnecessarySimpa false
set_option linter.unusedVariables false
set_option maxRecDepth 100000
def numL (l : List UInt8) : Nat := l.foldl (fun a b => a * 256 + b.toNat) 0
theorem numL_snoc (l : List UInt8) (b : UInt8) : numL (l ++ [b]) = numL l * 256 + b.toNat := by simp [numL]
theorem snoc_cases {α : Type} (l : List α) : l = [] ∨ ∃ p x, l = p ++ [x] := by
 rcases List.eq_nil_or_concat l with h | ⟨p, x, h⟩
 ·exact .inl h
 ·exact .inr ⟨p, x, by simpa using h⟩
theorem snoc_rec {α : Type} {P : List α → Prop} (h0 : P []) (h1 : ∀ l x, P l → P (l ++ [x])) : ∀ l, P l := by
 intro l
 have : ∀ n, ∀ l : List α, l.length = n → P l := by
  intro n
  induction n with
  | zero => intro l hl; rw [List.length_eq_zero_iff.1 hl]; exact h0
  | succ n ih =>
   intro l hl
   rcases snoc_cases l with h | ⟨p, x, rfl⟩
   ·subst h; simp at hl
   ·exact h1 p x (ih p (by simpa using hl))
 exact this l.length l rfl
theorem numL_lt (l : List UInt8) : numL l < 256 ^ l.length := by
 induction l using snoc_rec with
 | h0 => simp [numL]
 | h1 l b ih =>
  rw [numL_snoc, List.length_append, List.length_singleton, Nat.pow_succ]
  have := b.toNat_lt
  omega
/-- 1 is added to the bytes that were put out -/
def incR : List UInt8 → List UInt8
 | [] => []
 | b :: r => if b = 255 then 0 :: incR r else (b + 1) :: r
def carryL (l : List UInt8) : List UInt8 := (incR l.reverse).reverse
theorem incR_length : ∀ l : List UInt8, (incR l).length = l.length
 | [] => rfl
 | b :: r => by unfold incR; split <;> simp [incR_length r]
theorem carryL_length (l : List UInt8) : (carryL l).length = l.length := by simp [carryL, incR_length]
theorem carryL_snoc (l : List UInt8) (b : UInt8) : carryL (l ++ [b]) = if b = 255 then carryL l ++ [0] else l ++ [b + 1] := by
 unfold carryL
 rw [List.reverse_append]
 show (if b = 255 then 0 :: incR l.reverse else (b + 1) :: l.reverse).reverse = _
 split <;> simp
theorem carryL_num (l : List UInt8) (h : numL l + 1 < 256 ^ l.length) : numL (carryL l) = numL l + 1 := by
 induction l using snoc_rec with
 | h0 => simp [numL] at h
 | h1 l b ih =>
  rw [numL_snoc, List.length_append, List.length_singleton, Nat.pow_succ] at h
  have hb := b.toNat_lt
  rw [carryL_snoc, numL_snoc]
  split
  ·rename_i e
   subst e
   have e255 : (255 : UInt8).toNat = 255 := rfl
   rw [e255] at h ⊢
   rw [numL_snoc, ih (by omega)]
   have e0 : (0 : UInt8).toNat = 0 := rfl
   rw [e0]; omega
  ·rename_i e
   have hne : b.toNat ≠ 255 := fun h => e (UInt8.toNat_inj.1 h)
   rw [numL_snoc, UInt8.toNat_add]
   have e1 : (1 : UInt8).toNat = 1 := rfl
   rw [e1, Nat.mod_eq_of_lt (by omega)]
   omega
/-- the encoder -/
structure Enc where
 out : List UInt8
 low : Nat
 size : Nat
def clampP (z : Int) : Nat := (min (max z 1) 2047).toNat
theorem clampP_b (z : Int) : 1 ≤ clampP z ∧ clampP z ≤ 2047 := by unfold clampP; omega
def bndP (size : Nat) (z : Int) : Nat := size / 2048 * clampP z
theorem bndP_b {size : Nat} (z : Int) (h : 2 ^ 24 ≤ size) : 2 ^ 13 ≤ bndP size z ∧ bndP size z + 2 ^ 13 ≤ size := by
 have hc := clampP_b z
 unfold bndP
 have h1 : 2 ^ 13 ≤ size / 2048 := by omega
 have h2 : size / 2048 * 2048 ≤ size := Nat.div_mul_le_self _ _
 generalize size / 2048 = q at h1 h2
 obtain ⟨c, hcc⟩ : ∃ c, clampP z = c := ⟨_, rfl⟩
 rw [hcc] at hc ⊢
 have h3 : q * 1 ≤ q * c := Nat.mul_le_mul_left _ hc.1
 have h4 : q * c ≤ q * 2047 := Nat.mul_le_mul_left _ hc.2
 omega
def normE1 (e : Enc) : Enc := ⟨e.out ++ [UInt8.ofNat (e.low / 2 ^ 24)], e.low * 256 % 2 ^ 32, e.size * 256⟩
def normE (e : Enc) : Enc := if e.size < 2 ^ 24 then (if (normE1 e).size < 2 ^ 24 then normE1 (normE1 e) else normE1 e) else e
def stepE (e : Enc) (z : Int) (bit : Bool) : Enc :=
 if bit then (if 2 ^ 32 ≤ e.low + bndP e.size z then ⟨carryL e.out, e.low + bndP e.size z - 2 ^ 32, e.size - bndP e.size z⟩ else ⟨e.out, e.low + bndP e.size z, e.size - bndP e.size z⟩)
 else ⟨e.out, e.low, bndP e.size z⟩
def bitE (e : Enc) (z : Int) (bit : Bool) : Enc := normE (stepE e z bit)
def be4 (n : Nat) : List UInt8 := [UInt8.ofNat (n / 2 ^ 24), UInt8.ofNat (n / 2 ^ 16), UInt8.ofNat (n / 2 ^ 8), UInt8.ofNat n]
def finE (e : Enc) : List UInt8 := e.out ++ be4 e.low
def newE : Enc := ⟨[], 0, 2 ^ 32 - 1⟩
/-- what holds of an encoder -/
structure EOk (e : Enc) : Prop where
 s0 : 2 ^ 24 ≤ e.size
 s1 : e.size < 2 ^ 32
 l : e.low < 2 ^ 32
 top : numL e.out * 2 ^ 32 + e.low + e.size ≤ 256 ^ (e.out.length + 4)
theorem newE_ok : EOk newE := ⟨by decide, by decide, by decide, by decide⟩
def valE (e : Enc) : Nat := numL e.out * 2 ^ 32 + e.low
theorem valE_mk (o : List UInt8) (l s : Nat) : valE ⟨o, l, s⟩ = numL o * 2 ^ 32 + l := rfl
theorem valE_eq (e : Enc) : valE e = numL e.out * 2 ^ 32 + e.low := rfl
/-- between the bit and the shifts -/
structure EMid (e : Enc) : Prop where
 s0 : 2 ^ 13 ≤ e.size
 s1 : e.size < 2 ^ 32
 l : e.low < 2 ^ 32
 top : numL e.out * 2 ^ 32 + e.low + e.size ≤ 256 ^ (e.out.length + 4)
theorem stepE_mid {e : Enc} (h : EOk e) (z : Int) (bit : Bool) : EMid (stepE e z bit) ∧ (stepE e z bit).out.length = e.out.length ∧ valE (stepE e z bit) = valE e + (if bit then bndP e.size z else 0) ∧ (stepE e z bit).size = if bit then e.size - bndP e.size z else bndP e.size z := by
 have hb := bndP_b z h.s0
 have h1 := h.s1
 have hl := h.l
 have ht := h.top
 unfold stepE
 obtain ⟨t, htt⟩ : ∃ t, 256 ^ (e.out.length + 4) = t := ⟨_, rfl⟩
 obtain ⟨n, hnn⟩ : ∃ n, numL e.out = n := ⟨_, rfl⟩
 cases bit with
 | false =>
  refine ⟨⟨hb.1, ?_, hl, ?_⟩, rfl, ?_, rfl⟩
  ·simp only [Bool.false_eq_true, if_false]
   omega
  ·simp only [Bool.false_eq_true, if_false]
   rw [htt] at ht ⊢
   omega
  ·simp [valE]
 | true =>
  simp only [if_true]
  by_cases hc : 2 ^ 32 ≤ e.low + bndP e.size z
  ·rw [if_pos hc]
   have hn : numL e.out + 1 < 256 ^ e.out.length ∨ numL e.out + 1 = 256 ^ e.out.length := by have := numL_lt e.out; omega
   have hp : 256 ^ (e.out.length + 4) = 256 ^ e.out.length * 2 ^ 32 := by rw [Nat.pow_add]
   obtain ⟨q, hq⟩ : ∃ q, 256 ^ e.out.length = q := ⟨_, rfl⟩
   rw [hp, hq] at ht
   rw [hq] at hn
   have hlt : numL e.out + 1 < 256 ^ e.out.length := by
    rw [hq]
    rcases hn with h | h
    ·exact h
    ·exfalso
     rw [hnn] at ht h
     omega
   have hcn := carryL_num e.out hlt
   rw [hq] at hlt
   refine ⟨⟨?_, ?_, ?_, ?_⟩, carryL_length _, ?_, rfl⟩
   ·simp only []; omega
   ·simp only []; omega
   ·simp only []; omega
   ·show numL (carryL e.out) * 2 ^ 32 + (e.low + bndP e.size z - 2 ^ 32) + (e.size - bndP e.size z) ≤ 256 ^ ((carryL e.out).length + 4)
    rw [carryL_length, hcn, hp, hq, hnn]
    rw [hnn] at ht
    clear hq hp hn hlt hcn htt hl h1
    generalize bndP e.size z = b at hc hb ⊢
    generalize e.low = lo at ht hc ⊢
    generalize e.size = sz at ht hb ⊢
    generalize (2 : Nat) ^ 32 = K at ht hc ⊢
    have h2 : (n + 1) * K = n * K + K := Nat.succ_mul _ _
    rw [h2]
    generalize n * K = m at ht ⊢
    generalize q * K = r at ht ⊢
    omega
   ·rw [valE_mk, valE_eq, hcn, hnn]
    generalize bndP e.size z = b at hc hb ⊢
    generalize e.low = lo at hc ⊢
    clear ht hl h1 hp hq htt hlt hn
    have : (n + 1) * 2 ^ 32 = n * 2 ^ 32 + 2 ^ 32 := Nat.succ_mul _ _
    rw [this]
    generalize n * 2 ^ 32 = m
    omega
  ·rw [if_neg hc]
   refine ⟨⟨?_, ?_, ?_, ?_⟩, rfl, ?_, rfl⟩
   ·simp only []; omega
   ·simp only []; omega
   ·simp only []; omega
   ·simp only []
    rw [htt] at ht ⊢
    omega
   ·rw [valE_mk, valE_eq]
    omega
theorem normE1_val {e : Enc} (hl : e.low < 2 ^ 32) : valE (normE1 e) = valE e * 256 ∧ (normE1 e).out.length = e.out.length + 1 ∧ (normE1 e).size = e.size * 256 ∧ (normE1 e).low < 2 ^ 32 := by
 refine ⟨?_, by simp [normE1], rfl, Nat.mod_lt _ (by decide)⟩
 unfold normE1
 rw [valE_mk, valE_eq, numL_snoc]
 have hb : (UInt8.ofNat (e.low / 2 ^ 24)).toNat = e.low / 2 ^ 24 := by rw [UInt8.toNat_ofNat']; omega
 rw [hb]
 generalize numL e.out = n
 omega
theorem mid_norm1 {e : Enc} (h : EMid e) (hs : e.size < 2 ^ 24) : EMid (normE1 e) := by
 obtain ⟨h1, h2, h3, h4⟩ := normE1_val h.l
 have h0 := h.s0
 have ht := h.top
 refine ⟨by rw [h3]; omega, by rw [h3]; omega, h4, ?_⟩
 rw [valE_eq, valE_eq] at h1
 rw [h1, h2, h3, show e.out.length + 1 + 4 = (e.out.length + 4) + 1 by omega, Nat.pow_succ]
 omega
/-- the decoder -/
structure Dec where
 rest : List UInt8
 code : Nat
 size : Nat
 missing : Bool
 full : Bool
def nextD (d : Dec) : Dec := match d.rest with
 | [] => { d with code := d.code * 256 % 2 ^ 32, missing := true }
 | c :: r => { d with code := d.code * 256 % 2 ^ 32 + c.toNat, rest := r }
def normD1 (d : Dec) : Dec := { nextD d with size := d.size * 256 }
def normD (d : Dec) : Dec := if d.size < 2 ^ 24 then (if (normD1 d).size < 2 ^ 24 then normD1 (normD1 d) else normD1 d) else d
def stepD (d : Dec) (z : Int) : Dec := if d.code < bndP d.size z then { d with size := bndP d.size z } else { d with code := d.code - bndP d.size z, size := d.size - bndP d.size z }
def bitOf (d : Dec) (z : Int) : Bool := !decide (d.code < bndP d.size z)
def bitD (d : Dec) (z : Int) : Dec := normD (stepD d z)
def newD (data : List UInt8) : Dec :=
 let d := nextD (nextD (nextD (nextD ⟨data, 0, 2 ^ 32 - 1, false, false⟩)))
 { d with full := decide (d.code = 2 ^ 32 - 1) }
def endD (d : Dec) : Bool := !(d.missing || d.full || !d.rest.isEmpty || d.code != 0)
theorem nextD_full (d : Dec) : (nextD d).full = d.full := by unfold nextD; split <;> rfl
theorem nextD_size (d : Dec) : (nextD d).size = d.size := by unfold nextD; split <;> rfl
end Go.Proofs.YtlmjefjimoghcaaGreat
namespace Go.Proofs.YtlmjefjimoghcaaGreat
set_option linter.unusedSimpArgs false
set_option linter.unnecessarySimpa false
set_option linter.unusedVariables false
open Go.RowKit
attribute [local go_sem ↓] Go.wp_at_zero Go.wp_at_succ
theorem ret_int {k : IntKind} {a b : Int} (h : a = b) : Ending.returned (.int k a) = .returned (.int k b) := by rw [h]
theorem val_int {k : IntKind} {a b : Int} (h : a = b) : Value.int k a = .int k b := by rw [h]
theorem bstep {B : Nat} {a b c : World} (h : Below B a b) (hB : B ≤ a.heap.size) (k : Below b.heap.size b c) : Below B a c := h.trans (k.mono (Nat.le_trans hB h.size))
theorem below_drewN {B : Nat} {a w : World} (h : Below B a w) (n : Nat) : Below B a (w.drewN n) := h.trans ⟨rfl, rfl, rfl, Nat.le_refl _, fun _ _ => rfl⟩
/-- what is written lies in S -/
structure Touch (S : Nat → Prop) (w w' : World) : Prop where
 os : w'.os = w.os
 tape : w'.tape = w.tape
 output : w'.output = w.output
 size : w.heap.size ≤ w'.heap.size
 block : ∀ k, k < w.heap.size → ¬ S k → w'.heap[k]? = w.heap[k]?
/-- S and what was made -/
def grow (S : Nat → Prop) (w w' : World) (k : Nat) : Prop := S k ∨ (w.heap.size ≤ k ∧ k < w'.heap.size)
theorem Touch.refl (S : Nat → Prop) (w : World) : Touch S w w := ⟨rfl, rfl, rfl, Nat.le_refl _, fun _ _ _ => rfl⟩
theorem Touch.trans {S S' : Nat → Prop} {a b c : World} (h : Touch S a b) (k : Touch S' b c) (hS : ∀ i, i < a.heap.size → S' i → S i) : Touch S a c :=
 ⟨k.os.trans h.os, k.tape.trans h.tape, k.output.trans h.output, Nat.le_trans h.size k.size, fun i hi hn =>
  (k.block i (Nat.lt_of_lt_of_le hi h.size) (fun hs => hn (hS i hi hs))).trans (h.block i hi hn)⟩
theorem Touch.mono {S S' : Nat → Prop} {a b : World} (h : Touch S a b) (hS : ∀ i, S i → S' i) : Touch S' a b :=
 ⟨h.os, h.tape, h.output, h.size, fun i hi hn => h.block i hi fun hs => hn (hS i hs)⟩
theorem Touch.below {S : Nat → Prop} {a b : World} (h : Touch S a b) (B : Nat) (hB : B ≤ a.heap.size) (hS : ∀ i, S i → B ≤ i) : Below B a b :=
 ⟨h.os, h.tape, h.output, h.size, fun i hi => h.block i (by omega) fun hs => absurd (hS i hs) (by omega)⟩
theorem Touch.of_below {S : Nat → Prop} {a b : World} (h : Below a.heap.size a b) : Touch S a b := ⟨h.os, h.tape, h.output, h.size, fun i hi _ => h.block i hi⟩
theorem Touch.drew {S : Nat → Prop} {a b : World} (h : Touch S a b) : Touch S a b.drew := ⟨h.os, h.tape, h.output, h.size, h.block⟩
theorem Touch.alloc {S : Nat → Prop} {a b : World} (h : Touch S a b) (o : Obj) : Touch S a (b.alloc o) :=
 h.trans (S' := fun _ => False) (.of_below ((Below.refl _ _).alloc (Nat.le_refl _) o)) fun _ _ h => h.elim
theorem Touch.setCell {S : Nat → Prop} {a b : World} (h : Touch S a b) {p : Addr} (hp : S p.block ∨ a.heap.size ≤ p.block) (v : Value) : Touch S a (b.setCell p v) := by
 have hs : (b.setCell p v).heap.size = b.heap.size := by simp
 refine ⟨h.os, h.tape, h.output, by rw [hs]; exact h.size, fun i hi hn => ?_⟩
 have hne : i ≠ p.block := by
  rintro rfl
  exact hp.elim hn fun hp => absurd hp (by omega)
 exact (Below.heap_setCell b p v i hne).trans (h.block i hi hn)
theorem Touch.grown {S : Nat → Prop} {a b c : World} {row : Option Nat} (h : Touch S a b) (hg : b.grownBy c row) (hrow : ∀ k, row = some k → S k ∨ a.heap.size ≤ k) : Touch S a c :=
 h.trans (S' := fun k => some k = row) ⟨hg.os, hg.tape, hg.output, hg.size, fun k hk hn => hg.block k hk hn⟩ fun i hi he => (hrow i he.symm).elim id fun h => absurd h (by omega)
/-- a row lies on as long as its block does -/
theorem row_of {w w' : World} {e : TypeId} {size : Nat} {v : Value} {n : Nat} {xs : List Value} (h : w.ownsRow 0 e size v n xs) (he : ∀ g, v.ownBlock = some g → w'.heap[g]? = w.heap[g]?) : w'.ownsRow 0 e size v n xs := by
 refine ⟨h.1, ?_⟩
 rcases h.2 with h' | ⟨g, cap, cur, rfl, h0, hg, h1, h2, h3, h4⟩
 ·exact .inl h'
 ·exact .inr ⟨g, cap, cur, rfl, h0, (he g rfl).trans hg, h1, h2, h3, h4⟩
theorem row_block {w : World} {e : TypeId} {size : Nat} {v : Value} {n : Nat} {xs : List Value} (h : w.ownsRow 0 e size v n xs) {g : Nat} (hg : v.ownBlock = some g) : ∃ cur, w.heap[g]? = some (.cells cur e (0, 0)) := by
 rcases h.2 with ⟨rfl, _⟩ | ⟨g', cap, cur, rfl, _, hg', _⟩
 ·simp [Value.ownBlock] at hg
 ·simp [Value.ownBlock] at hg; subst hg; exact ⟨cur, hg'⟩
section
variable {w : World}
/-- a slice that is not empty -/
theorem row_some {e : TypeId} {size : Nat} {v : Value} {n : Nat} {xs : List Value} (h : w.ownsRow 0 e size v n xs) (hn : 0 < n) : ∃ g c, v = .slice (some ⟨g, 0, none⟩) n c ∧ g < w.heap.size ∧ n ≤ c ∧ (∀ j x, xs[j]? = some x → w.cell? ⟨g, j, none⟩ = some x) ∧ (∀ i, w.frozen? ⟨g, i, none⟩ = false) := by
 rcases h.2 with ⟨rfl, rfl⟩ | ⟨g, cap, cur, rfl, _, hg, hc, _, _, ht⟩
 ·omega
 ·refine ⟨g, cap, rfl, (Array.getElem?_eq_some_iff.1 hg).1, hc, fun j x hx => ?_, fun i => by simp [World.frozen?, hg]⟩
  rw [cell_of_row w g j _ _ _ hg]
  rw [← ht, List.getElem?_take] at hx
  split at hx
  ·simpa using hx
  ·cases hx
end
section
variable {P : Program} {ops : Array Oper} {md : Region.Mode} {Q : Exit → Act → World → Prop} {k0 : Nat} {C : World → Prop}
/-- whatever order is picked; behind every operation number k0 is done, or C holds -/
def wpAnyD (P : Program) (md : Region.Mode) (ops : Array Oper) (Q : Exit → Act → World → Prop) (k0 : Nat) (C : World → Prop) : Nat → Array Bool → Act → World → Prop
 | 0, listed, a, w => Region.ready md ops listed = [] ∧ Q .normal a w
 | fuel + 1, listed, a, w =>
  (Region.ready md ops listed = [] → Q .normal a w) ∧
  ∀ i ∈ Region.ready md ops listed, wpOp P ops Q i (fun a' w' => ((listed.setIfInBounds i true).getD k0 false = true ∨ C w') ∧ wpAnyD P md ops Q k0 C fuel (listed.setIfInBounds i true) a' w') a w
theorem wpAny_of_D : ∀ (fuel : Nat) (listed : Array Bool) (a : Act) (w : World), wpAnyD P md ops Q k0 C fuel listed a w → wpAny P md ops Q fuel listed a w
 | 0, _, _, _, h => h
 | fuel + 1, _, _, _, h => ⟨h.1, fun i hi => wpOp_mono (fun a' w' h' => wpAny_of_D fuel _ a' w' h'.2) (h.2 i hi)⟩
theorem wpAnyD_first {i : Nat} {oi : Oper} {v : Value} {S : World → Prop} (hi : ops[i]? = some oi) (hsel : ∀ (j : Nat) (o : Oper) cs b, ops[j]? = some o → o.op ≠ .select cs b)
  (hQ : ∀ c a w, Q (.panic c) (a.put oi.dst v) w → Q (.panic c) a w) (hik : i ≠ k0) :
  ∀ (fuel : Nat) (listed : Array Bool) (a : Act) (w : World), ((listed.getD k0 false = false ∧ (Region.waitsFor md ops k0 i || decide (ops.size ≤ k0)) = true ∧ ∀ w, C w → S w) ∨ ∀ w, S w) →
   (∀ j oj, ops[j]? = some oj → j ≠ i → listed.getD j true = false → (∀ e ∈ oj.after, Region.binds md e = true → e.on ≠ i) → oi.apart ops oj = true) →
   i ∈ Region.ready md ops listed → YieldsIf P ops S oi v a → (listed.getD k0 false = true ∨ C w) →
   wpAnyD P md ops Q k0 C fuel (listed.setIfInBounds i true) (a.put oi.dst v) w → wpAnyD P md ops Q k0 C (fuel + 1) listed a w := by
 have hSw : ∀ (listed : Array Bool) (w : World), ((listed.getD k0 false = false ∧ (Region.waitsFor md ops k0 i || decide (ops.size ≤ k0)) = true ∧ ∀ w, C w → S w) ∨ ∀ w, S w) → (listed.getD k0 false = true ∨ C w) → S w := by
  intro listed w hd hu
  rcases hd with ⟨h1, _, h2⟩ | h
  ·rcases hu with hu | hu
   ·rw [h1] at hu; cases hu
   ·exact h2 w hu
  ·exact h w
 intro fuel
 induction fuel with
 | zero =>
  intro listed a w hd _ hr hy hS H
  refine ⟨fun h => (by rw [h] at hr; cases hr), fun j hj => ?_⟩
  by_cases hji : j = i
  ·subst hji; exact hy.wpOp hi (hSw listed w hd hS) ⟨hS.elim (fun h => Or.inl (getD_set_true h)) Or.inr, H⟩
  ·have := ready_mono hj hji
   rw [H.1] at this
   cases this
 | succ fuel ih =>
  intro listed a w hd hfree hr hy hS H
  refine ⟨fun h => (by rw [h] at hr; cases hr), fun j hj => ?_⟩
  by_cases hji : j = i
  ·subst hji; exact hy.wpOp hi (hSw listed w hd hS) ⟨hS.elim (fun h => Or.inl (getD_set_true h)) Or.inr, H⟩
  ·have h1 := H.2 j (ready_mono hj hji)
   obtain ⟨hjun, oj, hoj, hall⟩ := mem_ready.1 hj
   have hun := (mem_ready.1 hr).1
   have hnot : ∀ e ∈ oj.after, Region.binds md e = true → e.on ≠ i := fun e he hb heq => by
    have h1 := hall e he hb
    rw [heq, getD_both hun] at h1
    cases h1
   have h2 := wpOp_putIf hoj (hfree j oj hoj hji hjun hnot) (fun cs b => hsel i oi cs b hi) (fun cs b => hsel j oj cs b hoj) hQ hy h1
   have hfree' : ∀ k ok, ops[k]? = some ok → k ≠ i → (listed.setIfInBounds j true).getD k true = false →
     (∀ e ∈ ok.after, Region.binds md e = true → e.on ≠ i) → oi.apart ops ok = true := fun k ok hk hki hun hno => by
    refine hfree k ok hk hki ?_ hno
    by_cases hjk : j = k
    ·subst hjk; exact hjun
    ·rw [getD_set_ne true hjk] at hun; exact hun
   have hd' : (((listed.setIfInBounds j true).getD k0 false = false ∧ (Region.waitsFor md ops k0 i || decide (ops.size ≤ k0)) = true ∧ ∀ w, C w → S w) ∨ ∀ w, S w) := by
    rcases hd with ⟨e1, e2, e3⟩ | h
    ·left
     refine ⟨?_, e2, e3⟩
     have hjk : j ≠ k0 := by
      rintro rfl
      rw [Bool.or_eq_true] at e2
      rcases e2 with e2 | e2
      ·obtain ⟨o', ho', e, he, hb, hon⟩ := Region.waitsFor_spec e2
       rw [hoj] at ho'; cases ho'
       exact hnot e he hb hon
      ·have := (Array.getElem?_eq_some_iff.1 hoj).1
       have := of_decide_eq_true e2
       omega
     rw [getD_set_ne false hjk]; exact e1
    ·exact .inr h
   refine wpOp_mono (fun a' w' h3 => ?_) h2
   have hS' : (listed.setIfInBounds j true).getD k0 false = true ∨ C w' := by
    rcases h3.2.1 with h4 | h4
    ·left
     rw [Array.setIfInBounds_comm _ _ (Ne.symm hji), getD_set_ne false hik] at h4
     exact h4
    ·exact .inr h4
   refine ⟨hS', ih (listed.setIfInBounds j true) a' w' hd' hfree' (ready_mono hr (Ne.symm hji)) h3.1 hS' ?_⟩
   rw [Array.setIfInBounds_comm _ _ hji]
   exact h3.2.2
/-- a load is taken first -/
theorem wpAnyD_load {i : Nat} {oi : Oper} {v : Value} {fuel : Nat} {listed : Array Bool} {a : Act} {w : World} {dst : Option Tmp} (hi : ops[i]? = some oi) (hdst : oi.dst = dst)
  (hB : (Region.noSelect ops && Region.free md ops listed i && (Region.ready md ops listed).contains i && (i != k0) && !(listed.getD k0 false) && (Region.waitsFor md ops k0 i || decide (ops.size ≤ k0))) = true)
  (hQ : ∀ c a w, Q (.panic c) (a.put oi.dst v) w → Q (.panic c) a w) (hw : Region.wanted oi (yielded ops a.tmps) = true) (hy : ∀ w, C w → (execOp a.eval oi).run P w = .ok (.value v) w) (hS : listed.getD k0 false = true ∨ C w)
  (h : wpAnyD P md ops Q k0 C fuel (listed.setIfInBounds i true) (a.put dst v) w) : wpAnyD P md ops Q k0 C (fuel + 1) listed a w := by
 subst hdst
 simp only [Bool.and_eq_true, bne_iff_ne, Bool.not_eq_true'] at hB
 obtain ⟨⟨⟨⟨⟨hs, hf⟩, hr⟩, hik⟩, hk⟩, hwt⟩ := hB
 exact wpAnyD_first (S := C) hi (Region.noSelect_spec hs) hQ hik fuel listed a w (.inl ⟨hk, hwt, fun _ h => h⟩) (Region.free_spec hi hf) (by simpa using hr) (.inl ⟨hw, hy⟩) hS h
/-- an operation that touches no memory is taken first -/
theorem wpAnyD_take {i : Nat} {oi : Oper} {v : Value} {fuel : Nat} {listed : Array Bool} {a : Act} {w : World} {dst : Option Tmp} (hi : ops[i]? = some oi) (hdst : oi.dst = dst)
  (hB : (Region.noSelect ops && Region.free md ops listed i && (Region.ready md ops listed).contains i && (i != k0)) = true)
  (hQ : ∀ c a w, Q (.panic c) (a.put oi.dst v) w → Q (.panic c) a w) (hw : Region.wanted oi (yielded ops a.tmps) = true) (hy : ∀ w, (execOp a.eval oi).run P w = .ok (.value v) w) (hS : listed.getD k0 false = true ∨ C w)
  (h : wpAnyD P md ops Q k0 C fuel (listed.setIfInBounds i true) (a.put dst v) w) : wpAnyD P md ops Q k0 C (fuel + 1) listed a w := by
 subst hdst
 simp only [Bool.and_eq_true, bne_iff_ne] at hB
 obtain ⟨⟨⟨hs, hf⟩, hr⟩, hik⟩ := hB
 exact wpAnyD_first (S := fun _ => True) hi (Region.noSelect_spec hs) hQ hik fuel listed a w (.inr fun _ => trivial) (Region.free_spec hi hf) (by simpa using hr) (.inl ⟨hw, fun w _ => hy w⟩) hS h
def AllReadyD (P : Program) (md : Region.Mode) (ops : Array Oper) (Q : Exit → Act → World → Prop) (k0 : Nat) (C : World → Prop) (fuel : Nat) (listed : Array Bool) (a : Act) (w : World) (rs : List Nat) : Prop :=
 ∀ i ∈ rs, wpOp P ops Q i (fun a' w' => ((listed.setIfInBounds i true).getD k0 false = true ∨ C w') ∧ wpAnyD P md ops Q k0 C fuel (listed.setIfInBounds i true) a' w') a w
theorem AllReadyD.nil {fuel : Nat} {listed : Array Bool} {a : Act} {w : World} : AllReadyD P md ops Q k0 C fuel listed a w [] := fun _ h => by cases h
theorem AllReadyD.cons {fuel : Nat} {listed : Array Bool} {a : Act} {w : World} {i : Nat} {o : Oper} {rs : List Nat} (ho : ops[i]? = some o)
  (h : ∀ K' : Act → World → Prop, Shut (∀ a w, ((listed.setIfInBounds i true).getD k0 false = true ∨ C w) → (((listed.setIfInBounds i true).getD k0 false = true ∨ C w) → wpAnyD P md ops Q k0 C fuel (listed.setIfInBounds i true) a w) → K' a w) → if Region.wanted o (yielded ops a.tmps) = true then Oper.wp P o a w K' Q else K' (a.put o.dst undef) w)
  (hs : AllReadyD P md ops Q k0 C fuel listed a w rs) : AllReadyD P md ops Q k0 C fuel listed a w (i :: rs) := fun j hj => by
 rcases List.mem_cons.1 hj with rfl | hj
 ·exact wpOp_step ho (fun K' hK => h K' (fun a w hS hW => hK a w ⟨hS, hW hS⟩))
 ·exact hs j hj
theorem wpAnyD_ready {rs : List Nat} {fuel : Nat} {listed : Array Bool} {a : Act} {w : World} (hr : Region.ready md ops listed = rs) (hne : rs ≠ [])
  (h : AllReadyD P md ops Q k0 C fuel listed a w rs) : wpAnyD P md ops Q k0 C (fuel + 1) listed a w := ⟨fun h0 => absurd (hr ▸ h0) hne, hr ▸ h⟩
theorem wpAnyD_done {listed : Array Bool} {a : Act} {w : World} (hr : Region.ready md ops listed = []) (h : Q .normal a w) :
  ∀ fuel, wpAnyD P md ops Q k0 C fuel listed a w
 | 0 => ⟨hr, h⟩
 | _ + 1 => ⟨fun _ => h, by rw [hr]; simp⟩
theorem wp_region_D {id : Nat} {a : Act} {w : World} (k0 : Nat) (C : World → Prop) (hm : P.follows .mixedOrders = true) (hC : C w.drew)
  (h : (∀ l : Array Bool, l.getD k0 false = true ∨ C w.drew) → wpAnyD P .any ops Q k0 C ops.size (Array.replicate ops.size false) a w.drew) : (Code.region id ops true).wp P Q a w :=
 wp_region_any hm (wpAny_of_D _ _ _ _ (h fun _ => .inr hC))
theorem shut_C {K' : Act → World → Prop} {X : Prop} {C : World → Prop} {R : Act → World → Prop} (hK : Shut (∀ a w, (X ∨ C w) → ((X ∨ C w) → R a w) → K' a w)) {a : Act} {w : World} (hc : C w) (h : C w → R a w) : K' a w := hK.out a w (.inr hc) (fun _ => h hc)
theorem shut_K {K' : Act → World → Prop} {X : Prop} {C : World → Prop} {R : Act → World → Prop} (hK : Shut (∀ a w, (X ∨ C w) → ((X ∨ C w) → R a w) → K' a w)) {a : Act} {w : World} (hx : X) (h : R a w) : K' a w := hK.out a w (.inl hx) (fun _ => h)
end
theorem add_block (a : Addr) (i : Nat) : (a.add i).block = a.block := by unfold Addr.add; split <;> rfl
theorem wrap_small {n : Int} (h : -9223372036854775808 ≤ n) (h' : n ≤ 9223372036854775807) : wrap64 n = n := by
 unfold wrap64; omega
/-- cells behind an address -/
def Flat (w : World) (T : Nat → Prop) (A : Option Addr) (xs : List Value) : Prop := ∀ j u, xs[j]? = some u → ∃ a, A = some a ∧ T a.block ∧ w.cell? (a.add j) = some u
theorem Flat.frame {w w' : World} {T : Nat → Prop} {A : Option Addr} {l : List Value} (h : Flat w T A l) (hf : ∀ k, T k → k < w.heap.size → w'.heap[k]? = w.heap[k]?) : Flat w' T A l := fun j u hj => by
 obtain ⟨a, h1, h2, h3⟩ := h j u hj
 have hl := World.block_lt_of_cell? w _ h3
 rw [add_block] at hl
 exact ⟨a, h1, h2, (World.cell?_of_block (by rw [add_block]; exact hf _ h2 hl)).trans h3⟩
theorem Flat.mono {w : World} {T T' : Nat → Prop} {A : Option Addr} {l : List Value} (h : Flat w T A l) (hT : ∀ k, T k → T' k) : Flat w T' A l := fun j u hj => by
 obtain ⟨a, h1, h2, h3⟩ := h j u hj
 exact ⟨a, h1, hT _ h2, h3⟩
theorem get_default {α : Type} [Inhabited α] {l : List α} {i : Nat} (hi : i < l.length) : l[i]? = some (l.getD i default) := by
 rw [List.getD_eq_getElem?_getD, List.getElem?_eq_getElem hi]; rfl
theorem add_succ (a : Addr) (i j : Nat) (hj : 0 < j) : (⟨(a.add i).block, (a.add i).off + j, none⟩ : Addr) = a.add (i + j) := by
 unfold Addr.add
 split
 ·rename_i h; subst h
  rw [if_neg (by omega)]; simp
 ·rw [if_neg (by omega)]; simp; omega
theorem row_flat {w : World} {B : Nat} {e : TypeId} {size : Nat} {A : Option Addr} {n c : Nat} {xs : List Value} (h : w.ownsRow B e size (.slice A n c) n xs) : Flat w (fun k => B ≤ k ∧ k < w.heap.size) A xs := fun j u hj => by
 rcases h.2 with ⟨h1, h2⟩ | ⟨g, cap, cur, h1, h0, hg, hc, _, _, ht⟩
 ·have h3 := h.1
  have hn := (List.getElem?_eq_some_iff.1 hj).1
  have h4 : n = 0 := by injection h1
  rw [h3, h4] at hn
  omega
 ·injection h1 with h1 h2; subst h1
  refine ⟨_, rfl, ⟨h0, (Array.getElem?_eq_some_iff.1 hg).1⟩, ?_⟩
  rw [Addr.add_lit, cell_of_row w g _ _ _ _ hg]
  rw [← ht, List.getElem?_take] at hj
  split at hj
  ·simpa using hj
  ·cases hj
theorem flat_nil (w : World) (T : Nat → Prop) (A : Option Addr) : Flat w T A [] := fun j u hj => by simp at hj
theorem row_sl {w : World} {B : Nat} {e : TypeId} {size : Nat} {v : Value} {n : Nat} {xs : List Value} (h : w.ownsRow B e size v n xs) : ∃ a c, v = .slice a n c := by
 rcases h.2 with ⟨rfl, rfl⟩ | ⟨g, cap, cur, rfl, _⟩
 ·exact ⟨_, _, rfl⟩
 ·exact ⟨_, _, rfl⟩
theorem heap_setCell_any (w : World) (g i : Nat) (cs : Array Value) (t : TypeId) (fz : Nat × Nat) (v : Value) (hg : w.heap[g]? = some (.cells cs t fz)) :
  (w.setCell ⟨g, i, none⟩ v).heap[g]? = some (.cells (cs.setIfInBounds i v) t fz) := by
 rw [setCell_eq_setRow w g i cs t fz v hg]
 exact setRow_heap w g cs _ t _ hg
theorem setRow_far {w : World} {g i : Nat} (cs : Array Value) (h : i ≠ g) : (w.setRow g cs).heap[i]? = w.heap[i]? := by
 unfold World.setRow
 rw [Array.getElem?_modify, if_neg (Ne.symm h)]
theorem setRow_size {w : World} {g : Nat} (cs : Array Value) : (w.setRow g cs).heap.size = w.heap.size := by
 unfold World.setRow; simp
theorem Touch.setRow {S : Nat → Prop} {a b : World} (h : Touch S a b) {g : Nat} (hg : S g ∨ a.heap.size ≤ g) (cs : Array Value) : Touch S a (b.setRow g cs) := by
 refine ⟨h.os, h.tape, h.output, by rw [setRow_size]; exact h.size, fun i hi hn => ?_⟩
 have : i ≠ g := by rintro rfl; exact hg.elim hn fun h => absurd h (by omega)
 exact (setRow_far cs this).trans (h.block i hi hn)
theorem append_at {P : Program} (w : World) (t ty e : TypeId) (i : TypeInfo) (z : Value) (size bytes : Nat) (ht : P.underlying t = some (.slice e)) (hi : P.info? e = some i) (hz : i.zero = some z)
  (hsize : i.size = size) (hby : i.bytes = bytes) (hzs : z.cells.size = size) (hsz : 0 < size)
  (v : Value) (n : Nat) (xs : List Value) (hown : w.ownsRow 0 e size v n xs)
  (a : Addr) (m c : Nat) (news : List Value) (hl : news.length = m * size) (hnews : ∀ j u, news[j]? = some u → w.cell? (a.add j) = some u) (h1 : ∀ u ∈ news, u.oneCell' = true)
  (h63 : n + m ≤ 1000000) (hb : bytes ≤ 1000) (hm : 0 < m) :
  ∃ v' w', (Builtin.append_ #[t, t] ty #[v, .slice (some a) m c]).run P w = .ok v' w' ∧ w'.ownsRow 0 e size v' (n + m) (xs ++ news) ∧ w.grownBy w' v.ownBlock ∧
   (v'.ownBlock = v.ownBlock ∨ (v'.ownBlock = some w.heap.size ∧ w.heap.size < w'.heap.size)) := by
 have hbytes : (n + m) * bytes ≤ 140737488355328 := by
  have : (n + m) * bytes ≤ 1000000 * 1000 := Nat.mul_le_mul h63 hb
  omega
 have h63' : n + m ≤ maxLen := by unfold maxLen; omega
 obtain ⟨v', w', hr, h2, h3, _⟩ := run_append_own (P := P) w 0 t ty e i z size bytes ht hi hz hsize hby hzs hsz v n xs hown a m c news hl hnews h1 h63' hbytes (Nat.zero_le _)
 refine ⟨v', w', hr, h2, h3, ?_⟩
 subst hsize
 subst hby
 rcases hown.2 with ⟨rfl, rfl⟩ | ⟨g, cap, cur, rfl, hbg, hg, hnc, hcm, hcs, htake⟩
 ·have hr' := run_append_nil (P := P) w t ty e i z ht hi hz a m c news hl hnews hm (by omega) (by have hb := hbytes; simp only [Nat.zero_add] at hb; omega)
  rw [hr'] at hr
  injection hr with e1 e2
  subst e1 e2
  right; exact ⟨rfl, by simp⟩
 ·by_cases hroom : n + m ≤ cap
  ·have hfit : n * i.size + news.length ≤ cur.size := by rw [hl, hcs, ← Nat.add_mul]; exact Nat.mul_le_mul_right _ hroom
   have hr' := run_append_room (P := P) w t ty e i ht hi g n cap cur hg a m c news hl hnews h1 hroom hfit
   rw [hr'] at hr
   injection hr with e1 e2
   subst e1 e2
   left; rfl
  ·have holds : ∀ j u, xs[j]? = some u → w.cell? ((⟨g, 0, none⟩ : Addr).add j) = some u := hown.cells (g := g) rfl
   have hr' := run_append_grow (P := P) w t ty e i z ht hi hz ⟨g, 0, none⟩ n cap xs hown.1 holds a m c news hl hnews (by omega) (by omega) (growslice_fits (by omega) hbytes)
   rw [hr'] at hr
   injection hr with e1 e2
   subst e1 e2
   right; exact ⟨rfl, by simp⟩
theorem wpList_append_eq {P : Program} {w w' : World} {v' : Value} {ops : Array Oper} {rest : List Oper} {o : Oper} {a : Act} {Q : Exit → Act → World → Prop} (hgd : o.guard = none) (s x : Operand) (t : TypeId)
  (ho : o.op = .call { callee := .builtin .append, args := #[s, x], argTypes := #[t, t] }) (v1 v2 : Value) (hs : a.eval s = v1) (hx : a.eval x = v2)
  (hrun : (Builtin.append_ #[t, t] o.type #[v1, v2]).run P w = .ok v' w') (h : wpList P ops Q rest (a.put o.dst v') w') : wpList P ops Q (o :: rest) a w :=
 wpList_plain hgd fun _ hK => by
  unfold Oper.wp execOp
  simp only [ho, resolve, invoke, builtin, Sem.run_bind, Sem.run_pure, Result.andThen_ok, List.map_toArray, List.map_cons, List.map_nil, hs, hx, hrun]
  exact hK _ _ h
theorem step_append_eq {P : Program} {ops : Array Oper} {o : Oper} {a : Act} {w : World} {K : Act → World → Prop} {Q : Exit → Act → World → Prop} {E : Prop}
  (hg : o.guard = none) (d x : Operand) (t : TypeId) (hop : o.op = Op.call { callee := Callee.builtin Builtin.append, args := #[d, x], argTypes := #[t, t] })
  (v1 v2 v' : Value) (w' : World) (hd : a.eval d = v1) (hx : a.eval x = v2) (hrun : (Builtin.append_ #[t, t] o.type #[v1, v2]).run P w = .ok v' w')
  (hK : K (a.put o.dst v') w') : if Region.wanted o (yielded ops a.tmps) = true then Oper.wp P o a w K Q else E := by
 have hw : Region.wanted o (yielded ops a.tmps) = true := by simp [Region.wanted, hg]
 rw [if_pos hw]
 unfold Oper.wp
 simp [execOp, hop, resolve, invoke, builtin, hd, hx, hrun, Result.andThen]
 exact hK
theorem zA {α : Type} (l : List α) (i : Nat) (a : α) : l.toArray.setIfInBounds i a = (l.set i a).toArray := List.setIfInBounds_toArray ..
theorem zB {α : Type} (a b : α) (l : List α) : (a :: l).set 0 b = b :: l := rfl
theorem zC {α : Type} (a b : α) (l : List α) (i : Nat) : (a :: l).set (i + 1) b = a :: l.set i b := rfl
section
variable {P : Program} {ops : Array Oper} {md : Region.Mode} {Q : Exit → Act → World → Prop} {k0 : Nat} {C : World → Prop}
theorem tk (i : Nat) (d : Tmp) (f : Nat) {oi : Oper} {v : Value} {listed : Array Bool} {a : Act} {w : World} (hi : ops[i]? = some oi) (hd : oi.dst = some d) (hS : listed.getD k0 false = true ∨ C w)
  (h : wpAnyD P md ops Q k0 C f (listed.setIfInBounds i true) (a.put (some d) v) w)
  (hB : (Region.noSelect ops && Region.free md ops listed i && (Region.ready md ops listed).contains i && (i != k0)) = true := by kernel_rfl)
  (hQ : ∀ c a w, Q (.panic c) (a.put oi.dst v) w → Q (.panic c) a w := by exact fun _ _ _ h => h) (hw : Region.wanted oi (yielded ops a.tmps) = true := by rfl)
  (hy : ∀ w, (execOp a.eval oi).run P w = .ok (.value v) w := by intro w; go_simp; try with_reducible rfl) : wpAnyD P md ops Q k0 C (f + 1) listed a w :=
 wpAnyD_take hi hd hB hQ hw hy hS h
theorem tl (i : Nat) (d : Tmp) (f : Nat) {oi : Oper} {v : Value} {listed : Array Bool} {a : Act} {w : World} (hi : ops[i]? = some oi) (hd : oi.dst = some d) (hS : listed.getD k0 false = true ∨ C w)
  (h : wpAnyD P md ops Q k0 C f (listed.setIfInBounds i true) (a.put (some d) v) w)
  (hB : (Region.noSelect ops && Region.free md ops listed i && (Region.ready md ops listed).contains i && (i != k0) && !(listed.getD k0 false) && (Region.waitsFor md ops k0 i || decide (ops.size ≤ k0))) = true := by kernel_rfl)
  (hQ : ∀ c a w, Q (.panic c) (a.put oi.dst v) w → Q (.panic c) a w := by exact fun _ _ _ h => h) (hw : Region.wanted oi (yielded ops a.tmps) = true := by rfl)
  (hy : ∀ w, C w → (execOp a.eval oi).run P w = .ok (.value v) w := by (intro w hSw; (try dsimp only at hSw); go_simp; try with_reducible rfl)) : wpAnyD P md ops Q k0 C (f + 1) listed a w :=
 wpAnyD_load hi hd hB hQ hw hy hS h
end
section
variable {P : Program} {ops : Array Oper} {md : Region.Mode} {Q : Exit → Act → World → Prop} {k0 : Nat} {C : World → Prop}
theorem ry (fuel : Nat) (rs : List Nat) {listed : Array Bool} {a : Act} {w : World} (h : AllReadyD P md ops Q k0 C fuel listed a w rs) (hr : Region.ready md ops listed = rs := by kernel_rfl) (hne : rs ≠ [] := by simp) : wpAnyD P md ops Q k0 C (fuel + 1) listed a w := wpAnyD_ready hr hne h
theorem rn {fuel : Nat} {listed : Array Bool} {a : Act} {w : World} {i : Nat} {o : Oper} {rs : List Nat} (ho : ops[i]? = some o)
  (h : ∀ K' : Act → World → Prop, Shut (∀ a w, ((listed.setIfInBounds i true).getD k0 false = true ∨ C w) → (((listed.setIfInBounds i true).getD k0 false = true ∨ C w) → wpAnyD P md ops Q k0 C fuel (listed.setIfInBounds i true) a w) → K' a w) → if Region.wanted o (yielded ops a.tmps) = true then Oper.wp P o a w K' Q else K' (a.put o.dst undef) w)
  (hs : AllReadyD P md ops Q k0 C fuel listed a w rs) : AllReadyD P md ops Q k0 C fuel listed a w (i :: rs) := AllReadyD.cons ho h hs
theorem rz {fuel : Nat} {listed : Array Bool} {a : Act} {w : World} : AllReadyD P md ops Q k0 C fuel listed a w [] := AllReadyD.nil
end
end Go.Proofs.YtlmjefjimoghcaaGreat
