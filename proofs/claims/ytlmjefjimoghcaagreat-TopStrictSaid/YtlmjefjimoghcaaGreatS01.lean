/- TopStrict: for every text, width and list of numbers the law returns true, and each argument reads behind the call as it read before. No condition. -/
import Derived.Deep.Slices
import Derived.ShutString
import Derived.ChangeOld
import Derived.Below
import Derived.Test.YtlmjefjimoghcaaGreatA51
namespace Go.Proofs.YtlmjefjimoghcaaGreat
set_option linter.unusedSimpArgs false
set_option linter.unnecessarySimpa false
set_option linter.unusedVariables false
set_option maxRecDepth 100000
theorem numL_inj : ∀ (a b : List UInt8), a.length = b.length → numL a = numL b → a = b := by
 intro a
 induction a using snoc_rec with
 | h0 => intro b h _; exact (List.length_eq_zero_iff.1 h.symm).symm
 | h1 l x ih =>
  intro b h e
  rcases snoc_cases b with rfl | ⟨p, y, rfl⟩
  ·simp at h
  ·rw [numL_snoc, numL_snoc] at e
   have hx := x.toNat_lt
   have hy := y.toNat_lt
   have h1 : numL l = numL p := by omega
   have h2 : x.toNat = y.toNat := by omega
   rw [ih p (by simpa using h) h1, UInt8.toNat_inj.1 h2]
theorem numL_app (a b : List UInt8) : numL (a ++ b) = numL a * 256 ^ b.length + numL b := by
 induction b using snoc_rec with
 | h0 => simp [numL]
 | h1 b x ih =>
  rw [← List.append_assoc, numL_snoc, numL_snoc, ih, List.length_append, List.length_singleton, Nat.pow_succ, ← Nat.mul_assoc]
  generalize 256 ^ b.length = t
  have : (numL a * t + numL b) * 256 = numL a * t * 256 + numL b * 256 := Nat.add_mul _ _ _
  omega
theorem nextD_missing {d : Dec} (h : d.missing = true) : (nextD d).missing = true := by
 unfold nextD; split <;> first | rfl | exact h
theorem bitD_missing {d : Dec} (z : Int) (h : d.missing = true) : (bitD d z).missing = true := by
 have h1 : (stepD d z).missing = true := by unfold stepD; split <;> exact h
 unfold bitD normD
 split
 ·split
  ·exact nextD_missing (nextD_missing h1)
  ·exact nextD_missing h1
 ·exact h1
theorem bitD_full (d : Dec) (z : Int) : (bitD d z).full = d.full := by
 have h1 : (stepD d z).full = d.full := by unfold stepD; split <;> rfl
 unfold bitD normD
 split
 ·split
  ·show (nextD (normD1 (stepD d z))).full = _
   rw [nextD_full]; show (nextD (stepD d z)).full = _
   rw [nextD_full]; exact h1
  ·show (nextD (stepD d z)).full = _
   rw [nextD_full]; exact h1
 ·exact h1
/-- encoder and decoder go on together -/
structure Rel (D : List UInt8) (e : Enc) (d : Dec) : Prop where
 size : e.size = d.size
 code : d.code < d.size
 pre : ∃ pre, D = pre ++ d.rest ∧ pre.length = e.out.length + 4 ∧ numL pre = valE e + d.code
theorem norm1_rel {D : List UInt8} {e : Enc} {d : Dec} (h : Rel D e d) (hl : e.low < 2 ^ 32) (hs : d.size < 2 ^ 24) (hm : (normD1 d).missing = false) (hm0 : d.missing = false) : Rel D (normE1 e) (normD1 d) := by
 obtain ⟨h1, h2, h3, _⟩ := normE1_val hl
 have hc := h.code
 obtain ⟨pre, hp1, hp2, hp3⟩ := h.pre
 cases hr : d.rest with
 | nil =>
  exfalso
  have : (normD1 d).missing = true := by show (nextD d).missing = true; unfold nextD; rw [hr]
  rw [this] at hm; cases hm
 | cons c r =>
  have hcode : (normD1 d).code = d.code * 256 + c.toNat := by
   show (nextD d).code = _
   unfold nextD
   rw [hr]
   show d.code * 256 % 2 ^ 32 + c.toNat = _
   rw [Nat.mod_eq_of_lt (by omega)]
  have hrest : (normD1 d).rest = r := by show (nextD d).rest = _; unfold nextD; rw [hr]
  have hb := c.toNat_lt
  refine ⟨by rw [h3, h.size]; rfl, ?_, pre ++ [c], ?_, ?_, ?_⟩
  ·rw [hcode]; show _ < d.size * 256; omega
  ·rw [hrest, hp1, hr]; simp
  ·rw [List.length_append, hp2, h2]; simp; try omega
  ·rw [numL_snoc, hp3, h1, hcode]; omega
theorem normD1_missing_of {d : Dec} (h : (normD1 d).missing = false) : d.missing = false := by
 cases hd : d.missing with
 | false => rfl
 | true =>
  have : (normD1 d).missing = true := nextD_missing hd
  rw [this] at h; cases h
theorem bit_rel {D : List UInt8} {e : Enc} {d : Dec} (h : Rel D e d) (ho : EOk e) (z : Int) (hm : (bitD d z).missing = false) : Rel D (bitE e z (bitOf d z)) (bitD d z) ∧ EOk (bitE e z (bitOf d z)) := by
 obtain ⟨hmid, hlen, hval, hsz⟩ := stepE_mid ho z (bitOf d z)
 have hc := h.code
 have hs := h.size
 have hb := bndP_b z ho.s0
 have hs1 := ho.s1
 have hrel : Rel D (stepE e z (bitOf d z)) (stepD d z) := by
  obtain ⟨pre, hp1, hp2, hp3⟩ := h.pre
  unfold bitOf at hval hsz hlen ⊢
  unfold stepD
  by_cases hlt : d.code < bndP d.size z
  ·rw [if_pos hlt]
   rw [decide_eq_true hlt] at hval hsz hlen ⊢
   refine ⟨by rw [hsz, hs]; rfl, hlt, pre, hp1, by rw [hp2, hlen], ?_⟩
   rw [hp3, hval]; simp
  ·rw [if_neg hlt]
   rw [decide_eq_false hlt] at hval hsz hlen ⊢
   refine ⟨by rw [hsz, hs]; rfl, ?_, pre, hp1, by rw [hp2, hlen], ?_⟩
   ·show d.code - bndP d.size z < d.size - bndP d.size z
    rw [hs] at hb; omega
   ·rw [hp3, hval, hs]
    show _ = valE e + bndP d.size z + (d.code - bndP d.size z)
    omega
 unfold bitD normD at hm
 unfold bitE bitD normE normD
 have hs' := hrel.size
 by_cases h1 : (stepE e z (bitOf d z)).size < 2 ^ 24
 ·have h1' : (stepD d z).size < 2 ^ 24 := by rw [← hs']; exact h1
  rw [if_pos h1'] at hm
  rw [if_pos h1, if_pos h1']
  have hn1 : (normD1 (stepD d z)).size = (normE1 (stepE e z (bitOf d z))).size := by show (stepD d z).size * 256 = _ * 256; rw [hs']
  by_cases h2 : (normE1 (stepE e z (bitOf d z))).size < 2 ^ 24
  ·have h2' : (normD1 (stepD d z)).size < 2 ^ 24 := by rw [hn1]; exact h2
   rw [if_pos h2'] at hm
   rw [if_pos h2, if_pos h2']
   have hm1 := normD1_missing_of hm
   have hm0 := normD1_missing_of hm1
   have r1 := norm1_rel hrel hmid.l h1' hm1 hm0
   have m1 := mid_norm1 hmid h1
   have m2 := mid_norm1 m1 h2
   refine ⟨norm1_rel r1 m1.l h2' hm hm1, ?_, m2.s1, m2.l, m2.top⟩
   have e1 : (normE1 (normE1 (stepE e z (bitOf d z)))).size = (stepE e z (bitOf d z)).size * 256 * 256 := rfl
   rw [e1]
   have := hmid.s0
   omega
  ·have h2' : ¬ (normD1 (stepD d z)).size < 2 ^ 24 := by rw [hn1]; exact h2
   rw [if_neg h2'] at hm
   rw [if_neg h2, if_neg h2']
   have hm0 := normD1_missing_of hm
   have m1 := mid_norm1 hmid h1
   exact ⟨norm1_rel hrel hmid.l h1' hm hm0, by omega, m1.s1, m1.l, m1.top⟩
 ·have h1' : ¬ (stepD d z).size < 2 ^ 24 := by rw [← hs']; exact h1
  rw [if_neg h1, if_neg h1']
  exact ⟨hrel, by omega, hmid.s1, hmid.l, hmid.top⟩
theorem be4_num (n : Nat) (h : n < 2 ^ 32) : numL (be4 n) = n := by
 simp only [be4, numL, List.foldl_cons, List.foldl_nil, UInt8.toNat_ofNat']
 omega
theorem end_rel {D : List UInt8} {e : Enc} {d : Dec} (h : Rel D e d) (ho : EOk e) (he : endD d = true) : D = finE e := by
 obtain ⟨pre, hp1, hp2, hp3⟩ := h.pre
 unfold endD at he
 have h1 : d.rest = [] ∧ d.code = 0 := by
  simp at he
  exact ⟨he.1.2, he.2⟩
 rw [h1.1, List.append_nil] at hp1
 subst hp1
 refine numL_inj _ _ (by rw [hp2]; simp [finE, be4]) ?_
 rw [hp3, h1.2]
 unfold finE
 rw [numL_app, be4_num _ ho.l, valE_eq]
 have : (be4 e.low).length = 4 := rfl
 rw [this]
 omega
theorem newD_rel {D : List UInt8} (hm : (newD D).missing = false) (hf : (newD D).full = false) : Rel D newE (newD D) := by
 match D with
 | [] => simp [newD, nextD] at hm
 | [a] => simp [newD, nextD] at hm
 | [a, b] => simp [newD, nextD] at hm
 | [a, b, c] => simp [newD, nextD] at hm
 | a :: b :: c :: x :: r =>
  have ha := a.toNat_lt
  have hb := b.toNat_lt
  have hc := c.toNat_lt
  have hx := x.toNat_lt
  have hcode : (newD (a :: b :: c :: x :: r)).code = ((a.toNat * 256 + b.toNat) * 256 + c.toNat) * 256 + x.toNat := by
   show ((((0 * 256 % 2 ^ 32 + a.toNat) * 256 % 2 ^ 32 + b.toNat) * 256 % 2 ^ 32 + c.toNat) * 256 % 2 ^ 32 + x.toNat) = _
   omega
  have hf' : (newD (a :: b :: c :: x :: r)).code ≠ 2 ^ 32 - 1 := by
   have : decide ((newD (a :: b :: c :: x :: r)).code = 2 ^ 32 - 1) = false := hf
   simpa using this
  refine ⟨rfl, ?_, [a, b, c, x], rfl, rfl, ?_⟩
  ·show _ < 2 ^ 32 - 1
   rw [hcode] at hf' ⊢
   omega
  ·rw [hcode]
   show (((0 * 256 + a.toNat) * 256 + b.toNat) * 256 + c.toNat) * 256 + x.toNat = 0 * 2 ^ 32 + 0 + _
   omega
end Go.Proofs.YtlmjefjimoghcaaGreat
namespace Go.Proofs.YtlmjefjimoghcaaGreat
set_option linter.unusedSimpArgs false
set_option linter.unnecessarySimpa false
set_option linter.unusedVariables false
open Go.RowKit
attribute [local go_sem ↓] Go.wp_at_zero Go.wp_at_succ
section
variable {D : Nat} {d : Dec} {w w' : World}
theorem d1_walk (z : Int) (w : World) : Calls Tryz.prog 66 #[.int .i64 z] w fun e w' => e = .returned (.bool (decide (1 ≤ z) && decide (z < 2048))) ∧ w = w' := by
 by_cases h1 : 1 ≤ z
 ·by_cases h2 : z < 2048
  ·rw [decide_eq_true h1, decide_eq_true h2]
   go_enter Tryz.func66, Tryz.ntmps66
   go_wp2_with fail
   go_ret
   exact ⟨rfl, rfl⟩
  ·rw [decide_eq_true h1, decide_eq_false h2]
   go_enter Tryz.func66, Tryz.ntmps66
   go_wp2_with fail
   go_ret
   exact ⟨rfl, rfl⟩
 ·rw [decide_eq_false h1]
  go_enter Tryz.func66, Tryz.ntmps66
  go_wp2_with fail
  go_ret
  exact ⟨rfl, rfl⟩
end
def stcells : List (Int × Bool) → List Value
 | [] => []
 | p :: l => .int .i64 p.1 :: .int .i64 (if p.2 then 1 else 0) :: stcells l
theorem stcells_get : ∀ (l : List (Int × Bool)) (k : Nat), k < l.length → (stcells l)[k * 2]? = some (.int .i64 (l.getD k default).1) ∧ (stcells l)[k * 2 + 1]? = some (.int .i64 (if (l.getD k default).2 then 1 else 0))
 | [], k, h => absurd h (Nat.not_lt_zero _)
 | p :: l, 0, _ => ⟨rfl, rfl⟩
 | p :: l, k + 1, h => by
  have := stcells_get l k (by simpa using h)
  have e : (k + 1) * 2 = k * 2 + 1 + 1 := by omega
  rw [e]
  exact this
/-- two cells of a flat row -/
theorem flat_two {w : World} {T : Nat → Prop} {A : Option Addr} {xs : List Value} (h : Flat w T A xs) {k : Nat} {u v : Value} (h0 : xs[k * 2]? = some u) (h1 : xs[k * 2 + 1]? = some v) : ∃ a, A = some a ∧ w.cell? (a.add (k * 2)) = some u ∧ w.cell? ⟨(a.add (k * 2)).block, (a.add (k * 2)).off + 1, none⟩ = some v := by
 obtain ⟨a, ha, _, q0⟩ := h _ _ h0
 obtain ⟨a', ha', _, q1⟩ := h _ _ h1
 rw [ha] at ha'; injection ha' with ha'; subst ha'
 exact ⟨a, ha, q0, by rw [add_succ _ _ _ (by decide)]; exact q1⟩
def encL (e : Enc) (l : List (Int × Bool)) : Enc := l.foldl (fun e p => bitE e p.1 p.2) e
theorem encL_snoc (e : Enc) (l : List (Int × Bool)) (p : Int × Bool) : encL e (l ++ [p]) = bitE (encL e l) p.1 p.2 := by simp [encL]
theorem encL_ok {e : Enc} (h : EOk e) : ∀ l, EOk (encL e l) ∧ (encL e l).out.length ≤ e.out.length + 2 * l.length := by
 intro l
 induction l using snoc_rec with
 | h0 => exact ⟨h, Nat.le_refl _⟩
 | h1 l p ih =>
  rw [encL_snoc]
  have := bitE_ok ih.1 p.1 p.2
  refine ⟨this.1, ?_⟩
  have h2 := this.2
  have h3 := ih.2
  simp only [List.length_append, List.length_singleton]
  omega
def EncRel (w : World) (l : List (Int × Bool)) (i : Value) (wr : World) : Prop := ∃ (k : Nat) (S : Nat → Prop) (vo : Value), i = .int .i64 (k : Int) ∧ k ≤ l.length ∧ Below w.heap.size w wr ∧ EnO S w.heap.size (encL newE (l.take k)) wr vo ∧ ∀ k, S k → w.heap.size ≤ k
set_option maxRecDepth 100000 in
theorem encode_walk (w : World) (A : Option Addr) (c : Nat) (l : List (Int × Bool)) (h : Flat w (fun k => k < w.heap.size) A (stcells l)) (hl : l.length ≤ 400000) (hv : ∀ k, k < l.length → 1 ≤ (l.getD k default).1 ∧ (l.getD k default).1 < 2048) : Calls Tryz.prog 26 #[.slice A l.length c] w fun x w' => x = .returned (.tuple #[.string (sB (finE (encL newE l))), .int .i64 0]) ∧ Below w.heap.size w w' := by
 have H := Lib.hid h
 have HV := Lib.hid hv
 have hml : (l.length : Int) ≤ 400000 := by omega
 have HL := Lib.hid hl
 have HN := Lib.hid (newE_walk w)
 clear h hv hl
 go_enter Tryz.func26, Tryz.ntmps26
 go_wp2_with fail
 refine (HN.out).mono ?_
 rintro x w1 ⟨rfl, hb1, he1⟩
 have HB1 := Lib.hid hb1
 have HE1 := Lib.hid he1
 clear hb1 he1
 go_wp2_with fail
 go_loopw [10] (fun i wr => EncRel w l i wr) (fun i _ => ((l.length : Int) - intOf i).toNat)
 case atStart => exact ⟨0, _, _, rfl, Nat.zero_le _, HB1.out, HE1.out, fun k hk => hk ▸ Nat.le_refl _⟩
 case round =>
  obtain ⟨k, S, vo, rfl, hk, hb, he, hS⟩ := hrel
  have HB := Lib.hid hb
  have HE := Lib.hid he
  have HS := Lib.hid hS
  clear hb he hS
  by_cases hlt : k < l.length
  ·have hkl : (k : Int) < l.length := by omega
   have hg := stcells_get l k hlt
   obtain ⟨z, hz⟩ : ∃ z, (l.getD k default).1 = z := ⟨_, rfl⟩
   obtain ⟨b, hbb⟩ : ∃ b, (l.getD k default).2 = b := ⟨_, rfl⟩
   rw [hz, hbb] at hg
   have hzv := HV.out k hlt
   rw [hz] at hzv
   obtain ⟨hz1, hz2⟩ := hzv
   obtain ⟨a, rfl, c0, c1⟩ := flat_two (H.out.frame (w' := wr) fun k hk hl => HB.out.block k hl) hg.1 hg.2
   have HT : Hid (encL newE (l.take (k + 1)) = bitE (encL newE (l.take k)) z b) := Lib.hid (by rw [take_getD hlt, encL_snoc, hz, hbb])
   have hok := encL_ok newE_ok (l.take k)
   have hlen : (encL newE (l.take k)).out.length ≤ 800000 := by
    have h1 := hok.2
    have h2 : newE.out.length = 0 := rfl
    have h3 := HL.out
    rw [List.length_take, h2] at h1
    omega
   have HOk := Lib.hid hok.1
   have HLen := Lib.hid hlen
   clear hg hz hbb hok hlen
   cases b with
   | false =>
    have c1' : wr.cell? ⟨(a.add (k * 2)).block, (a.add (k * 2)).off + 1, none⟩ = some (.int .i64 0) := c1
    clear c1
    go_wp2_with fail
    refine (bit_walk (HE.out.frame (by simp) fun k hk => Below.heap_alloc wr _ k (HE.out.lt k hk)) HOk.out HLen.out z 0).mono ?_
    intro x w3 hx
    obtain ⟨rfl, hb3, ⟨S3, vo3, he3, hs3⟩⟩ := hx.below (HB.out.alloc HB.out.size _) (Nat.le_refl _) HS.out
    have HB3 := Lib.hid hb3
    have HE3 := Lib.hid he3
    have HS3 := Lib.hid hs3
    clear hb3 he3 hs3 hx
    go_wp2_with fail
    go_roundw
    case rel => exact ⟨k + 1, S3, vo3, by go_num, by omega, HB3.out, by rw [HT.out]; exact HE3.out, HS3.out⟩
    case measure => simp [intOf]; omega
   | true =>
    have c1' : wr.cell? ⟨(a.add (k * 2)).block, (a.add (k * 2)).off + 1, none⟩ = some (.int .i64 1) := c1
    clear c1
    go_wp2_with fail
    refine (bit_walk (HE.out.frame (by simp) fun k hk => Below.heap_alloc wr _ k (HE.out.lt k hk)) HOk.out HLen.out z 1).mono ?_
    intro x w3 hx
    obtain ⟨rfl, hb3, ⟨S3, vo3, he3, hs3⟩⟩ := hx.below (HB.out.alloc HB.out.size _) (Nat.le_refl _) HS.out
    have HB3 := Lib.hid hb3
    have HE3 := Lib.hid he3
    have HS3 := Lib.hid hs3
    clear hb3 he3 hs3 hx
    go_wp2_with fail
    go_roundw
    case rel => exact ⟨k + 1, S3, vo3, by go_num, by omega, HB3.out, by rw [HT.out]; exact HE3.out, HS3.out⟩
    case measure => simp [intOf]; omega
  ·obtain rfl : k = l.length := by omega
   have ht : l.take l.length = l := List.take_length
   have hok := encL_ok newE_ok l
   have hn : (encL newE l).out.length ≤ 900000 := by
    have h1 := hok.2
    have h2 : newE.out.length = 0 := rfl
    have h3 := HL.out
    omega
   have HF := Lib.hid (fin_walk (by have := HE.out; rw [ht] at this; exact this) hok.1 hn)
   clear ht hok hn
   go_wp2_with fail
   refine (HF.out).mono ?_
   rintro x w3 ⟨rfl, hb3⟩
   have HB3 := Lib.hid (bstep HB.out (Nat.le_refl _) hb3)
   clear hb3
   go_wp2_with fail
   refine bodyPost_ret (results_tmp2 rfl _ _ _) rfl ?_
   exact ⟨rfl, HB3.out⟩
def decF (d : Dec) (l : List Int) : Dec := l.foldl bitD d
def decB (d : Dec) : List Int → List Bool
 | [] => []
 | z :: l => bitOf d z :: decB (bitD d z) l
theorem decB_length : ∀ (l : List Int) (d : Dec), (decB d l).length = l.length
 | [], _ => rfl
 | z :: l, d => by simp [decB, decB_length l]
theorem decF_snoc (d : Dec) (l : List Int) (z : Int) : decF d (l ++ [z]) = bitD (decF d l) z := by simp [decF]
theorem decB_snoc : ∀ (l : List Int) (d : Dec) (z : Int), decB d (l ++ [z]) = decB d l ++ [bitOf (decF d l) z]
 | [], _, _ => rfl
 | y :: l, d, z => by simp [decB, decB_snoc l, decF]
theorem decF_missing : ∀ (l : List Int) (d : Dec), (decF d l).missing = false → d.missing = false
 | [], _, h => h
 | z :: l, d, h => by
  have := decF_missing l (bitD d z) h
  cases hd : d.missing with
  | false => rfl
  | true => rw [bitD_missing z hd] at this; cases this
theorem decF_full : ∀ (l : List Int) (d : Dec), (decF d l).full = d.full
 | [], _ => rfl
 | z :: l, d => (decF_full l (bitD d z)).trans (bitD_full d z)
theorem decF_rel {D : List UInt8} : ∀ (l : List Int) (e : Enc) (d : Dec), Rel D e d → EOk e → (decF d l).missing = false → Rel D (encL e (l.zip (decB d l))) (decF d l) ∧ EOk (encL e (l.zip (decB d l)))
 | [], _, _, h, ho, _ => ⟨h, ho⟩
 | z :: l, e, d, h, ho, hm => by
  obtain ⟨h1, h2⟩ := bit_rel h ho z (decF_missing l (bitD d z) hm)
  exact decF_rel l _ _ h1 h2 hm
theorem endD_parts {d : Dec} (h : endD d = true) : d.missing = false ∧ d.full = false := by
 unfold endD at h
 cases hm : d.missing <;> cases hf : d.full <;> simp_all
/-- what is read is what is written -/
theorem dec_enc (D : List UInt8) (l : List Int) (h : endD (decF (newD D) l) = true) : finE (encL newE (l.zip (decB (newD D) l))) = D := by
 obtain ⟨hm, hf⟩ := endD_parts h
 rw [decF_full] at hf
 obtain ⟨h1, h2⟩ := decF_rel l newE (newD D) (newD_rel (decF_missing l _ hm) hf) newE_ok hm
 exact (end_rel h1 h2 h).symm
def bi (b : Bool) : Int := if b then 1 else 0
def validZ (z : Int) : Bool := decide (1 ≤ z) && decide (z < 2048)
def DcRel (w : World) (D G : Nat) (d : Dec) (l : List Int) (i : Value) (wr : World) : Prop := ∃ k : Nat, i = .int .i64 (k : Int) ∧ k ≤ l.length ∧ Below w.heap.size w wr ∧ DeO D (decF d (l.take k)) wr ∧ 2 ^ 24 ≤ (decF d (l.take k)).size ∧ IRow wr G ((decB d (l.take k)).map bi ++ List.replicate (l.length - k) 0)
/-- what Decode returns -/
def DecRes (w : World) (s : List UInt8) (l : List Int) (x : Ending) (w' : World) : Prop :=
 Below w.heap.size w w' ∧ if l.all validZ then (if endD (decF (newD s) l) then ∃ G, x = .returned (.tuple #[.slice (some ⟨G, 0, none⟩) l.length l.length, .int .i64 0]) ∧ w.heap.size ≤ G ∧ IRow w' G ((decB (newD s) l).map bi) else x = .returned (.tuple #[.slice none 0 0, .int .i64 12])) else x = .returned (.tuple #[.slice none 0 0, .int .i64 1])
set_option maxRecDepth 100000 in
theorem decode_walk (w : World) (s : List UInt8) (hs : s.length ≤ maxLen) (A : Option Addr) (c : Nat) (l : List Int) (h : Flat w (fun k => k < w.heap.size) A (ic l)) (hl : l.length ≤ 400000) : Calls Tryz.prog 25 #[.string (sB s), .slice A l.length c] w fun x w' => DecRes w s l x w' := by
 have H := Lib.hid h
 have hml : (l.length : Int) ≤ 400000 := by omega
 have HL := Lib.hid hl
 have HS := Lib.hid hs
 have HV := Lib.hid fun z => d1_walk z w
 have HN := Lib.hid (newD_walk w s hs)
 clear h hl hs
 go_enter Tryz.func25, Tryz.ntmps25
 go_wp2_with fail
 go_loopw [16] (fun i wr => ∃ k : Nat, i = .int .i64 (k : Int) ∧ k ≤ l.length ∧ (l.take k).all validZ = true ∧ w = wr) (fun i _ => ((l.length : Int) - intOf i).toNat)
 case atStart => exact ⟨0, rfl, Nat.zero_le _, rfl, rfl⟩
 case round =>
  obtain ⟨k, rfl, hk, hv, rfl⟩ := hrel
  have HVa := Lib.hid hv
  clear hv
  by_cases hlt : k < l.length
  ·have hkl : (k : Int) < l.length := by omega
   obtain ⟨z, hz⟩ : ∃ z, l.getD k default = z := ⟨_, rfl⟩
   obtain ⟨a, rfl, _, c0⟩ := H.out k _ (ic_get hlt)
   rw [hz] at c0
   have HT : Hid ((l.take (k + 1)).all validZ = ((l.take k).all validZ && validZ z)) := Lib.hid (by rw [take_getD hlt, hz]; simp)
   have HM : Hid (z ∈ l) := Lib.hid (by rw [← hz]; have := get_default hlt; exact List.mem_of_getElem? this)
   clear hz
   go_wp2_with fail
   refine (HV.out z).mono ?_
   rintro x w2 ⟨rfl, rfl⟩
   have hvz : (decide (1 ≤ z) && decide (z < 2048)) = validZ z := rfl
   rw [hvz]
   cases hb : validZ z with
   | true =>
    go_wp2_with fail
    go_roundw
    case rel => exact ⟨k + 1, by go_num, by omega, by rw [HT.out, HVa.out, hb]; rfl, trivial⟩
    case measure => simp [intOf]; omega
   | false =>
    have HA : Hid (l.all validZ = false) := Lib.hid (by
     cases ha : l.all validZ with
     | false => rfl
     | true => have := List.all_eq_true.1 ha z HM.out; rw [hb] at this; cases this)
    go_wp2_with fail
    refine bodyPost_ret (results_tmp2 rfl _ _ _) rfl ?_
    have h1 := HA.out
    unfold DecRes
    rw [h1]
    exact ⟨.refl _ _, rfl⟩
  ·obtain rfl : k = l.length := by omega
   have HA : Hid (l.all validZ = true) := Lib.hid (by have := HVa.out; rwa [List.take_length] at this)
   clear HVa
   go_wp2_with fail
   refine (HN.out).mono ?_
   rintro x w2 ⟨rfl, hb2, he2, hz2⟩
   obtain ⟨d, hd⟩ : ∃ d, newD s = d := ⟨_, rfl⟩
   rw [hd] at he2 hz2
   have HD := Lib.hid hd
   obtain ⟨cur, hcur⟩ : ∃ cur, madeCells (Value.int .i64 0).cells (l.length * 1) = cur := ⟨_, rfl⟩
   have hmk := run_makeSlice (P := Tryz.prog) w2 27 3 _ (.int .i64 0) Tryz.underlying27 rfl rfl .i64 .i64 (l.length : Int) (l.length : Int) (by omega) (Int.le_refl _) (by show (l.length : Int).toNat * 1 ≤ _; omega) (by show (8 : Int) * l.length ≤ _; omega) (by omega)
   rw [Int.toNat_natCast] at hmk
   have hmk' : (Instr.makeSlice 27 (.int .i64 (l.length : Int)) (.int .i64 (l.length : Int))).run Tryz.prog w2 = .ok (.slice (some ⟨w2.heap.size, 0, none⟩) l.length l.length) (w2.alloc (.cells cur 3)) := by rw [← hcur]; exact hmk
   clear hmk
   have hc1 : cur.toList = ic (List.replicate l.length 0) := by
    rw [← hcur, Nat.mul_one]
    show (madeCells #[Value.int .i64 0] l.length).toList = _
    rw [toList_madeCells_one]; simp [ic]
   have hI : IRow (w2.alloc (.cells cur 3)) w2.heap.size (List.replicate l.length 0) := by
    have := heap_alloc_new w2 (.cells cur 3)
    rw [show cur = (ic (List.replicate l.length 0)).toArray by rw [← hc1]] at this ⊢
    exact this
   have HI := Lib.hid hI
   have HB2 := Lib.hid hb2
   have HE2 := Lib.hid he2
   have HZ2 := Lib.hid hz2
   clear hd hcur hc1 hI hb2 he2 hz2
   go_wp2_with fail
   obtain ⟨W3, hW3⟩ : ∃ W, w2.alloc (.cells cur 3) = W := ⟨_, rfl⟩
   obtain ⟨G, hG⟩ : ∃ G, w2.heap.size = G := ⟨_, rfl⟩
   obtain ⟨D, hDD⟩ : ∃ D, w.heap.size = D := ⟨_, rfl⟩
   have HGD : Hid (w.heap.size = D ∧ D < G) := Lib.hid ⟨hDD, by rw [← hG, ← hDD]; exact (Array.getElem?_eq_some_iff.1 HE2.out.obj).1⟩
   have HB3 : Hid (Below w.heap.size w W3) := Lib.hid (by rw [← hW3]; exact HB2.out.alloc HB2.out.size _)
   have HE3 : Hid (DeO D d W3) := Lib.hid (by rw [← hW3, ← hDD]; exact HE2.out.frame (Below.heap_alloc w2 _ _ (Array.getElem?_eq_some_iff.1 HE2.out.obj).1))
   have HI3 : Hid (IRow W3 G (List.replicate l.length 0)) := Lib.hid (by rw [← hW3, ← hG]; exact HI.out)
   rw [hW3, hG, hDD]
   clear HI HE2 HB2 hmk' hW3 hG hDD HN
   go_loopw [32] (fun i wr => DcRel w D G d l i wr) (fun i _ => ((l.length : Int) - intOf i).toNat)
   case atStart => exact ⟨0, rfl, Nat.zero_le _, HB3.out, HE3.out, by show 2 ^ 24 ≤ d.size; rw [HZ2.out]; decide, by simpa [decB] using HI3.out⟩
   case round =>
    obtain ⟨k, rfl, hk, hb, he, hsz, hi⟩ := hrel
    have HB := Lib.hid hb
    have HE := Lib.hid he
    have HSz := Lib.hid hsz
    have HI := Lib.hid hi
    clear hb hi
    by_cases hlt : k < l.length
    ·have hkl : (k : Int) < l.length := by omega
     obtain ⟨z, hz⟩ : ∃ z, l.getD k default = z := ⟨_, rfl⟩
     obtain ⟨a, rfl, _, c0⟩ := (H.out.frame (w' := wr) fun k hk hl => HB.out.block k hl) k _ (ic_get hlt)
     rw [hz] at c0
     have HZ := Lib.hid hz
     have HDb := Lib.hid (dbit_walk he hsz z)
     clear he hsz hz
     go_wp2_with fail
     refine (HDb.out).mono ?_
     rintro x w4 ⟨rfl, ht4, hE4⟩
     have hbb : (if bitOf (decF d (l.take k)) z = true then (1 : Int) else 0) = bi (bitOf (decF d (l.take k)) z) := rfl
     rw [hbb]
     obtain ⟨b, hb⟩ : ∃ b, bi (bitOf (decF d (l.take k)) z) = b := ⟨_, rfl⟩
     rw [hb]
     have hgd := HGD.out.2
     have hi4 : IRow w4 G ((decB d (l.take k)).map bi ++ List.replicate (l.length - k) 0) := (ht4.block G (Array.getElem?_eq_some_iff.1 HI.out).1 (by omega)).trans HI.out
     have hlk : (((decB d (l.take k)).map bi).length) = k := by rw [List.length_map, decB_length, List.length_take]; omega
     have g0 : w4.cell? ⟨G, k, none⟩ = some (.int .i64 0) := by
      rw [cell_of_row w4 G k _ _ _ hi4]
      have e1 : ((decB d (l.take k)).map bi ++ List.replicate (l.length - k) 0)[k]? = some 0 := by
       rw [List.getElem?_append_right (Nat.le_of_eq hlk), hlk, Nat.sub_self]
       exact List.getElem?_replicate_of_lt (by omega)
      show (ic _).toArray[k]? = _
      rw [List.getElem?_toArray]
      unfold ic
      rw [List.getElem?_map, e1]
      rfl
     have gf : w4.frozen? ⟨G, k, none⟩ = false := by simp [World.frozen?, hi4.to]
     have hi5 := hi4.set k b
     have hls : ((decB d (l.take k)).map bi ++ List.replicate (l.length - k) 0).set k b = (decB d (l.take (k + 1))).map bi ++ List.replicate (l.length - (k + 1)) 0 := by
      rw [take_getD hlt, HZ.out, decB_snoc, List.map_append, List.map_singleton, hb, List.set_append_right _ _ (Nat.le_of_eq hlk), hlk, Nat.sub_self, show l.length - k = (l.length - (k + 1)) + 1 by omega, List.replicate_succ, List.set_cons_zero]
      simp
     rw [hls] at hi5
     have HI5 := Lib.hid hi5
     have hT : Hid (decF d (l.take (k + 1)) = bitD (decF d (l.take k)) z) := Lib.hid (by rw [take_getD hlt, HZ.out, decF_snoc])
     have HS5 := Lib.hid (bitD_size z HSz.out HE.out.sl)
     have HB5 : Hid (Below w.heap.size w (w4.setCell ⟨G, k, none⟩ (.int .i64 b))) := Lib.hid (by
      have h1 := HGD.out
      have h2 := HB.out.trans (ht4.below w.heap.size HB.out.size fun k hk => by rw [hk, ← h1.1]; exact Nat.le_refl _)
      exact h2.setCell (p := ⟨G, k, none⟩) (by show _ ≤ G; omega) _)
     have HE5 : Hid (DeO D (bitD (decF d (l.take k)) z) (w4.setCell ⟨G, k, none⟩ (.int .i64 b))) := Lib.hid (hE4.frame (Below.heap_setCell w4 ⟨G, k, none⟩ _ D (by show D ≠ G; omega)))
     clear hbb hb hi4 hlk hi5 hls hgd hE4 ht4 HDb
     go_wp2_with fail
     go_roundw
     case rel => exact ⟨k + 1, by go_num, by omega, HB5.out, by rw [hT.out]; exact HE5.out, by rw [hT.out]; exact HS5.out, HI5.out⟩
     case measure => simp [intOf]; omega
    ·obtain rfl : k = l.length := by omega
     have HEn := Lib.hid (end_walk he)
     clear he hsz
     go_wp2_with fail
     refine (HEn.out).mono ?_
     rintro x w4 ⟨rfl, rfl⟩
     have ht : l.take l.length = l := List.take_length
     rw [ht]
     have HI6 := HI.out
     rw [ht, Nat.sub_self, List.replicate_zero, List.append_nil] at HI6
     have HI7 := Lib.hid HI6
     have HD' := HD.out
     have hgd := HGD.out
     have HGw : Hid (w.heap.size ≤ G) := Lib.hid (by omega)
     clear HI6 ht HEn hgd
     cases hend : endD (decF d l) with
     | true =>
      have h0 : (if true = true then (0 : Int) else 12) = 0 := rfl
      rw [h0]
      have HEd := Lib.hid hend
      clear hend h0
      go_wp2_with fail
      refine bodyPost_ret (results_tmp2 rfl _ _ _) rfl ?_
      have h1 := HA.out
      have h2 := HEd.out
      unfold DecRes
      rw [h1, HD', h2]
      exact ⟨HB.out, G, rfl, HGw.out, HI7.out⟩
     | false =>
      have h0 : (if false = true then (0 : Int) else 12) = 12 := rfl
      rw [h0]
      have HEd := Lib.hid hend
      clear hend h0
      go_wp2_with fail
      refine bodyPost_ret (results_tmp2 rfl _ _ _) rfl ?_
      have h1 := HA.out
      have h2 := HEd.out
      unfold DecRes
      rw [h1, HD', h2]
      exact ⟨HB.out, rfl⟩
end Go.Proofs.YtlmjefjimoghcaaGreat
namespace Go.Proofs.YtlmjefjimoghcaaGreat
set_option linter.unusedSimpArgs false
set_option linter.unnecessarySimpa false
set_option linter.unusedVariables false
set_option maxRecDepth 100000
theorem bitD_miss {d : Dec} {z : Int} (h : (bitD d z).missing = false) : d.missing = false := by
 cases hd : d.missing with
 | false => rfl
 | true => rw [bitD_missing z hd] at h; cases h
theorem trD_miss : ∀ (k f m : Nat) (L : List Int) (d : Dec), (trD k f m L d).2.2.missing = false → d.missing = false
 | 0, _, _, _, _, h => h
 | k + 1, f, m, L, d, h => bitD_miss (trD_miss k f _ _ _ h)
theorem trD_full : ∀ (k f m : Nat) (L : List Int) (d : Dec), (trD k f m L d).2.2.full = d.full
 | 0, _, _, _, _ => rfl
 | k + 1, f, m, L, d => (trD_full k f _ _ _).trans (bitD_full _ _)
theorem two_mod (k v : Nat) : v % 2 ^ (k + 1) = 2 ^ k * (v / 2 ^ k % 2) + v % 2 ^ k := by
 rw [Nat.mod_pow_succ]; omega
/-- what a tree reads is what it writes -/
theorem tr_rel {D : List UInt8} : ∀ (k f v m : Nat) (L : List Int) (e : Enc) (d : Dec), Rel D e d → EOk e → (trD k f m L d).2.2.missing = false → (trD k f m L d).1 = 2 ^ k * m + v % 2 ^ k → (trE k f v m L e).1 = (trD k f m L d).2.1 ∧ Rel D (trE k f v m L e).2 (trD k f m L d).2.2 ∧ EOk (trE k f v m L e).2
 | 0, _, _, _, _, _, _, h, ho, _, _ => ⟨rfl, h, ho⟩
 | k + 1, f, v, m, L, e, d, h, ho, hm, hv => by
  obtain ⟨z, hz⟩ : ∃ z, L.getD (f + m) default = z := ⟨_, rfl⟩
  have eD : trD (k + 1) f m L d = trD k f (2 * m + b2n (bitOf d z)) (L.set (f + m) (adaptP z (bitOf d z))) (bitD d z) := by rw [← hz]; rfl
  have eE : trE (k + 1) f v m L e = trE k f v (2 * m + v / 2 ^ k % 2) (L.set (f + m) (adaptP z (v / 2 ^ k % 2 != 0))) (bitE e z (v / 2 ^ k % 2 != 0)) := by rw [← hz]; rfl
  rw [eD] at hm hv ⊢
  rw [eE]
  obtain ⟨r, hr, hrr⟩ := trD_range k f (2 * m + b2n (bitOf d z)) (L.set (f + m) (adaptP z (bitOf d z))) (bitD d z)
  have hx : v / 2 ^ k % 2 = b2n (bitOf d z) ∧ v % 2 ^ k = r := by
   rw [hrr, two_mod, Nat.pow_succ] at hv
   have hs : v % 2 ^ k < 2 ^ k := Nat.mod_lt _ (Nat.two_pow_pos k)
   have hx2 : v / 2 ^ k % 2 < 2 := Nat.mod_lt _ (by decide)
   have hb2 : b2n (bitOf d z) < 2 := by unfold b2n; split <;> decide
   generalize v % 2 ^ k = s at hv hs ⊢
   generalize v / 2 ^ k % 2 = x at hv hx2 ⊢
   generalize b2n (bitOf d z) = b at hv hb2 ⊢
   generalize 2 ^ k = t at hv hs hr
   have e1 : t * (2 * m + b) = t * 2 * m + t * b := by rw [Nat.mul_add, Nat.mul_assoc]
   rw [e1] at hv
   rcases (by omega : x = 0 ∨ x = 1) with rfl | rfl <;> rcases (by omega : b = 0 ∨ b = 1) with rfl | rfl <;> simp only [Nat.mul_zero, Nat.mul_one] at hv <;> omega
  have hb : (v / 2 ^ k % 2 != 0) = bitOf d z := by rw [hx.1]; unfold b2n; cases bitOf d z <;> rfl
  rw [hb, hx.1]
  obtain ⟨h1, h2⟩ := bit_rel h ho z (trD_miss k f _ _ _ hm)
  exact tr_rel k f v _ _ _ _ h1 h2 hm (by rw [hrr, hx.2])
end Go.Proofs.YtlmjefjimoghcaaGreat
namespace Go.Proofs.YtlmjefjimoghcaaGreat
set_option linter.unusedSimpArgs false
set_option linter.unnecessarySimpa false
set_option linter.unusedVariables false
theorem byD_lt (L : List Int) (l : Nat) (d : Dec) : (byD L l d).1 < 256 := by
 obtain ⟨r, hr, h⟩ := trD_range 8 (l / 32 * 256) 1 L d
 show (trD 8 (l / 32 * 256) 1 L d).1 - 2 ^ 8 < 256
 rw [h]; omega
theorem by_rel {D : List UInt8} {L : List Int} {l : Nat} {e : Enc} {d : Dec} (h : Rel D e d) (ho : EOk e) (hm : (byD L l d).2.2.missing = false) : (byE L l (byD L l d).1 e).1 = (byD L l d).2.1 ∧ Rel D (byE L l (byD L l d).1 e).2 (byD L l d).2.2 ∧ EOk (byE L l (byD L l d).1 e).2 := by
 obtain ⟨r, hr, h1⟩ := trD_range 8 (l / 32 * 256) 1 L d
 refine tr_rel 8 (l / 32 * 256) _ 1 L e d h ho hm ?_
 show _ = 2 ^ 8 * 1 + ((trD 8 (l / 32 * 256) 1 L d).1 - 2 ^ 8) % 2 ^ 8
 rw [h1]; omega
theorem dirD_miss : ∀ (k : Nat) (d : Dec) (v : Nat), (dirD d v k).2.missing = false → d.missing = false
 | 0, _, _, h => h
 | k + 1, d, v, h => bitD_miss (dirD_miss k _ _ h)
theorem dirD_full : ∀ (k : Nat) (d : Dec) (v : Nat), (dirD d v k).2.full = d.full
 | 0, _, _ => rfl
 | k + 1, d, v => (dirD_full k _ _).trans (bitD_full _ _)
theorem dir_rel {D : List UInt8} : ∀ (k : Nat) (e : Enc) (d : Dec) (a v : Nat), Rel D e d → EOk e → (dirD d a k).2.missing = false → (dirD d a k).1 = a * 2 ^ k + v % 2 ^ k → Rel D (dirE e k (v : Int)) (dirD d a k).2 ∧ EOk (dirE e k (v : Int))
 | 0, _, _, _, _, h, ho, _, _ => ⟨h, ho⟩
 | k + 1, e, d, a, v, h, ho, hm, hv => by
  have eD : dirD d a (k + 1) = dirD (bitD d 1024) (2 * a + b2n (bitOf d 1024)) k := rfl
  have eE : dirE e (k + 1) (v : Int) = dirE (bitE e 1024 ((v : Int) / 2 ^ k % 2 != 0)) k (v : Int) := rfl
  rw [eD] at hm hv ⊢
  rw [eE, bit_int, bne_int]
  obtain ⟨r, hr, hrr⟩ := dirD_range k (bitD d 1024) (2 * a + b2n (bitOf d 1024))
  have hx : v / 2 ^ k % 2 = b2n (bitOf d 1024) ∧ v % 2 ^ k = r := by
   rw [hrr, two_mod, Nat.pow_succ] at hv
   have hs : v % 2 ^ k < 2 ^ k := Nat.mod_lt _ (Nat.two_pow_pos k)
   have hx2 : v / 2 ^ k % 2 < 2 := Nat.mod_lt _ (by decide)
   have hb2 : b2n (bitOf d 1024) < 2 := by unfold b2n; split <;> decide
   generalize v % 2 ^ k = s at hv hs ⊢
   generalize v / 2 ^ k % 2 = x at hv hx2 ⊢
   generalize b2n (bitOf d 1024) = b at hv hb2 ⊢
   generalize 2 ^ k = t at hv hs hr
   have e1 : (2 * a + b) * t = a * (t * 2) + t * b := by rw [Nat.add_mul, Nat.mul_comm 2 a, Nat.mul_assoc, Nat.mul_comm 2 t, Nat.mul_comm b t]
   rw [e1] at hv
   rcases (by omega : x = 0 ∨ x = 1) with rfl | rfl <;> rcases (by omega : b = 0 ∨ b = 1) with rfl | rfl <;> simp only [Nat.mul_zero, Nat.mul_one] at hv <;> omega
  have hb : (v / 2 ^ k % 2 != 0) = bitOf d 1024 := by rw [hx.1]; unfold b2n; cases bitOf d 1024 <;> rfl
  rw [hb]
  obtain ⟨h1, h2⟩ := bit_rel h ho 1024 (dirD_miss k _ _ hm)
  exact dir_rel k _ _ _ _ h1 h2 hm (by rw [hrr, hx.2])
theorem bitLen_top (k q : Nat) (hk : k < 62) (hq : q < 2 ^ k) : Lib.bitLen (2 ^ k + q) = k + 1 := by
 have h2 : 2 ^ k ≤ 2 ^ 61 := Nat.pow_le_pow_right (by decide) (by omega)
 rw [Lib.bitLen_shift k (2 ^ k + q) (by omega) (by omega)]
 have : (2 ^ k + q) / 2 ^ k = 1 := by
  rw [Nat.add_div_left _ (Nat.two_pow_pos k), Nat.div_eq_of_lt hq]
 rw [this]
 rfl
/-- a number that is read is written, unless it is negative -/
theorem nu_rel {D : List UInt8} {L : List Int} {e : Enc} {d : Dec} (h : Rel D e d) (ho : EOk e) (hm : (nuD L d).2.2.missing = false) (h0 : 0 ≤ (nuD L d).1) : (nuD L d).1 < 2 ^ 62 ∧ (nuE L (nuD L d).1.toNat e).1 = (nuD L d).2.1 ∧ Rel D (nuE L (nuD L d).1.toNat e).2 (nuD L d).2.2 ∧ EOk (nuE L (nuD L d).1.toNat e).2 := by
 obtain ⟨rg, hrg, h1⟩ := trD_range 6 0 1 L d
 obtain ⟨n, hn⟩ : ∃ n, (trD 6 0 1 L d).1 - 2 ^ 6 = n := ⟨_, rfl⟩
 have hn64 : n < 64 := by rw [← hn, h1]; omega
 obtain ⟨r, hr⟩ : ∃ r, (trD 6 0 1 L d).2 = r := ⟨_, rfl⟩
 have hRes : nuD L d = if n ≤ 1 then ((n : Int), r) else if n = 63 then (-1, r) else (((2 ^ (n - 1) + (dirD r.2 0 (n - 1)).1 : Nat) : Int), r.1, (dirD r.2 0 (n - 1)).2) := by unfold nuD; simp only [hn, hr]
 have key : r.2.missing = false → (trE 6 0 n 1 L e).1 = r.1 ∧ Rel D (trE 6 0 n 1 L e).2 r.2 ∧ EOk (trE 6 0 n 1 L e).2 := fun hm' => by
  have := tr_rel 6 0 n 1 L e d h ho (by rw [hr]; exact hm') (by rw [h1]; rw [h1] at hn; omega)
  rwa [hr] at this
 rw [hRes] at hm h0 ⊢
 by_cases c1 : n ≤ 1
 ·rw [if_pos c1] at hm h0 ⊢
  obtain ⟨k1, k2, k3⟩ := key hm
  have hb : Lib.bitLen n = n := by rcases (by omega : n = 0 ∨ n = 1) with rfl | rfl <;> rfl
  have he : nuE L ((n : Int)).toNat e = trE 6 0 n 1 L e := by
   unfold nuE
   rw [Int.toNat_natCast]
   simp only [hb]
   rw [if_neg (by omega)]
  refine ⟨by omega, ?_⟩
  show (nuE L ((n : Int)).toNat e).1 = _ ∧ Rel D (nuE L ((n : Int)).toNat e).2 _ ∧ EOk (nuE L ((n : Int)).toNat e).2
  rw [he]
  exact ⟨k1, k2, k3⟩
 ·rw [if_neg c1] at hm h0 ⊢
  by_cases c2 : n = 63
  ·rw [if_pos c2] at h0
   exact absurd (show (0 : Int) ≤ -1 from h0) (by decide)
  ·rw [if_neg c2] at hm h0 ⊢
   obtain ⟨q, hq, hqq⟩ := dirD_range (n - 1) r.2 0
   obtain ⟨k1, k2, k3⟩ := key (dirD_miss _ _ _ hm)
   have hqe : (dirD r.2 0 (n - 1)).1 = q := by rw [hqq]; omega
   have hb : Lib.bitLen (2 ^ (n - 1) + q) = n := by rw [bitLen_top (n - 1) q (by omega) hq]; omega
   have h2 : 2 ^ (n - 1) ≤ 2 ^ 61 := Nat.pow_le_pow_right (by decide) (by omega)
   have he : nuE L (2 ^ (n - 1) + q) e = ((trE 6 0 n 1 L e).1, dirE (trE 6 0 n 1 L e).2 (n - 1) ((2 ^ (n - 1) + q : Nat) : Int)) := by
    unfold nuE
    simp only [hb]
    rw [if_pos (by omega)]
   have hd := dir_rel (n - 1) _ _ 0 (2 ^ (n - 1) + q) k2 k3 hm (by rw [hqe, Nat.add_mod_left, Nat.mod_eq_of_lt hq]; omega)
   rw [hqe]
   refine ⟨by show ((2 ^ (n - 1) + q : Nat) : Int) < _; omega, ?_⟩
   show (nuE L (((2 ^ (n - 1) + q : Nat) : Int)).toNat e).1 = _ ∧ Rel D (nuE L (((2 ^ (n - 1) + q : Nat) : Int)).toNat e).2 _ ∧ EOk (nuE L (((2 ^ (n - 1) + q : Nat) : Int)).toNat e).2
   rw [Int.toNat_natCast, he]
   exact ⟨k1, hd.1, hd.2⟩
end Go.Proofs.YtlmjefjimoghcaaGreat
namespace Go.Proofs.YtlmjefjimoghcaaGreat
set_option linter.unusedSimpArgs false
set_option linter.unnecessarySimpa false
set_option linter.unusedVariables false
open Go.RowKit
attribute [local go_sem ↓] Go.wp_at_zero Go.wp_at_succ
theorem nuD_miss {L : List Int} {d : Dec} (h : (nuD L d).2.2.missing = false) : d.missing = false := by
 unfold nuD at h
 simp only at h
 split at h
 ·exact trD_miss _ _ _ _ _ h
 ·split at h
  ·exact trD_miss _ _ _ _ _ h
  ·exact trD_miss _ _ _ _ _ (dirD_miss _ _ _ h)
theorem nuD_full (L : List Int) (d : Dec) : (nuD L d).2.2.full = d.full := by
 unfold nuD
 simp only
 split
 ·exact trD_full _ _ _ _ _
 ·split
  ·exact trD_full _ _ _ _ _
  ·exact (dirD_full _ _ _).trans (trD_full _ _ _ _ _)
theorem decNs_miss (L : List Int) (d : Dec) : ∀ k, (decNs L d k).2.2.missing = false → d.missing = false
 | 0, h => h
 | k + 1, h => decNs_miss L d k (nuD_miss h)
theorem decNs_full (L : List Int) (d : Dec) : ∀ k, (decNs L d k).2.2.full = d.full
 | 0 => rfl
 | k + 1 => (nuD_full _ _).trans (decNs_full L d k)
theorem decNs_rel {D : List UInt8} {d : Dec} (h : Rel D newE d) : ∀ k, (decNs (half 64) d k).2.2.missing = false → (decNs (half 64) d k).1.any negN = false →
  (encNs (half 64, newE) (decNs (half 64) d k).1).1 = (decNs (half 64) d k).2.1 ∧ Rel D (encNs (half 64, newE) (decNs (half 64) d k).1).2 (decNs (half 64) d k).2.2 ∧ EOk (encNs (half 64, newE) (decNs (half 64) d k).1).2 ∧ (decNs (half 64) d k).1.all okN = true
 | 0, _, _ => ⟨rfl, h, newE_ok, rfl⟩
 | k + 1, hm, hn => by
  obtain ⟨s, hs⟩ : ∃ s, decNs (half 64) d k = s := ⟨_, rfl⟩
  have e : decNs (half 64) d (k + 1) = (s.1 ++ [(nuD s.2.1 s.2.2).1], (nuD s.2.1 s.2.2).2) := by rw [← hs]; rfl
  have ih := decNs_rel h k
  rw [hs] at ih
  rw [e] at hm hn ⊢
  simp only [List.any_append, Bool.or_eq_false_iff] at hn
  have h0 : 0 ≤ (nuD s.2.1 s.2.2).1 := by
   have := hn.2
   unfold negN at this
   simp at this; omega
  obtain ⟨i1, i2, i3, i4⟩ := ih (nuD_miss hm) hn.1
  obtain ⟨n1, n2, n3, n4⟩ := nu_rel (L := s.2.1) i2 i3 hm h0
  rw [encNs_snoc, i1]
  refine ⟨n2, n3, n4, ?_⟩
  rw [List.all_append, i4]
  simp only [List.all_cons, List.all_nil, Bool.and_true, Bool.true_and]
  unfold okN
  rw [decide_eq_true h0, decide_eq_true (by omega)]; rfl
theorem num_split {data : List UInt8} {n m : Nat} (h : V.peekF data = some (n, m)) : V.num n ++ data.drop m = data := by
 rw [← (V.num_peek data n m h).2.2.2.2, List.take_append_drop]
/-- numbers that are read are written so -/
theorem decNum_enc {data : List UInt8} {most : Int} (h : (decNumF data most).2 = 0) : encNumF (decNumF data most).1 = (data, 0) := by
 unfold decNumF at h ⊢
 split at h
 ·exact absurd h (by decide)
 rename_i hneg
 rw [if_neg hneg]
 have hneg' : (decNumS data most).1.any negN = false := by simpa using hneg
 clear hneg
 unfold decNumS at h hneg' ⊢
 cases hp : V.peekF data with
 | none => rw [hp] at h; exact absurd h (show ¬ ((12 : Int) = 0) by decide)
 | some r =>
  obtain ⟨n, m⟩ := r
  rw [hp] at h hneg'
  simp only at h hneg' ⊢
  have hsp := num_split hp
  by_cases h4 : 4096 < n
  ·rw [if_pos h4] at h; exact absurd h (by decide)
  rw [if_neg h4] at h hneg' ⊢
  by_cases hmo : most < (n : Int)
  ·rw [if_pos hmo] at h; exact absurd h (by decide)
  rw [if_neg hmo] at h hneg' ⊢
  by_cases hz : n = 0
  ·rw [if_pos hz] at h ⊢
   by_cases hd : data.drop m = []
   ·subst hz
    rw [hd, List.append_nil] at hsp
    show encNumF [] = _
    unfold encNumF numsE
    simp [hsp]
   ·rw [if_neg hd] at h; exact absurd h (by decide)
  rw [if_neg hz] at h hneg' ⊢
  cases he : endD (decNs (half 64) (newD (data.drop m)) n).2.2 with
  | false => rw [he] at h; exact absurd h (show ¬ ((12 : Int) = 0) by decide)
  | true =>
   rw [he] at hneg'
   simp only [if_true] at hneg' ⊢
   obtain ⟨hm, hf⟩ := endD_parts he
   rw [decNs_full] at hf
   obtain ⟨k1, k2, k3, k4⟩ := decNs_rel (newD_rel (decNs_miss _ _ n hm) hf) n hm hneg'
   have hfin := end_rel k2 k3 he
   have hlen := decNs_len (half 64) (newD (data.drop m)) n
   unfold encNumF
   rw [hlen, if_neg h4, k4]
   simp only [if_true]
   unfold numsE
   have hne : (decNs (half 64) (newD (data.drop m)) n).1.isEmpty = false := by
    cases hl : (decNs (half 64) (newD (data.drop m)) n).1 with
    | nil => rw [hl] at hlen; exact absurd hlen.symm hz
    | cons => rfl
   rw [hne, hlen]
   simp only [Bool.false_eq_true, if_false]
   rw [← hfin, hsp]
def byS (r : List Int × Nat × Enc) (c : UInt8) : List Int × Nat × Enc := ((byE r.1 r.2.1 c.toNat r.2.2).1, c.toNat, (byE r.1 r.2.1 c.toNat r.2.2).2)
def encBs (r : List Int × Nat × Enc) (l : List UInt8) : List Int × Nat × Enc := l.foldl byS r
def by0 : List Int × Nat × Enc := (half 2048, 0, newE)
def bytesE (l : List UInt8) : List UInt8 := V.num l.length ++ if l.isEmpty then [] else finE (encBs by0 l).2.2
theorem encBs_snoc (r : List Int × Nat × Enc) (l : List UInt8) (c : UInt8) : encBs r (l ++ [c]) = byS (encBs r l) c := by simp [encBs]
theorem encBs_ok (l : List UInt8) : EOk (encBs by0 l).2.2 ∧ (encBs by0 l).2.2.out.length ≤ 16 * l.length ∧ (encBs by0 l).1.length = 2048 ∧ (encBs by0 l).2.1 < 256 := by
 induction l using snoc_rec with
 | h0 => exact ⟨newE_ok, Nat.zero_le _, List.length_replicate, by decide⟩
 | h1 l c ih =>
  obtain ⟨h1, h2, h3, h4⟩ := ih
  obtain ⟨k1, k2, k3⟩ := byE_ok h1 (encBs by0 l).1 (encBs by0 l).2.1 c.toNat
  rw [encBs_snoc]
  refine ⟨k1, ?_, k3.trans h3, c.toNat_lt⟩
  rw [List.length_append, List.length_singleton, Nat.mul_add]
  show (byE _ _ _ _).2.out.length ≤ _
  omega
theorem bc_get {l : List UInt8} {k : Nat} (h : k < l.length) : (bcells l)[k]? = some (.int .u8 ((l.getD k 0).toNat : Int)) := by simp [bcells, List.getD, h]
theorem take_getD0 {l : List UInt8} {k : Nat} (h : k < l.length) : l.take (k + 1) = l.take k ++ [l.getD k 0] := by
 rw [List.take_succ_eq_append_getElem h]; simp [List.getD, h]
structure EncBI (B G E : Nat) (w : World) (l : List UInt8) (k : Nat) (S : Nat → Prop) (vo : Value) (wr : World) : Prop where
 en : EnO S E (encBs by0 (l.take k)).2.2 wr vo
 new : ∀ j, S j → w.heap.size ≤ j
 row : IRow wr G (encBs by0 (l.take k)).1
 obj : BytO B G (encBs by0 (l.take k)).2.1 wr
 touch : Touch (fun k => k = G ∨ k = B) w wr
def EncBR (B G E : Nat) (w : World) (l : List UInt8) (i : Value) (wr : World) : Prop := ∃ (k : Nat) (S : Nat → Prop) (vo : Value), i = .int .i64 (k : Int) ∧ k ≤ l.length ∧ EncBI B G E w l k S vo wr
set_option maxRecDepth 100000 in
theorem encB_walk (l : List UInt8) (hl : l.length ≤ 4096) (w : World) (B G : Nat) (A : Option Addr) (c : Nat) (hF : Flat w (fun k => k < w.heap.size ∧ k ≠ G ∧ k ≠ B) A (bcells l)) (hb : BytO B G 0 w) (hi : IRow w G (half 2048)) (hBG : B ≠ G) :
  Calls Tryz.prog 42 #[.iface 73 (.pointer (some ⟨B, 0, none⟩)), .slice A l.length c] w fun e w' => e = .returned (.string (sB (bytesE l))) ∧ Touch (fun k => k = G ∨ k = B) w w' := by
 have HF := Lib.hid hF
 have HL := Lib.hid hl
 have HB := Lib.hid hb
 have HI := Lib.hid hi
 have HBG := Lib.hid hBG
 have hGl := (Array.getElem?_eq_some_iff.1 hi.to).1
 have hBl := (Array.getElem?_eq_some_iff.1 hb.to).1
 have HGB := Lib.hid (And.intro hGl hBl)
 have hli : (l.length : Int) ≤ 4096 := by omega
 clear hF hb hi hGl hBl hBG
 by_cases hz : l.length = 0
 ·have hze : l = [] := List.length_eq_zero_iff.1 hz
  subst hze
  have HN : Hid (∀ w : World, Calls Tryz.prog 53 #[.int .i64 0] w fun e w' => e = .returned (.string (sB (V.num 0))) ∧ Below w.heap.size w w') := Lib.hid fun w => V.number_walk 0 (by decide) w
  have HE : Hid (bytesE [] = V.num 0) := Lib.hid (by unfold bytesE; simp)
  go_enter Tryz.func42, Tryz.ntmps42
  go_wp2_with fail
  refine (HN.out _).mono ?_
  rintro x w1 ⟨rfl, hb1⟩
  have HB1 := Lib.hid hb1
  clear hb1
  go_wp2_with fail
  go_ret
  rw [HE.out]
  exact ⟨rfl, .of_below HB1.out⟩
 ·have HN : Hid (∀ w : World, Calls Tryz.prog 53 #[.int .i64 (l.length : Int)] w fun e w' => e = .returned (.string (sB (V.num l.length))) ∧ Below w.heap.size w w') := Lib.hid fun w => V.number_walk l.length (by omega) w
  have HE : Hid (bytesE l = V.num l.length ++ finE (encBs by0 l).2.2) := Lib.hid (by
   unfold bytesE
   have : l.isEmpty = false := by cases l with | nil => exact absurd rfl hz | cons => rfl
   rw [this]; rfl)
  have z1 : (sB (V.num l.length)).size ≤ 9 := by rw [sB_size, V.num_length]; have := V.kOf_le l.length; omega
  clear hl
  go_enter Tryz.func42, Tryz.ntmps42
  go_wp2_with fail
  refine (HN.out _).mono ?_
  rintro x w1 ⟨rfl, hb1⟩
  have HB1 := Lib.hid hb1
  clear hb1
  go_wp2_with fail
  refine (newE_walk _).mono ?_
  rintro x w2 ⟨rfl, hb2, he2⟩
  have HB2 := Lib.hid (bstep HB1.out (Nat.le_refl _) hb2)
  have HE2 := Lib.hid he2
  have HS1 : Hid (w.heap.size ≤ w1.heap.size) := Lib.hid HB1.out.size
  clear hb2 he2
  obtain ⟨E, hE⟩ : ∃ E, w1.heap.size = E := ⟨_, rfl⟩
  rw [hE] at HE2 HS1 ⊢
  clear hE
  go_wp2_with fail
  go_loopw [19] (fun i wr => EncBR B G E w l i wr) (fun i _ => ((l.length : Int) - intOf i).toNat)
  case atStart =>
   have h := HGB.out
   refine ⟨0, _, _, rfl, Nat.zero_le _, HE2.out, fun j hj => hj ▸ HS1.out, ?_, ?_, .of_below HB2.out⟩
   ·exact (HB2.out.block G h.1).trans HI.out.to
   ·exact (HB2.out.block B h.2).trans HB.out.to
  case round =>
   obtain ⟨k, S, vo, rfl, hk, hI⟩ := hrel
   have HI' := Lib.hid hI
   by_cases hlt : k < l.length
   ·have hki : (k : Int) < l.length := by omega
    obtain ⟨v, hvv⟩ : ∃ v, l.getD k 0 = v := ⟨_, rfl⟩
    obtain ⟨a, rfl, _, c0⟩ := (HF.out.frame (w' := wr) fun k hk hl => HI'.out.touch.block k hl (fun h => h.elim hk.2.1 hk.2.2)) k _ (bc_get hlt)
    rw [hvv] at c0
    have hok := encBs_ok (l.take k)
    have hlk : (l.take k).length ≤ 4096 := by rw [List.length_take]; have := HL.out; omega
    have hg := HGB.out
    have HW := Lib.hid (bytE_walk hI.en hok.1 hI.obj hok.2.2.2 hI.row hok.2.2.1 (fun h => absurd (hI.new _ h) (by omega)) (fun h => absurd (hI.new _ h) (by omega)) HBG.out (by omega) v.toNat v.toNat_lt)
    have HSn : Hid (encBs by0 (l.take (k + 1)) = byS (encBs by0 (l.take k)) v) := Lib.hid (by
     rw [take_getD0 hlt, hvv, encBs_snoc])
    clear hI hvv hok hlk hg
    go_wp2_with fail
    refine (HW.out).mono ?_
    rintro x w4 ⟨rfl, hm, hb4⟩
    have HM := Lib.hid hm
    have HB4 := Lib.hid hb4
    clear hm hb4 HW
    go_wp2_with fail
    go_roundw
    case rel =>
     obtain ⟨S', vo', he', hs'⟩ := HM.out.ex
     have ht := HI'.out.touch.trans HM.out.touch (fun i hi h => h.elim (fun h => absurd (HI'.out.new i h) (by omega)) id)
     refine ⟨k + 1, S', vo', by go_num, by omega, ?_⟩
     refine ⟨by rw [HSn.out]; exact he', fun j hj => ?_, by rw [HSn.out]; exact HM.out.row, by rw [HSn.out]; exact HB4.out, ht⟩
     exact (hs' j hj).elim (HI'.out.new j) fun h => Nat.le_trans HI'.out.touch.size h
    case measure => simp [intOf]; omega
   ·obtain rfl : k = l.length := by omega
    have he := hI.en
    rw [List.take_length] at he
    have hok := encBs_ok l
    have h4 := HL.out
    have HFi := Lib.hid (fin_walk he hok.1 (by omega))
    have z2 : (sB (finE (encBs by0 l).2.2)).size ≤ 900004 := by rw [sB_size]; unfold finE; rw [List.length_append]; have : (be4 (encBs by0 l).2.2.low).length = 4 := rfl; omega
    clear he hI hok h4
    go_wp2_with fail
    refine (HFi.out).mono ?_
    rintro x w4 ⟨rfl, hb4⟩
    have HB4 := Lib.hid hb4
    clear hb4
    go_wp2_with fail
    go_ret
    rw [HE.out, ← sB_app]
    exact ⟨rfl, HI'.out.touch.trans (.of_below (S := fun _ => False) HB4.out) fun _ _ h => h.elim⟩
def encBytF (l : List UInt8) : List UInt8 × Int := if 4096 < l.length then ([], 9) else (bytesE l, 0)
theorem brow_flat {w : World} {B : Nat} {l : List UInt8} (h : V.BRow w B l) : Flat w (fun k => k = B) (some ⟨B, 0, none⟩) (bcells l) := fun j u hj => by
 have hjl : j < l.length := by have := (List.getElem?_eq_some_iff.1 hj).1; simpa [bcells] using this
 rw [bc_get hjl] at hj
 injection hj with hj
 refine ⟨_, rfl, rfl, ?_⟩
 rw [Addr.add_lit, Nat.zero_add, h.cell j hjl, hj]
set_option maxRecDepth 100000 in
theorem encBytes_walk (l : List UInt8) (hl : l.length ≤ maxLen) (w : World) :
  Calls Tryz.prog 15 #[.string (sB l)] w fun e w' => e = .returned (.tuple #[.string (sB (encBytF l).1), .int .i64 (encBytF l).2]) ∧ Below w.heap.size w w' := by
 have hsz := sB_size l
 by_cases h4 : 4096 < l.length
 ·have HE : Hid (encBytF l = ([], 9)) := Lib.hid (by unfold encBytF; rw [if_pos h4])
  have h4i : (4096 : Int) < l.length := by omega
  go_enter Tryz.func15, Tryz.ntmps15
  go_wp2_with fail
  go_ret2
  rw [HE.out]
  exact ⟨rfl, .refl _ _⟩
 ·have HE : Hid (encBytF l = (bytesE l, 0)) := Lib.hid (by unfold encBytF; rw [if_neg h4])
  have h4i : ¬ (4096 : Int) < l.length := by omega
  have HW := Lib.hid fun w B G A c hF hb hi hBG => encB_walk l (by omega) w B G A c hF hb hi hBG
  clear hl
  go_enter Tryz.func15, Tryz.ntmps15
  go_wp2_with fail
  refine (newBytes_walk _).mono ?_
  rintro x w1 ⟨G, B, rfl, hG, hB, hBG, hb, hi, hn⟩
  obtain ⟨cap, W, hrun, hrow, hbel, hsz2⟩ := bytes_run w1 l
  have hGl := (Array.getElem?_eq_some_iff.1 hi.to).1
  have hBl := (Array.getElem?_eq_some_iff.1 hn.to).1
  have HWa := Lib.hid (HW.out W B G (some ⟨w1.heap.size, 0, none⟩) cap ((brow_flat hrow).mono fun k hk => ⟨by omega, by omega, by omega⟩) ((hbel.block B hBl).trans hn.to) ((hbel.block G hGl).trans hi.to) hBG)
  have HX := Lib.hid (And.intro hG (And.intro hB (bstep hb (Nat.le_refl _) hbel)))
  clear hG hB hBG hb hi hn hrow hbel hsz2 hGl hBl HW
  go_wp2_with fail
  refine (HWa.out).mono ?_
  rintro x w2 ⟨rfl, ht⟩
  have HT := Lib.hid ht
  clear ht hrun
  go_wp2_with fail
  go_ret2
  obtain ⟨h1, h2, h3⟩ := HX.out
  rw [HE.out]
  exact ⟨rfl, h3.trans (HT.out.below _ h3.size fun i hi => hi.elim (fun h => h ▸ h1) (fun h => h ▸ h2))⟩
def decBs (L : List Int) (d : Dec) : Nat → List UInt8 × Nat × List Int × Dec
 | 0 => ([], 0, L, d)
 | k + 1 => let s := decBs L d k; let r := byD s.2.2.1 s.2.1 s.2.2.2; (s.1 ++ [UInt8.ofNat r.1], r)
theorem decBs_len (L : List Int) (d : Dec) : ∀ k, (decBs L d k).1.length = k
 | 0 => rfl
 | k + 1 => by
  have := decBs_len L d k
  show ((decBs L d k).1 ++ [_]).length = _
  rw [List.length_append, this]; rfl
def decBytS (data : List UInt8) (most : Int) : List UInt8 × Int := match V.peekF data with
 | none => ([], 12)
 | some (n, m) => if 4096 < n then ([], 12) else if most < (n : Int) then ([], 2) else if n = 0 then ([], if data.drop m = [] then 0 else 12) else
  let r := decBs (half 2048) (newD (data.drop m)) n
  if endD r.2.2.2 then (r.1, 0) else ([], 12)
structure DecBI (w : World) (B G D O : Nat) (n : Nat) (d : Dec) (k : Nat) (wr : World) : Prop where
 de : DeO D (decBs (half 2048) d k).2.2.2 wr
 sz : 2 ^ 24 ≤ (decBs (half 2048) d k).2.2.2.size
 row : IRow wr G (decBs (half 2048) d k).2.2.1
 len : (decBs (half 2048) d k).2.2.1.length = 2048
 la : (decBs (half 2048) d k).2.1 < 256
 nu : BytO B G (decBs (half 2048) d k).2.1 wr
 out : CRow wr O 5 ((decBs (half 2048) d k).1 ++ List.replicate (n - k) 0)
 touch : Touch (fun k => k = G ∨ k = B) w wr
def DecBR (w : World) (B G D O : Nat) (n : Nat) (d : Dec) (i : Value) (wr : World) : Prop := ∃ k : Nat, i = .int .i64 (k : Int) ∧ k ≤ n ∧ DecBI w B G D O n d k wr
theorem put_brow {l : List UInt8} {k n : Nat} (hl : l.length = k) (hk : k < n) (v : UInt8) : (l ++ List.replicate (n - k) 0).set k v = (l ++ [v]) ++ List.replicate (n - (k + 1)) 0 := by
 rw [List.set_append_right _ _ (Nat.le_of_eq hl), hl, Nat.sub_self, show n - k = (n - (k + 1)) + 1 by omega, List.replicate_succ, List.set_cons_zero]
 simp
set_option maxRecDepth 100000 in
theorem made_brow (W : World) (n : Nat) (hn : n ≤ 4096) : ∃ W', (Instr.makeSlice 70 (.int .i64 (n : Int)) (.int .i64 (n : Int))).run Tryz.prog W = .ok (.slice (some ⟨W.heap.size, 0, none⟩) n n) W' ∧ CRow W' W.heap.size 5 (List.replicate n 0) ∧ Below W.heap.size W W' ∧ W'.heap.size = W.heap.size + 1 := by
 obtain ⟨cur, hcur⟩ : ∃ cur, madeCells (Value.int .u8 0).cells (n * 1) = cur := ⟨_, rfl⟩
 have hmk := run_makeSlice (P := Tryz.prog) W 70 5 _ (.int .u8 0) Tryz.underlying70 rfl rfl .i64 .i64 (n : Int) (n : Int) (by omega) (Int.le_refl _) (by show (n : Int).toNat * 1 ≤ _; omega) (by show (1 : Int) * n ≤ _; omega) (by omega)
 rw [Int.toNat_natCast] at hmk
 have hmk' : (Instr.makeSlice 70 (.int .i64 (n : Int)) (.int .i64 (n : Int))).run Tryz.prog W = .ok (.slice (some ⟨W.heap.size, 0, none⟩) n n) (W.alloc (.cells cur 5)) := by rw [← hcur]; exact hmk
 refine ⟨_, hmk', ?_, (Below.refl _ _).alloc (Nat.le_refl _) _, World.size_alloc ..⟩
 have hc1 : cur.toList = bcells (List.replicate n 0) := by
  rw [← hcur, Nat.mul_one]
  show (madeCells #[Value.int .u8 0] n).toList = _
  rw [toList_madeCells_one]; simp [bcells]
 have := heap_alloc_new W (.cells cur 5)
 rw [show cur = (bcells (List.replicate n 0)).toArray by rw [← hc1]] at this ⊢
 exact this
def DecBP (B G : Nat) (w : World) (r : List UInt8 × Int) (x : Ending) (w' : World) : Prop := Touch (fun k => k = G ∨ k = B) w w' ∧ ∃ v, x = .returned (.tuple #[v, .int .i64 r.2]) ∧ (convert 70 9 v).run Tryz.prog w' = .ok (.string (sB r.1)) w'
theorem nil_str (w : World) : (convert 70 9 (.slice none 0 0)).run Tryz.prog w = .ok (.string (sB [])) w := str_row (w := w) (B := 0) (v := .slice none 0 0) (l := []) ⟨rfl, .inl ⟨rfl, rfl⟩⟩
theorem decBP_nil {B G : Nat} {w w' : World} {e : Int} (h : Touch (fun k => k = G ∨ k = B) w w') : DecBP B G w ([], e) (.returned (.tuple #[.slice none 0 0, .int .i64 e])) w' := ⟨h, _, rfl, nil_str w'⟩
set_option maxRecDepth 100000 in
theorem decB_walk (data : List UInt8) (hd : data.length ≤ 1000000) (most : Int) (w : World) (B G : Nat) (hb : BytO B G 0 w) (hi : IRow w G (half 2048)) (hBG : B ≠ G) :
  Calls Tryz.prog 40 #[.iface 73 (.pointer (some ⟨B, 0, none⟩)), .string (sB data), .int .i64 4096, .int .i64 most] w fun x w' => DecBP B G w (decBytS data most) x w' := by
 obtain ⟨l1, h1⟩ : ∃ l1, (rdN 4096 data 0).1 = l1 := ⟨_, rfl⟩
 obtain ⟨e1, h2⟩ : ∃ e1, (rdN 4096 data 0).2.1 = e1 := ⟨_, rfl⟩
 obtain ⟨n1, h3⟩ : ∃ n1, (rdN 4096 data 0).2.2 = n1 := ⟨_, rfl⟩
 have HR : Hid (∀ (w : World) (R : Nat), Rd w R data 0 → Calls Tryz.prog 47 #[.pointer (some ⟨R, 0, none⟩), .int .i64 4096] w fun e w' => e = .returned (.int .i64 n1) ∧ Rd w' R l1 e1 ∧ Touch (fun k => k = R) w w') := Lib.hid (fun w R h => by
  have := rdN_walk h 4096
  rw [h1, h2, h3] at this; exact this)
 have hGl := (Array.getElem?_eq_some_iff.1 hi.to).1
 have hBl := (Array.getElem?_eq_some_iff.1 hb.to).1
 have HGB := Lib.hid (And.intro hGl (And.intro hBl hBG))
 have HB := Lib.hid hb
 have HI := Lib.hid hi
 have hl1 := rdN_len 4096 data 0
 rw [h1] at hl1
 clear hb hi hGl hBl hBG
 by_cases he1 : e1 = 0
 ·have hpk : ∃ u m : Nat, V.peekF data = some (u, m) ∧ u ≤ 4096 ∧ l1 = data.drop m ∧ n1 = (u : Int) := by
   unfold rdN at h1 h2 h3
   cases hp : V.peekF data with
   | none => simp [hp] at h2; omega
   | some r =>
    obtain ⟨u, m⟩ := r
    by_cases hlt : (4096 : Int) < (u : Int)
    ·simp [hp, hlt] at h2; omega
    ·simp [hp, hlt] at h1 h3
     exact ⟨u, m, rfl, by omega, h1.symm, h3.symm⟩
  obtain ⟨u, m, hp, hu, rfl, rfl⟩ := hpk
  subst he1
  have hmodel : decBytS data most = if most < (u : Int) then ([], 2) else if u = 0 then ([], if data.drop m = [] then 0 else 12) else
    if endD (decBs (half 2048) (newD (data.drop m)) u).2.2.2 then ((decBs (half 2048) (newD (data.drop m)) u).1, 0) else ([], 12) := by
   unfold decBytS; rw [hp]; simp only [show ¬ 4096 < u by omega, if_false]
  have hu4 : (u : Int) ≤ 4096 := by omega
  obtain ⟨l1, hl1e⟩ : ∃ l1, data.drop m = l1 := ⟨_, rfl⟩
  rw [hl1e] at hmodel HR hl1
  have hl1m : l1.length ≤ 1000000 := by omega
  clear h1 h2 h3 hp hu hl1e hl1
  by_cases hm : most < (u : Int)
  ·have HE : Hid (decBytS data most = ([], 2)) := Lib.hid (by rw [hmodel, if_pos hm])
   clear hmodel
   go_enter Tryz.func40, Tryz.ntmps40
   go_wp2_with fail
   refine (new_rd data _).mono ?_
   rintro x w1 ⟨rfl, hr1, hb1⟩
   have HB1 := Lib.hid hb1
   have HRa := Lib.hid (HR.out w1 _ hr1)
   clear hr1 hb1
   go_wp2_with fail
   refine (HRa.out).mono ?_
   rintro x w2 ⟨rfl, hr2, ht2⟩
   have HT2 := Lib.hid (below_step HB1.out ht2 (Nat.le_refl _))
   have HRb := Lib.hid (rdR_walk hr2)
   clear hr2 ht2
   go_wp2_with fail
   refine (HRb.out).mono ?_
   rintro x _ ⟨rfl, rfl⟩
   go_wp2_with fail
   refine bodyPost_ret (results_tmp2 rfl _ _ _) rfl ?_
   rw [HE.out]
   exact decBP_nil (.of_below HT2.out)
  ·by_cases hz : u = 0
   ·subst hz
    have HE : Hid (decBytS data most = ([], rdE l1 0)) := Lib.hid (by
     rw [hmodel, if_neg hm, if_pos rfl]
     unfold rdE
     by_cases h : l1 = [] <;> simp [h])
    have hm0 : ¬ most < 0 := hm
    clear hmodel
    go_enter Tryz.func40, Tryz.ntmps40
    go_wp2_with fail
    refine (new_rd data _).mono ?_
    rintro x w1 ⟨rfl, hr1, hb1⟩
    have HB1 := Lib.hid hb1
    have HRa := Lib.hid (HR.out w1 _ hr1)
    clear hr1 hb1
    go_wp2_with fail
    refine (HRa.out).mono ?_
    rintro x w2 ⟨rfl, hr2, ht2⟩
    have HT2 := Lib.hid (below_step HB1.out ht2 (Nat.le_refl _))
    have HRb := Lib.hid (rdR_walk hr2)
    have HRc := Lib.hid (rdE_walk hr2)
    clear hr2 ht2
    go_wp2_with fail
    refine (HRb.out).mono ?_
    rintro x _ ⟨rfl, rfl⟩
    go_wp2_with fail
    refine (HRc.out).mono ?_
    rintro x w3 ⟨rfl, _, ht3⟩
    have HT3 := Lib.hid (below_step HT2.out ht3 (Nat.le_refl _))
    clear ht3
    go_wp2_with fail
    refine bodyPost_ret (results_tmp2 rfl _ _ _) rfl ?_
    rw [HE.out]
    exact decBP_nil (.of_below HT3.out)
   ·have hzi : ((u : Int) == 0) = false := beq_eq_false_iff_ne.2 (by omega)
    obtain ⟨d, hdd⟩ : ∃ d, newD l1 = d := ⟨_, rfl⟩
    have HE : Hid (decBytS data most = if endD (decBs (half 2048) d u).2.2.2 then ((decBs (half 2048) d u).1, 0) else ([], 12)) := Lib.hid (by
     rw [hmodel, if_neg hm, if_neg hz, hdd])
    have hND := fun w => newD_walk w l1 (by unfold maxLen; omega)
    rw [hdd] at hND
    have HND := Lib.hid hND
    have htk : rdT (l1.length : Int) l1 0 = ([], 0, l1) := by unfold rdT; simp
    have HTk := Lib.hid htk
    clear hmodel hdd hND htk
    go_enter Tryz.func40, Tryz.ntmps40
    go_wp2_with fail
    refine (new_rd data _).mono ?_
    rintro x w1 ⟨rfl, hr1, hb1⟩
    have HB1 := Lib.hid hb1
    have HRa := Lib.hid (HR.out w1 _ hr1)
    clear hr1 hb1
    go_wp2_with fail
    refine (HRa.out).mono ?_
    rintro x w2 ⟨rfl, hr2, ht2⟩
    have HT2 := Lib.hid (below_step HB1.out ht2 (Nat.le_refl _))
    have HRb := Lib.hid (rdR_walk hr2)
    have HRc := Lib.hid (rdL_walk hr2)
    have htk := rdT_walk hr2 (l1.length : Int)
    rw [HTk.out] at htk
    have HRd := Lib.hid htk
    clear hr2 ht2 htk
    go_wp2_with fail
    refine (HRb.out).mono ?_
    rintro x _ ⟨rfl, rfl⟩
    go_wp2_with fail
    refine (HRc.out).mono ?_
    rintro x _ ⟨rfl, rfl⟩
    go_wp2_with fail
    refine (HRd.out).mono ?_
    rintro x w3 ⟨rfl, _, ht3⟩
    have HT3 := Lib.hid (below_step HT2.out ht3 (Nat.le_refl _))
    clear ht3
    go_wp2_with fail
    refine (HND.out _).mono ?_
    rintro x w4 ⟨rfl, hb4, hd4, hs4⟩
    have HT4 := Lib.hid (bstep HT3.out (Nat.le_refl _) hb4)
    obtain ⟨W5, hrun, hrow, hb5, hz5⟩ := made_brow w4 u (by omega)
    have HT5 := Lib.hid (bstep HT4.out (Nat.le_refl _) hb5)
    obtain ⟨D, hD⟩ : ∃ D, w3.heap.size = D := ⟨_, rfl⟩
    have hDs := HT3.out.size
    have hD4 := (Array.getElem?_eq_some_iff.1 hd4.obj).1
    rw [hD] at hd4 hDs hD4 ⊢
    obtain ⟨O, hO⟩ : ∃ O, w4.heap.size = O := ⟨_, rfl⟩
    have HD5 : Hid (DeO D d W5) := Lib.hid (hd4.frame (hb5.block D hD4))
    have HS5 : Hid (2 ^ 24 ≤ d.size) := Lib.hid (by rw [hs4]; decide)
    rw [hO] at hrow hrun hD4
    have HO5 := Lib.hid hrow
    have HOD := Lib.hid (And.intro hDs hD4)
    clear hb4 hd4 hs4 hrow hb5 hz5 hDs hD hD4
    go_wp2_with fail
    clear hO
    have HI5 : Hid (DecBI w B G D O u d 0 W5) := Lib.hid (by
     have h := HGB.out
     exact ⟨HD5.out, HS5.out, (HT5.out.block G h.1).trans HI.out.to, by simp [half, decBs], by simp [decBs], (HT5.out.block B h.2.1).trans HB.out.to, by simpa [decBs] using HO5.out, .of_below HT5.out⟩)
    go_loopw [40] (fun i wr => DecBR w B G D O u d i wr) (fun i _ => ((u : Int) - intOf i).toNat)
    case atStart => exact ⟨0, rfl, Nat.zero_le _, HI5.out⟩
    case round =>
     obtain ⟨k, rfl, hk, hI⟩ := hrel
     have HI' := Lib.hid hI
     have hg := HGB.out
     have hod := HOD.out
     by_cases hlt : k < u
     ·have hki : (k : Int) < u := by omega
      obtain ⟨v, hv⟩ : ∃ v, (byD (decBs (half 2048) d k).2.2.1 (decBs (half 2048) d k).2.1 (decBs (half 2048) d k).2.2.2).1 = v := ⟨_, rfl⟩
      have hw := bytD_walk hI.de hI.sz hI.nu hI.la hI.row hI.len (by omega) (by omega) hg.2.2
      rw [hv] at hw
      have HW := Lib.hid hw
      have HKe := Lib.hid (byD_keep (decBs (half 2048) d k).2.2.1 (decBs (half 2048) d k).2.1 (decBs (half 2048) d k).2.2.2 hI.sz hI.de.sl)
      have HSt : Hid (decBs (half 2048) d (k + 1) = ((decBs (half 2048) d k).1 ++ [UInt8.ofNat v], (byD (decBs (half 2048) d k).2.2.1 (decBs (half 2048) d k).2.1 (decBs (half 2048) d k).2.2.2))) := Lib.hid (by rw [← hv]; rfl)
      have HPut := Lib.hid (put_brow (decBs_len (half 2048) d k) hlt (UInt8.ofNat v))
      have hv256 : v < 256 := by rw [← hv]; exact HKe.out.2.2
      have hvn : ((UInt8.ofNat v).toNat : Int) = (v : Int) := by rw [UInt8.toNat_ofNat']; omega
      have HVn := Lib.hid hvn
      have HV0 := Lib.hid hv
      clear hw hv hI hvn hv256
      go_wp2_with fail
      refine (HW.out).mono ?_
      rintro x w6 ⟨rfl, hm, hn⟩
      have ho6 : CRow w6 O 5 ((decBs (half 2048) d k).1 ++ List.replicate (u - k) 0) := (hm.touch.block O (Array.getElem?_eq_some_iff.1 HI'.out.out.to).1 (by intro h; rcases h with h | h | h <;> omega)).trans HI'.out.out.to
      have hOl : ((decBs (half 2048) d k).1 ++ List.replicate (u - k) 0).length = u := by rw [List.length_append, decBs_len, List.length_replicate]; omega
      have c0 := ho6.cell (i := k) (by rw [hOl]; exact hlt)
      have f0 := ho6.fr k
      have hset := ho6.set k (UInt8.ofNat v)
      rw [HVn.out] at hset
      rw [HPut.out] at hset
      have HSet := Lib.hid hset
      have HM := Lib.hid hm
      have HNu := Lib.hid hn
      clear hset ho6 hOl hm hn hg hod
      go_wp2_with fail
      go_roundw
      case rel =>
       have hg := HGB.out
       have hod := HOD.out
       refine ⟨k + 1, by go_num, by omega, ?_⟩
       have hb : ∀ i, i ≠ O → (w6.setCell ⟨O, k, none⟩ (.int .u8 (v : Int))).heap[i]? = w6.heap[i]? := fun i hi => Below.heap_setCell w6 ⟨O, k, none⟩ _ i hi
       refine ⟨?_, ?_, ?_, ?_, ?_, ?_, ?_, ?_⟩
       ·rw [HSt.out]; exact HM.out.de.frame (hb D (by omega))
       ·rw [HSt.out]; exact HKe.out.1
       ·rw [HSt.out]; exact (hb G (by omega)).trans HM.out.row.to
       ·rw [HSt.out]; exact HKe.out.2.1.trans HI'.out.len
       ·rw [HSt.out]; exact HKe.out.2.2
       ·rw [HSt.out]
        show BytO B G (byD (decBs (half 2048) d k).2.2.1 (decBs (half 2048) d k).2.1 (decBs (half 2048) d k).2.2.2).1 _
        rw [HV0.out]
        exact (hb B (by omega)).trans HNu.out.to
       ·rw [HSt.out]; exact HSet.out
       ·refine (new_touch HI'.out.touch HM.out.touch ?_).setCell (p := ⟨O, k, none⟩) (.inr (by show _ ≤ O; omega)) _
        intro i h
        rcases h with h | h | h
        ·right; omega
        ·left; left; exact h
        ·left; right; exact h
      case measure => simp [intOf]; omega
     ·obtain rfl : k = u := by omega
      have HEn := Lib.hid (end_walk hI.de)
      have hout := hI.out
      rw [Nat.sub_self, List.replicate_zero, List.append_nil] at hout
      have hout' := hout.str k k (Nat.le_of_eq (decBs_len _ _ _).symm)
      rw [List.take_of_length_le (Nat.le_of_eq (decBs_len _ _ _))] at hout'
      have HOut := Lib.hid hout'
      have HLn := Lib.hid (decBs_len (half 2048) d k)
      clear hI hout hout' hg hod
      cases hend : endD (decBs (half 2048) d k).2.2.2 with
      | true =>
       have HE' : Hid (decBytS data most = ((decBs (half 2048) d k).1, 0)) := Lib.hid (by rw [HE.out, if_pos hend])
       rw [hend] at HEn
       have h0 : (if true = true then (0 : Int) else 12) = 0 := rfl
       rw [h0] at HEn
       clear hend h0
       go_wp2_with fail
       refine (HEn.out).mono ?_
       rintro x _ ⟨rfl, rfl⟩
       go_wp2_with fail
       refine bodyPost_ret (results_tmp2 rfl _ _ _) rfl ?_
       rw [HE'.out]
       exact ⟨HI'.out.touch, _, rfl, HOut.out⟩
      | false =>
       have HE' : Hid (decBytS data most = ([], 12)) := Lib.hid (by rw [HE.out, if_neg (by simp [hend])])
       rw [hend] at HEn
       have h0 : (if false = true then (0 : Int) else 12) = 12 := rfl
       rw [h0] at HEn
       clear hend h0
       go_wp2_with fail
       refine (HEn.out).mono ?_
       rintro x _ ⟨rfl, rfl⟩
       go_wp2_with fail
       refine bodyPost_ret (results_tmp2 rfl _ _ _) rfl ?_
       rw [HE'.out]
       exact decBP_nil HI'.out.touch
 ·have HE : Hid (decBytS data most = ([], 12)) := Lib.hid (by
   unfold rdN at h2
   unfold decBytS
   cases hp : V.peekF data with
   | none => rfl
   | some r =>
    obtain ⟨u, m⟩ := r
    by_cases hlt : 4096 < u
    ·simp only [if_pos hlt]
    ·have hlt' : ¬ (4096 : Int) < (u : Int) := by omega
     simp [hp, hlt'] at h2; omega)
  have hne : (e1 != 0) = true := by simp [he1]
  clear h1 h2 h3 hl1
  go_enter Tryz.func40, Tryz.ntmps40
  go_wp2_with fail
  refine (new_rd data _).mono ?_
  rintro x w1 ⟨rfl, hr1, hb1⟩
  have HB1 := Lib.hid hb1
  have HRa := Lib.hid (HR.out w1 _ hr1)
  clear hr1 hb1
  go_wp2_with fail
  refine (HRa.out).mono ?_
  rintro x w2 ⟨rfl, hr2, ht2⟩
  have HT2 := Lib.hid (below_step HB1.out ht2 (Nat.le_refl _))
  have HRb := Lib.hid (rdR_walk hr2)
  clear hr2 ht2
  go_wp2_with fail
  refine (HRb.out).mono ?_
  rintro x _ ⟨rfl, rfl⟩
  go_wp2_with fail
  refine bodyPost_ret (results_tmp2 rfl _ _ _) rfl ?_
  rw [HE.out]
  exact decBP_nil (.of_below HT2.out)
set_option maxRecDepth 100000 in
theorem decBytes_walk (data : List UInt8) (hd : data.length ≤ 1000000) (most : Int) (w : World) : Calls Tryz.prog 14 #[.string (sB data), .int .i64 most] w fun x w' => x = .returned (.tuple #[.string (sB (decBytS data most).1), .int .i64 (decBytS data most).2]) ∧ Below w.heap.size w w' := by
 obtain ⟨r, hr⟩ : ∃ r, decBytS data most = r := ⟨_, rfl⟩
 have HW := Lib.hid fun w B G hb hi hBG => decB_walk data hd most w B G hb hi hBG
 rw [hr] at HW ⊢
 clear hr
 go_enter Tryz.func14, Tryz.ntmps14
 go_wp2_with fail
 refine (newBytes_walk _).mono ?_
 rintro x w1 ⟨G, B, rfl, hG, hB, hBG, hb, hi, hn⟩
 have HWa := Lib.hid (HW.out w1 B G hn hi hBG)
 have HX := Lib.hid (And.intro hG (And.intro hB hb))
 clear hG hB hBG hb hi hn HW
 go_wp2_with fail
 refine (HWa.out).mono ?_
 rintro x w2 ⟨ht, v, rfl, hconv⟩
 have HB2 : Hid (Below w.heap.size w w2) := Lib.hid (by
  obtain ⟨h1, h2, h3⟩ := HX.out
  exact h3.trans (ht.below _ h3.size fun i hi => hi.elim (fun h => h ▸ h1) (fun h => h ▸ h2)))
 clear ht HWa
 go_wp2_with fail
 go_ret2
 exact ⟨rfl, HB2.out⟩
set_option maxRecDepth 100000 in
theorem byD_miss {L : List Int} {l : Nat} {d : Dec} (h : (byD L l d).2.2.missing = false) : d.missing = false := by
 unfold byD at h
 exact trD_miss _ _ _ _ _ h
set_option maxRecDepth 100000 in
theorem byD_full (L : List Int) (l : Nat) (d : Dec) : (byD L l d).2.2.full = d.full := by
 unfold byD
 exact trD_full _ _ _ _ _
theorem decBs_succ (L : List Int) (d : Dec) (k : Nat) : decBs L d (k + 1) = ((decBs L d k).1 ++ [UInt8.ofNat (byD (decBs L d k).2.2.1 (decBs L d k).2.1 (decBs L d k).2.2.2).1], byD (decBs L d k).2.2.1 (decBs L d k).2.1 (decBs L d k).2.2.2) := rfl
theorem decBs_miss (L : List Int) (d : Dec) (k : Nat) (h : (decBs L d k).2.2.2.missing = false) : d.missing = false := by
 induction k with
 | zero => exact h
 | succ k ih =>
  rw [decBs_succ] at h
  exact ih (byD_miss h)
theorem decBs_full (L : List Int) (d : Dec) (k : Nat) : (decBs L d k).2.2.2.full = d.full := by
 induction k with
 | zero => rfl
 | succ k ih =>
  rw [decBs_succ]
  exact (byD_full _ _ _).trans ih
set_option maxRecDepth 100000 in
theorem decBs_rel {D : List UInt8} {d : Dec} (h : Rel D newE d) : ∀ k, (decBs (half 2048) d k).2.2.2.missing = false →
  (encBs by0 (decBs (half 2048) d k).1).1 = (decBs (half 2048) d k).2.2.1 ∧ (encBs by0 (decBs (half 2048) d k).1).2.1 = (decBs (half 2048) d k).2.1 ∧ Rel D (encBs by0 (decBs (half 2048) d k).1).2.2 (decBs (half 2048) d k).2.2.2 ∧ EOk (encBs by0 (decBs (half 2048) d k).1).2.2
 | 0, _ => ⟨rfl, rfl, h, newE_ok⟩
 | k + 1, hm => by
  obtain ⟨s, hs⟩ : ∃ s, decBs (half 2048) d k = s := ⟨_, rfl⟩
  have e : decBs (half 2048) d (k + 1) = (s.1 ++ [UInt8.ofNat (byD s.2.2.1 s.2.1 s.2.2.2).1], byD s.2.2.1 s.2.1 s.2.2.2) := by rw [← hs]; rfl
  have ih := decBs_rel h k
  rw [hs] at ih
  rw [e] at hm ⊢
  obtain ⟨i1, i2, i3, i4⟩ := ih (byD_miss hm)
  have hlt := byD_lt s.2.2.1 s.2.1 s.2.2.2
  have hn : (UInt8.ofNat (byD s.2.2.1 s.2.1 s.2.2.2).1).toNat = (byD s.2.2.1 s.2.1 s.2.2.2).1 := by rw [UInt8.toNat_ofNat']; omega
  obtain ⟨n1, n2, n3⟩ := by_rel (L := s.2.2.1) (l := s.2.1) i3 i4 hm
  simp only
  rw [encBs_snoc]
  unfold byS
  rw [i1, i2, hn]
  exact ⟨n1, rfl, n2, n3⟩
/-- a text that is read is written so -/
theorem decByt_enc {data : List UInt8} {most : Int} (h : (decBytS data most).2 = 0) : encBytF (decBytS data most).1 = (data, 0) := by
 unfold decBytS at h ⊢
 cases hp : V.peekF data with
 | none => rw [hp] at h; exact absurd h (show ¬ ((12 : Int) = 0) by decide)
 | some r =>
  obtain ⟨n, m⟩ := r
  rw [hp] at h
  simp only at h ⊢
  have hsp := num_split hp
  by_cases h4 : 4096 < n
  ·rw [if_pos h4] at h; exact absurd h (by decide)
  rw [if_neg h4] at h ⊢
  by_cases hmo : most < (n : Int)
  ·rw [if_pos hmo] at h; exact absurd h (by decide)
  rw [if_neg hmo] at h ⊢
  by_cases hz : n = 0
  ·rw [if_pos hz] at h ⊢
   by_cases hd : data.drop m = []
   ·subst hz
    rw [hd, List.append_nil] at hsp
    show encBytF [] = _
    unfold encBytF bytesE
    simp [hsp]
   ·rw [if_neg hd] at h; exact absurd h (by decide)
  rw [if_neg hz] at h ⊢
  cases he : endD (decBs (half 2048) (newD (data.drop m)) n).2.2.2 with
  | false => rw [he] at h; exact absurd h (show ¬ ((12 : Int) = 0) by decide)
  | true =>
   simp only [if_true]
   obtain ⟨hm, hf⟩ := endD_parts he
   rw [decBs_full] at hf
   obtain ⟨k1, k2, k3, k4⟩ := decBs_rel (newD_rel (decBs_miss _ _ n hm) hf) n hm
   have hfin := end_rel k3 k4 he
   have hlen := decBs_len (half 2048) (newD (data.drop m)) n
   unfold encBytF
   rw [hlen, if_neg h4]
   unfold bytesE
   have hne : (decBs (half 2048) (newD (data.drop m)) n).1.isEmpty = false := by
    cases hl : (decBs (half 2048) (newD (data.drop m)) n).1 with
    | nil => rw [hl] at hlen; exact absurd hlen.symm hz
    | cons => rfl
   rw [hne, hlen]
   simp only [Bool.false_eq_true, if_false]
   rw [← hfin, hsp]
theorem box1 {w : World} {I : Nat} {a : Value} {t : TypeId} (h : w.heap[I]? = some (.cells #[a] t (0, 0))) : w.cell? ⟨I, 0, none⟩ = some a := by
 rw [cell_of_row w I _ _ _ _ h]; rfl
set_option maxRecDepth 100000 in
/-- what was written again is the text that was given -/
theorem same_walk (data : List UInt8) (I : Nat) (w : World) (h : w.heap[I]? = some (.cells #[.string (sB data)] 9 (0, 0))) : Calls Tryz.prog 13 #[.string (sB data), .int .i64 0, .pointer (some ⟨I, 0, none⟩)] w fun x w' => x = .returned (.bool true) ∧ w = w' := by
 have c0 := box1 h
 have he := str_eq data data
 rw [decide_eq_true rfl] at he
 go_enter Tryz.func13, Tryz.ntmps13
 go_wp2_with fail
 go_ret
 exact ⟨rfl, rfl⟩
theorem encByt_len {l : List UInt8} {d : List UInt8} (h : encBytF l = (d, 0)) : l.length ≤ 4096 := by
 unfold encBytF at h; split at h
 ·injection h with _ h; exact absurd h (by decide)
 ·omega
theorem stc_snoc (z : Int) (b : Bool) : ∀ xs, stcells (xs ++ [(z, b)]) = stcells xs ++ [.int .i64 z, .int .i64 (bi b)]
 | [] => rfl
 | p :: l => by show _ :: _ :: stcells (l ++ [(z, b)]) = _ :: _ :: (stcells l ++ _); rw [stc_snoc z b l]
set_option maxRecDepth 100000 in
theorem push_st {w0 w : World} {v : Value} {n : Nat} {xs : List (Int × Bool)} (h : OwnR w0 55 2 v n (stcells xs) w) (hb : Below w0.heap.size w0 w) (hn : n + 1 ≤ 1000000) (z : Int) (b : Bool) : ∃ A c w', (Builtin.append_ #[53, 53] 53 #[v, .slice (some ⟨w.heap.size, 0, none⟩) 1 1]).run Tryz.prog (w.alloc (.cells #[.int .i64 z, .int .i64 (bi b)] 55)) = .ok (.slice A (n + 1) c) w' ∧ OwnR w0 55 2 (.slice A (n + 1) c) (n + 1) (stcells (xs ++ [(z, b)])) w' ∧ Below w0.heap.size w0 w' := by
 have h2 := h.below ((Below.refl _ _).alloc (Nat.le_refl _) (.cells #[.int .i64 z, .int .i64 (bi b)] 55))
 have hsz : w0.heap.size ≤ (w.alloc (.cells #[.int .i64 z, .int .i64 (bi b)] 55)).heap.size := by rw [World.size_alloc]; have := hb.size; omega
 obtain ⟨A, c, w', hr, ho, hg, _⟩ := h2.push2 Tryz.underlying53 rfl rfl rfl rfl rfl (by decide) hn w.heap.size (.int .i64 z) (.int .i64 (bi b)) (by rw [cell_of_row _ _ _ _ _ _ (heap_alloc_new w _)]; rfl) (by rw [cell_of_row _ _ _ _ _ _ (heap_alloc_new w _)]; rfl) rfl rfl hsz
 refine ⟨A, c, w', hr, ?_, below_grown (hb.alloc hb.size _) hsz hg h.new⟩
 rw [stc_snoc]; exact ho
theorem stz_snoc {l : List Int} {m : List Bool} {k : Nat} (h : k < l.length) (hm : m.length = l.length) : stcells ((l.zip m).take (k + 1)) = stcells ((l.zip m).take k ++ [(l.getD k default, m.getD k default)]) := by
 have hz : k < (l.zip m).length := by rw [List.length_zip]; omega
 have hk : k < m.length := by omega
 rw [List.take_succ_eq_append_getElem hz]; simp [List.getD, h, hk]
def SsR (w : World) (l : List Int) (m : List Bool) (v i : Value) (wr : World) : Prop := ∃ k : Nat, i = .int .i64 (k : Int) ∧ k ≤ l.length ∧ OwnR w 55 2 v k (stcells ((l.zip m).take k)) wr ∧ Below w.heap.size w wr
set_option maxRecDepth 100000 in
set_option maxHeartbeats 2000000 in
/-- TopStrict answers true -/
theorem strict_walk (data : List UInt8) (hd : data.length ≤ maxLen) (n : Int) (zero : List Int) (w : World) (A : Option Addr) (c : Nat) (hF : InI w A zero) : Calls Tryz.prog 4 #[.string (sB data), .int .i64 n, .slice A zero.length c] w fun x w' => x = .returned (.bool true) ∧ Below w.heap.size w w' := by
 obtain ⟨I, hI⟩ : ∃ I, w.heap.size = I := ⟨_, rfl⟩
 obtain ⟨W0, hW0⟩ : ∃ W, w.alloc (.cells #[.string (sB data)] 9) = W := ⟨_, rfl⟩
 have HB0 : Hid (Below w.heap.size w W0) := Lib.hid (by rw [← hW0]; exact (Below.refl _ _).alloc (Nat.le_refl _) _)
 have hr0 : W0.heap[I]? = some (.cells #[.string (sB data)] 9 (0, 0)) := by rw [← hW0, ← hI]; exact heap_alloc_new _ _
 have HC : Hid (∀ v, Below W0.heap.size W0 v → v.heap[I]? = some (.cells #[.string (sB data)] 9 (0, 0))) := Lib.hid fun v hb => (hb.block I (Array.getElem?_eq_some_iff.1 hr0).1).trans hr0
 have HZ : Hid (∀ v, Below W0.heap.size W0 v → InI v A zero) := Lib.hid fun v hb => (hF.mono HB0.out).mono hb
 have HI := Lib.hid hI
 have hsz := sB_size data
 unfold maxLen at hd
 have HA := Lib.hid (awake_walk W0)
 clear hF hr0 hI
 have hI2 : w.heap.size = I := HI.out
 go_enter Tryz.func4, Tryz.ntmps4
 go_upto_region 1 with (fail)
 clear hI2 hW0
 go_wp2_with fail
 refine (HA.out).mono ?_
 rintro x w1 ⟨rfl, hb⟩
 have HB := Lib.hid hb
 have c0 := box1 (HC.out w1 hb)
 clear hb
 have hFin : Hid (∀ v, Below W0.heap.size W0 v → Below w.heap.size w v) := Lib.hid fun v hb => bstep HB0.out (Nat.le_refl _) hb
 by_cases hl : (data.length : Int) > 120 ∨ (zero.length : Int) > 100
 ·rcases Classical.em ((data.length : Int) > 120) with h1 | h1
  ·go_wp2_with fail
   go_ret
   exact ⟨rfl, hFin.out _ HB.out⟩
  ·have h2 : (zero.length : Int) > 100 := by omega
   go_wp2_with fail
   go_ret
   exact ⟨rfl, hFin.out _ HB.out⟩
 have h1 : ¬ (data.length : Int) > 120 := fun h => hl (.inl h)
 have h2 : ¬ (zero.length : Int) > 100 := fun h => hl (.inr h)
 have h1' : data.length ≤ 120 := by omega
 have HL := Lib.hid h1'
 have h2' : zero.length ≤ 100 := by omega
 have HL2 := Lib.hid h2'
 clear hl h1' h2'
 have H := Lib.hid (decBytes_walk data (by have := HL.out; omega) 300 w1)
 go_upto_region 7 with (fail)
 refine (H.out).mono ?_
 rintro x w2 ⟨rfl, hb⟩
 have HB' := Lib.hid (bstep HB.out (Nat.le_refl _) hb)
 go_upto_region 7 with (fail)
 have HE : Hid (((decBytS data 300).2) = 0 → Calls Tryz.prog 15 #[.string (sB (decBytS data 300).1)] w2 fun x w' => x = .returned (.tuple #[.string (sB data), .int .i64 0]) ∧ Below w2.heap.size w2 w') := Lib.hid (fun he => by
  have h := encBytes_walk (decBytS data 300).1 (by unfold maxLen; have := encByt_len (decByt_enc he); omega) w2
  have h2 := decByt_enc he
  rw [h2] at h; exact h)
 go_cut [9, 53] from 27 (fun _ v wx => v = .bool false ∧ Below W0.heap.size W0 wx)
 case first =>
  as_aux_lemma =>
   by_cases he : ((decBytS data 300).2) = 0
   ·have HE1 := Lib.hid (HE.out he)
    rw [he]
    clear he
    go_wp2_with fail
    refine (HE1.out).mono ?_
    rintro x w' ⟨rfl, hb3⟩
    have HB3 := Lib.hid (bstep HB'.out (Nat.le_refl _) hb3)
    have HS := Lib.hid (same_walk data I w' (HC.out w' HB3.out))
    clear hb3
    go_wp2_with fail
    refine (HS.out).mono ?_
    rintro x w'' ⟨rfl, rfl⟩
    go_wp2_with fail
    go_meet
    exact ⟨rfl, HB3.out⟩
   ·go_wp2_with fail
    go_meet
    exact ⟨rfl, HB'.out⟩
 obtain ⟨rfl, hb⟩ := hcut
 clear HB' HB HE H c0
 have HB := Lib.hid hb
 have c0 := box1 (HC.out wc hb)
 clear hb
 have H := Lib.hid (decNums_walk data (by have := HL.out; omega) 300 wc)
 go_upto_region 10 with (fail)
 refine (H.out).mono ?_
 rintro x w3 ⟨hb, A1, c1, rfl, hin, -⟩
 have HB' := Lib.hid (bstep HB.out (Nat.le_refl _) hb)
 go_upto_region 10 with (fail)
 have HE : Hid (((decNumF data 300).2) = 0 → Calls Tryz.prog 17 #[.slice A1 (decNumF data 300).1.length c1] w3 fun x w' => x = .returned (.tuple #[.string (sB data), .int .i64 0]) ∧ Below w3.heap.size w3 w') := Lib.hid (fun he => by
  have h := encNums_walk (decNumF data 300).1 (by have := decNumF_len data 300; omega) w3 A1 c1 hin
  have h2 := decNum_enc he
  rw [h2] at h; exact h)
 go_cut [11, 69] from 27 (fun _ v wx => v = .bool false ∧ Below W0.heap.size W0 wx)
 case first =>
  as_aux_lemma =>
   by_cases he : ((decNumF data 300).2) = 0
   ·have HE1 := Lib.hid (HE.out he)
    rw [he]
    clear he
    go_wp2_with fail
    refine (HE1.out).mono ?_
    rintro x w' ⟨rfl, hb3⟩
    have HB3 := Lib.hid (bstep HB'.out (Nat.le_refl _) hb3)
    have HS := Lib.hid (same_walk data I w' (HC.out w' HB3.out))
    clear hb3
    go_wp2_with fail
    refine (HS.out).mono ?_
    rintro x w'' ⟨rfl, rfl⟩
    go_wp2_with fail
    go_meet
    exact ⟨rfl, HB3.out⟩
   ·go_wp2_with fail
    go_meet
    exact ⟨rfl, HB'.out⟩
 obtain ⟨rfl, hb⟩ := hcut
 clear HB' HB HE H c0
 have HB := Lib.hid hb
 have c0 := box1 (HC.out wc hb)
 clear hb
 have H := Lib.hid (lzdec_walk data (by have := HL.out; omega) 300 wc)
 go_upto_region 13 with (fail)
 refine (H.out).mono ?_
 rintro x w4 ⟨hb, s, e, rfl, hs, henc⟩
 have HB' := Lib.hid (bstep HB.out (Nat.le_refl _) hb)
 go_upto_region 13 with (fail)
 have HE : Hid ((e) = 0 → Calls Tryz.prog 19 #[.string (sB s)] w4 fun x w' => x = .returned (.tuple #[.string (sB data), .int .i64 0]) ∧ Below w4.heap.size w4 w') := Lib.hid (fun he => by
  have h := lzenc_walk s hs w4
  have h2 := congrArg (fun t => (t, (0 : Int))) (henc he)
  rw [henc he] at h; exact h)
 go_cut [13, 85] from 27 (fun _ v wx => v = .bool false ∧ Below W0.heap.size W0 wx)
 case first =>
  as_aux_lemma =>
   by_cases he : (e) = 0
   ·have HE1 := Lib.hid (HE.out he)
    rw [he]
    clear he
    go_wp2_with fail
    refine (HE1.out).mono ?_
    rintro x w' ⟨rfl, hb3⟩
    have HB3 := Lib.hid (bstep HB'.out (Nat.le_refl _) hb3)
    have HS := Lib.hid (same_walk data I w' (HC.out w' HB3.out))
    clear hb3
    go_wp2_with fail
    refine (HS.out).mono ?_
    rintro x w'' ⟨rfl, rfl⟩
    go_wp2_with fail
    go_meet
    exact ⟨rfl, HB3.out⟩
   ·go_wp2_with fail
    go_meet
    exact ⟨rfl, HB'.out⟩
 obtain ⟨rfl, hb⟩ := hcut
 clear HB' HB HE H c0
 have HB := Lib.hid hb
 have c0 := box1 (HC.out wc hb)
 clear hb
 have H := Lib.hid (rldec_walk data (by have := HL.out; omega) 300 wc)
 go_upto_region 16 with (fail)
 refine (H.out).mono ?_
 rintro x w5 ⟨hb, l, e, A1, c1, rfl, hin, hlen, -, henc⟩
 have HB' := Lib.hid (bstep HB.out (Nat.le_refl _) hb)
 go_upto_region 16 with (fail)
 have HE : Hid ((e) = 0 → Calls Tryz.prog 21 #[.slice A1 l.length c1] w5 fun x w' => x = .returned (.tuple #[.string (sB data), .int .i64 0]) ∧ Below w5.heap.size w5 w') := Lib.hid (fun he => by
  have h := encRL_walk l (by omega) w5 A1 c1 hin
  have h2 := henc he
  rw [h2] at h; exact h)
 go_cut [15, 101] from 27 (fun _ v wx => v = .bool false ∧ Below W0.heap.size W0 wx)
 case first =>
  as_aux_lemma =>
   by_cases he : (e) = 0
   ·have HE1 := Lib.hid (HE.out he)
    rw [he]
    clear he
    go_wp2_with fail
    refine (HE1.out).mono ?_
    rintro x w' ⟨rfl, hb3⟩
    have HB3 := Lib.hid (bstep HB'.out (Nat.le_refl _) hb3)
    have HS := Lib.hid (same_walk data I w' (HC.out w' HB3.out))
    clear hb3
    go_wp2_with fail
    refine (HS.out).mono ?_
    rintro x w'' ⟨rfl, rfl⟩
    go_wp2_with fail
    go_meet
    exact ⟨rfl, HB3.out⟩
   ·go_wp2_with fail
    go_meet
    exact ⟨rfl, HB'.out⟩
 obtain ⟨rfl, hb⟩ := hcut
 clear HB' HB HE H c0
 have HB := Lib.hid hb
 have c0 := box1 (HC.out wc hb)
 clear hb
 have H := Lib.hid (tcD_walk data (by have := HL.out; omega) 300 wc)
 go_upto_region 19 with (fail)
 refine (H.out).mono ?_
 rintro x w6 ⟨hb, l, e, A1, c1, rfl, hin, hfr, hlen, henc, -⟩
 have HB' := Lib.hid (bstep HB.out (Nat.le_refl _) hb)
 go_upto_region 19 with (fail)
 have HE : Hid ((e) = 0 → Calls Tryz.prog 10 #[.slice A1 l.length c1] w6 fun x w' => x = .returned (.tuple #[.string (sB data), .int .i64 0]) ∧ Below w6.heap.size w6 w') := Lib.hid (fun he => by
  have h := tcE_walk l (by omega) w6 A1 c1 hin hfr.plain
  have h2 := henc he
  rw [h2] at h; exact h)
 go_cut [17, 117] from 27 (fun _ v wx => v = .bool false ∧ Below W0.heap.size W0 wx)
 case first =>
  as_aux_lemma =>
   by_cases he : (e) = 0
   ·have HE1 := Lib.hid (HE.out he)
    rw [he]
    clear he
    go_wp2_with fail
    refine (HE1.out).mono ?_
    rintro x w' ⟨rfl, hb3⟩
    have HB3 := Lib.hid (bstep HB'.out (Nat.le_refl _) hb3)
    have HS := Lib.hid (same_walk data I w' (HC.out w' HB3.out))
    clear hb3
    go_wp2_with fail
    refine (HS.out).mono ?_
    rintro x w'' ⟨rfl, rfl⟩
    go_wp2_with fail
    go_meet
    exact ⟨rfl, HB3.out⟩
   ·go_wp2_with fail
    go_meet
    exact ⟨rfl, HB'.out⟩
 obtain ⟨rfl, hb⟩ := hcut
 clear HB' HB HE H c0
 have HB := Lib.hid hb
 have c0 := box1 (HC.out wc hb)
 clear hb
 have H := Lib.hid (bdec_walk n data (by have := HL.out; omega) 300 wc)
 go_upto_region 22 with (fail)
 refine (H.out).mono ?_
 rintro x w7 ⟨hb, l, e, A1, c1, rfl, hin, hlen, hsl, henc, -⟩
 have HB' := Lib.hid (bstep HB.out (Nat.le_refl _) hb)
 go_upto_region 22 with (fail)
 have HE : Hid ((e) = 0 → Calls Tryz.prog 11 #[.int .i64 n, .slice A1 l.length c1] w7 fun x w' => x = .returned (.tuple #[.string (sB data), .int .i64 0]) ∧ Below w7.heap.size w7 w') := Lib.hid (fun he => by
  have h := busE_walk n l (by omega) (fun s hs => by have := hsl s hs; omega) w7 A1 c1 hin
  have h2 := henc he
  rw [h2] at h; exact h)
 go_cut [19, 135] from 27 (fun _ v wx => v = .bool false ∧ Below W0.heap.size W0 wx)
 case first =>
  as_aux_lemma =>
   by_cases he : (e) = 0
   ·have HE1 := Lib.hid (HE.out he)
    rw [he]
    clear he
    go_wp2_with fail
    refine (HE1.out).mono ?_
    rintro x w' ⟨rfl, hb3⟩
    have HB3 := Lib.hid (bstep HB'.out (Nat.le_refl _) hb3)
    have HS := Lib.hid (same_walk data I w' (HC.out w' HB3.out))
    clear hb3
    go_wp2_with fail
    refine (HS.out).mono ?_
    rintro x w'' ⟨rfl, rfl⟩
    go_wp2_with fail
    go_meet
    exact ⟨rfl, HB3.out⟩
   ·go_wp2_with fail
    go_meet
    exact ⟨rfl, HB'.out⟩
 obtain ⟨rfl, hb⟩ := hcut
 clear HB' HB HE H c0
 have HB := Lib.hid hb
 have c0 := box1 (HC.out wc hb)
 clear hb
 have H := Lib.hid (fdec_walk data (by have := HL.out; omega) wc)
 go_upto_region 25 with (fail)
 refine (H.out).mono ?_
 rintro x w8 ⟨hb, l, e, A1, c1, rfl, hin, hlen, hsl, henc, -⟩
 have HB' := Lib.hid (bstep HB.out (Nat.le_refl _) hb)
 go_upto_region 25 with (fail)
 have HE : Hid ((e) = 0 → Calls Tryz.prog 12 #[.slice A1 l.length c1] w8 fun x w' => x = .returned (.tuple #[.string (sB data), .int .i64 0]) ∧ Below w8.heap.size w8 w') := Lib.hid (fun he => by
  have h := fenc_walk l (by have := HL.out; omega) hsl w8 A1 c1 hin
  have h2 := henc he
  rw [h2] at h; exact h)
 go_cut [21, 151] from 27 (fun _ v wx => v = .bool false ∧ Below W0.heap.size W0 wx)
 case first =>
  as_aux_lemma =>
   by_cases he : (e) = 0
   ·have HE1 := Lib.hid (HE.out he)
    rw [he]
    clear he
    go_wp2_with fail
    refine (HE1.out).mono ?_
    rintro x w' ⟨rfl, hb3⟩
    have HB3 := Lib.hid (bstep HB'.out (Nat.le_refl _) hb3)
    have HS := Lib.hid (same_walk data I w' (HC.out w' HB3.out))
    clear hb3
    go_wp2_with fail
    refine (HS.out).mono ?_
    rintro x w'' ⟨rfl, rfl⟩
    go_wp2_with fail
    go_meet
    exact ⟨rfl, HB3.out⟩
   ·go_wp2_with fail
    go_meet
    exact ⟨rfl, HB'.out⟩
 obtain ⟨rfl, hb⟩ := hcut
 clear HB' HB HE H c0
 have HB := Lib.hid hb
 have c0 := box1 (HC.out wc hb)
 clear hb
 have H := Lib.hid (decode_walk wc data (by unfold maxLen; have := HL.out; omega) A c zero (HZ.out wc HB.out) (by have := HL2.out; omega))
 go_upto_region 28 with (fail)
 refine (H.out).mono ?_
 rintro x w4 ⟨hb, hres⟩
 have HB4 := Lib.hid (bstep HB.out (Nat.le_refl _) hb)
 clear hb H HB c0
 split at hres
 ·rename_i hval
  split at hres
  ·rename_i hend
   obtain ⟨G, rfl, -, hG⟩ := hres
   have HG := Lib.hid hG
   have HVal := Lib.hid hval
   have HEnd := Lib.hid hend
   have HBl := Lib.hid (decB_length zero (newD data))
   obtain ⟨bits, hbits⟩ : ∃ b, decB (newD data) zero = b := ⟨_, rfl⟩
   have HEn : Hid (finE (encL newE (zero.zip bits)) = data) := Lib.hid (by rw [← hbits]; exact dec_enc data zero hend)
   rw [hbits] at HG HBl
   clear hbits hG hval hend
   go_wp2_with fail
   go_loopw [24, 162] (fun v i wr => SsR w4 zero bits v i wr) (fun _ i _ => ((zero.length : Int) - intOf i).toNat)
   case atStart => exact ⟨0, rfl, Nat.zero_le _, OwnR.nil _ _ _ _, .refl _ _⟩
   case round =>
    obtain ⟨k, rfl, hk, ho, hb⟩ := hrel
    have HO := Lib.hid ho
    have HB := Lib.hid hb
    by_cases hlt : k < zero.length
    ·have hki : (k : Int) < zero.length := by omega
     obtain ⟨a, rfl, c1⟩ := InI.at (HZ.out w4 HB4.out) hb hlt
     have hkb : k < bits.length := by have := HBl.out; omega
     have c2 : wr.cell? ⟨G, k, none⟩ = some (.int .i64 (bi (bits.getD k default))) := by
      have h1 : wr.heap[G]? = w4.heap[G]? := hb.block G (Array.getElem?_eq_some_iff.1 HG.out).1
      rw [cell_of_row wr G _ _ _ _ (h1.trans HG.out)]
      simp [ic, List.getD, hkb]
     have hzs := stz_snoc hlt HBl.out
     obtain ⟨z, hz⟩ : ∃ z, zero.getD k default = z := ⟨_, rfl⟩
     obtain ⟨b, hb'⟩ : ∃ b, bits.getD k default = b := ⟨_, rfl⟩
     rw [hz] at c1
     rw [hb'] at c2
     rw [hz, hb'] at hzs
     have HZs := Lib.hid hzs
     obtain ⟨a', c', rfl⟩ := row_sl ho.row
     obtain ⟨A2, c4, w5, hrun, ho2, hb2⟩ := push_st ho hb (by have := HL2.out; omega) z b
     have HO2 := Lib.hid ho2
     have HB2 := Lib.hid hb2
     have HRUN := Lib.hid hrun
     clear ho hb hkb hzs hz hb' hrun ho2 hb2
     go_wp2_with (at_builtin; refine wpList_append_eq rfl _ _ _ rfl _ _ rfl rfl HRUN.out ?_)
     go_roundw
     case rel => exact ⟨k + 1, by go_num, by omega, by rw [HZs.out]; exact HO2.out, HB2.out⟩
     case measure => simp [intOf]; omega
    ·obtain rfl : k = zero.length := by omega
     have hzl : (zero.zip bits).length = zero.length := by rw [List.length_zip, HBl.out, Nat.min_self]
     rw [List.take_of_length_le (Nat.le_of_eq hzl)] at ho
     obtain ⟨a', c', rfl⟩ := row_sl ho.row
     have HEc : Hid (Calls Tryz.prog 26 #[.slice a' zero.length c'] wr fun x w' => x = .returned (.tuple #[.string (sB data), .int .i64 0]) ∧ Below wr.heap.size wr w') := Lib.hid (by
      have h := encode_walk wr a' c' (zero.zip bits) ((row_flat ho.row).mono fun k hk => hk.2) (by have := HL2.out; omega) (fun k hk => by
       have hv := List.all_eq_true.1 HVal.out ((zero.zip bits).getD k default).1 (by
        have hm := List.mem_of_getElem? (get_default hk)
        exact (List.of_mem_zip (a := ((zero.zip bits).getD k default).1) (b := ((zero.zip bits).getD k default).2) hm).1)
       unfold validZ at hv
       simpa using hv)
      rw [hzl, HEn.out] at h; exact h)
     have HBx := Lib.hid (bstep HB4.out (Nat.le_refl _) hb)
     clear ho hb hzl hk
     go_wp2_with fail
     refine (HEc.out).mono ?_
     rintro x w6 ⟨rfl, hb6⟩
     have HB6 := Lib.hid (bstep HBx.out (Nat.le_refl _) hb6)
     have HS := Lib.hid (same_walk data I w6 (HC.out w6 HB6.out))
     clear hb6
     go_wp2_with fail
     refine (HS.out).mono ?_
     rintro x w7 ⟨rfl, rfl⟩
     go_wp2_with fail
     go_ret
     exact ⟨rfl, hFin.out _ HB6.out⟩
  ·obtain rfl := hres
   go_wp2_with fail
   go_ret
   exact ⟨rfl, hFin.out _ HB4.out⟩
 ·obtain rfl := hres
  go_wp2_with fail
  go_ret
  exact ⟨rfl, hFin.out _ HB4.out⟩
end Go.Proofs.YtlmjefjimoghcaaGreat
namespace Go.Proofs.YtlmjefjimoghcaaGreat
set_option linter.unusedSimpArgs false
set_option linter.unnecessarySimpa false
set_option linter.unusedVariables false
open Go.RowKit Go.ChangeShapes Go.WideShapes Go.ChangeAt
/-- a slice of cells, somewhere below N -/
def Ones {α : Type} [Inhabited α] (f : α → Value) (w : World) (N : Nat) (A : Option Addr) (l : List α) : Prop := ∀ i, i < l.length → ∃ a, A = some a ∧ a.block < N ∧ w.cell? (a.add i) = some (f (l.getD i default))
section
variable {H : Type} {enc : TypeId × Value → H} {w : World} {base b0 : Nat} {held : Bool}
theorem slice_of {P : Program} {r : Reach} {v u : Value} {t e : TypeId} (ht : P.underlying t = some (.slice e)) (hv : Value.okWide P w r b0 t v) (h : v.cells.toList = [u]) : v = u := by
 cases v with
 | agg cs => simp [Value.okWide, ht, Cell.okWide, Cell.ok] at hv
 | _ => simpa [Value.cells] using h
set_option maxRecDepth 100000 in
theorem open_ones {α : Type} [Inhabited α] (f : α → Value) (R : α → Prop) {t e : TypeId} (ht : Tryz.prog.underlying t = some (.slice e)) (hc : Tryz.prog.cellsOf e = 1)
  (helem : ∀ fuel cs x, DataW.trod enc Tryz.prog w base (fun _ => true) held fuel e cs = some x → ∃ y : α, cs = [f y] ∧ R y)
  {r : Reach} {v : Value} {d : DataW H} {p : List MemPlace} (hv : Value.okWide Tryz.prog w r b0 t v) (h : DataW.Trod enc Tryz.prog w base (fun _ => true) held t v d p) :
  ∃ (A : Option Addr) (n c : Nat) (l : List α), v = .slice A n c ∧ l.length = n ∧ Ones f w w.heap.size A l ∧ ∀ i, i < n → R (l.getD i default) := by
 obtain ⟨fuel, hf⟩ := h
 rcases Deep.open_slice ht hf with ⟨h1, _⟩ | ⟨a, len, cap, m, fu, D, Pl, h1, _, hlc, hcm, hm, _, hel⟩
 ·exact ⟨none, 0, 0, [], slice_of ht hv h1, rfl, fun i hi => absurd hi (by simp), fun i hi => by omega⟩
 ·rw [hc] at hel
  have key : ∀ i, i < len → ∃ y : α, w.cell? (a.add i) = some (f y) ∧ R y := by
   intro i hi
   obtain ⟨cs', hcs, htr⟩ := hel i (by rw [hm, if_pos rfl]; omega)
   obtain ⟨y, rfl, hy⟩ := helem _ _ _ htr
   obtain ⟨_, _, hat⟩ := World.cells?_some hcs
   have h0 := hat 0 (by decide)
   rw [Nat.mul_one] at h0
   exact ⟨y, by simpa [Addr.add] using h0, hy⟩
  obtain ⟨g, hg⟩ := Deep.choose_lt key
  have hgd : ∀ i, i < len → ((List.range len).map g).getD i default = g i := fun i hi => by simp [List.getD, hi]
  refine ⟨some a, len, cap, (List.range len).map g, slice_of ht hv h1, by simp, fun i hi => ?_, fun i hi => by rw [hgd i hi]; exact (hg i hi).2⟩
  have hi' : i < len := by simpa using hi
  refine ⟨a, rfl, ?_, by rw [hgd i hi']; exact (hg i hi').1⟩
  have := World.block_lt_of_cell? w _ (hg i hi').1
  have hb' : (a.add i).block = a.block := by unfold Addr.add; split <;> rfl
  rwa [hb'] at this
set_option maxRecDepth 100000 in
theorem open_int27 {r : Reach} {v : Value} {d : DataW H} {p : List MemPlace} (hv : Value.okWide Tryz.prog w r b0 27 v) (h : DataW.Trod enc Tryz.prog w base (fun _ => true) held 27 v d p) :
  ∃ (A : Option Addr) (c : Nat) (l : List Int), v = .slice A l.length c ∧ InI w A l := by
 obtain ⟨A, n, c, l, h1, h2, h3, _⟩ := open_ones (α := Int) (Value.int .i64) (fun _ => True) Tryz.underlying27 (by kernel_rfl) (fun fuel cs x hx => by
  obtain ⟨a, ha, _⟩ := DataW.trod_int Tryz.underlying3 hx
  exact ⟨a, ha, trivial⟩) hv h
 subst h2
 refine ⟨A, c, l, h1, fun j u hj => ?_⟩
 have hjl : j < l.length := by have := (List.getElem?_eq_some_iff.1 hj).1; simpa [ic] using this
 rw [ic_get hjl] at hj
 injection hj with hj
 obtain ⟨a, e1, e2, e3⟩ := h3 j hjl
 exact ⟨a, e1, e2, hj ▸ e3⟩
set_option maxRecDepth 100000 in
theorem strict_in (s : ByteArray) (ws : s.size ≤ maxLen) (a : Int) (_ : (Lit.int .i64 a).wf = true) {d : DataW H} {p : List MemPlace} (v : Value) (h : DataW.Trod enc Tryz.prog w base (fun _ => true) held 27 v d p) (hv : Value.okWide Tryz.prog w .any b0 27 v) :
  Calls Tryz.prog 4 #[.string s, .int .i64 a, v] w fun e w' => e = .returned (.bool true) ∧ Below w.heap.size w w' := by
 obtain ⟨A, c, l, rfl, hA⟩ := open_int27 hv h
 obtain ⟨b, rfl⟩ : ∃ b, s = sB b := ⟨s.data.toList, by cases s; simp [sB]⟩
 exact strict_walk b (by rw [sB_size] at ws; exact ws) a l w A c hA
end
end Go.Proofs.YtlmjefjimoghcaaGreat
namespace Go.Proofs.YtlmjefjimoghcaaGreat.topStrict
open Go.ChangeShapes Go.WideShapes Go.ChangeAt Go.RowKit
open Go.ChangeMaps (open_string shut_string)
set_option linter.unusedVariables false
theorem own : ownKnob Tryz.prog.godebug = none := by kernel_rfl
theorem laidOut : laidOutB Tryz.prog = true := by kernel_rfl
set_option maxRecDepth 100000 in
theorem lifted (os : Os) (started : os.Started) (H : Type) (enc : TypeId × Value → H) :
  ReturnsInHanded {} Tryz.checked os 4 .any (Rows.topStrictSpec.pre6 enc Tryz.prog Tryz.f4 Rows.topStrictRow.domain false) (Rows.topStrictSpec.post enc Tryz.prog Tryz.f4 false true false false) := by
 refine returnsInHanded_of_change (C := Tryz.checked) own started (by kernel_rfl) Tryz.func4
  (ChangeSpec.witness6 (enc := enc) (C := Tryz.checked) false ⟨#[], #[.string ByteArray.empty, .int .i64 0, .slice none 0 0], []⟩ 8 (by kernel_rfl) (by kernel_rfl) (by kernel_rfl) (by kernel_rfl)) ?_
 intro W base args ds gs before hval0 hW hcnd hsz
 have hval : ∀ (j : Nat) t v, Tryz.f4.params[j]? = some t → args[j]? = some v → Value.okWide Tryz.prog W .any base t v := hval0
 have hW' := hW
 obtain ⟨p, q, hA0, hV, rfl, hfz, hnd⟩ := hW
 have hA : DataW.TrodAll enc Tryz.prog W 0 (fun _ => true) true Tryz.f4.params.toList args.toList ds p := hA0
 rw [Tryz.params4] at hA hval
 obtain ⟨v0, vs0, d0, ds0, p0, q0, hargs, rfl, rfl, h0, r0⟩ := trodAll_cons hA
 obtain ⟨v1, vs1, d1, ds1, p1, q1, rfl, rfl, rfl, h1, r1⟩ := trodAll_cons r0
 obtain ⟨v2, vs2, d2, ds2, p2, q2, rfl, rfl, rfl, h2, r2⟩ := trodAll_cons r1
 obtain ⟨rfl, rfl, rfl⟩ := trodAll_nil r2
 obtain rfl : args = #[v0, v1, v2] := by cases args; simp_all
 obtain ⟨rfl, rfl⟩ := trodVars_none hV
 obtain ⟨s0, rfl, rfl, rfl, ws0⟩ := open_string Tryz.underlying9 (hval 0 9 v0 rfl rfl) h0
 obtain ⟨a1, rfl, rfl, rfl, w1⟩ := open_int Tryz.underlying3 (hval 1 3 v1 rfl rfl) h1
 have k2 := h2
 have lt2 : ∀ x ∈ p2, x.block < W.heap.size := by obtain ⟨m, hm⟩ := k2; exact DataW.trod_lt m _ _ _ hm
 have hv2 := hval 2 27 v2 rfl rfl
 clear hA0 hval0
 refine (strict_in s0 ws0 a1 w1 v2 h2 hv2).mono fun e W' ⟨he, bel⟩ => ?_
 subst he
 exact ⟨_, rfl, _, _, _, [], _, [], hW', trodAll_mk1 (shut_bool Tryz.underlying4 _), (trodAll_cons_mk (shut_string Tryz.underlying9 ws0) (trodAll_cons_mk (shut_int Tryz.underlying3 w1) (trodAll_cons_mk (Below.trod laidOut (by kernel_rfl) (of_decide_eq_true (by kernel_rfl)) k2 bel lt2) trodAll_mk0))), rfl, bel.frame _, fun h => by cases h⟩
theorem over : Rows.topStrictRow.holds Tryz.pinned (OpenSpec.ofChange Rows.topStrictSpec) :=
 OpenClaim.holds_of_wide 4 Tryz.f4 rfl rfl rfl rfl rfl rfl rfl ⟨rfl, rfl, rfl, rfl, rfl⟩ rfl rfl rfl rfl rfl (by kernel_rfl) Tryz.func4 (by kernel_rfl)
  (of_decide_eq_true (by kernel_rfl)) (by unfold Func.isWrapper; rw [if_neg (of_decide_eq_false (by kernel_rfl))]; exact ⟨rfl, rfl⟩)
  (fun os started H enc _ => lifted os started H enc)
/-- The statement. -/
theorem proved : Rows.TopStrictSaid := over
#print axioms proved
end Go.Proofs.YtlmjefjimoghcaaGreat.topStrict
