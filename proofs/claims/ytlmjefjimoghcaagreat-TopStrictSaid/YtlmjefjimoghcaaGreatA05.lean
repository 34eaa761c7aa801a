/- A part of the proofs of TopCounter and TopStrict: what the functions of the program do, each walked once, and plain laws about it. No condition. -/
import Derived.Test.YtlmjefjimoghcaaGreatA04
namespace Go.Proofs.YtlmjefjimoghcaaGreat
set_option linter.unusedSimpArgs false
set_option linter.unnecessarySimpa false
set_option linter.unusedVariables false
open Go.RowKit
attribute [local go_sem ↓] Go.wp_at_zero Go.wp_at_succ
theorem bitE_ok {e : Enc} (h : EOk e) (z : Int) (b : Bool) : EOk (bitE e z b) ∧ (bitE e z b).out.length ≤ e.out.length + 2 := by
 obtain ⟨hm, hl, _, _⟩ := stepE_mid h z b
 unfold bitE normE
 by_cases h1 : (stepE e z b).size < 2 ^ 24
 ·rw [if_pos h1]
  have m1 := mid_norm1 hm h1
  have l1 := (normE1_val hm.l).2.1
  by_cases h2 : (normE1 (stepE e z b)).size < 2 ^ 24
  ·rw [if_pos h2]
   have m2 := mid_norm1 m1 h2
   have l2 := (normE1_val m1.l).2.1
   have s1 : (normE1 (normE1 (stepE e z b))).size = (stepE e z b).size * 256 * 256 := rfl
   have := hm.s0
   exact ⟨⟨by rw [s1]; omega, m2.s1, m2.l, m2.top⟩, by omega⟩
  ·rw [if_neg h2]
   exact ⟨⟨by omega, m1.s1, m1.l, m1.top⟩, by omega⟩
 ·rw [if_neg h1]
  exact ⟨⟨by omega, hm.s1, hm.l, hm.top⟩, by omega⟩
theorem i64_and1 (n : Int) : bits .and .i64 n 1 = n % 2 := by
 have h1 : (BitVec.ofInt 64 1).toNat = 2 ^ 1 - 1 := by decide
 have key : (BitVec.ofInt 64 n &&& BitVec.ofInt 64 1).toNat = (n % ((2 ^ 64 : Nat) : Int)).toNat % 2 ^ 1 := by
  rw [BitVec.toNat_and, BitVec.toNat_ofInt, h1, Nat.and_two_pow_sub_one_eq_mod]
 show IntKind.i64.wrap ((BitVec.ofInt 64 n &&& BitVec.ofInt 64 1).toNat : Nat) = n % 2
 rw [key, IntKind.wrap_i64]
 omega
/-- the lowest bits of a number -/
def dirE (e : Enc) : Nat → Int → Enc
 | 0, _ => e
 | k + 1, v => dirE (bitE e 1024 (v / 2 ^ k % 2 != 0)) k v
theorem dirE_ok {e : Enc} (h : EOk e) (v : Int) : ∀ k, EOk (dirE e k v) ∧ (dirE e k v).out.length ≤ e.out.length + 2 * k := by
 intro k
 induction k generalizing e with
 | zero => exact ⟨h, Nat.le_refl _⟩
 | succ k ih =>
  obtain ⟨h1, h2⟩ := bitE_ok h 1024 (v / 2 ^ k % 2 != 0)
  obtain ⟨h3, h4⟩ := ih h1
  exact ⟨h3, by show (dirE (bitE e 1024 (v / 2 ^ k % 2 != 0)) k v).out.length ≤ _; omega⟩
def DirRel (S : Nat → Prop) (E : Nat) (e : Enc) (n : Nat) (v : Int) (w : World) (i : Value) (wr : World) : Prop :=
 ∃ (S' : Nat → Prop) (vo' : Value) (e' : Enc) (k : Nat), i = .int .i64 ((k : Int) - 1) ∧ k ≤ n ∧ EnO S' E e' wr vo' ∧ Grow S S' w wr ∧ EOk e' ∧ e'.out.length + 2 * k ≤ 800000 ∧ dirE e' k v = dirE e n v
section
variable {S : Nat → Prop} {E : Nat} {e : Enc} {w w' : World} {vo : Value}
set_option maxRecDepth 100000 in
theorem dir_walk (h : EnO S E e w vo) (ho : EOk e) (n : Nat) (hn : n ≤ 62) (hl : e.out.length + 2 * n ≤ 800000) (v : Int) : Calls Tryz.prog 101 #[.pointer (some ⟨E, 0, none⟩), .int .i64 (n : Int), .int .i64 v] w fun x w' => EnRes S E (dirE e n v) w x w' := by
 have H := Lib.hid h
 have HO := Lib.hid ho
 have hgr0 : Grow S S w w := .same (.refl _ _) h.lt
 have HG := Lib.hid hgr0
 have HL := Lib.hid hl
 have hn' : (n : Int) ≤ 62 := by omega
 clear h ho hgr0 hl hn
 go_enter Tryz.func101, Tryz.ntmps101
 go_wp2_with fail
 go_loopw [6] (fun i wr => DirRel S E e n v w i wr) (fun i _ => (intOf i + 1).toNat)
 case atStart => exact ⟨S, vo, e, n, rfl, Nat.le_refl _, H.out, HG.out, HO.out, HL.out, rfl⟩
 case round =>
  obtain ⟨S', vo', e', k, rfl, hk, he, hgr, hok, hle, hd⟩ := hrel
  have HE := Lib.hid he
  have HGr := Lib.hid hgr
  have HOk := Lib.hid hok
  have HLe := Lib.hid hle
  have HD := Lib.hid hd
  match k, hk, hle, hd, HLe, HD with
  | 0, hk, hle, hd, HLe, HD =>
   clear he hgr hok hle hd
   go_wp2_with fail
   refine bodyPost_end (results_none rfl _ _ _) rfl ⟨S', vo', rfl, HGr.out, ?_⟩
   have := HD.out
   rw [← this]
   exact HE.out
  | k + 1, hk, hle, hd, HLe, HD =>
   have hkk : ((k + 1 : Nat) : Int) - 1 = (k : Int) := by omega
   rw [hkk]
   have hk62 : (k : Int) < 62 := by omega
   have HB := Lib.hid (bit_walk he hok (by omega) 1024 (v / 2 ^ k % 2))
   clear he hgr hok hle hd
   go_wp2_with fail
   rw [i64_and1]
   refine (HB.out).mono ?_
   rintro x w3 ⟨S3, vo3, rfl, hg3, hE3⟩
   have hbk := bitE_ok HOk.out 1024 (v / 2 ^ k % 2 != 0)
   have HE3 := Lib.hid hE3
   have HG3 := Lib.hid (HGr.out.trans hg3)
   have HBk := Lib.hid hbk
   clear hg3 hE3 hbk HB
   go_wp2_with fail
   go_roundw
   case rel => exact ⟨S3, vo3, _, k, rfl, by omega, HE3.out, HG3.out, HBk.out.1, by have := HBk.out.2; have := HLe.out; omega, HD.out⟩
   case measure => simp [intOf]
end
section
variable {D : Nat} {d : Dec} {w w' : World}
/-- the numbers of direct bits -/
def dirD (d : Dec) (v : Nat) : Nat → Nat × Dec
 | 0 => (v, d)
 | k + 1 => dirD (bitD d 1024) (2 * v + if bitOf d 1024 then 1 else 0) k
theorem bitD_size {d : Dec} (z : Int) (h : 2 ^ 24 ≤ d.size) (h1 : d.size < 2 ^ 32) : 2 ^ 24 ≤ (bitD d z).size := by
 have hb := bndP_b z h
 have hs : 2 ^ 13 ≤ (stepD d z).size ∧ (stepD d z).size < 2 ^ 32 := by
  unfold stepD
  split
  ·exact ⟨by show 2 ^ 13 ≤ bndP d.size z; omega, by show bndP d.size z < _; omega⟩
  ·exact ⟨by show 2 ^ 13 ≤ d.size - bndP d.size z; omega, by show d.size - bndP d.size z < _; omega⟩
 unfold bitD normD
 have e1 : (normD1 (stepD d z)).size = (stepD d z).size * 256 := rfl
 have e2 : (normD1 (normD1 (stepD d z))).size = (stepD d z).size * 256 * 256 := rfl
 split
 ·split
  ·rw [e2]; omega
  ·omega
 ·omega
def DDirRel (D : Nat) (d : Dec) (n : Nat) (w : World) (vv i : Value) (wr : World) : Prop :=
 ∃ (d' : Dec) (j k v : Nat), i = .int .i64 (j : Int) ∧ j + k = n ∧ vv = .int .i64 (v : Int) ∧ v < 2 ^ j ∧ DeO D d' wr ∧ Touch (fun k => k = D) w wr ∧ 2 ^ 24 ≤ d'.size ∧ dirD d' v k = dirD d 0 n
set_option maxRecDepth 100000 in
theorem ddir_walk (h : DeO D d w) (hs : 2 ^ 24 ≤ d.size) (n : Nat) (hn : n ≤ 62) : Calls Tryz.prog 128 #[.pointer (some ⟨D, 0, none⟩), .int .i64 (n : Int)] w fun x w' => x = .returned (.int .i64 ((dirD d 0 n).1 : Int)) ∧ Touch (fun k => k = D) w w' ∧ DeO D (dirD d 0 n).2 w' ∧ 2 ^ 24 ≤ (dirD d 0 n).2.size := by
 have H := Lib.hid h
 have HS := Lib.hid hs
 have hn' : (n : Int) ≤ 62 := by omega
 clear h hs
 go_enter Tryz.func128, Tryz.ntmps128
 go_wp2_with fail
 go_loopw [5, 13] (fun vv i wr => DDirRel D d n w vv i wr) (fun _ i _ => ((n : Int) - intOf i).toNat)
 case atStart => exact ⟨d, 0, n, 0, rfl, by omega, rfl, by decide, H.out, .refl _ _, HS.out, rfl⟩
 case round =>
  obtain ⟨d', j, k, v, rfl, hjk, rfl, hv, he, ht, hsz, hd⟩ := hrel
  have HE := Lib.hid he
  have HT := Lib.hid ht
  have HSz := Lib.hid hsz
  have HD := Lib.hid hd
  have HV := Lib.hid hv
  match k, hjk, hd, HD with
  | 0, hjk, hd, HD =>
   have hj : ¬ (j : Int) < n := by omega
   clear he ht hsz hd hv
   go_wp2_with fail
   go_ret
   have := HD.out
   rw [← this]
   exact ⟨rfl, HT.out, HE.out, HSz.out⟩
  | k + 1, hjk, hd, HD =>
   have hj : (j : Int) < n := by omega
   have hv61 : (v : Int) < 2305843009213693952 := by
    have : 2 ^ j ≤ 2 ^ 61 := Nat.pow_le_pow_right (by decide) (by omega)
    omega
   have HB := Lib.hid (dbit_walk he hsz 1024)
   clear he ht hsz hd hv
   go_wp2_with fail
   refine (HB.out).mono ?_
   rintro x w3 ⟨rfl, ht3, hE3⟩
   obtain ⟨bt, hbt⟩ : ∃ bt : Nat, (if bitOf d' 1024 then 1 else 0 : Nat) = bt := ⟨_, rfl⟩
   have hb1 : bt ≤ 1 := by rw [← hbt]; split <;> omega
   have hbi : (if bitOf d' 1024 then 1 else 0 : Int) = (bt : Int) := by rw [← hbt]; split <;> rfl
   rw [hbi]
   have hor : bits .or .i64 ((v : Int) * 2) (bt : Int) = ((2 * v + bt : Nat) : Int) := by
    rw [bits_join .i64 63 (by decide) (fun n h0 h1 => by rw [IntKind.wrap_i64]; omega) 1 ((v : Int) * 2) (bt : Int) (by omega) (by omega) (by omega) (by omega) (by omega) (by omega)]
    omega
   have HE3 := Lib.hid hE3
   have HT3 := Lib.hid (HT.out.trans ht3 fun _ _ h => h)
   have HD' : Hid (dirD (bitD d' 1024) (2 * v + bt) k = dirD d 0 n) := Lib.hid (by rw [← hbt]; exact HD.out)
   have HS' := Lib.hid (bitD_size 1024 HSz.out HE.out.sl)
   have hv' : 2 * v + bt < 2 ^ (j + 1) := by have := HV.out; rw [Nat.pow_succ]; omega
   have HV' := Lib.hid hv'
   clear ht3 hE3 hbt hbi hv' HB
   go_wp2_with fail
   go_roundw
   case rel => exact ⟨bitD d' 1024, j + 1, k, 2 * v + bt, by go_num, by omega, rfl, HV'.out, HE3.out, HT3.out, HS'.out, HD'.out⟩
   case measure => simp [intOf]; omega
/-- a decoder of bytes -/
def nxN (d : Dec) : Nat → Dec
 | 0 => d
 | k + 1 => nextD (nxN d k)
theorem nxN_b (d : Dec) : ∀ k, (nxN d k).size = d.size ∧ (nxN d k).full = d.full
 | 0 => ⟨rfl, rfl⟩
 | k + 1 => ⟨(nextD_size _).trans (nxN_b d k).1, (nextD_full _).trans (nxN_b d k).2⟩
def NewRel (D : Nat) (d : Dec) (w : World) (i : Value) (wr : World) : Prop := ∃ j : Nat, i = .int .i64 (j : Int) ∧ j ≤ 4 ∧ DeO D (nxN d j) wr ∧ Touch (fun k => k = D) w wr
set_option maxRecDepth 100000 in
theorem newD_walk (w : World) (l : List UInt8) (hl : l.length ≤ maxLen) : Calls Tryz.prog 67 #[.string (sB l)] w fun x w' => x = .returned (.pointer (some ⟨w.heap.size, 0, none⟩)) ∧ Below w.heap.size w w' ∧ DeO w.heap.size (newD l) w' ∧ (newD l).size = 2 ^ 32 - 1 := by
 have HL := Lib.hid hl
 clear hl
 go_enter Tryz.func67, Tryz.ntmps67
 go_wp2_with fail
 obtain ⟨W1, hW1⟩ : ∃ W, w.alloc (.cells #[.string (sB l), .int .u32 0, .int .u32 4294967295, .bool false, .bool false] 176) = W := ⟨_, rfl⟩
 rw [hW1]
 have hE : DeO w.heap.size ⟨l, 0, 2 ^ 32 - 1, false, false⟩ W1 := ⟨by rw [← hW1]; exact heap_alloc_new w _, by show (0:Nat) < _; decide, by show 2 ^ 32 - 1 < _; decide, HL.out⟩
 have hT : Touch (fun k => k = w.heap.size) w W1 := by rw [← hW1]; exact (Touch.refl _ _).alloc _
 have HE0 := Lib.hid hE
 have HT0 := Lib.hid hT
 clear hW1 hE hT
 go_loopw [7] (fun i wr => NewRel w.heap.size ⟨l, 0, 2 ^ 32 - 1, false, false⟩ w i wr) (fun i _ => (4 - intOf i).toNat)
 case atStart => exact ⟨0, rfl, by decide, HE0.out, HT0.out⟩
 case round =>
  obtain ⟨j, rfl, hj, he, ht⟩ := hrel
  have HE := Lib.hid he
  have HT := Lib.hid ht
  by_cases h4 : j = 4
  ·subst h4
   have c1 := he.c1
   have c2 := he.c2
   have f4 := he.fr 4
   have c4 := he.c4
   clear he ht
   obtain ⟨d4, hd4⟩ : ∃ d, nxN ⟨l, 0, 2 ^ 32 - 1, false, false⟩ 4 = d := ⟨_, rfl⟩
   rw [hd4] at c1 c2
   have HN := Lib.hid hd4
   clear hd4
   go_upto_region 6 with (fail)
   refine wp_region_noPanic ?_
   refine wp_region_D 12 (fun w' => w'.cell? ⟨w.heap.size, 1, none⟩ = some (.int .u32 (d4.code : Int)) ∧ w'.cell? ⟨w.heap.size, 2, none⟩ = some (.int .u32 (d4.size : Int))) (by kernel_rfl) ⟨c1, c2⟩ (fun hU => ?_)
   have hC : (fun w' : World => w'.cell? ⟨w.heap.size, 1, none⟩ = some (.int .u32 (d4.code : Int)) ∧ w'.cell? ⟨w.heap.size, 2, none⟩ = some (.int .u32 (d4.size : Int))) wr.drew := ⟨c1, c2⟩
   clear hU
   refine tk 0 12 12 rfl rfl (.inr hC) ?_
   simp only [Act.put, zA, zB, zC]
   refine tk 1 13 11 rfl rfl (.inr hC) ?_
   simp only [Act.put, zA, zB, zC]
   refine tk 2 14 10 rfl rfl (.inr hC) ?_
   simp only [Act.put, zA, zB, zC]
   refine tk 3 15 9 rfl rfl (.inr hC) ?_
   simp only [Act.put, zA, zB, zC]
   refine tl 4 16 8 rfl rfl (.inr hC) ?_
   simp only [Act.put, zA, zB, zC]
   refine tk 5 17 7 rfl rfl (.inr hC) ?_
   simp only [Act.put, zA, zB, zC]
   refine tk 6 18 6 rfl rfl (.inr hC) ?_
   simp only [Act.put, zA, zB, zC]
   refine tk 7 19 5 rfl rfl (.inr hC) ?_
   simp only [Act.put, zA, zB, zC]
   refine tl 8 20 4 rfl rfl (.inr hC) ?_
   simp only [Act.put, zA, zB, zC]
   refine tk 9 21 3 rfl rfl (.inr hC) ?_
   simp only [Act.put, zA, zB, zC]
   refine tk 10 22 2 rfl rfl (.inr hC) ?_
   simp only [Act.put, zA, zB, zC]
   refine tk 11 23 1 rfl rfl (.inr hC) ?_
   simp only [Act.put, zA, zB, zC]
   refine ry 0 [12] ?_
   refine rn rfl (fun K hK => ?_) ?_
   ·go_simp
    refine shut_K hK (by kernel_rfl) ?_
    clear hK K
    try simp only [Act.put, zA, zB, zC]
    refine wpAnyD_done (by kernel_rfl) ?_ _
    refine NoPanic.normal ?_
    go_wp2_with fail
    go_ret
    refine ⟨rfl, ((HT.out.drew).setCell (p := ⟨w.heap.size, 4, none⟩) (.inl rfl) _).below w.heap.size (Nat.le_refl _) (fun _ h => h ▸ Nat.le_refl _), ?_, ?_⟩
    ·have e1 : DeO w.heap.size (nxN ⟨l, 0, 2 ^ 32 - 1, false, false⟩ 4) wr.drew := HE.out.frame rfl
     have hz := nxN_b ⟨l, 0, 2 ^ 32 - 1, false, false⟩ 4
     rw [HN.out] at hz
     have hz1 : d4.size = 2 ^ 32 - 1 := hz.1
     have hN : newD l = { d4 with full := decide (d4.code = 2 ^ 32 - 1) } := by rw [← HN.out]; rfl
     have hb : ((d4.code : Int) == (d4.size : Int)) = decide (d4.code = 2 ^ 32 - 1) := by
      rw [hz1]
      by_cases h : d4.code = 2 ^ 32 - 1
      ·rw [decide_eq_true h, h]; exact beq_self_eq_true _
      ·rw [decide_eq_false h]; exact beq_eq_false_iff_ne.2 (by omega)
     rw [HN.out] at e1
     rw [hb, hN]
     exact e1.set 4 _ { d4 with full := decide (d4.code = 2 ^ 32 - 1) } rfl e1.cl e1.sl e1.rl
    ·exact (nxN_b ⟨l, 0, 2 ^ 32 - 1, false, false⟩ 4).1
   exact rz
  ·have hj4 : (j : Int) < 4 := by omega
   have HNx := Lib.hid (next_walk he)
   clear he ht hj h4
   go_wp2_with fail
   refine (HNx.out).mono ?_
   rintro x w3 ⟨rfl, ht3, hE3⟩
   have HE3 := Lib.hid hE3
   have HT3 := Lib.hid (HT.out.trans ht3 fun _ _ h => h)
   clear ht3 hE3 HNx
   go_wp2_with fail
   go_roundw
   case rel => exact ⟨j + 1, by go_num, by omega, HE3.out, HT3.out⟩
   case measure => simp [intOf]; omega
theorem end_walk (h : DeO D d w) : Calls Tryz.prog 69 #[.pointer (some ⟨D, 0, none⟩)] w fun x w' => x = .returned (.int .i64 (if endD d then 0 else 12)) ∧ w = w' := by
 have c0 := h.c0
 have c1 := h.c1
 have c3 := h.c3
 have c4 := h.c4
 clear h
 unfold endD
 cases hm : d.missing with
 | true =>
  rw [hm] at c3
  go_enter Tryz.func69, Tryz.ntmps69
  go_wp2_with fail
  go_ret
  exact ⟨rfl, rfl⟩
 | false =>
  rw [hm] at c3
  cases hf : d.full with
  | true =>
   rw [hf] at c4
   go_enter Tryz.func69, Tryz.ntmps69
   go_wp2_with fail
   go_ret
   exact ⟨rfl, rfl⟩
  | false =>
   rw [hf] at c4
   cases hr : d.rest with
   | cons c r =>
    rw [hr] at c0
    have ht := sB_toList (c :: r)
    have htn : (c :: r) ≠ [] := by simp
    have hsz := sB_size (c :: r)
    go_enter Tryz.func69, Tryz.ntmps69
    go_wp2_with fail
    all_goals
     go_ret
     exact ⟨rfl, rfl⟩
   | nil =>
    rw [hr] at c0
    have hz : sB [] = ⟨#[]⟩ := rfl
    rw [hz] at c0
    by_cases hc : d.code = 0
    ·rw [hc] at c1 ⊢
     go_enter Tryz.func69, Tryz.ntmps69
     go_wp2_with fail
     go_ret
     exact ⟨rfl, rfl⟩
    ·have hci : ((d.code : Int) == 0) = false := beq_eq_false_iff_ne.2 (by omega)
     have hcn : (d.code != 0) = true := by simp [hc]
     rw [hcn]
     go_enter Tryz.func69, Tryz.ntmps69
     go_wp2_with fail
     all_goals
      go_ret
      exact ⟨rfl, rfl⟩
end
theorem take_getD {α : Type} [Inhabited α] {l : List α} {k : Nat} (h : k < l.length) : l.take (k + 1) = l.take k ++ [l.getD k default] := by
 rw [List.take_add_one, get_default h]; rfl
/-- an encoder of new blocks alone -/
structure EnN (B : Nat) (E : Nat) (e : Enc) (w : World) : Prop where
 ex : ∃ (S : Nat → Prop) (vo : Value), EnO S E e w vo ∧ ∀ k, S k → B ≤ k
theorem EnRes.below {S : Nat → Prop} {E B : Nat} {e' : Enc} {a w w' : World} {x : Ending} (h : EnRes S E e' w x w') (hb : Below B a w) (hB : B ≤ a.heap.size) (hS : ∀ k, S k → B ≤ k) : x = .returned (.tuple #[]) ∧ Below B a w' ∧ EnN B E e' w' := by
 obtain ⟨S', vo, rfl, hg, he⟩ := h
 have h1 := hb.size
 exact ⟨rfl, hb.trans (hg.touch.below B (Nat.le_trans hB h1) hS), ⟨S', vo, he, fun k hk => (hg.s k hk).elim (hS k) fun h => Nat.le_trans hB (Nat.le_trans h1 h)⟩⟩
def ic (l : List Int) : List Value := l.map (Value.int .i64)
theorem ic_length (l : List Int) : (ic l).length = l.length := by simp [ic]
theorem ic_get {l : List Int} {k : Nat} (h : k < l.length) : (ic l)[k]? = some (.int .i64 (l.getD k default)) := by simp [ic, List.getD, h]
/-- a block of numbers -/
def IRow (w : World) (G : Nat) (l : List Int) : Prop := w.heap[G]? = some (.cells (ic l).toArray 3 (0, 0))
theorem IRow.set {w : World} {G : Nat} {l : List Int} (h : IRow w G l) (i : Nat) (x : Int) : IRow (w.setCell ⟨G, i, none⟩ (.int .i64 x)) G (l.set i x) :=
 (heap_setCell_any w G i _ _ _ _ h).trans (by simp [ic, List.map_set])
theorem IRow.to {w : World} {G : Nat} {l : List Int} (h : IRow w G l) : w.heap[G]? = some (.cells (ic l).toArray 3 (0, 0)) := h
end Go.Proofs.YtlmjefjimoghcaaGreat
namespace Go.Proofs.YtlmjefjimoghcaaGreat
set_option linter.unusedSimpArgs false
set_option linter.unnecessarySimpa false
set_option linter.unusedVariables false
set_option maxRecDepth 100000
def clampI (z : Int) : Int := min (max z 1) 2047
def adaptP (z : Int) (b : Bool) : Int := if b then clampI z - clampI z / 32 else clampI z + (2048 - clampI z) / 32
def trE : Nat → Nat → Nat → Nat → List Int → Enc → List Int × Enc
 | 0, _, _, _, L, e => (L, e)
 | k + 1, f, v, m, L, e => trE k f v (2 * m + v / 2 ^ k % 2) (L.set (f + m) (adaptP (L.getD (f + m) default) (v / 2 ^ k % 2 != 0))) (bitE e (L.getD (f + m) default) (v / 2 ^ k % 2 != 0))
def b2n (b : Bool) : Nat := if b then 1 else 0
def trD : Nat → Nat → Nat → List Int → Dec → Nat × List Int × Dec
 | 0, _, m, L, d => (m, L, d)
 | k + 1, f, m, L, d => trD k f (2 * m + b2n (bitOf d (L.getD (f + m) default))) (L.set (f + m) (adaptP (L.getD (f + m) default) (bitOf d (L.getD (f + m) default)))) (bitD d (L.getD (f + m) default))
theorem trD_range : ∀ (k f m : Nat) (L : List Int) (d : Dec), ∃ r, r < 2 ^ k ∧ (trD k f m L d).1 = 2 ^ k * m + r
 | 0, _, m, _, _ => ⟨0, by decide, by show m = 2 ^ 0 * m + 0; omega⟩
 | k + 1, f, m, L, d => by
  obtain ⟨r, hr, h⟩ := trD_range k f (2 * m + b2n (bitOf d (L.getD (f + m) default))) (L.set (f + m) (adaptP (L.getD (f + m) default) (bitOf d (L.getD (f + m) default)))) (bitD d (L.getD (f + m) default))
  refine ⟨2 ^ k * b2n (bitOf d (L.getD (f + m) default)) + r, ?_, ?_⟩
  ·unfold b2n
   rw [Nat.pow_succ]
   split <;> omega
  ·show (trD k f _ _ _).1 = _
   rw [h, Nat.mul_add, Nat.pow_succ, Nat.mul_assoc, Nat.add_assoc]
theorem trE_len : ∀ (k f v m : Nat) (L : List Int) (e : Enc), (trE k f v m L e).1.length = L.length
 | 0, _, _, _, _, _ => rfl
 | k + 1, f, v, m, L, e => (trE_len k f v _ _ _).trans (List.length_set)
theorem trD_len : ∀ (k f m : Nat) (L : List Int) (d : Dec), (trD k f m L d).2.1.length = L.length
 | 0, _, _, _, _ => rfl
 | k + 1, f, m, L, d => (trD_len k f _ _ _).trans (List.length_set)
end Go.Proofs.YtlmjefjimoghcaaGreat
