/- A part of the proofs of TopCounter and TopStrict: what the functions of the program do, each walked once, and plain laws about it. No condition. -/
import Derived.Test.YtlmjefjimoghcaaGreatA14
import Derived.Test.YtlmjefjimoghcaaGreatA08
namespace Go.Proofs.YtlmjefjimoghcaaGreat
set_option linter.unusedSimpArgs false
set_option linter.unnecessarySimpa false
set_option linter.unusedVariables false
open Go.RowKit
attribute [local go_sem ↓] Go.wp_at_zero Go.wp_at_succ
def encNs (r : List Int × Enc) (l : List Int) : List Int × Enc := l.foldl (fun r v => nuE r.1 v.toNat r.2) r
def numsE (l : List Int) : List UInt8 := V.num l.length ++ if l.isEmpty then [] else finE (encNs (half 64, newE) l).2
theorem nuE_ok {e : Enc} (h : EOk e) (L : List Int) (v : Nat) (hv : v < 2 ^ 62) : EOk (nuE L v e).2 ∧ (nuE L v e).2.out.length ≤ e.out.length + 136 ∧ (nuE L v e).1.length = L.length := by
 obtain ⟨h1, h2⟩ := trE_ok 6 0 (Lib.bitLen v) 1 L e h
 have h3 := trE_len 6 0 (Lib.bitLen v) 1 L e
 have h4 : Lib.bitLen v ≤ 62 := Lib.bitLen_le v 62 (by decide) hv
 unfold nuE
 refine ⟨?_, ?_, h3⟩
 ·show EOk (if 2 ≤ Lib.bitLen v then _ else _)
  split
  ·exact (dirE_ok h1 _ _).1
  ·exact h1
 ·show (if 2 ≤ Lib.bitLen v then _ else _ : Enc).out.length ≤ _
  split
  ·have := (dirE_ok h1 (v : Int) (Lib.bitLen v - 1)).2
   omega
  ·omega
theorem encNs_snoc (r : List Int × Enc) (l : List Int) (v : Int) : encNs r (l ++ [v]) = nuE (encNs r l).1 v.toNat (encNs r l).2 := by simp [encNs]
theorem encNs_ok (l : List Int) : (∀ v ∈ l, 0 ≤ v ∧ v < 2 ^ 62) → EOk (encNs (half 64, newE) l).2 ∧ (encNs (half 64, newE) l).2.out.length ≤ 136 * l.length ∧ (encNs (half 64, newE) l).1.length = 64 := by
 induction l using snoc_rec with
 | h0 => intro _; exact ⟨newE_ok, Nat.zero_le _, rfl⟩
 | h1 l v ih =>
  intro h
  obtain ⟨h1, h2, h3⟩ := ih fun v hv => h v (List.mem_append_left _ hv)
  have hv := h v (by simp)
  obtain ⟨k1, k2, k3⟩ := nuE_ok h1 (encNs (half 64, newE) l).1 v.toNat (by omega)
  rw [encNs_snoc]
  refine ⟨k1, ?_, k3.trans h3⟩
  rw [List.length_append, List.length_singleton, Nat.mul_add]; omega
def EncNR (B G E : Nat) (w : World) (l : List Int) (i : Value) (wr : World) : Prop :=
 ∃ (k : Nat) (S : Nat → Prop) (vo : Value), i = .int .i64 (k : Int) ∧ k ≤ l.length ∧ EnO S E (encNs (half 64, newE) (l.take k)).2 wr vo ∧ (∀ j, S j → w.heap.size ≤ j) ∧ IRow wr G (encNs (half 64, newE) (l.take k)).1 ∧ NumO B G wr ∧ Touch (fun k => k = G ∨ k = B) w wr
set_option maxRecDepth 100000 in
theorem encN_walk (l : List Int) (hl : l.length ≤ 4096) (hv : ∀ v ∈ l, 0 ≤ v ∧ v < 2 ^ 62) (w : World) (B G : Nat) (A : Option Addr) (c : Nat) (hF : Flat w (fun k => k < w.heap.size ∧ k ≠ G ∧ k ≠ B) A (ic l)) (hb : NumO B G w) (hi : IRow w G (half 64)) (hBG : B ≠ G) :
  Calls Tryz.prog 45 #[.iface 77 (.pointer (some ⟨B, 0, none⟩)), .slice A l.length c] w fun e w' => e = .returned (.string (sB (numsE l))) ∧ Touch (fun k => k = G ∨ k = B) w w' := by
 have HF := Lib.hid hF
 have HV := Lib.hid hv
 have HL := Lib.hid hl
 have HB := Lib.hid hb
 have HI := Lib.hid hi
 have HBG := Lib.hid hBG
 have hGl := (Array.getElem?_eq_some_iff.1 hi.to).1
 have hBl := (Array.getElem?_eq_some_iff.1 hb.to).1
 have HGB := Lib.hid (And.intro hGl hBl)
 have hli : (l.length : Int) ≤ 4096 := by omega
 clear hF hb hi hv hGl hBl hBG
 by_cases hz : l.length = 0
 ·have hze : l = [] := List.length_eq_zero_iff.1 hz
  subst hze
  have HN : Hid (∀ w : World, Calls Tryz.prog 53 #[.int .i64 0] w fun e w' => e = .returned (.string (sB (V.num 0))) ∧ Below w.heap.size w w') := Lib.hid fun w => V.number_walk 0 (by decide) w
  have HE : Hid (numsE [] = V.num 0) := Lib.hid (by unfold numsE; simp)
  go_enter Tryz.func45, Tryz.ntmps45
  go_wp2_with fail
  refine (HN.out _).mono ?_
  rintro x w1 ⟨rfl, hb1⟩
  have HB1 := Lib.hid hb1
  clear hb1
  go_wp2_with fail
  go_ret
  rw [HE.out]
  exact ⟨rfl, .of_below HB1.out⟩
 ·have HN : Hid (∀ w : World, Calls Tryz.prog 53 #[.int .i64 (l.length : Int)] w fun e w' => e = .returned (.string (sB (V.num l.length))) ∧ Below w.heap.size w w') := Lib.hid fun w => V.number_walk l.length (by omega) w
  have HE : Hid (numsE l = V.num l.length ++ finE (encNs (half 64, newE) l).2) := Lib.hid (by
   unfold numsE
   have : l.isEmpty = false := by cases l with | nil => exact absurd rfl hz | cons => rfl
   rw [this]; rfl)
  have z1 : (sB (V.num l.length)).size ≤ 9 := by rw [sB_size, V.num_length]; have := V.kOf_le l.length; omega
  clear hl
  go_enter Tryz.func45, Tryz.ntmps45
  go_wp2_with fail
  refine (HN.out _).mono ?_
  rintro x w1 ⟨rfl, hb1⟩
  have HB1 := Lib.hid hb1
  clear hb1
  go_wp2_with fail
  refine (newE_walk _).mono ?_
  rintro x w2 ⟨rfl, hb2, he2⟩
  have HB2 := Lib.hid (bstep HB1.out (Nat.le_refl _) hb2)
  have HE2 := Lib.hid he2
  have HS1 : Hid (w.heap.size ≤ w1.heap.size) := Lib.hid HB1.out.size
  clear hb2 he2
  obtain ⟨E, hE⟩ : ∃ E, w1.heap.size = E := ⟨_, rfl⟩
  rw [hE] at HE2 HS1 ⊢
  clear hE
  go_wp2_with fail
  go_loopw [19] (fun i wr => EncNR B G E w l i wr) (fun i _ => ((l.length : Int) - intOf i).toNat)
  case atStart =>
   have h := HGB.out
   refine ⟨0, _, _, rfl, Nat.zero_le _, HE2.out, fun j hj => hj ▸ HS1.out, ?_, ?_, .of_below HB2.out⟩
   ·exact (HB2.out.block G h.1).trans HI.out.to
   ·exact (HB2.out.block B h.2).trans HB.out.to
  case round =>
   obtain ⟨k, S, vo, rfl, hk, he, hS, hi, hb, ht⟩ := hrel
   have HT := Lib.hid ht
   have HS := Lib.hid hS
   by_cases hlt : k < l.length
   ·have hki : (k : Int) < l.length := by omega
    obtain ⟨v, hvv⟩ : ∃ v, l.getD k default = v := ⟨_, rfl⟩
    obtain ⟨a, rfl, _, c0⟩ := (HF.out.frame (w' := wr) fun k hk hl => HT.out.block k hl (fun h => h.elim hk.2.1 hk.2.2)) k _ (ic_get hlt)
    rw [hvv] at c0
    have hmem : v ∈ l := by rw [← hvv]; exact List.mem_of_getElem? (get_default hlt)
    obtain ⟨hv0, hv1⟩ := HV.out v hmem
    have hok := encNs_ok (l.take k) fun x hx => HV.out x (List.mem_of_mem_take hx)
    have hlk : (l.take k).length ≤ 4096 := by rw [List.length_take]; have := HL.out; omega
    have hg := HGB.out
    obtain ⟨vn, hvn⟩ : ∃ n : Nat, v = (n : Int) := ⟨v.toNat, by omega⟩
    subst hvn
    have HW := Lib.hid (numE_walk he hok.1 hb hi hok.2.2 (fun h => absurd (hS _ h) (by omega)) (fun h => absurd (hS _ h) (by omega)) HBG.out (by omega) vn (by omega))
    have HSn : Hid (encNs (half 64, newE) (l.take (k + 1)) = nuE (encNs (half 64, newE) (l.take k)).1 vn (encNs (half 64, newE) (l.take k)).2) := Lib.hid (by
     rw [take_getD hlt, hvv, encNs_snoc, Int.toNat_natCast])
    clear he hi hb ht hS hvv hmem hok hlk hg hv0 hv1
    go_wp2_with fail
    refine (HW.out).mono ?_
    rintro x w4 ⟨rfl, hm, hb4⟩
    have HM := Lib.hid hm
    have HB4 := Lib.hid hb4
    clear hm hb4 HW
    go_wp2_with fail
    go_roundw
    case rel =>
     obtain ⟨S', vo', he', hs'⟩ := HM.out.ex
     have ht := HT.out.trans HM.out.touch (fun i hi h => h.elim (fun h => absurd (HS.out i h) (by omega)) id)
     refine ⟨k + 1, S', vo', by go_num, by omega, by rw [HSn.out]; exact he', fun j hj => ?_, by rw [HSn.out]; exact HM.out.row, HB4.out, ht⟩
     exact (hs' j hj).elim (HS.out j) fun h => Nat.le_trans HT.out.size h
    case measure => simp [intOf]; omega
   ·obtain rfl : k = l.length := by omega
    rw [List.take_length] at he
    have hok := encNs_ok l HV.out
    have h4 := HL.out
    have HFi := Lib.hid (fin_walk he hok.1 (by omega))
    have z2 : (sB (finE (encNs (half 64, newE) l).2)).size ≤ 900004 := by rw [sB_size]; unfold finE; rw [List.length_append]; have : (be4 (encNs (half 64, newE) l).2.low).length = 4 := rfl; omega
    clear he hi hb ht hS hok h4
    go_wp2_with fail
    refine (HFi.out).mono ?_
    rintro x w4 ⟨rfl, hb4⟩
    have HB4 := Lib.hid hb4
    clear hb4
    go_wp2_with fail
    go_ret
    rw [HE.out, ← sB_app]
    exact ⟨rfl, HT.out.trans (.of_below (S := fun _ => False) HB4.out) fun _ _ h => h.elim⟩
def okN (v : Int) : Bool := decide (0 ≤ v) && decide (v ≤ 4611686018427387903)
def encNumF (l : List Int) : List UInt8 × Int := if 4096 < l.length then ([], 9) else if l.all okN then (numsE l, 0) else ([], 2)
/-- the slice l at A, below everything new -/
def InI (w : World) (A : Option Addr) (l : List Int) : Prop := Flat w (fun k => k < w.heap.size) A (ic l)
theorem InI.at {w : World} {A : Option Addr} {l : List Int} (h : InI w A l) {w' : World} (hb : Below w.heap.size w w') {k : Nat} (hk : k < l.length) : ∃ a, A = some a ∧ w'.cell? (a.add k) = some (.int .i64 (l.getD k default)) := by
 obtain ⟨a, h1, _, h2⟩ := (Flat.frame (w' := w') h fun k hk _ => hb.block k hk) k _ (ic_get hk)
 exact ⟨a, h1, h2⟩
theorem InI.mono {w w' : World} {A : Option Addr} {l : List Int} (h : InI w A l) (hb : Below w.heap.size w w') : InI w' A l :=
 (Flat.frame (w' := w') h fun k hk _ => hb.block k hk).mono fun k hk => Nat.lt_of_lt_of_le hk hb.size
theorem all_step {f : Int → Bool} {l : List Int} {k : Nat} (hk : k < l.length) : (l.take (k + 1)).all f = ((l.take k).all f && f (l.getD k default)) := by
 rw [take_getD hk]; simp
theorem all_no {f : Int → Bool} {l : List Int} {k : Nat} (hk : k < l.length) (h : f (l.getD k default) = false) : l.all f = false := by
 cases ha : l.all f with
 | false => rfl
 | true => have := List.all_eq_true.1 ha _ (List.mem_of_getElem? (get_default hk)); rw [h] at this; cases this
set_option maxRecDepth 100000 in
theorem encNums_walk (l : List Int) (hl : l.length ≤ 1000000) (w : World) (A : Option Addr) (c : Nat) (hF : InI w A l) :
  Calls Tryz.prog 17 #[.slice A l.length c] w fun e w' => e = .returned (.tuple #[.string (sB (encNumF l).1), .int .i64 (encNumF l).2]) ∧ Below w.heap.size w w' := by
 have HF := Lib.hid hF
 have HL := Lib.hid hl
 have hli : (l.length : Int) ≤ 1000000 := by omega
 clear hF hl
 by_cases h4 : 4096 < l.length
 ·have HE : Hid (encNumF l = ([], 9)) := Lib.hid (by unfold encNumF; rw [if_pos h4])
  have h4i : (4096 : Int) < l.length := by omega
  go_enter Tryz.func17, Tryz.ntmps17
  go_wp2_with fail
  go_ret2
  rw [HE.out]
  exact ⟨rfl, .refl _ _⟩
 ·have h4i : ¬ (4096 : Int) < l.length := by omega
  go_enter Tryz.func17, Tryz.ntmps17
  go_wp2_with fail
  go_loopw [11] (fun i wr => ∃ k : Nat, i = .int .i64 (k : Int) ∧ k ≤ l.length ∧ (l.take k).all okN = true ∧ w = wr) (fun i _ => ((l.length : Int) - intOf i).toNat)
  case atStart => exact ⟨0, rfl, Nat.zero_le _, rfl, rfl⟩
  case round =>
   obtain ⟨k, rfl, hk, hv, rfl⟩ := hrel
   have HVa := Lib.hid hv
   clear hv
   by_cases hlt : k < l.length
   ·have hkl : (k : Int) < l.length := by omega
    obtain ⟨a, rfl, c0⟩ := HF.out.at (.refl _ _) hlt
    have HSt := Lib.hid (all_step (f := okN) hlt)
    have HNo := Lib.hid (@all_no okN l k hlt)
    obtain ⟨v, hv⟩ : ∃ v, l.getD k default = v := ⟨_, rfl⟩
    rw [hv] at c0 HSt HNo
    clear hv
    by_cases h0 : v < 0
    ·have HE : Hid (encNumF l = ([], 2)) := Lib.hid (by unfold encNumF; rw [if_neg h4, HNo.out (by unfold okN; rw [decide_eq_false (by omega)]; rfl)]; rfl)
     go_wp2_with fail
     refine bodyPost_ret (results_tmp2 rfl _ _ _) rfl ?_
     rw [HE.out]
     exact ⟨rfl, .refl _ _⟩
    ·by_cases h1 : 4611686018427387903 < v
     ·have HE : Hid (encNumF l = ([], 2)) := Lib.hid (by unfold encNumF; rw [if_neg h4, HNo.out (by unfold okN; rw [decide_eq_false (p := v ≤ _) (by omega)]; simp)]; rfl)
      go_wp2_with fail
      refine bodyPost_ret (results_tmp2 rfl _ _ _) rfl ?_
      rw [HE.out]
      exact ⟨rfl, .refl _ _⟩
     ·have HT : Hid ((l.take (k + 1)).all okN = true) := Lib.hid (by rw [HSt.out, HVa.out]; unfold okN; rw [decide_eq_true (by omega), decide_eq_true (by omega)]; rfl)
      go_wp2_with fail
      go_roundw
      case rel => exact ⟨k + 1, by go_num, by omega, HT.out, trivial⟩
      case measure => simp [intOf]; omega
   ·obtain rfl : k = l.length := by omega
    have ha : l.all okN = true := by have := HVa.out; rwa [List.take_length] at this
    have HE : Hid (encNumF l = (numsE l, 0)) := Lib.hid (by unfold encNumF; rw [if_neg h4, ha]; rfl)
    have HA := Lib.hid ha
    clear ha
    go_wp2_with fail
    refine (newNumbers_walk _).mono ?_
    rintro x w1 ⟨G, B, rfl, hG, hB, hBG, hb, hi, hn⟩
    have HW := Lib.hid (encN_walk l (by omega) (fun v hv => by
     have := List.all_eq_true.1 HA.out v hv
     unfold okN at this
     simp only [Bool.and_eq_true, decide_eq_true_eq] at this
     omega) w1 B G A c ((Flat.frame (w' := w1) HF.out fun k hk _ => hb.block k hk).mono fun k hk => ⟨Nat.lt_of_lt_of_le hk hb.size, by omega, by omega⟩) hn hi hBG)
    have HX := Lib.hid (And.intro hG (And.intro hB hb))
    clear hG hB hBG hb hi hn
    go_wp2_with fail
    refine (HW.out).mono ?_
    rintro x w2 ⟨rfl, ht⟩
    have HT := Lib.hid ht
    clear ht
    go_wp2_with fail
    refine bodyPost_ret (results_tmp2 rfl _ _ _) rfl ?_
    obtain ⟨h1, h2, h3⟩ := HX.out
    rw [HE.out]
    exact ⟨rfl, h3.trans (HT.out.below _ h3.size fun i hi => hi.elim (fun h => h ▸ h1) (fun h => h ▸ h2))⟩
theorem bitD_hi {d : Dec} (z : Int) (h : 2 ^ 24 ≤ d.size) (h1 : d.size < 2 ^ 32) : (bitD d z).size < 2 ^ 32 := by
 have hb := bndP_b z h
 have hs : (stepD d z).size < 2 ^ 32 := by
  unfold stepD
  split
  ·show bndP d.size z < _; omega
  ·show d.size - bndP d.size z < _; omega
 unfold bitD normD
 have e1 : (normD1 (stepD d z)).size = (stepD d z).size * 256 := rfl
 have e2 : (normD1 (normD1 (stepD d z))).size = (stepD d z).size * 256 * 256 := rfl
 split
 ·split
  ·rw [e2]; omega
  ·omega
 ·omega
theorem dirD_size : ∀ (k : Nat) (d : Dec) (v : Nat), 2 ^ 24 ≤ d.size → d.size < 2 ^ 32 → 2 ^ 24 ≤ (dirD d v k).2.size
 | 0, _, _, h, _ => h
 | k + 1, _, _, h, h1 => dirD_size k _ _ (bitD_size 1024 h h1) (bitD_hi 1024 h h1)
theorem nuD_keep (L : List Int) (d : Dec) (h : 2 ^ 24 ≤ d.size) (h1 : d.size < 2 ^ 32) : 2 ^ 24 ≤ (nuD L d).2.2.size ∧ (nuD L d).2.1.length = L.length := by
 have hs := trD_size 6 0 1 L d h h1
 have hl := trD_len 6 0 1 L d
 unfold nuD
 simp only
 split
 ·exact ⟨hs.1, hl⟩
 ·split
  ·exact ⟨hs.1, hl⟩
  ·exact ⟨dirD_size _ _ _ hs.1 hs.2, hl⟩
theorem nuD_lt (L : List Int) (d : Dec) : -1 ≤ (nuD L d).1 ∧ (nuD L d).1 < 2 ^ 62 := by
 obtain ⟨rg, hrg, h1⟩ := trD_range 6 0 1 L d
 unfold nuD
 simp only
 split
 ·constructor
  ·show (-1 : Int) ≤ ((_ : Nat) : Int); omega
  ·show ((_ : Nat) : Int) < _; omega
 ·split
  ·exact ⟨Int.le_refl _, by show (-1 : Int) < 2 ^ 62; decide⟩
  ·rename_i h2 h3
   obtain ⟨q, hq, hqq⟩ := dirD_range ((trD 6 0 1 L d).1 - 2 ^ 6 - 1) (trD 6 0 1 L d).2.2 0
   have h4 : 2 ^ ((trD 6 0 1 L d).1 - 2 ^ 6 - 1) ≤ 2 ^ 61 := Nat.pow_le_pow_right (by decide) (by omega)
   have e2 : (2 : Int) ^ 62 = ((2 ^ 62 : Nat) : Int) := rfl
   rw [hqq]
   constructor
   ·show (-1 : Int) ≤ ((_ : Nat) : Int); omega
   ·show ((_ : Nat) : Int) < _; omega
def decNs (L : List Int) (d : Dec) : Nat → List Int × List Int × Dec
 | 0 => ([], L, d)
 | k + 1 => let s := decNs L d k; let r := nuD s.2.1 s.2.2; (s.1 ++ [r.1], r.2)
theorem decNs_len (L : List Int) (d : Dec) : ∀ k, (decNs L d k).1.length = k
 | 0 => rfl
 | k + 1 => by
  have := decNs_len L d k
  show ((decNs L d k).1 ++ [_]).length = _
  rw [List.length_append, this]; rfl
/-- the numbers of bytes, and an error -/
def decNumS (data : List UInt8) (most : Int) : List Int × Int := match V.peekF data with
 | none => ([], 12)
 | some (n, m) => if 4096 < n then ([], 12) else if most < (n : Int) then ([], 2) else if n = 0 then ([], if data.drop m = [] then 0 else 12) else
  let r := decNs (half 64) (newD (data.drop m)) n
  if endD r.2.2 then (r.1, 0) else ([], 12)
/-- a slice with a plain address -/
def PlainA (A : Option Addr) : Prop := ∀ a, A = some a → ∃ b o, a = ⟨b, o, none⟩
def Fresh (w : World) (A : Option Addr) : Prop := ∀ a, A = some a → w.heap.size ≤ a.block ∧ ∃ b o, a = ⟨b, o, none⟩
theorem Fresh.plain {w : World} {A : Option Addr} (h : Fresh w A) : PlainA A := fun a ha => (h a ha).2
theorem Fresh.nil (w : World) : Fresh w none := fun a h => by cases h
theorem Fresh.mk' {w : World} {Q : Nat} (h : w.heap.size ≤ Q) : Fresh w (some ⟨Q, 0, none⟩) := fun a ha => by injection ha with ha; rw [← ha]; exact ⟨h, _, _, rfl⟩
theorem InI.far {w0 w w' : World} {A : Option Addr} {l : List Int} {R : Nat} (h : InI w A l) (hf : Fresh w0 A) (hR : R < w0.heap.size) (t : Touch (fun k => k = R) w w') : InI w' A l := fun j u hj => by
 obtain ⟨a, h1, h2, h3⟩ := h j u hj
 have := (hf a h1).1
 exact ⟨a, h1, Nat.lt_of_lt_of_le h2 t.size, (World.cell?_of_block (t.block _ (by rw [add_block]; exact h2) (by rw [add_block]; omega))).trans h3⟩
/-- a slice of numbers and an error are returned -/
def RetI (w : World) (l : List Int) (e : Int) (x : Ending) (w' : World) : Prop := Below w.heap.size w w' ∧ ∃ A c, x = .returned (.tuple #[.slice A l.length c, .int .i64 e]) ∧ InI w' A l ∧ Fresh w A
theorem retI_nil {w w' : World} {e : Int} (h : Below w.heap.size w w') : RetI w [] e (.returned (.tuple #[.slice none 0 0, .int .i64 e])) w' := ⟨h, none, 0, rfl, flat_nil _ _ _, .nil _⟩
structure DecNI (w : World) (B G D O : Nat) (n : Nat) (d : Dec) (k : Nat) (wr : World) : Prop where
 de : DeO D (decNs (half 64) d k).2.2 wr
 sz : 2 ^ 24 ≤ (decNs (half 64) d k).2.2.size
 row : IRow wr G (decNs (half 64) d k).2.1
 len : (decNs (half 64) d k).2.1.length = 64
 nu : NumO B G wr
 out : IRow wr O ((decNs (half 64) d k).1 ++ List.replicate (n - k) 0)
 touch : Touch (fun k => k = G ∨ k = B) w wr
def DecNR (w : World) (B G D O : Nat) (n : Nat) (d : Dec) (i : Value) (wr : World) : Prop := ∃ k : Nat, i = .int .i64 (k : Int) ∧ k ≤ n ∧ DecNI w B G D O n d k wr
theorem put_row {l : List Int} {k n : Nat} (hl : l.length = k) (hk : k < n) (v : Int) : (l ++ List.replicate (n - k) 0).set k v = (l ++ [v]) ++ List.replicate (n - (k + 1)) 0 := by
 rw [List.set_append_right _ _ (Nat.le_of_eq hl), hl, Nat.sub_self, show n - k = (n - (k + 1)) + 1 by omega, List.replicate_succ, List.set_cons_zero]
 simp
set_option maxRecDepth 100000 in
theorem made_row (W : World) (n : Nat) (hn : n ≤ 4096) : ∃ W', (Instr.makeSlice 27 (.int .i64 (n : Int)) (.int .i64 (n : Int))).run Tryz.prog W = .ok (.slice (some ⟨W.heap.size, 0, none⟩) n n) W' ∧ IRow W' W.heap.size (List.replicate n 0) ∧ Below W.heap.size W W' ∧ W'.heap.size = W.heap.size + 1 := by
 obtain ⟨cur, hcur⟩ : ∃ cur, madeCells (Value.int .i64 0).cells (n * 1) = cur := ⟨_, rfl⟩
 have hmk := run_makeSlice (P := Tryz.prog) W 27 3 _ (.int .i64 0) Tryz.underlying27 rfl rfl .i64 .i64 (n : Int) (n : Int) (by omega) (Int.le_refl _) (by show (n : Int).toNat * 1 ≤ _; omega) (by show (8 : Int) * n ≤ _; omega) (by omega)
 rw [Int.toNat_natCast] at hmk
 have hmk' : (Instr.makeSlice 27 (.int .i64 (n : Int)) (.int .i64 (n : Int))).run Tryz.prog W = .ok (.slice (some ⟨W.heap.size, 0, none⟩) n n) (W.alloc (.cells cur 3)) := by rw [← hcur]; exact hmk
 refine ⟨_, hmk', ?_, (Below.refl _ _).alloc (Nat.le_refl _) _, World.size_alloc ..⟩
 have hc1 : cur.toList = ic (List.replicate n 0) := by
  rw [← hcur, Nat.mul_one]
  show (madeCells #[Value.int .i64 0] n).toList = _
  rw [toList_madeCells_one]; simp [ic]
 have := heap_alloc_new W (.cells cur 3)
 rw [show cur = (ic (List.replicate n 0)).toArray by rw [← hc1]] at this ⊢
 exact this
def DecNP (B G : Nat) (w : World) (r : List Int × Int) (x : Ending) (w' : World) : Prop := Touch (fun k => k = G ∨ k = B) w w' ∧ ∃ A c, x = .returned (.tuple #[.slice A r.1.length c, .int .i64 r.2]) ∧ InI w' A r.1 ∧ Fresh w A
theorem decNP_nil {B G : Nat} {w w' : World} {e : Int} (h : Touch (fun k => k = G ∨ k = B) w w') : DecNP B G w ([], e) (.returned (.tuple #[.slice none 0 0, .int .i64 e])) w' := ⟨h, none, 0, rfl, flat_nil _ _ _, .nil _⟩
theorem below_touch {S : Nat → Prop} {a b c : World} (h : Touch S a b) (k : Below b.heap.size b c) : Touch S a c := h.trans (.of_below (S := fun _ => False) k) fun _ _ h => h.elim
theorem below_step {w a b : World} {R : Nat} (h : Below w.heap.size w a) (t : Touch (fun k => k = R) a b) (hR : w.heap.size ≤ R) : Below w.heap.size w b := h.trans (t.below _ h.size fun _ hi => hi ▸ hR)
theorem new_touch {S T : Nat → Prop} {a b c : World} (h : Touch S a b) (k : Touch T b c) (hT : ∀ i, T i → S i ∨ a.heap.size ≤ i) : Touch S a c := h.trans k fun i hi ht => (hT i ht).elim id fun h => absurd h (by omega)
set_option maxRecDepth 100000 in
theorem decN_walk (data : List UInt8) (hd : data.length ≤ 1000000) (most : Int) (w : World) (B G : Nat) (hb : NumO B G w) (hi : IRow w G (half 64)) (hBG : B ≠ G) :
  Calls Tryz.prog 43 #[.iface 77 (.pointer (some ⟨B, 0, none⟩)), .string (sB data), .int .i64 4096, .int .i64 most] w fun x w' => DecNP B G w (decNumS data most) x w' := by
 obtain ⟨l1, h1⟩ : ∃ l1, (rdN 4096 data 0).1 = l1 := ⟨_, rfl⟩
 obtain ⟨e1, h2⟩ : ∃ e1, (rdN 4096 data 0).2.1 = e1 := ⟨_, rfl⟩
 obtain ⟨n1, h3⟩ : ∃ n1, (rdN 4096 data 0).2.2 = n1 := ⟨_, rfl⟩
 have HR : Hid (∀ (w : World) (R : Nat), Rd w R data 0 → Calls Tryz.prog 47 #[.pointer (some ⟨R, 0, none⟩), .int .i64 4096] w fun e w' => e = .returned (.int .i64 n1) ∧ Rd w' R l1 e1 ∧ Touch (fun k => k = R) w w') := Lib.hid (fun w R h => by
  have := rdN_walk h 4096
  rw [h1, h2, h3] at this; exact this)
 have hGl := (Array.getElem?_eq_some_iff.1 hi.to).1
 have hBl := (Array.getElem?_eq_some_iff.1 hb.to).1
 have HGB := Lib.hid (And.intro hGl (And.intro hBl hBG))
 have HB := Lib.hid hb
 have HI := Lib.hid hi
 have hl1 := rdN_len 4096 data 0
 rw [h1] at hl1
 clear hb hi hGl hBl hBG
 by_cases he1 : e1 = 0
 ·have hpk : ∃ u m : Nat, V.peekF data = some (u, m) ∧ u ≤ 4096 ∧ l1 = data.drop m ∧ n1 = (u : Int) := by
   unfold rdN at h1 h2 h3
   cases hp : V.peekF data with
   | none => simp [hp] at h2; omega
   | some r =>
    obtain ⟨u, m⟩ := r
    by_cases hlt : (4096 : Int) < (u : Int)
    ·simp [hp, hlt] at h2; omega
    ·simp [hp, hlt] at h1 h3
     exact ⟨u, m, rfl, by omega, h1.symm, h3.symm⟩
  obtain ⟨u, m, hp, hu, rfl, rfl⟩ := hpk
  subst he1
  have hmodel : decNumS data most = if most < (u : Int) then ([], 2) else if u = 0 then ([], if data.drop m = [] then 0 else 12) else
    if endD (decNs (half 64) (newD (data.drop m)) u).2.2 then ((decNs (half 64) (newD (data.drop m)) u).1, 0) else ([], 12) := by
   unfold decNumS; rw [hp]; simp only [show ¬ 4096 < u by omega, if_false]
  have hu4 : (u : Int) ≤ 4096 := by omega
  obtain ⟨l1, hl1e⟩ : ∃ l1, data.drop m = l1 := ⟨_, rfl⟩
  rw [hl1e] at hmodel HR hl1
  have hl1m : l1.length ≤ 1000000 := by omega
  clear h1 h2 h3 hp hu hl1e hl1
  by_cases hm : most < (u : Int)
  ·have HE : Hid (decNumS data most = ([], 2)) := Lib.hid (by rw [hmodel, if_pos hm])
   clear hmodel
   go_enter Tryz.func43, Tryz.ntmps43
   go_wp2_with fail
   refine (new_rd data _).mono ?_
   rintro x w1 ⟨rfl, hr1, hb1⟩
   have HB1 := Lib.hid hb1
   have HRa := Lib.hid (HR.out w1 _ hr1)
   clear hr1 hb1
   go_wp2_with fail
   refine (HRa.out).mono ?_
   rintro x w2 ⟨rfl, hr2, ht2⟩
   have HT2 := Lib.hid (below_step HB1.out ht2 (Nat.le_refl _))
   have HRb := Lib.hid (rdR_walk hr2)
   clear hr2 ht2
   go_wp2_with fail
   refine (HRb.out).mono ?_
   rintro x _ ⟨rfl, rfl⟩
   go_wp2_with fail
   refine bodyPost_ret (results_tmp2 rfl _ _ _) rfl ?_
   rw [HE.out]
   exact decNP_nil (.of_below HT2.out)
  ·by_cases hz : u = 0
   ·subst hz
    have HE : Hid (decNumS data most = ([], rdE l1 0)) := Lib.hid (by
     rw [hmodel, if_neg hm, if_pos rfl]
     unfold rdE
     by_cases h : l1 = [] <;> simp [h])
    have hm0 : ¬ most < 0 := hm
    clear hmodel
    go_enter Tryz.func43, Tryz.ntmps43
    go_wp2_with fail
    refine (new_rd data _).mono ?_
    rintro x w1 ⟨rfl, hr1, hb1⟩
    have HB1 := Lib.hid hb1
    have HRa := Lib.hid (HR.out w1 _ hr1)
    clear hr1 hb1
    go_wp2_with fail
    refine (HRa.out).mono ?_
    rintro x w2 ⟨rfl, hr2, ht2⟩
    have HT2 := Lib.hid (below_step HB1.out ht2 (Nat.le_refl _))
    have HRb := Lib.hid (rdR_walk hr2)
    have HRc := Lib.hid (rdE_walk hr2)
    clear hr2 ht2
    go_wp2_with fail
    refine (HRb.out).mono ?_
    rintro x _ ⟨rfl, rfl⟩
    go_wp2_with fail
    refine (HRc.out).mono ?_
    rintro x w3 ⟨rfl, _, ht3⟩
    have HT3 := Lib.hid (below_step HT2.out ht3 (Nat.le_refl _))
    clear ht3
    go_wp2_with fail
    refine bodyPost_ret (results_tmp2 rfl _ _ _) rfl ?_
    rw [HE.out]
    exact decNP_nil (.of_below HT3.out)
   ·have hzi : ((u : Int) == 0) = false := beq_eq_false_iff_ne.2 (by omega)
    obtain ⟨d, hdd⟩ : ∃ d, newD l1 = d := ⟨_, rfl⟩
    have HE : Hid (decNumS data most = if endD (decNs (half 64) d u).2.2 then ((decNs (half 64) d u).1, 0) else ([], 12)) := Lib.hid (by
     rw [hmodel, if_neg hm, if_neg hz, hdd])
    have hND := fun w => newD_walk w l1 (by unfold maxLen; omega)
    rw [hdd] at hND
    have HND := Lib.hid hND
    have htk : rdT (l1.length : Int) l1 0 = ([], 0, l1) := by unfold rdT; simp
    have HTk := Lib.hid htk
    clear hmodel hdd hND htk
    go_enter Tryz.func43, Tryz.ntmps43
    go_wp2_with fail
    refine (new_rd data _).mono ?_
    rintro x w1 ⟨rfl, hr1, hb1⟩
    have HB1 := Lib.hid hb1
    have HRa := Lib.hid (HR.out w1 _ hr1)
    clear hr1 hb1
    go_wp2_with fail
    refine (HRa.out).mono ?_
    rintro x w2 ⟨rfl, hr2, ht2⟩
    have HT2 := Lib.hid (below_step HB1.out ht2 (Nat.le_refl _))
    have HRb := Lib.hid (rdR_walk hr2)
    have HRc := Lib.hid (rdL_walk hr2)
    have htk := rdT_walk hr2 (l1.length : Int)
    rw [HTk.out] at htk
    have HRd := Lib.hid htk
    clear hr2 ht2 htk
    go_wp2_with fail
    refine (HRb.out).mono ?_
    rintro x _ ⟨rfl, rfl⟩
    go_wp2_with fail
    refine (HRc.out).mono ?_
    rintro x _ ⟨rfl, rfl⟩
    go_wp2_with fail
    refine (HRd.out).mono ?_
    rintro x w3 ⟨rfl, _, ht3⟩
    have HT3 := Lib.hid (below_step HT2.out ht3 (Nat.le_refl _))
    clear ht3
    go_wp2_with fail
    refine (HND.out _).mono ?_
    rintro x w4 ⟨rfl, hb4, hd4, hs4⟩
    have HT4 := Lib.hid (bstep HT3.out (Nat.le_refl _) hb4)
    obtain ⟨W5, hrun, hrow, hb5, hz5⟩ := made_row w4 u (by omega)
    have HT5 := Lib.hid (bstep HT4.out (Nat.le_refl _) hb5)
    obtain ⟨D, hD⟩ : ∃ D, w3.heap.size = D := ⟨_, rfl⟩
    have hDs := HT3.out.size
    have hD4 := (Array.getElem?_eq_some_iff.1 hd4.obj).1
    rw [hD] at hd4 hDs hD4 ⊢
    obtain ⟨O, hO⟩ : ∃ O, w4.heap.size = O := ⟨_, rfl⟩
    have HD5 : Hid (DeO D d W5) := Lib.hid (hd4.frame (hb5.block D hD4))
    have HS5 : Hid (2 ^ 24 ≤ d.size) := Lib.hid (by rw [hs4]; decide)
    rw [hO] at hrow hrun hD4
    have HO5 := Lib.hid hrow
    have HOD := Lib.hid (And.intro hDs hD4)
    clear hb4 hd4 hs4 hrow hb5 hz5 hDs hD hD4
    go_wp2_with fail
    clear hO
    have HI5 : Hid (DecNI w B G D O u d 0 W5) := Lib.hid (by
     have h := HGB.out
     exact ⟨HD5.out, HS5.out, (HT5.out.block G h.1).trans HI.out.to, by simp [half, decNs], (HT5.out.block B h.2.1).trans HB.out.to, by simpa [decNs] using HO5.out, .of_below HT5.out⟩)
    go_loopw [40] (fun i wr => DecNR w B G D O u d i wr) (fun i _ => ((u : Int) - intOf i).toNat)
    case atStart => exact ⟨0, rfl, Nat.zero_le _, HI5.out⟩
    case round =>
     obtain ⟨k, rfl, hk, hI⟩ := hrel
     have HI' := Lib.hid hI
     have hg := HGB.out
     have hod := HOD.out
     by_cases hlt : k < u
     ·have hki : (k : Int) < u := by omega
      obtain ⟨v, hv⟩ : ∃ v, (nuD (decNs (half 64) d k).2.1 (decNs (half 64) d k).2.2).1 = v := ⟨_, rfl⟩
      have hw := numD_walk hI.de hI.sz hI.nu hI.row hI.len (by omega) (by omega) hg.2.2
      rw [hv] at hw
      have HW := Lib.hid hw
      have HKe := Lib.hid (nuD_keep (decNs (half 64) d k).2.1 (decNs (half 64) d k).2.2 hI.sz hI.de.sl)
      have HSt : Hid (decNs (half 64) d (k + 1) = ((decNs (half 64) d k).1 ++ [v], (nuD (decNs (half 64) d k).2.1 (decNs (half 64) d k).2.2).2)) := Lib.hid (by rw [← hv]; rfl)
      have HPut := Lib.hid (put_row (decNs_len (half 64) d k) hlt v)
      clear hw hv hI
      go_wp2_with fail
      refine (HW.out).mono ?_
      rintro x w6 ⟨rfl, hm, hn⟩
      have ho6 : IRow w6 O ((decNs (half 64) d k).1 ++ List.replicate (u - k) 0) := (hm.touch.block O (Array.getElem?_eq_some_iff.1 HI'.out.out.to).1 (by intro h; rcases h with h | h | h <;> omega)).trans HI'.out.out.to
      have hOl : ((decNs (half 64) d k).1 ++ List.replicate (u - k) 0).length = u := by rw [List.length_append, decNs_len, List.length_replicate]; omega
      have c0 := ho6.cell (i := k) (by rw [hOl]; exact hlt)
      have f0 := ho6.fr k
      have hset := ho6.set k v
      rw [HPut.out] at hset
      have HSet := Lib.hid hset
      have HM := Lib.hid hm
      have HNu := Lib.hid hn
      clear hset ho6 hOl hm hn hg hod
      go_wp2_with fail
      go_roundw
      case rel =>
       have hg := HGB.out
       have hod := HOD.out
       refine ⟨k + 1, by go_num, by omega, ?_⟩
       have hb : ∀ i, i ≠ O → (w6.setCell ⟨O, k, none⟩ (.int .i64 v)).heap[i]? = w6.heap[i]? := fun i hi => Below.heap_setCell w6 ⟨O, k, none⟩ _ i hi
       refine ⟨?_, ?_, ?_, ?_, ?_, ?_, ?_⟩
       ·rw [HSt.out]; exact HM.out.de.frame (hb D (by omega))
       ·rw [HSt.out]; exact HKe.out.1
       ·rw [HSt.out]; exact (hb G (by omega)).trans HM.out.row.to
       ·rw [HSt.out]; exact HKe.out.2.trans HI'.out.len
       ·exact (hb B (by omega)).trans HNu.out.to
       ·rw [HSt.out]; exact HSet.out
       ·refine (new_touch HI'.out.touch HM.out.touch ?_).setCell (p := ⟨O, k, none⟩) (.inr (by show _ ≤ O; omega)) _
        intro i h
        rcases h with h | h | h
        ·right; omega
        ·left; left; exact h
        ·left; right; exact h
      case measure => simp [intOf]; omega
     ·obtain rfl : k = u := by omega
      have HEn := Lib.hid (end_walk hI.de)
      have hout := hI.out
      rw [Nat.sub_self, List.replicate_zero, List.append_nil] at hout
      have HOut := Lib.hid hout
      have HLn := Lib.hid (decNs_len (half 64) d k)
      clear hI hout hg hod
      cases hend : endD (decNs (half 64) d k).2.2 with
      | true =>
       have HE' : Hid (decNumS data most = ((decNs (half 64) d k).1, 0)) := Lib.hid (by rw [HE.out, if_pos hend])
       rw [hend] at HEn
       have h0 : (if true = true then (0 : Int) else 12) = 0 := rfl
       rw [h0] at HEn
       clear hend h0
       go_wp2_with fail
       refine (HEn.out).mono ?_
       rintro x _ ⟨rfl, rfl⟩
       go_wp2_with fail
       refine bodyPost_ret (results_tmp2 rfl _ _ _) rfl ?_
       rw [HE'.out]
       refine ⟨HI'.out.touch, some ⟨O, 0, none⟩, k, by rw [HLn.out]; rfl, fun j x hj => ⟨_, rfl, (Array.getElem?_eq_some_iff.1 HOut.out.to).1, ?_⟩, Fresh.mk' (by have := HOD.out; omega)⟩
       rw [Addr.add_lit, Nat.zero_add, cell_of_row _ O j _ _ _ HOut.out.to, List.getElem?_toArray]
       exact hj
      | false =>
       have HE' : Hid (decNumS data most = ([], 12)) := Lib.hid (by rw [HE.out, if_neg (by simp [hend])])
       rw [hend] at HEn
       have h0 : (if false = true then (0 : Int) else 12) = 12 := rfl
       rw [h0] at HEn
       clear hend h0
       go_wp2_with fail
       refine (HEn.out).mono ?_
       rintro x _ ⟨rfl, rfl⟩
       go_wp2_with fail
       refine bodyPost_ret (results_tmp2 rfl _ _ _) rfl ?_
       rw [HE'.out]
       exact decNP_nil HI'.out.touch
 ·have HE : Hid (decNumS data most = ([], 12)) := Lib.hid (by
   unfold rdN at h2
   unfold decNumS
   cases hp : V.peekF data with
   | none => rfl
   | some r =>
    obtain ⟨u, m⟩ := r
    by_cases hlt : 4096 < u
    ·simp only [if_pos hlt]
    ·have hlt' : ¬ (4096 : Int) < (u : Int) := by omega
     simp [hp, hlt'] at h2; omega)
  have hne : (e1 != 0) = true := by simp [he1]
  clear h1 h2 h3 hl1
  go_enter Tryz.func43, Tryz.ntmps43
  go_wp2_with fail
  refine (new_rd data _).mono ?_
  rintro x w1 ⟨rfl, hr1, hb1⟩
  have HB1 := Lib.hid hb1
  have HRa := Lib.hid (HR.out w1 _ hr1)
  clear hr1 hb1
  go_wp2_with fail
  refine (HRa.out).mono ?_
  rintro x w2 ⟨rfl, hr2, ht2⟩
  have HT2 := Lib.hid (below_step HB1.out ht2 (Nat.le_refl _))
  have HRb := Lib.hid (rdR_walk hr2)
  clear hr2 ht2
  go_wp2_with fail
  refine (HRb.out).mono ?_
  rintro x _ ⟨rfl, rfl⟩
  go_wp2_with fail
  refine bodyPost_ret (results_tmp2 rfl _ _ _) rfl ?_
  rw [HE.out]
  exact decNP_nil (.of_below HT2.out)
end Go.Proofs.YtlmjefjimoghcaaGreat
