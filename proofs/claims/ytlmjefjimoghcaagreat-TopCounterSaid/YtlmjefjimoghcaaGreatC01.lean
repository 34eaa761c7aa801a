/- TopCounter: for every clock and every two texts the law returns true, and each argument reads behind the call as it read before. No condition. -/
import Derived.ChangeOld
import Derived.ShutString
import Derived.Below
import Derived.Test.YtlmjefjimoghcaaGreatA51
namespace Go.Proofs.YtlmjefjimoghcaaGreat.L
set_option linter.unusedSimpArgs false
set_option linter.unnecessarySimpa false
set_option linter.unusedVariables false
open Go.RowKit
theorem rvalid_walk (a : Nat) (w : World) : Calls Tryz.prog 72 #[.int .u8 a] w fun e w' => e = .returned (.bool (rValid a)) ∧ w = w' := by
 go_enter Tryz.func72, Tryz.ntmps72
 go_wp2
 all_goals (go_ret; refine ⟨ret_bool ?_, rfl⟩; go_tidy; unfold rValid; rw [Bool.eq_iff_iff]; simp; try omega)
attribute [local go_sem ↓] Go.wp_at_zero Go.wp_at_succ
end Go.Proofs.YtlmjefjimoghcaaGreat.L
namespace Go.Proofs.YtlmjefjimoghcaaGreat
set_option linter.unusedSimpArgs false
set_option linter.unnecessarySimpa false
set_option linter.unusedVariables false
theorem sumS_num : ∀ (a b : List UInt8) (c : Nat), a.length = b.length → a.all bitC = true → b.all bitC = true → c ≤ 1 →
  numV (sumS a b c).1 + (sumS a b c).2 * 2 ^ a.length = numV a + numV b + c ∧ (sumS a b c).1.all bitC = true ∧ (sumS a b c).2 ≤ 1
 | [], [], c, _, _, _, hc => by simp [sumS, numV, hc]
 | [], _ :: _, _, h, _, _, _ => by simp at h
 | _ :: _, [], _, h, _, _, _ => by simp at h
 | x :: a, y :: b, c, h, ha, hb, hc => by
  simp only [List.all_cons, Bool.and_eq_true] at ha hb
  have hl : a.length = b.length := by simpa using h
  obtain ⟨h1, h2, h3⟩ := sumS_num a b c hl ha.2 hb.2 hc
  have hx := (bitC_val ha.1).1
  have hy := (bitC_val hb.1).1
  have hs : sumS (x :: a) (y :: b) c = (UInt8.ofNat (48 + ((x.toNat - 48) + (y.toNat - 48) + (sumS a b c).2) % 2) :: (sumS a b c).1, ((x.toNat - 48) + (y.toNat - 48) + (sumS a b c).2) / 2) := rfl
  have hlen := sumS_length a b c hl
  rw [hs]
  generalize hn : (x.toNat - 48) + (y.toNat - 48) + (sumS a b c).2 = n
  have hd : (UInt8.ofNat (48 + n % 2)).toNat = 48 + n % 2 := by rw [UInt8.toNat_ofNat']; omega
  refine ⟨?_, ?_, by show n / 2 ≤ 1; omega⟩
  ·show numV (UInt8.ofNat (48 + n % 2) :: (sumS a b c).1) + n / 2 * 2 ^ (x :: a).length = _
   rw [numV_cons, numV_cons, numV_cons, hd, hlen, ← hl, List.length_cons, Nat.pow_succ]
   have e1 : (48 + n % 2 - 48) = n % 2 := by omega
   rw [e1]
   generalize 2 ^ a.length = t at h1
   generalize (sumS a b c).2 = k at *
   generalize x.toNat - 48 = xx at *
   generalize y.toNat - 48 = yy at *
   have e2 : n % 2 * t + n / 2 * (t * 2) = n * t := by
    have : n = n % 2 + 2 * (n / 2) := by omega
    conv => rhs; rw [this, Nat.add_mul]
    rw [Nat.mul_comm t 2, ← Nat.mul_assoc, Nat.mul_comm (n / 2) 2]
   have e3 : n * t = xx * t + yy * t + k * t := by rw [← hn, Nat.add_mul, Nat.add_mul]
   omega
  ·simp only [List.all_cons, Bool.and_eq_true]
   refine ⟨?_, h2⟩
   rcases (by omega : n % 2 = 0 ∨ n % 2 = 1) with e | e <;> rw [e] <;> decide
theorem numV_inj : ∀ (a b : List UInt8), a.length = b.length → a.all bitC = true → b.all bitC = true → numV a = numV b → a = b
 | [], [], _, _, _, _ => rfl
 | [], _ :: _, h, _, _, _ => by simp at h
 | _ :: _, [], h, _, _, _ => by simp at h
 | x :: a, y :: b, h, ha, hb, hn => by
  simp only [List.all_cons, Bool.and_eq_true] at ha hb
  have hl : a.length = b.length := by simpa using h
  rw [numV_cons, numV_cons, ← hl] at hn
  have l1 := numV_lt a ha.2
  have l2 := numV_lt b hb.2
  rw [← hl] at l2
  have hx := bitC_val ha.1
  have hy := bitC_val hb.1
  have he : x.toNat - 48 = y.toNat - 48 := by
   generalize 2 ^ a.length = t at *
   rcases (by omega : x.toNat - 48 = 0 ∨ x.toNat - 48 = 1) with h1 | h1 <;> rcases (by omega : y.toNat - 48 = 0 ∨ y.toNat - 48 = 1) with h2 | h2 <;> rw [h1, h2] at hn <;> omega
  have hxy : x = y := UInt8.toNat_inj.1 (by omega)
  rw [he] at hn
  rw [hxy, numV_inj a b hl ha.2 hb.2 (by omega)]
/-- what must be added to a to get a + s is s -/
theorem diff_add (a s : List UInt8) (hl : a.length = s.length) (ha : a.all bitC = true) (hs : s.all bitC = true) : diffV a (addV a s) = s ∧ (addV a s).length = a.length ∧ (addV a s).all bitC = true := by
 obtain ⟨h1, h2, h3⟩ := sumS_num a s 0 hl ha hs (by decide)
 have hlen : (addV a s).length = a.length := sumS_length a s 0 hl
 obtain ⟨i1, i2⟩ := invV_num a ha
 have hli : (addV a s).length = (invV a).length := by rw [hlen, invV_length]
 obtain ⟨d1, d2, d3⟩ := sumS_num (addV a s) (invV a) 1 hli h2 i2 (by decide)
 refine ⟨?_, hlen, h2⟩
 have hdl : (diffV a (addV a s)).length = s.length := by
  have := sumS_length (addV a s) (invV a) 1 hli
  rw [← hl, ← hlen]; exact this
 refine numV_inj _ _ hdl d2 hs ?_
 have b1 := numV_lt _ d2
 have b2 := numV_lt s hs
 have b3 := numV_lt a ha
 have e0 : (sumS (addV a s) (invV a) 1).1 = diffV a (addV a s) := rfl
 have e1 : (sumS a s 0).1 = addV a s := rfl
 rw [e0] at d1 b1
 rw [e1] at h1
 rw [hdl, ← hl] at b1
 rw [hlen] at d1
 rw [← hl] at b2
 generalize (sumS (addV a s) (invV a) 1).2 = k2 at d1 d3
 generalize (sumS a s 0).2 = k1 at h1 h3
 generalize numV (diffV a (addV a s)) = x at *
 generalize numV (addV a s) = y at *
 generalize numV (invV a) = z at *
 generalize 2 ^ a.length = t at *
 rcases (by omega : k1 = 0 ∨ k1 = 1) with rfl | rfl <;> rcases (by omega : k2 = 0 ∨ k2 = 1) with rfl | rfl <;> omega
end Go.Proofs.YtlmjefjimoghcaaGreat
namespace Go.Proofs.YtlmjefjimoghcaaGreat
set_option linter.unusedSimpArgs false
set_option linter.unnecessarySimpa false
set_option linter.unusedVariables false
open Go.RowKit
attribute [local go_sem ↓] Go.wp_at_zero Go.wp_at_succ
theorem rValid_ok (c : UInt8) : L.rValid c.toNat = okC c := by
 rw [← L.code_valid, Bool.eq_iff_iff, decide_eq_true_eq, code_ok]
set_option maxRecDepth 100000 in
/-- IsValue of reference 02 -/
theorem isval_walk (s : List UInt8) (hs : s.length ≤ maxLen) (w : World) : Calls Tryz.prog 30 #[.string (sB s)] w fun e w' => e = .returned (.bool (isV s)) ∧ Below w.heap.size w w' := by
 have hsz := sB_size s
 unfold maxLen at hs
 go_enter Tryz.func30, Tryz.ntmps30
 go_wp2_with fail
 go_loopw [3] (fun i wr => ∃ k : Nat, i = .int .i64 (k : Int) ∧ k ≤ s.length ∧ (s.take k).all okC = true ∧ Below w.heap.size w wr) (fun i _ => ((s.length : Int) - intOf i).toNat)
 case atStart => exact ⟨0, rfl, Nat.zero_le _, rfl, .refl _ _⟩
 case round =>
  obtain ⟨k, rfl, hk, hall, hb⟩ := hrel
  have HB := Lib.hid hb
  by_cases hlt : k < s.length
  ·have hki : (k : Int) < s.length := by omega
   have G0 := sB_at (s := s) (i := k) hlt
   have hT : (s.take (k + 1)).all okC = ((s.take k).all okC && okC (gB s k)) := by rw [take_getB hlt]; simp
   have hmem : gB s k ∈ s := by unfold gB; rw [List.getD_eq_getElem?_getD, List.getElem?_eq_getElem hlt]; exact List.getElem_mem hlt
   obtain ⟨b, hb'⟩ : ∃ b, gB s k = b := ⟨_, rfl⟩
   rw [hb'] at G0 hT hmem
   have HV := Lib.hid (L.rvalid_walk b.toNat)
   rw [rValid_ok] at HV
   cases hok : okC b with
   | true =>
    rw [hok] at HV
    have HT : Hid ((s.take (k + 1)).all okC = true) := Lib.hid (by rw [hT, hall, hok]; rfl)
    clear hT hb' hok hall hmem
    go_wp2_with fail
    refine (HV.out _).mono ?_
    rintro x w2 ⟨rfl, rfl⟩
    go_wp2_with fail
    go_roundw
    case rel => exact ⟨k + 1, by go_num, by omega, HT.out, HB.out⟩
    case measure => simp [intOf]; omega
   | false =>
    rw [hok] at HV
    have HN : Hid (isV s = false) := Lib.hid (by
     have : s.all okC = false := by rw [List.all_eq_false]; exact ⟨b, hmem, by rw [hok]; decide⟩
     unfold isV; rw [this, Bool.and_false])
    clear hT hb' hok hall hmem
    go_wp2_with fail
    refine (HV.out _).mono ?_
    rintro x w2 ⟨rfl, rfl⟩
    go_wp2_with fail
    go_ret
    rw [HN.out]
    exact ⟨rfl, HB.out⟩
  ·obtain rfl : k = s.length := by omega
   rw [List.take_length] at hall
   have HE : Hid (isV s = (decide (1 ≤ (s.length : Int)) && decide ((s.length : Int) ≤ 128))) := Lib.hid (by
    unfold isV
    rw [hall, Bool.and_true]
    congr 1
    ·cases s with
     | nil => rfl
     | cons => simp; omega
    ·exact decide_eq_decide.2 (by omega))
   clear hb hall
   by_cases h1 : 1 ≤ (s.length : Int)
   all_goals
    go_wp2_with fail
    go_ret
    rw [HE.out]
    exact ⟨by first | (simp [h1]; done) | (simp; omega), HB.out⟩
theorem bits_len (s : List UInt8) : ((s.filter bitC).length = s.length) = (s.all bitC = true) := by
 apply propext
 rw [List.all_eq_true, List.length_filter_eq_length_iff]
set_option maxRecDepth 100000 in
/-- Known of reference 02 -/
theorem rknown_walk (s : List UInt8) (hs : s.length ≤ maxLen) (w : World) : Calls Tryz.prog 7 #[.string (sB s)] w fun e w' => e = .returned (.bool (knownV s)) ∧ Below w.heap.size w w' := by
 have hsz := sB_size s
 have HV := Lib.hid fun w => isval_walk s hs w
 have HC := Lib.hid fun w => L.rcount_walk (sB s) (by rw [hsz]; exact hs) w
 have h2 := cnt2 s
 have h4 := L.cnt_le s 0
 have h5 := L.cnt_le s 1
 unfold maxLen at hs
 have hd : (sB s).data.toList = s := rfl
 rw [hd] at HC
 obtain ⟨n0, e0⟩ : ∃ n, L.cnt s 0 = n := ⟨_, rfl⟩
 obtain ⟨n1, e1⟩ : ∃ n, L.cnt s 1 = n := ⟨_, rfl⟩
 obtain ⟨n2, e2⟩ : ∃ n, L.cnt s 2 = n := ⟨_, rfl⟩
 obtain ⟨n3, e3⟩ : ∃ n, L.cnt s 3 = n := ⟨_, rfl⟩
 rw [e0] at HC h2 h4
 rw [e1] at HC h2 h5
 rw [e2, e3] at HC
 have HK : Hid (knownV s = (isV s && decide ((n0 : Int) + (n1 : Int) = (s.length : Int)))) := Lib.hid (by
  unfold knownV
  have h3 := bits_len s
  rw [← h2] at h3
  cases hb : s.all bitC with
  | true => rw [hb] at h3; have := h3.mpr rfl; rw [decide_eq_true (by omega)]
  | false =>
   rw [hb] at h3
   rw [decide_eq_false]
   intro h
   have := h3.mp (by omega)
   cases this)
 have h6 : n0 + n1 ≤ s.length := by rw [h2]; exact List.length_filter_le _ _
 clear e0 e1 e2 e3 hd h2
 obtain ⟨iv, hiv⟩ : ∃ iv, isV s = iv := ⟨_, rfl⟩
 rw [hiv] at HK HV
 clear hiv
 obtain ⟨D, hD⟩ : ∃ D, w.heap.size = D := ⟨_, rfl⟩
 go_enter Tryz.func7, Tryz.ntmps7
 go_wp2_with fail
 refine (HC.out _).mono ?_
 rintro x w1 ⟨rfl, hb1⟩
 obtain ⟨E, hE⟩ : ∃ E, w1.heap.size = E := ⟨_, rfl⟩
 obtain ⟨W2, hW2⟩ : ∃ W, w1.alloc (.cells #[.int .i64 (n0 : Int), .int .i64 (n1 : Int), .int .i64 (n2 : Int), .int .i64 (n3 : Int)] 60) = W := ⟨_, rfl⟩
 have hb2 : Below w1.heap.size w1 W2 := by rw [← hW2]; exact (Below.refl _ _).alloc (Nat.le_refl _) _
 have h4' : W2.heap[E]? = some (.cells #[.int .i64 (n0 : Int), .int .i64 (n1 : Int), .int .i64 (n2 : Int), .int .i64 (n3 : Int)] 60 (0, 0)) := by rw [← hW2, ← hE]; exact heap_alloc_new _ _
 have HB2 := Lib.hid (bstep hb1 (Nat.le_refl _) hb2)
 have H4 := Lib.hid h4'
 clear hb1 hb2 h4' hD
 go_upto_region 2 with (fail)
 try rw [hW2]
 clear hW2
 go_wp2_with fail
 refine (HV.out _).mono ?_
 rintro x w3 ⟨rfl, hb3⟩
 have h3 : L.C4 w3 E (n0 : Int) (n1 : Int) (n2 : Int) (n3 : Int) := (hb3.block E (Array.getElem?_eq_some_iff.1 H4.out).1).trans H4.out
 have HB3 := Lib.hid (bstep HB2.out (Nat.le_refl _) hb3)
 have c0 := h3.c0
 have c1 := h3.c1
 have hw1 : IntKind.i64.wrap ((n0 : Int) + (n1 : Int)) = (n0 : Int) + (n1 : Int) := IntWalk.i64_in _ (by omega)
 clear hb3 h3
 cases iv with
 | false =>
  have HKf : Hid (knownV s = false) := Lib.hid (by rw [HK.out]; rfl)
  go_wp2_with fail
  go_ret
  rw [HKf.out]
  exact ⟨rfl, HB3.out⟩
 | true =>
  have HKt : Hid (knownV s = decide ((n0 : Int) + (n1 : Int) = (s.length : Int))) := Lib.hid (by rw [HK.out]; rfl)
  go_wp2_with fail
  go_ret
  rw [HKt.out]
  exact ⟨by first | rfl | (simp; done) | (congr 2; rw [Bool.eq_iff_iff]; simp), HB3.out⟩
def stepC (c : Clk) (i : Nat) : Int := if i % 2 = 0 then c.f else c.g
theorem atF_stepC (c : Clk) (i : Nat) : atF c ((i + 1 : Nat) : Int) = atF c (i : Int) + stepC c i := by
 unfold atF stepC
 split
 ·have e1 : (((i + 1 : Nat) : Int) + 1) / 2 = ((i : Int) + 1) / 2 + 1 := by omega
  have e2 : ((i + 1 : Nat) : Int) / 2 = (i : Int) / 2 := by omega
  rw [e1, e2, Int.add_mul]; omega
 ·have e1 : (((i + 1 : Nat) : Int) + 1) / 2 = ((i : Int) + 1) / 2 := by omega
  have e2 : ((i + 1 : Nat) : Int) / 2 = (i : Int) / 2 + 1 := by omega
  rw [e1, e2, Int.add_mul]; omega
set_option maxRecDepth 100000 in
/-- step of reference 13 -/
theorem rstep_walk (c : Clk) (i : Nat) (hi : i ≤ 4096) (w : World) : Calls Tryz.prog 28 #[c.val, .int .i64 (i : Int)] w fun e w' => e = .returned (.int .i64 (stepC c i)) ∧ Below w.heap.size w w' := by
 obtain ⟨s, f, g, n⟩ := c
 have e : Clk.val ⟨s, f, g, n⟩ = .agg #[.int .i64 s, .int .i64 f, .int .i64 g, .int .i64 n] := rfl
 rw [e]
 clear e
 have ht : (i : Int).tmod 2 = ((i % 2 : Nat) : Int) := by rw [Int.tmod_eq_emod_of_nonneg (by omega)]; rfl
 rcases (by omega : i % 2 = 0 ∨ i % 2 = 1) with h | h
 ·have HS : Hid (stepC ⟨s, f, g, n⟩ i = f) := Lib.hid (if_pos h)
  rw [h] at ht
  go_enter Tryz.func28, Tryz.ntmps28
  go_wp2_with fail
  go_ret
  rw [HS.out]
  exact ⟨rfl, (Below.refl _ _).alloc (Nat.le_refl _) _⟩
 ·have HS : Hid (stepC ⟨s, f, g, n⟩ i = g) := Lib.hid (if_neg (by omega))
  rw [h] at ht
  go_enter Tryz.func28, Tryz.ntmps28
  go_wp2_with fail
  go_ret
  rw [HS.out]
  exact ⟨rfl, (Below.refl _ _).alloc (Nat.le_refl _) _⟩
def IcP (c : Clk) (w : World) (x : Ending) (w' : World) : Prop := Below w.heap.size w w' ∧ ∃ b : Bool, x = .returned (.bool b) ∧ (b = true → clkOk c = true)
theorem five4 {w : World} {D : Nat} {a b c d : Value} {t : TypeId} (h : w.heap[D]? = some (.cells #[a, b, c, d] t (0, 0))) : w.cell? ⟨D, 0, none⟩ = some a ∧ w.cell? ⟨D, 1, none⟩ = some b ∧ w.cell? ⟨D, 2, none⟩ = some c ∧ w.cell? ⟨D, 3, none⟩ = some d := by
 refine ⟨?_, ?_, ?_, ?_⟩ <;> rw [cell_of_row w D _ _ _ _ h] <;> rfl
set_option maxRecDepth 100000 in
/-- IsClock of reference 13: true only of a clock -/
theorem isclock_walk (c : Clk) (w : World) : Calls Tryz.prog 6 #[c.val] w fun x w' => IcP c w x w' := by
 obtain ⟨s, f, g, n⟩ := c
 have HSt := Lib.hid (rstep_walk ⟨s, f, g, n⟩)
 have HAt := Lib.hid (atF_stepC ⟨s, f, g, n⟩)
 have e : Clk.val ⟨s, f, g, n⟩ = .agg #[.int .i64 s, .int .i64 f, .int .i64 g, .int .i64 n] := rfl
 rw [e] at HSt ⊢
 clear e
 obtain ⟨D, hD⟩ : ∃ D, w.heap.size = D := ⟨_, rfl⟩
 obtain ⟨W0, hW0⟩ : ∃ W, w.alloc (.cells #[.int .i64 s, .int .i64 f, .int .i64 g, .int .i64 n] 23) = W := ⟨_, rfl⟩
 have HB0 : Hid (Below w.heap.size w W0) := Lib.hid (by rw [← hW0]; exact (Below.refl _ _).alloc (Nat.le_refl _) _)
 have hr0 : W0.heap[D]? = some (.cells #[.int .i64 s, .int .i64 f, .int .i64 g, .int .i64 n] 23 (0, 0)) := by rw [← hW0, ← hD]; exact heap_alloc_new _ _
 have HR := Lib.hid hr0
 obtain ⟨d0, d1, d2, d3⟩ := five4 hr0
 clear hr0
 go_enter Tryz.func6, Tryz.ntmps6
 go_upto_region 1 with (fail)
 try rw [hW0]
 clear hW0 hD
 by_cases h1 : n < 1
 ·go_wp2_with fail
  go_ret
  exact ⟨HB0.out, false, rfl, fun h => by cases h⟩
 by_cases h2 : 4096 < n
 ·go_wp2_with fail
  go_ret
  exact ⟨HB0.out, false, rfl, fun h => by cases h⟩
 by_cases h3 : s < 0
 ·go_wp2_with fail
  go_ret
  exact ⟨HB0.out, false, rfl, fun h => by cases h⟩
 by_cases h4 : 1099511627776 < s
 ·go_wp2_with fail
  go_ret
  exact ⟨HB0.out, false, rfl, fun h => by cases h⟩
 by_cases h5 : f < 1
 ·go_wp2_with fail
  go_ret
  exact ⟨HB0.out, false, rfl, fun h => by cases h⟩
 by_cases h6 : 1099511627776 < f
 ·go_wp2_with fail
  go_ret
  exact ⟨HB0.out, false, rfl, fun h => by cases h⟩
 by_cases h7 : g < 1
 ·go_wp2_with fail
  go_ret
  exact ⟨HB0.out, false, rfl, fun h => by cases h⟩
 by_cases h8 : 1099511627776 < g
 ·go_wp2_with fail
  go_ret
  exact ⟨HB0.out, false, rfl, fun h => by cases h⟩
 have HOk : Hid (atF ⟨s, f, g, n⟩ (n - 1) ≤ 1099511627776 → clkOk ⟨s, f, g, n⟩ = true) := Lib.hid fun h => by
  have em : MX = 1099511627776 := rfl
  unfold clkOk insideB
  simp only [Bool.and_eq_true, decide_eq_true_eq]
  rw [em]
  exact ⟨⟨⟨⟨⟨by omega, by omega⟩, by omega, by omega⟩, by omega, by omega⟩, by omega, by omega⟩, h⟩
 go_wp2_with fail
 go_loopw [3, 4] (fun v i wr => ∃ k : Nat, i = .int .i64 (k : Int) ∧ v = .int .i64 (atF ⟨s, f, g, n⟩ (k : Int)) ∧ (k : Int) + 1 ≤ n ∧ 0 ≤ atF ⟨s, f, g, n⟩ (k : Int) ∧ atF ⟨s, f, g, n⟩ (k : Int) ≤ 1099511627776 ∧ Below W0.heap.size W0 wr) (fun _ i _ => (n - intOf i).toNat)
 case atStart =>
  have e0 : atF ⟨s, f, g, n⟩ ((0 : Nat) : Int) = s := by unfold atF; simp
  exact ⟨0, rfl, by rw [e0], by omega, by rw [e0]; omega, by rw [e0]; omega, .refl _ _⟩
 case round =>
  obtain ⟨k, rfl, rfl, hk, t0, t1, hb⟩ := hrel
  have HB := Lib.hid hb
  have hrk : wr.heap[D]? = some (.cells #[.int .i64 s, .int .i64 f, .int .i64 g, .int .i64 n] 23 (0, 0)) := (hb.block D (Array.getElem?_eq_some_iff.1 HR.out).1).trans HR.out
  obtain ⟨d0, d1, d2, d3⟩ := five4 hrk
  have hst := HAt.out k
  have hsv : 1 ≤ stepC ⟨s, f, g, n⟩ k ∧ stepC ⟨s, f, g, n⟩ k ≤ 1099511627776 := by
   unfold stepC; split
   ·exact ⟨by show 1 ≤ f; omega, by show f ≤ _; omega⟩
   ·exact ⟨by show 1 ≤ g; omega, by show g ≤ _; omega⟩
  have HS := Lib.hid fun w => HSt.out k (by omega) w
  obtain ⟨t, ht⟩ : ∃ t, atF ⟨s, f, g, n⟩ (k : Int) = t := ⟨_, rfl⟩
  obtain ⟨v, hv⟩ : ∃ v, stepC ⟨s, f, g, n⟩ k = v := ⟨_, rfl⟩
  rw [ht] at hst t0 t1
  rw [hv] at hst hsv HS
  have HT := Lib.hid ht
  have HAn := Lib.hid hst
  rw [ht]
  have hw1 : IntKind.i64.wrap ((k : Int) + 1) = (k : Int) + 1 := IntWalk.i64_in _ (by omega)
  have hw2 : IntKind.i64.wrap (t + v) = t + v := IntWalk.i64_in _ (by omega)
  clear hb hrk hst ht hv
  by_cases hlt : (k : Int) + 1 < n
  ·go_wp2_with fail
   refine (HS.out _).mono ?_
   rintro x w2 ⟨rfl, hb2⟩
   have HB2 := Lib.hid (bstep HB.out (Nat.le_refl _) hb2)
   clear hb2
   by_cases hbig : 1099511627776 < t + v
   ·go_wp2_with fail
    go_ret
    exact ⟨bstep HB0.out (Nat.le_refl _) HB2.out, false, rfl, fun h => by cases h⟩
   ·go_wp2_with fail
    go_roundw
    case rel => exact ⟨k + 1, by go_num, by rw [HAn.out], by omega, by rw [HAn.out]; omega, by rw [HAn.out]; omega, HB2.out⟩
    case measure => simp [intOf]; omega
  ·go_wp2_with fail
   go_ret
   refine ⟨bstep HB0.out (Nat.le_refl _) HB.out, true, rfl, fun _ => HOk.out ?_⟩
   have : n - 1 = (k : Int) := by omega
   rw [this, HT.out]; omega
end Go.Proofs.YtlmjefjimoghcaaGreat
namespace Go.Proofs.YtlmjefjimoghcaaGreat
set_option linter.unusedSimpArgs false
set_option linter.unnecessarySimpa false
set_option linter.unusedVariables false
theorem bit_half {e : Enc} (h : EOk e) (b : Bool) : (bitE e 1024 b).out.length ≤ e.out.length + 1 := by
 obtain ⟨hm, hl, _, _⟩ := stepE_mid h 1024 b
 have hb : bndP e.size 1024 = e.size / 2048 * 1024 := rfl
 have hs : 2 ^ 23 ≤ (stepE e 1024 b).size := by
  have h0 := h.s0
  unfold stepE
  rw [hb]
  have h1 : 2 ^ 13 ≤ e.size / 2048 := by omega
  have h2 : e.size / 2048 * 2048 ≤ e.size := Nat.div_mul_le_self _ _
  generalize e.size / 2048 = q at h1 h2
  (repeat' split) <;> (simp only; omega)
 unfold bitE normE
 split
 ·rw [if_neg (by show ¬ (stepE e 1024 b).size * 256 < 2 ^ 24; omega)]
  rw [(normE1_val hm.l).2.1, hl]; exact Nat.le_refl _
 ·rw [hl]; omega
theorem dir_half (v : Int) : ∀ (k : Nat) (e : Enc), EOk e → (dirE e k v).out.length ≤ e.out.length + k
 | 0, _, _ => Nat.le_refl _
 | k + 1, e, h => by
  have h1 := bit_half h (v / 2 ^ k % 2 != 0)
  have h2 := dir_half v k _ (bitE_ok h 1024 (v / 2 ^ k % 2 != 0)).1
  show (dirE (bitE e 1024 (v / 2 ^ k % 2 != 0)) k v).out.length ≤ _
  omega
theorem nu_len (L : List Int) (v : Nat) (hv : v < 2 ^ 41) : (nuE L v newE).2.out.length ≤ 52 := by
 obtain ⟨h1, h2⟩ := trE_ok 6 0 (Lib.bitLen v) 1 L newE newE_ok
 have h4 : Lib.bitLen v ≤ 41 := Lib.bitLen_le v 41 (by decide) hv
 have h5 : newE.out.length = 0 := rfl
 unfold nuE
 show (if 2 ≤ Lib.bitLen v then _ else _ : Enc).out.length ≤ _
 split
 ·have := dir_half (v : Int) (Lib.bitLen v - 1) _ h1
  omega
 ·omega
theorem kOf_one {n : Nat} (h : n < 16000) : V.kOf n ≤ 1 := by
 have e1 : V.bnd 1 = 128 := rfl
 have e2 : V.bnd 2 = 16512 := rfl
 unfold V.kOf
 rw [e1, e2]
 (repeat' split) <;> omega
theorem num_two {n : Nat} (h : n < 16000) : (V.num n).length ≤ 2 := by rw [V.num_length]; have := kOf_one h; omega
theorem one_len (v : Int) (h0 : 0 ≤ v) (h1 : v ≤ 1099511627776) : (numsF [v]).length ≤ 57 := by
 have hok : [v].all okN = true := by simp [okN]; omega
 have he : encNumF [v] = (numsE [v], 0) := by unfold encNumF; rw [if_neg (show ¬ 4096 < [v].length from by show ¬ 4096 < 1; decide), if_pos hok]
 unfold numsF
 rw [he]
 show (V.num 1 ++ finE (nuE (half 64) v.toNat newE).2).length ≤ 57
 have hl := nu_len (half 64) v.toNat (by omega)
 have h2 : (V.num 1).length = 1 := by decide
 rw [List.length_append, h2, finE_len]; omega
theorem shorter_le (a b : List UInt8) : (shorter a b).length ≤ b.length := by unfold shorter; split <;> omega
theorem shorter_le1 (a b : List UInt8) : (shorter a b).length ≤ a.length := by unfold shorter; split <;> omega
theorem timesL_congr {c d : Clk} (n : Nat) (h : ∀ i : Nat, i < n → atF c (i : Int) = atF d (i : Int)) : timesL c n = timesL d n := by
 induction n with
 | zero => rfl
 | succ n ih => unfold timesL; rw [ih fun i hi => h i (by omega), h n (by omega)]
theorem detN_eq (c : Clk) (hf : 1 ≤ c.f) (hg : 1 ≤ c.g) (m : Nat) : ∀ (k n : Nat), 1 ≤ n → n ≤ m → m ≤ n + k → detN k c (n : Int) (atF c ((m - 1 : Nat) : Int)) = (m : Int)
 | 0, n, _, h1, h2 => by show (n : Int) = m; omega
 | k + 1, n, h0, h1, h2 => by
  unfold detN
  by_cases h : n < m
  ·rw [if_pos]
   ·exact detN_eq c hf hg m k (n + 1) (by omega) (by omega) (by omega)
   ·rcases (by omega : n = m - 1 ∨ n < m - 1) with e | e
    ·rw [← e]; exact Int.le_refl _
    ·exact Int.le_of_lt (atF_lt c hf hg n (m - 1) e)
  ·rw [if_neg]
   ·omega
   ·have := atF_lt c hf hg (m - 1) n (by omega); omega
theorem incB_of : ∀ (l : List Int) (last : Int), (∀ i, i < l.length → last < l.getD i default ∧ l.getD i default ≤ MX ∧ ∀ j, i < j → j < l.length → l.getD i default < l.getD j default) → incB last l = true
 | [], _, _ => rfl
 | t :: r, last, h => by
  have h0 := h 0 (by simp)
  unfold incB
  simp only [Bool.and_eq_true, Bool.not_eq_true', decide_eq_false_iff_not]
  have e0 : (t :: r).getD 0 default = t := rfl
  rw [e0] at h0
  refine ⟨⟨by omega, by omega⟩, incB_of r t fun i hi => ?_⟩
  have h1 := h (i + 1) (by simp; omega)
  refine ⟨?_, h1.2.1, fun j hj hjl => ?_⟩
  ·have := h0.2.2 (i + 1) (by omega) (by simp; omega)
   exact this
  ·exact h1.2.2 (j + 1) (by omega) (by simp; omega)
theorem missK_self (l : List Int) : ∀ k, k ≤ l.length → missK l l k = []
 | 0, _ => rfl
 | k + 1, h => by
  unfold missK
  rw [if_pos, missK_self l k (by omega)]
  rw [List.contains_iff_mem, List.getD_eq_getElem?_getD, List.getElem?_eq_getElem (by omega)]
  exact List.getElem_mem _
theorem addK_self (l : List Int) : addK l l = [] := by
 unfold addK
 rw [List.filter_eq_nil_iff]
 intro a ha
 simp [List.contains_iff_mem, ha]
/-- the times of a clock are valid, and their bytes are few -/
theorem tc_len (c : Clk) (m : Nat) (hm : c.n = (m : Int)) (h : clkOk c = true) : (tcE (timesL c m)).2 = 0 ∧ (tcE (timesL c m)).1.length ≤ 58 := by
 obtain ⟨⟨n1, n2⟩, hb, hf, hg, hmx⟩ := clkOk_b h
 have hs := hb.s
 have hlen := timesL_len c m
 have hget := fun i (hi : i < m) => timesL_get c m i hi
 have e1 : ((m - 1 : Nat) : Int) = c.n - 1 := by omega
 have hlast : atF c ((m - 1 : Nat) : Int) ≤ MX := by rw [e1]; exact hmx
 have hat0 : atF c 0 = c.s := by unfold atF; simp
 have hv : validT (timesL c m) = true := by
  unfold validT
  rw [Bool.and_eq_true]
  refine ⟨incB_of _ _ fun i hi => ?_, decide_eq_true (by omega)⟩
  rw [hlen] at hi
  rw [hget i hi]
  refine ⟨?_, ?_, fun j hj hjl => ?_⟩
  ·rcases (by omega : i = 0 ∨ 0 < i) with rfl | h0
   ·rw [Int.natCast_zero, hat0]; omega
   ·have := atF_lt c hf hg 0 i h0
    rw [Int.natCast_zero, hat0] at this; omega
  ·rcases (by omega : i = m - 1 ∨ i < m - 1) with rfl | h0
   ·exact hlast
   ·have := atF_lt c hf hg i (m - 1) h0; omega
  ·rw [hlen] at hjl
   rw [hget j hjl]; exact atF_lt c hf hg i j hj
 unfold tcE
 rw [hv]
 refine ⟨rfl, ?_⟩
 show (shorter (c4F _) _).length ≤ 58
 refine Nat.le_trans (shorter_le _ _) ?_
 rw [hlen]
 by_cases h2 : 2 ≤ m
 ·rw [if_pos h2]
  refine Nat.le_trans (shorter_le1 _ _) ?_
  have g0 := hget 0 (by omega)
  have g1 := hget 1 (by omega)
  have gl := hget (m - 1) (by omega)
  have a1 : atF c ((1 : Nat) : Int) = c.s + c.f := by unfold atF; simp
  obtain ⟨d, hd⟩ : ∃ d, det0 (timesL c m) = d := ⟨_, rfl⟩
  have hds : d.s = c.s := by rw [← hd]; show (timesL c m).getD 0 default = _; rw [g0]; exact hat0
  have hdf : d.f = c.f := by
   rw [← hd]; show (timesL c m).getD 1 default - (timesL c m).getD 0 default = _
   rw [g0, g1, a1, Int.natCast_zero, hat0]; omega
  have hdg : d.g = if 2 < m then c.g else c.f := by
   rw [← hd]
   show (if 2 < (timesL c m).length then (timesL c m).getD 2 default - (timesL c m).getD 1 default else (timesL c m).getD 1 default - (timesL c m).getD 0 default) = _
   rw [hlen]
   split
   ·rename_i h3
    rw [g1, hget 2 h3, a1]
    unfold atF
    have e1 : (((2 : Nat) : Int) + 1) / 2 = 1 := by decide
    have e2 : ((2 : Nat) : Int) / 2 = 1 := by decide
    rw [e1, e2]; omega
   ·rw [g0, g1, a1, Int.natCast_zero, hat0]; omega
  have hdg1 : 1 ≤ d.g := by rw [hdg]; split <;> omega
  have hat : ∀ i : Nat, i < m → atF d (i : Int) = atF c (i : Int) := fun i hi => by
   unfold atF
   rw [hds, hdf, hdg]
   by_cases h3 : 2 < m
   ·rw [if_pos h3]
   ·have e1 : (i : Int) / 2 = 0 := by omega
    rw [e1]; simp
  have hn : detN 4095 d 1 ((timesL c m).getD ((timesL c m).length - 1) default) = (m : Int) := by
   rw [hlen, gl, ← hat (m - 1) (by omega)]
   exact detN_eq d (by omega) hdg1 m 4095 1 (by decide) (by omega) (by omega)
  have hdet : detF (timesL c m) = { d with n := (m : Int) } := by unfold detF; rw [hd, hn]
  have hT : timesL (detF (timesL c m)) (detF (timesL c m)).n.toNat = timesL c m := by
   rw [hdet]
   show timesL { d with n := (m : Int) } ((m : Int).toNat) = _
   rw [Int.toNat_natCast]
   exact timesL_congr m fun i hi => hat i hi
  have hM : missT (timesL c m) = [] := by
   unfold missT
   rw [hT]
   exact missK_self _ _ (by rw [hdet]; show (m : Int).toNat ≤ _; rw [hlen, Int.toNat_natCast]; exact Nat.le_refl _)
  have hA : addT (timesL c m) = [] := by unfold addT; rw [hT]; exact addK_self _
  have hz : textF (numsF (gapsT [])) = [1, 0] := by decide +kernel
  have hz2 : numsF (gapsT []) = [0] := by decide +kernel
  have hz3 : (V.num 1).length = 1 := by decide
  unfold c2F
  rw [hM, hA, hz, hz2]
  simp only [List.length_append, hz3, List.length_cons, List.length_nil]
  have k1 := num_len (detF (timesL c m)).s.toNat
  have k2 := num_len (detF (timesL c m)).f.toNat
  have k3 := num_len (detF (timesL c m)).g.toNat
  have k4 := num_len (detF (timesL c m)).n.toNat
  omega
 ·rw [if_neg h2]
  obtain rfl : m = 1 := by omega
  have e : timesL c 1 = [c.s] := by show [] ++ [atF c ((0 : Nat) : Int)] = _; rw [Int.natCast_zero, hat0]; rfl
  have hz3 : (V.num 0).length = 1 := by decide
  unfold c1F
  rw [e]
  show (V.num 0 ++ numsF [c.s - -1 - 1]).length ≤ 58
  rw [List.length_append, hz3]
  have := one_len (c.s - -1 - 1) (by omega) (by omega)
  omega
def cntV (a s : Str) : Nat → Str
 | 0 => a
 | k + 1 => addV (cntV a s k) s
def cntL (a s : Str) (n : Nat) : List Str := (List.range n).map (cntV a s)
theorem cntL_len (a s : Str) (n : Nat) : (cntL a s n).length = n := by simp [cntL]
theorem cntL_get (a s : Str) (n k : Nat) (h : k < n) : (cntL a s n).getD k default = cntV a s k := by simp [cntL, List.getD, h]
theorem cntL_snoc (a s : Str) (n : Nat) : cntL a s (n + 1) = cntL a s n ++ [cntV a s n] := by simp [cntL, List.range_succ]
theorem okC_bit {c : UInt8} (h : bitC c = true) : okC c = true := by
 unfold bitC at h
 unfold okC
 rw [h]; rfl
theorem known_of {l m : Str} (h : knownV l = true) (hl : m.length = l.length) (hb : m.all bitC = true) : knownV m = true := by
 obtain ⟨h1, h2, h3, h4⟩ := known_parts h
 unfold knownV isV
 rw [hb, Bool.and_true, Bool.and_eq_true, Bool.and_eq_true]
 refine ⟨⟨?_, decide_eq_true (by omega)⟩, List.all_eq_true.2 fun c hc => okC_bit (List.all_eq_true.1 hb c hc)⟩
 cases m with
 | nil => cases l with
  | nil => exact absurd rfl h4
  | cons => simp at hl
 | cons => rfl
theorem cntV_known {a s : Str} (ha : knownV a = true) (hs : knownV s = true) (hl : a.length = s.length) : ∀ k, knownV (cntV a s k) = true ∧ (cntV a s k).length = s.length
 | 0 => ⟨ha, hl⟩
 | k + 1 => by
  obtain ⟨h1, h2⟩ := cntV_known ha hs hl k
  obtain ⟨_, h4, h5⟩ := diff_add (cntV a s k) s h2 (known_parts h1).2.2.1 (known_parts hs).2.2.1
  refine ⟨known_of h1 h4 h5, ?_⟩
  show (addV (cntV a s k) s).length = _
  omega
theorem words_rep (s : Str) : ∀ k, words (List.replicate (k + 1) s) = [s]
 | 0 => by simp [words, addW]
 | k + 1 => by rw [List.replicate_succ', words_snoc, words_rep s k]; simp [addW]
theorem cnt_ok {a s : Str} (ha : knownV a = true) (hs : knownV s = true) (hl : a.length = s.length) (k : Nat) : addOk (cntV a s k) s = true := by
 obtain ⟨h1, h2⟩ := cntV_known ha hs hl k
 unfold addOk; rw [h1, hs, decide_eq_true h2]; rfl
theorem cnt_ok2 {a s : Str} (ha : knownV a = true) (hs : knownV s = true) (hl : a.length = s.length) (k : Nat) : addOk (cntV a s k) (cntV a s (k + 1)) = true := by
 obtain ⟨h1, h2⟩ := cntV_known ha hs hl k
 obtain ⟨h3, h4⟩ := cntV_known ha hs hl (k + 1)
 unfold addOk; rw [h1, h3, decide_eq_true (by omega)]; rfl
theorem cnt_diff {a s : Str} (ha : knownV a = true) (hs : knownV s = true) (hl : a.length = s.length) (k : Nat) : diffV (cntV a s k) (cntV a s (k + 1)) = s := by
 obtain ⟨h1, h2⟩ := cntV_known ha hs hl k
 exact (diff_add (cntV a s k) s h2 (known_parts h1).2.2.1 (known_parts hs).2.2.1).1
theorem cnt_valid {a s : Str} (ha : knownV a = true) (hs : knownV s = true) (hl : a.length = s.length) (n : Nat) (h1 : 1 ≤ n) (h2 : n ≤ 4096) : busV (s.length : Int) (cntL a s n) = true := by
 have h4 := (known_parts hs).2
 unfold busV
 have hp : 1 ≤ s.length := by cases s with | nil => exact absurd rfl h4.2.2 | cons => simp
 rw [cntL_len, Bool.and_eq_true, Bool.and_eq_true, Bool.and_eq_true]
 refine ⟨List.all_eq_true.2 fun x hx => ?_, ⟨decide_eq_true (by omega), decide_eq_true (by omega)⟩, decide_eq_true (by omega)⟩
 obtain ⟨k, _, rfl⟩ := List.mem_map.1 hx
 obtain ⟨k1, k2⟩ := cntV_known ha hs hl k
 unfold vecB
 rw [(known_parts k1).1, decide_eq_true (by omega)]; rfl
theorem steps_rep {a s : Str} (ha : knownV a = true) (hs : knownV s = true) (hl : a.length = s.length) (n : Nat) : ∀ k, k + 1 ≤ n → stepsK (cntL a s n) k = List.replicate k s
 | 0, _ => rfl
 | k + 1, h => by
  unfold stepsK
  rw [cntL_get a s n k (by omega), cntL_get a s n (k + 1) (by omega), if_pos (cnt_ok2 ha hs hl k), cnt_diff ha hs hl k, steps_rep ha hs hl n k (by omega), List.replicate_succ']
theorem step_cnt {a s : Str} (ha : knownV a = true) (hs : knownV s = true) (hl : a.length = s.length) (n : Nat) (h2 : 2 ≤ n) (h3 : n ≤ 4096) : stepV (cntL a s n) = s := by
 have hv := cnt_valid ha hs hl n (by omega) h3
 have hg : (cntL a s n).getD 0 [] = a := cntL_get a s n 0 (by omega)
 obtain ⟨m, rfl⟩ : ∃ m, n = m + 2 := ⟨n - 2, by omega⟩
 have hne : cntL a s (m + 2) ≠ [] := fun h => by have := cntL_len a s (m + 2); rw [h] at this; simp at this
 have hst : stepsL (cntL a s (m + 2)) = List.replicate (m + 1) s := by
  unfold stepsL
  rw [cntL_len]; exact steps_rep ha hs hl (m + 2) (m + 1) (by omega)
 have hs0 : s ≠ [] := (known_parts hs).2.2.2
 unfold stepV
 rw [hg, hl, hv, hst, words_rep, if_pos (by simp [hne])]
 show (if (List.replicate (m + 1) s).count [] < (List.replicate (m + 1) s).count s then s else []) = s
 rw [if_pos]
 rw [List.count_replicate_self, List.count_replicate]
 simp [hs0]
theorem exc_cnt {a s : Str} (ha : knownV a = true) (hs : knownV s = true) (hl : a.length = s.length) (n : Nat) : ∀ k, k + 1 ≤ n → excK (cntL a s n) s k = []
 | 0, _ => rfl
 | k + 1, h => by
  unfold excK
  rw [cntL_get a s n k (by omega), cntL_get a s n (k + 1) (by omega), cnt_ok ha hs hl k]
  simp only [if_true, Bool.true_and]
  rw [show addV (cntV a s k) s = cntV a s (k + 1) from rfl, decide_eq_true rfl, if_pos rfl]
  exact exc_cnt ha hs hl n k (by omega)
theorem short_le (l : Str) : (shortV l).length ≤ l.length := by
 unfold shortV; split
 ·exact shortL_length l
 ·exact Nat.zero_le _
theorem text_le (l : Str) (h : l.length ≤ 1000) : (textF l).length ≤ l.length + 2 := by
 unfold textF
 rw [List.length_append]
 have := num_two (n := l.length) (by omega); omega
theorem pick_le (o : List UInt8) (r : List UInt8 × Int) (h : o ≠ []) : (pickB o r).length ≤ o.length ∧ (r.2 = 0 → r.1 ≠ [] → pickB o r ≠ []) := by
 unfold pickB
 split
 ·rename_i h2
  rcases h2.2 with h3 | h3
  ·exact absurd h3 h
  ·exact ⟨by omega, fun _ h4 => h4⟩
 ·exact ⟨Nat.le_refl _, fun _ _ => h⟩
theorem num_ne (n : Nat) (x : List UInt8) : V.num n ++ x ≠ [] := fun h => by
 have := congrArg List.length h
 rw [List.length_append, V.num_length] at this
 simp at this
theorem best_le (n : Nat) (l : List Str) : (bestE n l 4).length ≤ (V.num 1 ++ counterF l).length := by
 have h2 : (bestE n l 2).length ≤ (V.num 1 ++ counterF l).length ∧ bestE n l 2 ≠ [] := by
  show (pickB (bestE n l 1) (encAsB 1 n l)).length ≤ _ ∧ pickB (bestE n l 1) (encAsB 1 n l) ≠ []
  have e : encAsB 1 n l = (V.num 1 ++ counterF l, 0) := rfl
  rw [e]
  unfold pickB
  split
  ·exact ⟨Nat.le_refl _, num_ne _ _⟩
  ·rename_i h
   simp only [true_and, not_or] at h
   exact ⟨by omega, h.1⟩
 have e2 : encAsB 2 n l = (V.num 2 ++ mixedF n l, 0) := rfl
 have h3 := pick_le (bestE n l 2) (encAsB 2 n l) h2.2
 have h4 := pick_le (bestE n l 3) (encAsB 3 n l) (h3.2 (by rw [e2]) (by rw [e2]; exact num_ne _ _))
 have e3 : bestE n l 3 = pickB (bestE n l 2) (encAsB 2 n l) := rfl
 have e4 : bestE n l 4 = pickB (bestE n l 3) (encAsB 3 n l) := rfl
 rw [e4]
 refine Nat.le_trans h4.1 (Nat.le_trans ?_ h2.1)
 rw [e3]; exact h3.1
theorem bus_len {a s : Str} (ha : knownV a = true) (hs : knownV s = true) (hl : a.length = s.length) (n : Nat) (h1 : 1 ≤ n) (h2 : n ≤ 2000) : (encB (s.length : Int) (cntL a s n)).2 = 0 ∧ (encB (s.length : Int) (cntL a s n)).1.length ≤ 2 * s.length + 16 := by
 have h128 := (known_parts hs).2.1
 unfold encB
 rw [cnt_valid ha hs hl n h1 (by omega)]
 refine ⟨rfl, ?_⟩
 show (bestE _ _ 4).length ≤ _
 refine Nat.le_trans (best_le _ _) ?_
 have hne : cntL a s n ≠ [] := fun h => by have := cntL_len a s n; rw [h] at this; simp at this; omega
 have hsv : (stepV (cntL a s n)).length ≤ s.length ∧ excF (cntL a s n) (stepV (cntL a s n)) = [] := by
  by_cases h3 : 2 ≤ n
  ·rw [step_cnt ha hs hl n h3 (by omega)]
   refine ⟨Nat.le_refl _, ?_⟩
   unfold excF
   rw [cntL_len]; exact exc_cnt ha hs hl n (n - 1) (by omega)
  ·obtain rfl : n = 1 := by omega
   refine ⟨?_, ?_⟩
   ·unfold stepV; split <;> exact Nat.zero_le _
   ·unfold excF; rw [cntL_len]; rfl
 have hr : (encRL ((valsC (cntL a s n) []).map shortV)).1.length = 5 := by
  show (encRL []).1.length = 5
  decide +kernel
 have hz : textF (numsF (cgap (-1) [])) = [1, 0] := by decide +kernel
 unfold counterF
 rw [if_neg hne, hsv.2, cntL_get a s n 0 (by omega), hz]
 simp only [List.length_append, hr, List.length_cons, List.length_nil]
 have t0 := num_two (n := 1) (by decide)
 have t1 := num_two (n := (cntL a s n).length) (by rw [cntL_len]; omega)
 have t2 := text_le (shortV (cntV a s 0)) (by have := short_le (cntV a s 0); have e : cntV a s 0 = a := rfl; rw [e] at this ⊢; omega)
 have t3 := text_le (shortV (stepV (cntL a s n))) (by have := short_le (stepV (cntL a s n)); omega)
 have t4 := short_le (cntV a s 0)
 have t5 := short_le (stepV (cntL a s n))
 have e : (cntV a s 0).length = a.length := rfl
 omega
theorem frame_len (k : Nat) (hk : k ≤ 15) (c : List UInt8) (hc : c.length ≤ 1000) : (wrapF (k : Int) c).2 = 0 ∧ (wrapF (k : Int) c).1.length ≤ c.length + 8 := by
 unfold wrapF
 rw [if_neg (by omega)]
 refine ⟨rfl, ?_⟩
 show (headF _ (wrapK _ c).2).length ≤ _
 have hw : (wrapK ((k : Int)).toNat c).2.length ≤ c.length := by unfold wrapK; split <;> simp only <;> omega
 generalize (wrapK ((k : Int)).toNat c).2 = b at hw
 unfold headF
 rw [K.sealL_length, List.length_append]
 have := text_le b (by omega)
 simp only [List.length_cons, List.length_nil]
 omega
/-- the two frames are short -/
theorem all_len {c : Clk} {a s : Str} {n : Nat} (hn : c.n = (n : Int)) (hc : clkOk c = true) (ha : knownV a = true) (hs : knownV s = true) (hl : a.length = s.length) (h2 : n ≤ 2000) :
  (encFr [((1 : Int), (tcE (timesL c n)).1), ((2 : Int), (encB (s.length : Int) (cntL a s n)).1)]).2 = 0 ∧ (encFr [((1 : Int), (tcE (timesL c n)).1), ((2 : Int), (encB (s.length : Int) (cntL a s n)).1)]).1.length ≤ 120 + 2 * s.length := by
 have h1 : 1 ≤ n := by have := (clkOk_b hc).1; omega
 have h128 := (known_parts hs).2.1
 obtain ⟨-, t1⟩ := tc_len c n hn hc
 obtain ⟨-, t2⟩ := bus_len ha hs hl n h1 h2
 generalize (tcE (timesL c n)).1 = x at t1
 generalize (encB (s.length : Int) (cntL a s n)).1 = y at t2
 obtain ⟨e1, l1⟩ := frame_len 1 (by decide) x (by omega)
 obtain ⟨e2, l2⟩ := frame_len 2 (by decide) y (by omega)
 have e1' : (wrapF (1 : Int) x).2 = 0 := e1
 have e2' : (wrapF (2 : Int) y).2 = 0 := e2
 have l1' : (wrapF (1 : Int) x).1.length ≤ x.length + 8 := l1
 have l2' : (wrapF (2 : Int) y).1.length ≤ y.length + 8 := l2
 have e : encFr [((1 : Int), x), ((2 : Int), y)] = ((wrapF (1 : Int) x).1 ++ ((wrapF (2 : Int) y).1 ++ []), 0) := by
  unfold encFr encFr encFr
  simp [e1', e2']
 rw [e]
 refine ⟨rfl, ?_⟩
 simp only [List.length_append, List.length_nil]
 omega
end Go.Proofs.YtlmjefjimoghcaaGreat
namespace Go.Proofs.YtlmjefjimoghcaaGreat
set_option linter.unusedSimpArgs false
set_option linter.unnecessarySimpa false
set_option linter.unusedVariables false
open Go.RowKit
attribute [local go_sem ↓] Go.wp_at_zero Go.wp_at_succ
def CntR (w : World) (a s : Str) (n : Nat) (v : Value) (wr : World) : Prop := ∃ k : Nat, 1 ≤ k ∧ k ≤ n ∧ OwnR w 9 1 v k (sc (cntL a s k)) wr ∧ Below w.heap.size w wr
def lenOf : Value → Nat
 | .slice _ n _ => n
 | _ => 0
set_option maxRecDepth 100000 in
set_option maxHeartbeats 2000000 in
/-- TopCounter answers true -/
theorem counter_law (c : Clk) (a s : List UInt8) (ha : a.length ≤ maxLen) (hs : s.length ≤ maxLen) (w : World) : Calls Tryz.prog 3 #[c.val, .string (sB a), .string (sB s)] w fun x w' => x = .returned (.bool true) ∧ Below w.heap.size w w' := by
 have sza := sB_size a
 have szs := sB_size s
 have HKa := Lib.hid fun w => rknown_walk a ha w
 have HKs := Lib.hid fun w => rknown_walk s hs w
 have HIc := Lib.hid fun w => isclock_walk c w
 have HTm := Lib.hid fun w => times_walk c w
 have HLa := Lib.hid ha
 have HLs := Lib.hid hs
 unfold maxLen at ha hs
 obtain ⟨I, hI⟩ : ∃ I, w.heap.size = I := ⟨_, rfl⟩
 obtain ⟨W0, hW0⟩ : ∃ W, w.alloc (.cells #[.int .i64 c.s, .int .i64 c.f, .int .i64 c.g, .int .i64 c.n] 23) = W := ⟨_, rfl⟩
 have HB0 : Hid (Below w.heap.size w W0) := Lib.hid (by rw [← hW0]; exact (Below.refl _ _).alloc (Nat.le_refl _) _)
 have hr0 : W0.heap[I]? = some (.cells #[.int .i64 c.s, .int .i64 c.f, .int .i64 c.g, .int .i64 c.n] 23 (0, 0)) := by rw [← hW0, ← hI]; exact heap_alloc_new _ _
 have HC : Hid (∀ v, Below W0.heap.size W0 v → v.heap[I]? = some (.cells #[.int .i64 c.s, .int .i64 c.f, .int .i64 c.g, .int .i64 c.n] 23 (0, 0))) := Lib.hid fun v hb => (hb.block I (Array.getElem?_eq_some_iff.1 hr0).1).trans hr0
 have hFin : Hid (∀ v, Below W0.heap.size W0 v → Below w.heap.size w v) := Lib.hid fun v hb => bstep HB0.out (Nat.le_refl _) hb
 have HA := Lib.hid (awake_walk W0)
 clear hr0
 have e : c.val = .agg #[.int .i64 c.s, .int .i64 c.f, .int .i64 c.g, .int .i64 c.n] := rfl
 rw [e] at HIc HTm ⊢
 clear e
 go_enter Tryz.func3, Tryz.ntmps3
 go_upto_region 1 with (fail)
 try rw [hW0]
 clear hW0 hI
 go_wp2_with fail
 refine (HA.out).mono ?_
 rintro x w1 ⟨rfl, hb⟩
 obtain ⟨d0, d1, d2, d3⟩ := five4 (HC.out w1 hb)
 have HB := Lib.hid hb
 clear hb HA
 go_wp2_with fail
 refine (HIc.out _).mono ?_
 rintro x w2 ⟨hb, ic, rfl, hic⟩
 have HB := Lib.hid (bstep HB.out (Nat.le_refl _) hb)
 obtain ⟨d0, d1, d2, d3⟩ := five4 (HC.out w2 HB.out)
 clear hb HIc
 rcases Bool.eq_false_or_eq_true ic with h | h
 rotate_left
 ·subst h
  go_wp2_with fail
  go_ret
  exact ⟨rfl, hFin.out _ HB.out⟩
 subst h
 have HOk := Lib.hid (hic rfl)
 clear hic
 by_cases hn : 2000 < c.n
 ·go_wp2_with fail
  go_ret
  exact ⟨rfl, hFin.out _ HB.out⟩
 go_wp2_with fail
 refine (HKa.out _).mono ?_
 rintro x w3 ⟨rfl, hb⟩
 have HB := Lib.hid (bstep HB.out (Nat.le_refl _) hb)
 clear hb HKa
 rcases Bool.eq_false_or_eq_true (knownV a) with hka | hka
 rotate_left
 ·rw [hka]
  go_wp2_with fail
  go_ret
  exact ⟨rfl, hFin.out _ HB.out⟩
 rw [hka]
 have HKna := Lib.hid hka
 clear hka
 go_wp2_with fail
 refine (HKs.out _).mono ?_
 rintro x w4 ⟨rfl, hb⟩
 have HB := Lib.hid (bstep HB.out (Nat.le_refl _) hb)
 clear hb HKs
 rcases Bool.eq_false_or_eq_true (knownV s) with hks | hks
 rotate_left
 ·rw [hks]
  go_wp2_with fail
  go_ret
  exact ⟨rfl, hFin.out _ HB.out⟩
 rw [hks]
 have HKns := Lib.hid hks
 clear hks
 by_cases hl : (a.length : Int) = s.length
 rotate_left
 ·have hlb : ((a.length : Int) != (s.length : Int)) = true := by simp; omega
  go_wp2_with fail
  go_ret
  exact ⟨rfl, hFin.out _ HB.out⟩
 obtain ⟨m, hm⟩ : ∃ m : Nat, c.n = (m : Int) := ⟨c.n.toNat, by have := (clkOk_b HOk.out).1; omega⟩
 have hln : a.length = s.length := by omega
 have hm1 : 1 ≤ m ∧ m ≤ 2000 := by have := (clkOk_b HOk.out).1; omega
 have h128 := (known_parts HKns.out).2.1
 have HM1 := Lib.hid hm1
 have HM := Lib.hid hm
 have HLn := Lib.hid hln
 have HTf : Hid (timesF c = (timesL c m, 0)) := Lib.hid (by unfold timesF; rw [HOk.out, hm]; rfl)
 have HAll := Lib.hid (all_len hm HOk.out HKna.out HKns.out hln hm1.2)
 have HTc := Lib.hid (tc_len c m hm HOk.out)
 have HBs := Lib.hid (bus_len HKna.out HKns.out hln m hm1.1 hm1.2)
 have htl := timesL_len c m
 have HTm2 : Hid (∀ w, Calls Tryz.prog 8 #[.agg #[.int .i64 c.s, .int .i64 c.f, .int .i64 c.g, .int .i64 c.n]] w fun x w' => RetI w (timesL c m) 0 x w') := Lib.hid fun w => by have := HTm.out w; rw [HTf.out] at this; exact this
 obtain ⟨l, hlt⟩ : ∃ l, timesL c m = l := ⟨_, rfl⟩
 rw [hlt] at HTm2 HAll HTc htl
 have HTl := Lib.hid htl
 have hli : (l.length : Int) ≤ 2000 := by omega
 clear HTm HTf hlt hm hm1 hln htl
 obtain ⟨e0, e1, e2, e3⟩ := five4 (HC.out w4 HB.out)
 go_wp2_with fail
 refine (HTm2.out _).mono ?_
 rintro x w5 ⟨hb, A1, c1, rfl, hin, hfr⟩
 have HB5 := Lib.hid (bstep HB.out (Nat.le_refl _) hb)
 have HIn := Lib.hid hin
 have HPl := Lib.hid hfr.plain
 clear hb hin hfr HTm2 HB d0 d1 d2 d3 e0 e1 e2 e3
 obtain ⟨B, hB⟩ : ∃ B, w5.heap.size = B := ⟨_, rfl⟩
 obtain ⟨W6, hW6⟩ : ∃ W, w5.alloc (.cells #[.string (sB a)] 9) = W := ⟨_, rfl⟩
 have hb6 : Below w5.heap.size w5 W6 := by rw [← hW6]; exact (Below.refl _ _).alloc (Nat.le_refl _) _
 have hr6 : SRow W6 B [a] := by unfold SRow; rw [← hW6, ← hB]; exact heap_alloc_new _ _
 have HO6 : Hid (OwnR w5 9 1 (.slice (some ⟨B, 0, none⟩) 1 1) 1 (sc (cntL a s 1)) W6) := Lib.hid (srow_own hr6 (by omega) (by show 1 ≤ 1000000; decide))
 have HB6 := Lib.hid hb6
 have HAd : Hid (∀ j w, Calls Tryz.prog 9 #[.string (sB (cntV a s j)), .string (sB s)] w fun e w' => e = .returned (.tuple #[.string (sB (cntV a s (j + 1))), .bool true]) ∧ Below w.heap.size w w') := Lib.hid fun j w => by
  have h := add_walk (cntV a s j) s (by unfold maxLen; have := (cntV_known HKna.out HKns.out HLn.out j).2; have := (known_parts HKns.out).2.1; omega) (by unfold maxLen; have := (known_parts HKns.out).2.1; omega) w
  rw [cnt_ok HKna.out HKns.out HLn.out j, if_pos rfl] at h
  exact h
 clear hr6 hb6
 go_wp2_with fail
 try rw [hW6]
 clear hW6 hB
 go_loopw [9] (fun v wr => CntR w5 a s m v wr) (fun v _ => m - lenOf v)
 case atStart => exact ⟨1, Nat.le_refl _, HM1.out.1, HO6.out, HB6.out⟩
 case round =>
  obtain ⟨k, k1, km, ho, hb⟩ := hrel
  have HO := Lib.hid ho
  have HBr := Lib.hid hb
  obtain ⟨A', c', rfl⟩ := row_sl ho.row
  have HBv := Lib.hid (bstep HB5.out (Nat.le_refl _) hb)
  obtain ⟨e0, e1, e2, e3⟩ := five4 (HC.out wr HBv.out)
  rw [HM.out] at e3
  by_cases hlt : k < m
  ·have hki : (k : Int) < (m : Int) := by omega
   obtain ⟨j, hj⟩ : ∃ j, k = j + 1 := ⟨k - 1, by omega⟩
   obtain ⟨g, rfl⟩ := row_g ho (by omega)
   obtain ⟨a', ea, c0⟩ := InS.at (ownS_in ho) (.refl _ wr) (k := j) (by rw [cntL_len]; omega)
   injection ea with ea
   subst ea
   rw [Addr.add_lit, Nat.zero_add, cntL_get a s k j (by omega)] at c0
   have hw : IntKind.i64.wrap ((k : Int) - 1) = (j : Int) := by rw [show (k : Int) - 1 = (j : Int) by omega]; exact IntWalk.i64_in _ (by have := HM1.out; omega)
   have hjk : (j : Int) < (k : Int) := by omega
   have HA := Lib.hid fun w => HAd.out j w
   have HJ := Lib.hid hj
   obtain ⟨x, hx⟩ : ∃ x, cntV a s j = x := ⟨_, rfl⟩
   obtain ⟨y, hy⟩ : ∃ y, cntV a s (j + 1) = y := ⟨_, rfl⟩
   have HSn : Hid (cntL a s (k + 1) = cntL a s k ++ [y]) := Lib.hid (by rw [cntL_snoc, hj, hy])
   rw [hx] at c0 HA
   rw [hy] at HA
   clear ho hb hj hx hy
   go_wp2_with fail
   refine (HA.out _).mono ?_
   rintro z w7 ⟨rfl, hb7⟩
   obtain ⟨A2, c2, w8, hrun, ho2, hb2, -⟩ := push_str (HO.out.below hb7) (bstep HBr.out (Nat.le_refl _) hb7) (by have := HM1.out; omega) y
   have HO2 := Lib.hid ho2
   have HB2 := Lib.hid hb2
   have HRUN := Lib.hid hrun
   clear hb7 hrun ho2 hb2
   go_wp2_with (at_builtin; refine wpList_append_eq rfl _ _ _ rfl _ _ rfl rfl HRUN.out ?_)
   go_roundw
   case rel => exact ⟨k + 1, by omega, by omega, by rw [HSn.out]; exact HO2.out, HB2.out⟩
   case measure => simp [lenOf]; omega
  ·obtain rfl : k = m := by omega
   have HIn2 := Lib.hid (HIn.out.mono hb)
   have HEt : Hid (Calls Tryz.prog 10 #[.slice A1 l.length c1] wr fun e w' => e = .returned (.tuple #[.string (sB (tcE l).1), .int .i64 0]) ∧ Below wr.heap.size wr w') := Lib.hid (by
    have h := tcE_walk l (by omega) wr A1 c1 HIn2.out HPl.out
    rw [HTc.out.1] at h; exact h)
   have hi2 := ownS_in ho
   clear ho hb
   go_wp2_with fail
   refine HEt.out.mono ?_
   rintro z w7 ⟨rfl, hb7⟩
   have HB7 := Lib.hid (bstep HBv.out (Nat.le_refl _) hb7)
   have HEb : Hid (Calls Tryz.prog 11 #[.int .i64 (s.length : Int), .slice A' k c'] w7 fun e w' => e = .returned (.tuple #[.string (sB (encB (s.length : Int) (cntL a s k)).1), .int .i64 0]) ∧ Below w7.heap.size w7 w') := Lib.hid (by
    have h := busE_walk (s.length : Int) (cntL a s k) (by rw [cntL_len]; have := HM1.out; omega) (fun x hx => by
     obtain ⟨q, _, rfl⟩ := List.mem_map.1 hx
     have := (cntV_known HKna.out HKns.out HLn.out q).2; omega) w7 A' c' (hi2.mono hb7)
    rw [HBs.out.1, cntL_len] at h; exact h)
   clear hb7 hi2
   go_wp2_with fail
   refine HEb.out.mono ?_
   rintro z w8 ⟨rfl, hb8⟩
   have HB8 := Lib.hid (bstep HB7.out (Nat.le_refl _) hb8)
   clear hb8
   obtain ⟨p, hp⟩ : ∃ p, (tcE l).1 = p := ⟨_, rfl⟩
   obtain ⟨q, hq⟩ : ∃ q, (encB (s.length : Int) (cntL a s k)).1 = q := ⟨_, rfl⟩
   have HLp : Hid (p.length ≤ 58) := Lib.hid (by rw [← hp]; exact HTc.out.2)
   have HLq : Hid (q.length ≤ 2 * s.length + 16) := Lib.hid (by rw [← hq]; exact HBs.out.2)
   rw [hp, hq] at HAll ⊢
   clear HTc HBs HEt HEb hp hq
   obtain ⟨F, hF⟩ : ∃ F, w8.heap.size = F := ⟨_, rfl⟩
   obtain ⟨W9, hW9⟩ : ∃ W, w8.alloc (.cells #[.int .i64 1, .string (sB p), .int .i64 2, .string (sB q)] 39) = W := ⟨_, rfl⟩
   have hb9 : Below w8.heap.size w8 W9 := by rw [← hW9]; exact (Below.refl _ _).alloc (Nat.le_refl _) _
   have hs9 : W9.heap.size = F + 1 := by rw [← hW9, size_al, hF]
   have hFr : InFr W9 (some ⟨F, 0, none⟩) [((1 : Int), p), ((2 : Int), q)] := by have := flat_new w8 (fun k => k < W9.heap.size) _ (frs [((1 : Int), p), ((2 : Int), q)]) 39 rfl (by omega); rw [← hF, ← hW9]; rw [← hW9] at this; exact this
   obtain ⟨t, ht⟩ : ∃ t, (encFr [((1 : Int), p), ((2 : Int), q)]).1 = t := ⟨_, rfl⟩
   have HFe : Hid (Calls Tryz.prog 12 #[.slice (some ⟨F, 0, none⟩) 2 2] W9 fun e w' => e = .returned (.tuple #[.string (sB t), .int .i64 0]) ∧ Below W9.heap.size W9 w') := Lib.hid (by
    have h := fenc_walk [((1 : Int), p), ((2 : Int), q)] (by show 2 ≤ 200; decide) (fun f hf => by
     rcases List.mem_cons.1 hf with rfl | hf
     ·have := HLp.out; show p.length ≤ 4096; omega
     ·rcases List.mem_cons.1 hf with rfl | hf
      ·have := HLq.out; show q.length ≤ 4096; omega
      ·cases hf) W9 (some ⟨F, 0, none⟩) 2 hFr
    rw [HAll.out.1, ht] at h; exact h)
   have htl : (t.length : Int) ≤ 120 + 2 * (s.length : Int) := by have := HAll.out.2; rw [ht] at this; omega
   have szt := sB_size t
   have HB9 := Lib.hid (bstep HB8.out (Nat.le_refl _) hb9)
   clear hb9 hs9 hFr ht HAll
   go_wp2_with fail
   try rw [hW9]
   clear hW9 hF
   refine HFe.out.mono ?_
   rintro z w10 ⟨rfl, hb10⟩
   have HB10 := Lib.hid (bstep HB9.out (Nat.le_refl _) hb10)
   have hw2 : IntKind.i64.wrap (2 * (s.length : Int)) = 2 * (s.length : Int) := IntWalk.i64_in _ (by omega)
   have hw3 : IntKind.i64.wrap (120 + 2 * (s.length : Int)) = 120 + 2 * (s.length : Int) := IntWalk.i64_in _ (by omega)
   clear hb10
   go_wp2_with fail
   go_ret
   exact ⟨rfl, hFin.out _ HB10.out⟩
end Go.Proofs.YtlmjefjimoghcaaGreat
namespace Go.Proofs.YtlmjefjimoghcaaGreat
set_option linter.unusedSimpArgs false
set_option linter.unnecessarySimpa false
set_option linter.unusedVariables false
open Go.RowKit Go.ChangeShapes Go.WideShapes Go.ChangeAt
theorem cells23 : Tryz.prog.cellsOf 23 = 4 := by kernel_rfl
theorem cells3 : Tryz.prog.cellsOf 3 = 1 := by kernel_rfl
section
variable {H : Type} {enc : TypeId × Value → H} {w : World} {base b0 : Nat} {spare : Nat → Bool} {held : Bool}
set_option maxRecDepth 100000 in
theorem clock_cells {fuel : Nat} {cs : List Value} {x : DataW H × List MemPlace} (h : DataW.trod enc Tryz.prog w base spare held fuel 23 cs = some x) : ∃ n s l c : Int, cs = [.int .i64 n, .int .i64 s, .int .i64 l, .int .i64 c] := by
 obtain ⟨xs, n, _, _, hl, hx, hg⟩ := DataW.trod_struct Tryz.underlying23 h
 rw [cells23] at hl
 match cs, hl with
 | [c0, c1, c2, c3], _ =>
  match xs, hx with
  | [y0, y1, y2, y3], _ =>
   have h0 := hg 0 _ rfl
   have h1 := hg 1 _ rfl
   have h2 := hg 2 _ rfl
   have h3 := hg 3 _ rfl
   simp only [List.getElem?_cons_zero, List.getElem?_cons_succ] at h0 h1 h2 h3
   obtain ⟨a, ha, _⟩ := DataW.trod_int Tryz.underlying3 h0
   obtain ⟨b, hb, _⟩ := DataW.trod_int Tryz.underlying3 h1
   obtain ⟨c, hc, _⟩ := DataW.trod_int Tryz.underlying3 h2
   obtain ⟨d, hd, _⟩ := DataW.trod_int Tryz.underlying3 h3
   simp [cells3] at ha hb hc hd
   exact ⟨a, b, c, d, by simp [ha, hb, hc, hd]⟩
set_option maxRecDepth 100000 in
theorem open_clock {r : Reach} {v : Value} {d : DataW H} {p : List MemPlace} (hv : Value.okWide Tryz.prog w r b0 23 v) (h : DataW.Trod enc Tryz.prog w base spare held 23 v d p) : ∃ c : Clk, v = c.val := by
 obtain ⟨cs, rfl, _⟩ := okWide_struct Tryz.underlying23 hv
 obtain ⟨fuel, hf⟩ := h
 obtain ⟨n, s, l, c, e⟩ := clock_cells hf
 refine ⟨⟨n, s, l, c⟩, ?_⟩
 obtain ⟨k⟩ := cs
 simp [Value.cells] at e
 simp [e, Clk.val]
set_option maxRecDepth 100000 in
theorem counter_in {d : DataW H} {p : List MemPlace} (v : Value) (h : DataW.Trod enc Tryz.prog w base spare held 23 v d p) (hv : Value.okWide Tryz.prog w .any b0 23 v) (s : ByteArray) (ws : s.size ≤ maxLen) (t : ByteArray) (wt : t.size ≤ maxLen) (W : World) :
  Calls Tryz.prog 3 #[v, .string s, .string t] W fun e w' => e = .returned (.bool true) ∧ Below W.heap.size W w' := by
 obtain ⟨c, rfl⟩ := open_clock hv h
 obtain ⟨a, rfl⟩ : ∃ b, s = sB b := ⟨s.data.toList, by cases s; simp [sB]⟩
 obtain ⟨b, rfl⟩ : ∃ b, t = sB b := ⟨t.data.toList, by cases t; simp [sB]⟩
 rw [sB_size] at ws wt
 exact counter_law c a b ws wt W
end
end Go.Proofs.YtlmjefjimoghcaaGreat
namespace Go.Proofs.YtlmjefjimoghcaaGreat.topCounter
open Go.ChangeShapes Go.WideShapes Go.ChangeAt Go.RowKit
open Go.ChangeMaps (open_string shut_string)
set_option linter.unusedVariables false
theorem own : ownKnob Tryz.prog.godebug = none := by kernel_rfl
theorem laidOut : laidOutB Tryz.prog = true := by kernel_rfl
set_option maxRecDepth 100000 in
theorem lifted (os : Os) (started : os.Started) (H : Type) (enc : TypeId × Value → H) :
  ReturnsInHanded {} Tryz.checked os 3 .any (Rows.topCounterSpec.pre6 enc Tryz.prog Tryz.f3 Rows.topCounterRow.domain false) (Rows.topCounterSpec.post enc Tryz.prog Tryz.f3 false true false false) := by
 refine returnsInHanded_of_change (C := Tryz.checked) own started (by kernel_rfl) Tryz.func3
  (ChangeSpec.witness6 (enc := enc) (C := Tryz.checked) false ⟨#[], #[.agg #[.int .i64 0, .int .i64 0, .int .i64 0, .int .i64 0], .string ByteArray.empty, .string ByteArray.empty], []⟩ 8 (by kernel_rfl) (by kernel_rfl) (by kernel_rfl) (by kernel_rfl)) ?_
 intro W base args ds gs before hval0 hW hcnd hsz
 have hval : ∀ (j : Nat) t v, Tryz.f3.params[j]? = some t → args[j]? = some v → Value.okWide Tryz.prog W .any base t v := hval0
 have hW' := hW
 obtain ⟨p, q, hA0, hV, rfl, hfz, hnd⟩ := hW
 have hA : DataW.TrodAll enc Tryz.prog W 0 (fun _ => true) true Tryz.f3.params.toList args.toList ds p := hA0
 rw [Tryz.params3] at hA hval
 obtain ⟨v0, vs0, d0, ds0, p0, q0, hargs, rfl, rfl, h0, r0⟩ := trodAll_cons hA
 obtain ⟨v1, vs1, d1, ds1, p1, q1, rfl, rfl, rfl, h1, r1⟩ := trodAll_cons r0
 obtain ⟨v2, vs2, d2, ds2, p2, q2, rfl, rfl, rfl, h2, r2⟩ := trodAll_cons r1
 obtain ⟨rfl, rfl, rfl⟩ := trodAll_nil r2
 obtain rfl : args = #[v0, v1, v2] := by cases args; simp_all
 obtain ⟨rfl, rfl⟩ := trodVars_none hV
 have k0 := h0
 have lt0 : ∀ x ∈ p0, x.block < W.heap.size := by obtain ⟨m, hm⟩ := k0; exact DataW.trod_lt m _ _ _ hm
 have hv0 := hval 0 23 v0 rfl rfl
 obtain ⟨s1, rfl, rfl, rfl, ws1⟩ := open_string Tryz.underlying9 (hval 1 9 v1 rfl rfl) h1
 obtain ⟨s2, rfl, rfl, rfl, ws2⟩ := open_string Tryz.underlying9 (hval 2 9 v2 rfl rfl) h2
 clear hA0 hval0
 refine (counter_in v0 h0 hv0 s1 ws1 s2 ws2 W).mono fun e W' ⟨he, bel⟩ => ?_
 subst he
 exact ⟨_, rfl, _, _, _, [], _, [], hW', trodAll_mk1 (shut_bool Tryz.underlying4 _), (trodAll_cons_mk (Below.trod laidOut (by kernel_rfl) (of_decide_eq_true (by kernel_rfl)) k0 bel lt0) (trodAll_cons_mk (shut_string Tryz.underlying9 ws1) (trodAll_cons_mk (shut_string Tryz.underlying9 ws2) trodAll_mk0))), rfl, bel.frame _, fun h => by cases h⟩
theorem over : Rows.topCounterRow.holds Tryz.pinned (OpenSpec.ofChange Rows.topCounterSpec) :=
 OpenClaim.holds_of_wide 3 Tryz.f3 rfl rfl rfl rfl rfl rfl rfl ⟨rfl, rfl, rfl, rfl, rfl⟩ rfl rfl rfl rfl rfl (by kernel_rfl) Tryz.func3 (by kernel_rfl)
  (of_decide_eq_true (by kernel_rfl)) (by unfold Func.isWrapper; rw [if_neg (of_decide_eq_false (by kernel_rfl))]; exact ⟨rfl, rfl⟩)
  (fun os started H enc _ => lifted os started H enc)
/-- The statement. -/
theorem proved : Rows.TopCounterSaid := over
#print axioms proved
end Go.Proofs.YtlmjefjimoghcaaGreat.topCounter
