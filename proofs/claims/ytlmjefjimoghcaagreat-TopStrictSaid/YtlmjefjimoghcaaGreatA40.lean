/- A part of the proofs of TopCounter and TopStrict: what the functions of the program do, each walked once, and plain laws about it. No condition. -/
import Derived.Test.YtlmjefjimoghcaaGreatA39
namespace Go.Proofs.YtlmjefjimoghcaaGreat
set_option linter.unusedSimpArgs false
set_option linter.unnecessarySimpa false
set_option linter.unusedVariables false
open Go.RowKit
attribute [local go_sem ↓] Go.wp_at_zero Go.wp_at_succ
def RetB (enc : List Str → List UInt8 × Int) (data : List UInt8) (full : List Str → Prop) (w : World) (x : Ending) (w' : World) : Prop := Below w.heap.size w w' ∧ ∃ (l : List Str) (e : Int) (A : Option Addr) (c : Nat), x = .returned (.tuple #[.slice A l.length c, .int .i64 e]) ∧ InS w' A l ∧ l.length ≤ 4096 ∧ (∀ s ∈ l, s.length ≤ 128) ∧ (e = 0 → enc l = (data, 0)) ∧ (∀ y, full y → e = 0 ∧ l = y)
theorem retB_nil {enc : List Str → List UInt8 × Int} {data : List UInt8} {full : List Str → Prop} {w w' : World} {e : Int} (h : Below w.heap.size w w') (he : e ≠ 0) (hf : ∀ y, ¬ full y) : RetB enc data full w (.returned (.tuple #[.slice none 0 0, .int .i64 e])) w' := ⟨h, [], e, none, 0, rfl, flat_nil _ _ _, by simp, (fun s hs => by cases hs), fun h => absurd h he, fun y hy => absurd hy (hf y)⟩
/-- the first coding, in full: y comes back -/
def bcFull (n : Int) (data : List UInt8) (most : Int) (y : List Str) : Prop := (rdN 3 data 0).2.2 = 0 ∧ (rdN 3 data 0).2.1 = 0 ∧ 1 ≤ n ∧ n ≤ 128 ∧ rpF n.toNat (rdN 3 data 0).1 0 = (y, true) ∧ encB n y = (data, 0) ∧ (y.length : Int) ≤ most
theorem rpB_b (n c : Nat) (h128 : n ≤ 128) (hc : c ≤ 4096) (er : Int) (b : List UInt8) : (rpB n c er b).1.length ≤ 4096 ∧ ∀ s ∈ (rpB n c er b).1, s.length ≤ 128 := by
 unfold rpB
 split
 ·refine ⟨by rw [rowsC_len]; exact hc, fun s hs => ?_⟩
  obtain ⟨i, _, rfl⟩ := List.mem_map.1 hs
  rw [rowC_len]; exact h128
 ·exact ⟨by simp, fun s hs => by cases hs⟩
theorem rpF_b (n : Nat) (h128 : n ≤ 128) (l : List UInt8) (er : Int) : (rpF n l er).1.length ≤ 4096 ∧ ∀ s ∈ (rpF n l er).1, s.length ≤ 128 := by
 have hv := rdN_val 4096 l er (by decide)
 exact rpB_b n _ h128 (by omega) _ _
set_option maxRecDepth 100000 in
set_option maxHeartbeats 4000000 in
theorem bdec_walk (n : Int) (data : List UInt8) (hd : data.length ≤ 8000) (most : Int) (w : World) : Calls Tryz.prog 23 #[.int .i64 n, .string (sB data), .int .i64 most] w fun x w' => RetB (encB n) data (bcFull n data most) w x w' := by
 by_cases hn : 1 ≤ n ∧ n ≤ 128
 ·obtain ⟨n, rfl⟩ : ∃ m : Nat, n = (m : Int) := ⟨n.toNat, by omega⟩
  obtain ⟨hn1, hn2⟩ := hn
  have HN : Hid (1 ≤ n ∧ n ≤ 128) := Lib.hid ⟨by omega, by omega⟩
  have HX := Lib.hid (new_rd data w)
  have hv := rdN_val 3 data 0 (by decide)
  have hrl := rdN_len 3 data 0
  obtain ⟨⟨r1, e1, cv⟩, hr⟩ : ∃ r, rdN 3 data 0 = r := ⟨_, rfl⟩
  rw [hr] at hv hrl
  have HRn := Lib.hid hr
  have HRl : Hid (r1.length ≤ 8000) := Lib.hid (by have : r1.length ≤ data.length := hrl; omega)
  have HV := Lib.hid hv
  have HW := Lib.hid fun w => readers_walk w
  clear hd hv hrl hr
  go_enter Tryz.func23, Tryz.ntmps23
  go_wp2_with fail
  refine (HX.out).mono ?_
  rintro x w1 ⟨rfl, hr1, hb1⟩
  have HB1 := Lib.hid hb1
  have HY := Lib.hid (rdN_walk hr1 3)
  rw [HRn.out] at HY
  obtain ⟨R, hRe⟩ : ∃ R, w.heap.size = R := ⟨_, rfl⟩
  rw [hRe] at HY ⊢
  have HRe : Hid (w.heap.size ≤ R) := Lib.hid (Nat.le_of_eq hRe)
  clear hr1 hb1 HX hRe
  go_wp2_with fail
  refine (HY.out).mono ?_
  rintro x w2 ⟨rfl, hr2, ht2⟩
  have HR2 := Lib.hid hr2
  have HB2 := Lib.hid (below_step HB1.out ht2 HRe.out)
  have HEr := Lib.hid (rdR_walk hr2)
  clear hr2 ht2 HY
  go_wp2_with fail
  refine (HEr.out).mono ?_
  rintro x _ ⟨rfl, rfl⟩
  by_cases he : e1 = 0
  ·subst he
   clear HEr
   go_wp2_with fail
   refine (HW.out _).mono ?_
   rintro x w3 ⟨M, f, rfl, hb3, hm, f0, f1, f2, f3⟩
   have HB3 := Lib.hid (bstep HB2.out (Nat.le_refl _) hb3)
   have HR3 : Hid (Rd w3 R r1 0) := Lib.hid (HR2.out.frame (hb3.block R (Array.getElem?_eq_some_iff.1 HR2.out.to).1))
   have hcv : cv = 0 ∨ cv = 1 ∨ cv = 2 ∨ cv = 3 := by have : 0 ≤ cv ∧ cv ≤ 3 := HV.out; omega
   clear hb3 HW
   rcases hcv with rfl | rfl | rfl | rfl
   ·have hlk := mapF_look (kv := kI) keyInt hm (k := 0) trivial Tryz.underlying106 f0 false
    unfold fn kI at hlk
    have HRd := Lib.hid (rplain_walk n HN.out.1 HN.out.2 HR3.out HRl.out)
    clear hm f0 f1 f2 f3
    go_wp2_with fail
    refine (HRd.out).mono ?_
    rintro x w4 ⟨ht4, A, c, rfl, hin4⟩
    have HB4 := Lib.hid (below_step HB3.out ht4 HRe.out)
    have hbd := rpF_b n HN.out.2 r1 0
    obtain ⟨l, hl⟩ : ∃ l, (rpF n r1 0).1 = l := ⟨_, rfl⟩
    obtain ⟨ok, hok⟩ : ∃ ok, (rpF n r1 0).2 = ok := ⟨_, rfl⟩
    have HY : ∀ y, bcFull (n : Int) data most y → ok = true ∧ l = y := fun y hy => by
     have h := hy.2.2.2.2.1
     rw [HRn.out, Int.toNat_natCast] at h
     rw [h] at hl hok
     exact ⟨hok.symm, hl.symm⟩
    rw [hl] at hin4 hbd ⊢
    rw [hok]
    have hin := hin4
    have hl4 := hbd.1
    have hls := hbd.2
    clear ht4 HRd hin4 hbd hl hok hlk
    have HIn := Lib.hid hin
    have HL4 := Lib.hid hl4
    have HLs := Lib.hid hls
    have HYy := Lib.hid HY
    have hE := busE_walk (n : Int) l (by omega) (fun s h => by have := hls s h; omega) w4 A c hin
    obtain ⟨⟨t, e⟩, ht⟩ : ∃ t, encB (n : Int) l = t := ⟨_, rfl⟩
    rw [ht] at hE
    have HEq := Lib.hid ht
    have HE := Lib.hid hE
    have hli : (l.length : Int) ≤ 4096 := by omega
    clear hin hl4 hls HY hE ht
    cases ok with
    | false =>
     go_wp2_with fail
     refine bodyPost_ret (results_tmp2 rfl _ _ _) rfl ?_
     exact retB_nil HB4.out (by decide) fun y h => absurd (HYy.out y h).1 (by decide)
    | true =>
     go_wp2_with fail
     refine (HE.out).mono ?_
     rintro x w5 ⟨rfl, hb5⟩
     have HB5 := Lib.hid (bstep HB4.out (Nat.le_refl _) hb5)
     have HI5 := Lib.hid (HIn.out.mono hb5)
     clear hb5 HE
     by_cases h0 : e = 0
     ·subst h0
      by_cases hq : t = data
      ·have hse := str_eq t data
       have hsn := str_ne t data
       rw [decide_eq_true hq] at hse hsn
       have HQ : Hid (encB (n : Int) l = (data, 0)) := Lib.hid (by rw [HEq.out, hq])
       clear hq
       by_cases hm : most < (l.length : Int)
       ·have HN : Hid (∀ y, ¬ bcFull (n : Int) data most y) := Lib.hid fun y h => by
         obtain ⟨_, h1⟩ := HYy.out y h
         subst h1
         have := h.2.2.2.2.2.2
         omega
        go_wp2_with fail
        refine bodyPost_ret (results_tmp2 rfl _ _ _) rfl ?_
        exact retB_nil HB5.out (by decide) HN.out
       ·go_wp2_with fail
        refine bodyPost_ret (results_tmp2 rfl _ _ _) rfl ?_
        exact ⟨HB5.out, l, 0, A, c, rfl, HI5.out, HL4.out, HLs.out, fun _ => HQ.out, fun y h => ⟨rfl, (HYy.out y h).2⟩⟩
      ·have hse := str_eq t data
       have hsn := str_ne t data
       rw [decide_eq_false hq] at hse hsn
       have HN : Hid (∀ y, ¬ bcFull (n : Int) data most y) := Lib.hid fun y h => by
        obtain ⟨_, h1⟩ := HYy.out y h
        subst h1
        have h2 := h.2.2.2.2.2.1
        rw [HEq.out] at h2
        injection h2 with h2
        exact hq h2
       clear hq
       go_wp2_with fail
       refine bodyPost_ret (results_tmp2 rfl _ _ _) rfl ?_
       exact retB_nil HB5.out (by decide) HN.out
     ·have hen := errne h0
      have HN : Hid (∀ y, ¬ bcFull (n : Int) data most y) := Lib.hid fun y h => by
       obtain ⟨_, h1⟩ := HYy.out y h
       subst h1
       have h2 := h.2.2.2.2.2.1
       rw [HEq.out] at h2
       injection h2 with _ h2
       exact h0 h2
      go_wp2_with fail
      refine bodyPost_ret (results_tmp2 rfl _ _ _) rfl ?_
      exact retB_nil HB5.out (by decide) HN.out
   ·have hlk := mapF_look (kv := kI) keyInt hm (k := 1) trivial Tryz.underlying106 f1 false
    unfold fn kI at hlk
    have hrs : RdS w3 R 8000 := ⟨r1, 0, HR3.out, HRl.out⟩
    have HRd := Lib.hid (rcount_walk n HN.out.1 HN.out.2 hrs (by omega))
    have HNf : Hid (∀ y, ¬ bcFull (n : Int) data most y) := Lib.hid fun y h => by have := h.1; rw [HRn.out] at this; have : (1 : Int) = 0 := this; omega
    clear hm f0 f1 f2 f3 hrs
    go_wp2_with fail
    refine (HRd.out).mono ?_
    rintro x w4 ⟨ht4, l, ok, A, c, rfl, hin, hl4, hls⟩
    have HB4 := Lib.hid (below_step HB3.out ht4 HRe.out)
    have HY : ∀ y, bcFull (n : Int) data most y → ok = true ∧ l = y := fun y hy => absurd hy (HNf.out y)
    clear ht4 HRd hlk
    have HIn := Lib.hid hin
    have HL4 := Lib.hid hl4
    have HLs := Lib.hid hls
    have HYy := Lib.hid HY
    have hE := busE_walk (n : Int) l (by omega) (fun s h => by have := hls s h; omega) w4 A c hin
    obtain ⟨⟨t, e⟩, ht⟩ : ∃ t, encB (n : Int) l = t := ⟨_, rfl⟩
    rw [ht] at hE
    have HEq := Lib.hid ht
    have HE := Lib.hid hE
    have hli : (l.length : Int) ≤ 4096 := by omega
    clear hin hl4 hls HY hE ht
    cases ok with
    | false =>
     go_wp2_with fail
     refine bodyPost_ret (results_tmp2 rfl _ _ _) rfl ?_
     exact retB_nil HB4.out (by decide) fun y h => absurd (HYy.out y h).1 (by decide)
    | true =>
     go_wp2_with fail
     refine (HE.out).mono ?_
     rintro x w5 ⟨rfl, hb5⟩
     have HB5 := Lib.hid (bstep HB4.out (Nat.le_refl _) hb5)
     have HI5 := Lib.hid (HIn.out.mono hb5)
     clear hb5 HE
     by_cases h0 : e = 0
     ·subst h0
      by_cases hq : t = data
      ·have hse := str_eq t data
       have hsn := str_ne t data
       rw [decide_eq_true hq] at hse hsn
       have HQ : Hid (encB (n : Int) l = (data, 0)) := Lib.hid (by rw [HEq.out, hq])
       clear hq
       by_cases hm : most < (l.length : Int)
       ·have HN : Hid (∀ y, ¬ bcFull (n : Int) data most y) := Lib.hid fun y h => by
         obtain ⟨_, h1⟩ := HYy.out y h
         subst h1
         have := h.2.2.2.2.2.2
         omega
        go_wp2_with fail
        refine bodyPost_ret (results_tmp2 rfl _ _ _) rfl ?_
        exact retB_nil HB5.out (by decide) HN.out
       ·go_wp2_with fail
        refine bodyPost_ret (results_tmp2 rfl _ _ _) rfl ?_
        exact ⟨HB5.out, l, 0, A, c, rfl, HI5.out, HL4.out, HLs.out, fun _ => HQ.out, fun y h => ⟨rfl, (HYy.out y h).2⟩⟩
      ·have hse := str_eq t data
       have hsn := str_ne t data
       rw [decide_eq_false hq] at hse hsn
       have HN : Hid (∀ y, ¬ bcFull (n : Int) data most y) := Lib.hid fun y h => by
        obtain ⟨_, h1⟩ := HYy.out y h
        subst h1
        have h2 := h.2.2.2.2.2.1
        rw [HEq.out] at h2
        injection h2 with h2
        exact hq h2
       clear hq
       go_wp2_with fail
       refine bodyPost_ret (results_tmp2 rfl _ _ _) rfl ?_
       exact retB_nil HB5.out (by decide) HN.out
     ·have hen := errne h0
      have HN : Hid (∀ y, ¬ bcFull (n : Int) data most y) := Lib.hid fun y h => by
       obtain ⟨_, h1⟩ := HYy.out y h
       subst h1
       have h2 := h.2.2.2.2.2.1
       rw [HEq.out] at h2
       injection h2 with _ h2
       exact h0 h2
      go_wp2_with fail
      refine bodyPost_ret (results_tmp2 rfl _ _ _) rfl ?_
      exact retB_nil HB5.out (by decide) HN.out
   ·have hlk := mapF_look (kv := kI) keyInt hm (k := 2) trivial Tryz.underlying106 f2 false
    unfold fn kI at hlk
    have hrs : RdS w3 R 8000 := ⟨r1, 0, HR3.out, HRl.out⟩
    have HRd := Lib.hid (rmixed_walk n HN.out.1 HN.out.2 hrs (by omega))
    have HNf : Hid (∀ y, ¬ bcFull (n : Int) data most y) := Lib.hid fun y h => by have := h.1; rw [HRn.out] at this; have : (2 : Int) = 0 := this; omega
    clear hm f0 f1 f2 f3 hrs
    go_wp2_with fail
    refine (HRd.out).mono ?_
    rintro x w4 hrp
    obtain ⟨ht4, l, ok, A, c, rfl, hin, hl4, hls⟩ := hrp.rd HN.out.2
    have HB4 := Lib.hid (below_step HB3.out ht4 HRe.out)
    have HY : ∀ y, bcFull (n : Int) data most y → ok = true ∧ l = y := fun y hy => absurd hy (HNf.out y)
    clear ht4 HRd hlk hrp
    have HIn := Lib.hid hin
    have HL4 := Lib.hid hl4
    have HLs := Lib.hid hls
    have HYy := Lib.hid HY
    have hE := busE_walk (n : Int) l (by omega) (fun s h => by have := hls s h; omega) w4 A c hin
    obtain ⟨⟨t, e⟩, ht⟩ : ∃ t, encB (n : Int) l = t := ⟨_, rfl⟩
    rw [ht] at hE
    have HEq := Lib.hid ht
    have HE := Lib.hid hE
    have hli : (l.length : Int) ≤ 4096 := by omega
    clear hin hl4 hls HY hE ht
    cases ok with
    | false =>
     go_wp2_with fail
     refine bodyPost_ret (results_tmp2 rfl _ _ _) rfl ?_
     exact retB_nil HB4.out (by decide) fun y h => absurd (HYy.out y h).1 (by decide)
    | true =>
     go_wp2_with fail
     refine (HE.out).mono ?_
     rintro x w5 ⟨rfl, hb5⟩
     have HB5 := Lib.hid (bstep HB4.out (Nat.le_refl _) hb5)
     have HI5 := Lib.hid (HIn.out.mono hb5)
     clear hb5 HE
     by_cases h0 : e = 0
     ·subst h0
      by_cases hq : t = data
      ·have hse := str_eq t data
       have hsn := str_ne t data
       rw [decide_eq_true hq] at hse hsn
       have HQ : Hid (encB (n : Int) l = (data, 0)) := Lib.hid (by rw [HEq.out, hq])
       clear hq
       by_cases hm : most < (l.length : Int)
       ·have HN : Hid (∀ y, ¬ bcFull (n : Int) data most y) := Lib.hid fun y h => by
         obtain ⟨_, h1⟩ := HYy.out y h
         subst h1
         have := h.2.2.2.2.2.2
         omega
        go_wp2_with fail
        refine bodyPost_ret (results_tmp2 rfl _ _ _) rfl ?_
        exact retB_nil HB5.out (by decide) HN.out
       ·go_wp2_with fail
        refine bodyPost_ret (results_tmp2 rfl _ _ _) rfl ?_
        exact ⟨HB5.out, l, 0, A, c, rfl, HI5.out, HL4.out, HLs.out, fun _ => HQ.out, fun y h => ⟨rfl, (HYy.out y h).2⟩⟩
      ·have hse := str_eq t data
       have hsn := str_ne t data
       rw [decide_eq_false hq] at hse hsn
       have HN : Hid (∀ y, ¬ bcFull (n : Int) data most y) := Lib.hid fun y h => by
        obtain ⟨_, h1⟩ := HYy.out y h
        subst h1
        have h2 := h.2.2.2.2.2.1
        rw [HEq.out] at h2
        injection h2 with h2
        exact hq h2
       clear hq
       go_wp2_with fail
       refine bodyPost_ret (results_tmp2 rfl _ _ _) rfl ?_
       exact retB_nil HB5.out (by decide) HN.out
     ·have hen := errne h0
      have HN : Hid (∀ y, ¬ bcFull (n : Int) data most y) := Lib.hid fun y h => by
       obtain ⟨_, h1⟩ := HYy.out y h
       subst h1
       have h2 := h.2.2.2.2.2.1
       rw [HEq.out] at h2
       injection h2 with _ h2
       exact h0 h2
      go_wp2_with fail
      refine bodyPost_ret (results_tmp2 rfl _ _ _) rfl ?_
      exact retB_nil HB5.out (by decide) HN.out
   ·have hlk := mapF_look (kv := kI) keyInt hm (k := 3) trivial Tryz.underlying106 f3 false
    unfold fn kI at hlk
    have hrs : RdS w3 R 8000 := ⟨r1, 0, HR3.out, HRl.out⟩
    have HRd := Lib.hid (rwords_walk n HN.out.1 HN.out.2 hrs (by omega))
    have HNf : Hid (∀ y, ¬ bcFull (n : Int) data most y) := Lib.hid fun y h => by have := h.1; rw [HRn.out] at this; have : (3 : Int) = 0 := this; omega
    clear hm f0 f1 f2 f3 hrs
    go_wp2_with fail
    refine (HRd.out).mono ?_
    rintro x w4 hrp
    obtain ⟨ht4, l, ok, A, c, rfl, hin, hl4, hls⟩ := hrp.rd HN.out.2
    have HB4 := Lib.hid (below_step HB3.out ht4 HRe.out)
    have HY : ∀ y, bcFull (n : Int) data most y → ok = true ∧ l = y := fun y hy => absurd hy (HNf.out y)
    clear ht4 HRd hlk hrp
    have HIn := Lib.hid hin
    have HL4 := Lib.hid hl4
    have HLs := Lib.hid hls
    have HYy := Lib.hid HY
    have hE := busE_walk (n : Int) l (by omega) (fun s h => by have := hls s h; omega) w4 A c hin
    obtain ⟨⟨t, e⟩, ht⟩ : ∃ t, encB (n : Int) l = t := ⟨_, rfl⟩
    rw [ht] at hE
    have HEq := Lib.hid ht
    have HE := Lib.hid hE
    have hli : (l.length : Int) ≤ 4096 := by omega
    clear hin hl4 hls HY hE ht
    cases ok with
    | false =>
     go_wp2_with fail
     refine bodyPost_ret (results_tmp2 rfl _ _ _) rfl ?_
     exact retB_nil HB4.out (by decide) fun y h => absurd (HYy.out y h).1 (by decide)
    | true =>
     go_wp2_with fail
     refine (HE.out).mono ?_
     rintro x w5 ⟨rfl, hb5⟩
     have HB5 := Lib.hid (bstep HB4.out (Nat.le_refl _) hb5)
     have HI5 := Lib.hid (HIn.out.mono hb5)
     clear hb5 HE
     by_cases h0 : e = 0
     ·subst h0
      by_cases hq : t = data
      ·have hse := str_eq t data
       have hsn := str_ne t data
       rw [decide_eq_true hq] at hse hsn
       have HQ : Hid (encB (n : Int) l = (data, 0)) := Lib.hid (by rw [HEq.out, hq])
       clear hq
       by_cases hm : most < (l.length : Int)
       ·have HN : Hid (∀ y, ¬ bcFull (n : Int) data most y) := Lib.hid fun y h => by
         obtain ⟨_, h1⟩ := HYy.out y h
         subst h1
         have := h.2.2.2.2.2.2
         omega
        go_wp2_with fail
        refine bodyPost_ret (results_tmp2 rfl _ _ _) rfl ?_
        exact retB_nil HB5.out (by decide) HN.out
       ·go_wp2_with fail
        refine bodyPost_ret (results_tmp2 rfl _ _ _) rfl ?_
        exact ⟨HB5.out, l, 0, A, c, rfl, HI5.out, HL4.out, HLs.out, fun _ => HQ.out, fun y h => ⟨rfl, (HYy.out y h).2⟩⟩
      ·have hse := str_eq t data
       have hsn := str_ne t data
       rw [decide_eq_false hq] at hse hsn
       have HN : Hid (∀ y, ¬ bcFull (n : Int) data most y) := Lib.hid fun y h => by
        obtain ⟨_, h1⟩ := HYy.out y h
        subst h1
        have h2 := h.2.2.2.2.2.1
        rw [HEq.out] at h2
        injection h2 with h2
        exact hq h2
       clear hq
       go_wp2_with fail
       refine bodyPost_ret (results_tmp2 rfl _ _ _) rfl ?_
       exact retB_nil HB5.out (by decide) HN.out
     ·have hen := errne h0
      have HN : Hid (∀ y, ¬ bcFull (n : Int) data most y) := Lib.hid fun y h => by
       obtain ⟨_, h1⟩ := HYy.out y h
       subst h1
       have h2 := h.2.2.2.2.2.1
       rw [HEq.out] at h2
       injection h2 with _ h2
       exact h0 h2
      go_wp2_with fail
      refine bodyPost_ret (results_tmp2 rfl _ _ _) rfl ?_
      exact retB_nil HB5.out (by decide) HN.out
  ·have hen := errne he
   have HNf : Hid (∀ y, ¬ bcFull (n : Int) data most y) := Lib.hid fun y h => by have := h.2.1; rw [HRn.out] at this; exact he this
   clear he
   go_wp2_with fail
   refine bodyPost_ret (results_tmp2 rfl _ _ _) rfl ?_
   exact retB_nil HB2.out (by decide) HNf.out
 ·have HNf : Hid (∀ y, ¬ bcFull n data most y) := Lib.hid fun y h => hn ⟨h.2.2.1, h.2.2.2.1⟩
  by_cases h1 : n < 1
  ·clear hn hd
   go_enter Tryz.func23, Tryz.ntmps23
   go_wp2_with fail
   refine bodyPost_ret (results_tmp2 rfl _ _ _) rfl ?_
   exact retB_nil (.refl _ _) (by decide) HNf.out
  ·have h2 : 128 < n := by omega
   clear hn hd
   go_enter Tryz.func23, Tryz.ntmps23
   go_wp2_with fail
   refine bodyPost_ret (results_tmp2 rfl _ _ _) rfl ?_
   exact retB_nil (.refl _ _) (by decide) HNf.out
end Go.Proofs.YtlmjefjimoghcaaGreat
