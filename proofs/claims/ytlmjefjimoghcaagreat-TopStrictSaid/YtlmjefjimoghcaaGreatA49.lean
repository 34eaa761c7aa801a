/- A part of the proofs of TopCounter and TopStrict: what the functions of the program do, each walked once, and plain laws about it. No condition. -/
import Derived.Test.YtlmjefjimoghcaaGreatA48
namespace Go.Proofs.YtlmjefjimoghcaaGreat
set_option linter.unusedSimpArgs false
set_option linter.unnecessarySimpa false
set_option linter.unusedVariables false
open Go.RowKit
attribute [local go_sem ↓] Go.wp_at_zero Go.wp_at_succ
theorem fr2 {w : World} {R : Nat} {a b : Value} (h : w.heap[R]? = some (.cells #[a, b] 39 (0, 0))) : w.cell? ⟨R, 0, none⟩ = some a ∧ w.cell? ⟨R, 1, none⟩ = some b := by
 refine ⟨?_, ?_⟩ <;> rw [cell_of_row w R _ _ _ _ h] <;> rfl
theorem set2 {w : World} {R : Nat} {a b : Value} (h : w.heap[R]? = some (.cells #[a, b] 39 (0, 0))) (a' b' : Value) : ((w.setCell ⟨R, 0, none⟩ a').setCell ⟨R, 1, none⟩ b').heap[R]? = some (.cells #[a', b'] 39 (0, 0)) :=
 heap_setCell_any _ R 1 _ _ _ _ (heap_setCell_any w R 0 _ _ _ _ h)
set_option maxRecDepth 100000 in
theorem none_walk (w : World) : Calls Tryz.prog 151 #[] w fun x w' => x = .returned (.tuple #[.agg #[.int .i64 0, .string ⟨#[]⟩], .int .i64 0, .bool false, .bool false]) ∧ Below w.heap.size w w' := by
 go_enter Tryz.func151, Tryz.ntmps151
 go_wp2_with fail
 obtain ⟨R, hR⟩ : ∃ R, w.heap.size = R := ⟨_, rfl⟩
 obtain ⟨W0, hW0⟩ : ∃ W, w.alloc (.cells #[.int .i64 0, .string ⟨#[]⟩] 39) = W := ⟨_, rfl⟩
 have hb0 : Below w.heap.size w W0 := by rw [← hW0]; exact (Below.refl _ _).alloc (Nat.le_refl _) _
 have hr0 : W0.heap[R]? = some (.cells #[.int .i64 0, .string ⟨#[]⟩] 39 (0, 0)) := by rw [← hW0, ← hR]; exact heap_alloc_new _ _
 obtain ⟨d0, d1⟩ := fr2 hr0
 rw [hW0, hR]
 refine bodyPost_ret (v := .tuple #[.agg #[.int .i64 0, .string ⟨#[]⟩], .int .i64 0, .bool false, .bool false]) ?_ rfl ⟨rfl, by rw [← hR]; exact hb0⟩
 have hres : Tryz.f151.results = #[.cell 0 39, .tmp 1, .tmp 2, .tmp 3] := rfl
 simp [results, hres, d0, d1, go_sem]
theorem tm16 (N : Nat) : (N : Int).tmod 16 = ((N % 16 : Nat) : Int) := by rw [Int.tmod_eq_emod_of_nonneg (by omega)]; rfl
/-- the front of data is a frame that is not compressed -/
structure PfF (data : List UInt8) (k : Nat) (c : List UInt8) (n : Nat) : Prop where
 l2 : 2 ≤ data.length
 m : gB data 0 = 165
 kk : (gB data 1).toNat = k
 k16 : k < 16
 body : (rdX 4096 (data.drop 2) 0).2.2 = c
 er : (rdT 4 (rdX 4096 (data.drop 2) 0).1 (rdX 4096 (data.drop 2) 0).2.1).2.1 = 0
 sz : n + (rdT 4 (rdX 4096 (data.drop 2) 0).1 (rdX 4096 (data.drop 2) 0).2.1).1.length = data.length
 op : K.opens (data.take n) = true
 wr : wrapF (k : Int) c = (data.take n, 0)
def ParF (data : List UInt8) (w : World) (x : Ending) (w' : World) : Prop := Below w.heap.size w w' ∧ ∃ (k : Int) (c : List UInt8) (n : Int) (sm ok : Bool), x = .returned (.tuple #[.agg #[.int .i64 k, .string (sB c)], .int .i64 n, .bool sm, .bool ok]) ∧ (ok = true → 0 < n ∧ n ≤ data.length ∧ c.length ≤ 4096 ∧ wrapF k c = (data.take n.toNat, 0)) ∧ ∀ k' c' n', PfF data k' c' n' → ok = true ∧ k = (k' : Int) ∧ c = c' ∧ n = (n' : Int)
theorem parF_nil {data : List UInt8} {w w' : World} (h : Below w.heap.size w w') (hn : ∀ k c n, ¬ PfF data k c n) : ParF data w (.returned (.tuple #[.agg #[.int .i64 0, .string ⟨#[]⟩], .int .i64 0, .bool false, .bool false])) w' := ⟨h, 0, [], 0, false, false, rfl, (fun h => by cases h), fun k c n h => absurd h (hn k c n)⟩
set_option maxRecDepth 100000 in
set_option maxHeartbeats 4000000 in
theorem parse_f_walk (data : List UInt8) (hd : data.length ≤ 100000) (w : World) : Calls Tryz.prog 116 #[.string (sB data)] w fun x w' => ParF data w x w' := by
 have hsz := sB_size data
 obtain ⟨W0, hW0⟩ : ∃ W, w.alloc (.cells #[.int .i64 0, .string ⟨#[]⟩] 39) = W := ⟨_, rfl⟩
 have hb0 : Below w.heap.size w W0 := by rw [← hW0]; exact (Below.refl _ _).alloc (Nat.le_refl _) _
 obtain ⟨R, hR⟩ : ∃ R, w.heap.size = R := ⟨_, rfl⟩
 have hr0 : W0.heap[R]? = some (.cells #[.int .i64 0, .string ⟨#[]⟩] 39 (0, 0)) := by rw [← hW0, ← hR]; exact heap_alloc_new _ _
 have HR0 := Lib.hid hr0
 have HB0 := Lib.hid hb0
 have HW0 := Lib.hid hW0
 have HRq := Lib.hid hR
 have HRe : Hid (w.heap.size ≤ R) := Lib.hid (Nat.le_of_eq hR)
 have hdi : (data.length : Int) ≤ 100000 := by omega
 have HDl := Lib.hid hd
 have HBk : Hid (Below W0.heap.size W0 W0) := Lib.hid (.refl _ _)
 clear hb0 hr0 hW0 hR hd
 by_cases h2 : data.length < 2
 ·have HNo : Hid (∀ k c n, ¬ PfF data k c n) := Lib.hid fun k c n h => by have := h.l2; omega
  have h2i : (data.length : Int) < 2 := by omega
  clear h2
  go_enter Tryz.func116, Tryz.ntmps116
  go_upto_region 1 with (fail)
  rw [HW0.out, HRq.out]
  go_wp2_with fail
  refine (none_walk _).mono ?_
  rintro x wn ⟨rfl, hbn⟩
  have hbR := bstep HBk.out (Nat.le_refl _) hbn
  have hrn := (hbR.block R (Array.getElem?_eq_some_iff.1 HR0.out).1).trans HR0.out
  have hbn2 := bstep HB0.out (Nat.le_refl _) hbR
  obtain ⟨d0, d1⟩ := fr2 hrn
  have hfr := fr_of hrn
  have HRn := Lib.hid hrn
  have HBn := Lib.hid hbn2
  clear hbn hbR hrn hbn2
  go_wp2_with fail
  clear d0 d1 hfr
  obtain ⟨WF, hWF⟩ : ∃ W, (wn.setCell ⟨R, 0, none⟩ (.int .i64 0)).setCell ⟨R, 1, none⟩ (.string ⟨#[]⟩) = W := ⟨_, rfl⟩
  have hrF : WF.heap[R]? = some (.cells #[.int .i64 0, .string ⟨#[]⟩] 39 (0, 0)) := by rw [← hWF]; exact set2 HRn.out _ _
  obtain ⟨d0, d1⟩ := fr2 hrF
  have hbF : Below w.heap.size w WF := by rw [← hWF]; exact (HBn.out.setCell (p := ⟨R, 0, none⟩) HRe.out _).setCell (p := ⟨R, 1, none⟩) HRe.out _
  rw [hWF]
  refine bodyPost_ret (v := .tuple #[.agg #[.int .i64 0, .string ⟨#[]⟩], .int .i64 0, .bool false, .bool false]) ?_ rfl (parF_nil hbF HNo.out)
  have hres : Tryz.f116.results = #[.cell 2 39, .tmp 3, .tmp 4, .tmp 5] := rfl
  simp [results, hres, d0, d1, go_sem]
 have h2i : ¬ (data.length : Int) < 2 := by omega
 have G0 := sB_at (s := data) (i := 0) (by omega)
 have G1 := sB_at (s := data) (i := 1) (by omega)
 have hl0 : 0 < data.length := by omega
 have hl1 : 1 < data.length := by omega
 have hl1i : (1 : Int) < data.length := by omega
 have hl0i : (0 : Int) < data.length := by omega
 obtain ⟨x0, hx0⟩ : ∃ x, gB data 0 = x := ⟨_, rfl⟩
 obtain ⟨y, hy⟩ : ∃ x, gB data 1 = x := ⟨_, rfl⟩
 rw [hx0] at G0
 rw [hy] at G1
 by_cases h165 : x0 = 165
 ·have hne : ((x0.toNat : Int) != 165) = false := by rw [h165]; rfl
  by_cases h32 : 32 ≤ (y.toNat : Int)
  ·have HNo : Hid (∀ k c n, ¬ PfF data k c n) := Lib.hid fun k c n h => by have h1 := h.kk; have h2 := h.k16; rw [hy] at h1; omega
   clear h2 hx0 hy h165
   go_enter Tryz.func116, Tryz.ntmps116
   go_upto_region 1 with (fail)
   rw [HW0.out, HRq.out]
   go_wp2_with fail
   refine (none_walk _).mono ?_
   rintro x wn ⟨rfl, hbn⟩
   have hbR := bstep HBk.out (Nat.le_refl _) hbn
   have hrn := (hbR.block R (Array.getElem?_eq_some_iff.1 HR0.out).1).trans HR0.out
   have hbn2 := bstep HB0.out (Nat.le_refl _) hbR
   obtain ⟨d0, d1⟩ := fr2 hrn
   have hfr := fr_of hrn
   have HRn := Lib.hid hrn
   have HBn := Lib.hid hbn2
   clear hbn hbR hrn hbn2
   go_wp2_with fail
   clear d0 d1 hfr
   obtain ⟨WF, hWF⟩ : ∃ W, (wn.setCell ⟨R, 0, none⟩ (.int .i64 0)).setCell ⟨R, 1, none⟩ (.string ⟨#[]⟩) = W := ⟨_, rfl⟩
   have hrF : WF.heap[R]? = some (.cells #[.int .i64 0, .string ⟨#[]⟩] 39 (0, 0)) := by rw [← hWF]; exact set2 HRn.out _ _
   obtain ⟨d0, d1⟩ := fr2 hrF
   have hbF : Below w.heap.size w WF := by rw [← hWF]; exact (HBn.out.setCell (p := ⟨R, 0, none⟩) HRe.out _).setCell (p := ⟨R, 1, none⟩) HRe.out _
   rw [hWF]
   refine bodyPost_ret (v := .tuple #[.agg #[.int .i64 0, .string ⟨#[]⟩], .int .i64 0, .bool false, .bool false]) ?_ rfl (parF_nil hbF HNo.out)
   have hres : Tryz.f116.results = #[.cell 2 39, .tmp 3, .tmp 4, .tmp 5] := rfl
   simp [results, hres, d0, d1, go_sem]
  ·have HX0 : Hid (gB data 0 = 165 ∧ gB data 1 = y) := Lib.hid ⟨by rw [hx0, h165], hy⟩
   have HL2 : Hid (2 ≤ data.length) := Lib.hid (by omega)
   have hx2 : (sB data).extract 2 data.length = sB (data.drop 2) := by rw [sB_ext, List.take_length]
   have HNr := Lib.hid fun w => new_rd (data.drop 2) w
   clear h2 hx0 hy h165
   go_enter Tryz.func116, Tryz.ntmps116
   go_upto_region 1 with (fail)
   rw [HW0.out, HRq.out]
   go_wp2_with fail
   refine (HNr.out _).mono ?_
   rintro x w1 ⟨rfl, hr1, hb1⟩
   obtain ⟨Q, hQ⟩ : ∃ Q, W0.heap.size = Q := ⟨_, rfl⟩
   rw [hQ] at hr1 ⊢
   have HQe : Hid (W0.heap.size ≤ Q) := Lib.hid (Nat.le_of_eq hQ)
   have HBk := Lib.hid hb1
   have hX := rdX_walk hr1 4096
   have hv := rdX_val 4096 (data.drop 2) 0 (by decide)
   have hl := rdX_len 4096 (data.drop 2) 0
   obtain ⟨⟨l1, e1, body⟩, ha⟩ : ∃ a, rdX 4096 (data.drop 2) 0 = a := ⟨_, rfl⟩
   rw [ha] at hX hv hl
   have HX := Lib.hid hX
   have HA := Lib.hid ha
   have hl2 := rdT_len 4 l1 e1
   obtain ⟨⟨l2, e2, q4⟩, hb⟩ : ∃ b, rdT 4 l1 e1 = b := ⟨_, rfl⟩
   rw [hb] at hl2
   try simp only at hv hl hl2
   rw [List.length_drop] at hl
   have HBt := Lib.hid hb
   have HBl : Hid (body.length ≤ 4096) := Lib.hid (by omega)
   obtain ⟨sz, hsze⟩ : ∃ sz, data.length - l2.length = sz := ⟨_, rfl⟩
   have HL := HL2.out
   have HSz : Hid (sz + l2.length = data.length ∧ 0 < sz ∧ sz ≤ data.length) := Lib.hid ⟨by omega, by omega, by omega⟩
   have hszi : (data.length : Int) - l2.length = (sz : Int) := by omega
   have hszb : (sz : Int) ≤ data.length := by omega
   have hszn : sz ≤ data.length := by omega
   clear hb1 hr1 hQ hX hv hl ha hb hl2 hsze HL HNr
   go_wp2_with fail
   refine (HX.out).mono ?_
   rintro x w2 ⟨rfl, hr2, ht2⟩
   have HBk := Lib.hid (below_step HBk.out ht2 HQe.out)
   have hY := rdT_walk hr2 4
   try simp only at hY
   rw [HBt.out] at hY
   have HY := Lib.hid hY
   clear hr2 ht2 hY HX
   go_wp2_with fail
   refine (HY.out).mono ?_
   rintro x w3 ⟨rfl, hr3, ht3⟩
   have HBk := Lib.hid (below_step HBk.out ht3 HQe.out)
   have HRr := Lib.hid (rdR_walk hr3)
   have HLr := Lib.hid (rdL_walk hr3)
   clear hr3 ht3 HY
   try simp only at HRr HLr
   go_wp2_with fail
   refine (HRr.out).mono ?_
   rintro x _ ⟨rfl, rfl⟩
   by_cases her : e2 = 0
   ·subst her
    have hx3 : (sB data).extract 0 sz = sB (data.take sz) := by rw [sB_ext, List.drop_zero]
    have htl : (sB (data.take sz)).size ≤ 1048576 := by rw [sB_size, List.length_take]; have := HDl.out; omega
    clear hx2
    go_wp2_with fail
    refine (HLr.out).mono ?_
    rintro x _ ⟨rfl, rfl⟩
    by_cases hop : K.opens (data.take sz) = true
    ·have HOp := Lib.hid (K.open_yes (sB (data.take sz)) htl hop w3)
     have HOq := Lib.hid hop
     clear hop htl
     go_wp2_with fail
     refine (HOp.out).mono ?_
     rintro x _ ⟨rfl, rfl⟩
     obtain ⟨kk, hkk⟩ : ∃ kk, y.toNat % 16 = kk := ⟨_, rfl⟩
     have hmod := tm16 y.toNat
     rw [hkk] at hmod
     have hkb : (kk : Int) < 16 := by omega
     have HKk := Lib.hid hkk
     have hyu : (y.toNat : Int) < 256 := by have := y.toNat_lt; omega
     clear hkk
     by_cases hsm : 16 ≤ y.toNat
     ·have hsi : (16 : Int) ≤ y.toNat := by omega
      have hdec : decide ((16 : Int) ≤ (y.toNat : Int)) = true := by simp; omega
      have HD := Lib.hid fun w => lzdec_walk body (by have := HBl.out; omega) 4096 w
      have HNs : Hid (∀ k c n, ¬ PfF data k c n) := Lib.hid fun k c n h => by have h1 := h.kk; have h2 := h.k16; rw [HX0.out.2] at h1; omega
      clear hsm
      obtain ⟨F, hF⟩ : ∃ F, w3.heap.size = F := ⟨_, rfl⟩
      obtain ⟨W4, hW4⟩ : ∃ W, w3.alloc (.cells #[.int .i64 (kk : Int), .string (sB body)] 39) = W := ⟨_, rfl⟩
      have hf4 : W4.heap[F]? = some (.cells #[.int .i64 (kk : Int), .string (sB body)] 39 (0, 0)) := by rw [← hW4, ← hF]; exact heap_alloc_new _ _
      have HFe : Hid (W0.heap.size ≤ F) := Lib.hid (by have := HBk.out.size; omega)
      have HBk : Hid (Below W0.heap.size W0 W4) := Lib.hid (by rw [← hW4]; exact HBk.out.alloc HBk.out.size _)
      have HF4 := Lib.hid hf4
      have HW4 := Lib.hid hW4
      have HFq := Lib.hid hF
      clear hf4 hW4 hF
      go_upto_region 14 with (fail)
      rw [HW4.out, HFq.out]
      go_wp2_with fail
      refine (HD.out _).mono ?_
      rintro x w5 ⟨hb5, s, e, rfl, hs4, -⟩
      have hf5 := (hb5.block F (Array.getElem?_eq_some_iff.1 HF4.out).1).trans HF4.out
      have HF5 := Lib.hid hf5
      have HBk := Lib.hid (bstep HBk.out (Nat.le_refl _) hb5)
      have HCc := Lib.hid hs4
      clear hb5 hs4 hf5 HD
      by_cases he : e = 0
      ·subst he
       obtain ⟨f0, f1⟩ := fr2 HF5.out
       have hfrf := fr_of HF5.out
       obtain ⟨cc, hcc⟩ : ∃ c, c = s := ⟨_, rfl⟩
       subst hcc
       have HFull : Hid (∀ k' c' n', PfF data k' c' n' → true = true ∧ (kk : Int) = (k' : Int) ∧ cc = c' ∧ (sz : Int) = (n' : Int)) := Lib.hid fun k c n h => absurd h (HNs.out k c n)
       have HFb : Hid ((w5.setCell ⟨F, 1, none⟩ (.string (sB cc))).heap[F]? = some (.cells #[.int .i64 (kk : Int), .string (sB cc)] 39 (0, 0))) := Lib.hid (heap_setCell_any w5 F 1 _ _ _ _ HF5.out)
       have HBk : Hid (Below W0.heap.size W0 (w5.setCell ⟨F, 1, none⟩ (.string (sB cc)))) := Lib.hid (HBk.out.setCell (p := ⟨F, 1, none⟩) HFe.out _)
       go_upto_region 20 with (fail)
       obtain ⟨w6, hw6⟩ : ∃ W, w5.setCell ⟨F, 1, none⟩ (.string (sB cc)) = W := ⟨_, rfl⟩
       rw [hw6] at HFb HBk ⊢
       clear hw6 f0 f1 hfrf
       have hw := fun w => wrap_walk (kk : Int) cc HCc.out w
       obtain ⟨⟨t, e3⟩, ht⟩ : ∃ r, wrapF (kk : Int) cc = r := ⟨_, rfl⟩
       rw [ht] at hw
       have HW := Lib.hid hw
       have HTt := Lib.hid ht
       clear hw ht
       obtain ⟨f0, f1⟩ := fr2 HFb.out
       go_wp2_with fail
       refine (HW.out _).mono ?_
       rintro x w7 ⟨rfl, hb7⟩
       have hf7 := (hb7.block F (Array.getElem?_eq_some_iff.1 HFb.out).1).trans HFb.out
       have HF7 := Lib.hid hf7
       have HBk := Lib.hid (bstep HBk.out (Nat.le_refl _) hb7)
       clear hb7 hf7 f0 f1 HW
       by_cases h0 : e3 = 0
       ·subst h0
        by_cases hq : t = data.take sz
        ·have hse := str_eq t (data.take sz)
         have hsn := str_ne t (data.take sz)
         rw [decide_eq_true hq] at hse hsn
         have HQ : Hid (wrapF (kk : Int) cc = (data.take sz, 0)) := Lib.hid (by rw [HTt.out, hq])
         clear hq
         have hr7 := (HBk.out.block R (Array.getElem?_eq_some_iff.1 HR0.out).1).trans HR0.out
         have HR7 := Lib.hid hr7
         obtain ⟨d0, d1⟩ := fr2 hr7
         obtain ⟨f0, f1⟩ := fr2 HF7.out
         have hfr := fr_of hr7
         have HBn := Lib.hid (bstep HB0.out (Nat.le_refl _) HBk.out)
         clear hr7
         go_wp2_with fail
         clear d0 d1 hfr f0 f1
         obtain ⟨WF, hWF⟩ : ∃ W, (w7.setCell ⟨R, 0, none⟩ (.int .i64 (kk : Int))).setCell ⟨R, 1, none⟩ (.string (sB cc)) = W := ⟨_, rfl⟩
         have hrF : WF.heap[R]? = some (.cells #[.int .i64 (kk : Int), .string (sB cc)] 39 (0, 0)) := by rw [← hWF]; exact set2 HR7.out _ _
         obtain ⟨d0, d1⟩ := fr2 hrF
         have hbF : Below w.heap.size w WF := by rw [← hWF]; exact (HBn.out.setCell (p := ⟨R, 0, none⟩) HRe.out _).setCell (p := ⟨R, 1, none⟩) HRe.out _
         rw [hWF]
         refine bodyPost_ret (v := .tuple #[.agg #[.int .i64 (kk : Int), .string (sB cc)], .int .i64 (sz : Int), .bool true, .bool true]) ?_ rfl ⟨hbF, (kk : Int), cc, (sz : Int), true, true, rfl, fun _ => ⟨by have := HSz.out; omega, by have := HSz.out; omega, HCc.out, by rw [Int.toNat_natCast]; exact HQ.out⟩, fun k' c' n' h => ⟨rfl, (HFull.out k' c' n' h).2⟩⟩
         have hres : Tryz.f116.results = #[.cell 2 39, .tmp 3, .tmp 4, .tmp 5] := rfl
         simp [results, hres, d0, d1, go_sem]
        ·have hse := str_eq t (data.take sz)
         have hsn := str_ne t (data.take sz)
         rw [decide_eq_false hq] at hse hsn
         have HNo : Hid (∀ k c n, ¬ PfF data k c n) := Lib.hid fun k c n h => by
          obtain ⟨-, h1, h2, h3⟩ := HFull.out k c n h
          have h4 := h.wr
          have h3' : sz = n := by omega
          rw [← h1, ← h2, ← h3', HTt.out] at h4
          injection h4 with h4
          exact hq h4
         clear hq
         go_wp2_with fail
         refine (none_walk _).mono ?_
         rintro x wn ⟨rfl, hbn⟩
         have hbR := bstep HBk.out (Nat.le_refl _) hbn
         have hrn := (hbR.block R (Array.getElem?_eq_some_iff.1 HR0.out).1).trans HR0.out
         have hbn2 := bstep HB0.out (Nat.le_refl _) hbR
         obtain ⟨d0, d1⟩ := fr2 hrn
         have hfr := fr_of hrn
         have HRn := Lib.hid hrn
         have HBn := Lib.hid hbn2
         clear hbn hbR hrn hbn2
         go_wp2_with fail
         clear d0 d1 hfr
         obtain ⟨WF, hWF⟩ : ∃ W, (wn.setCell ⟨R, 0, none⟩ (.int .i64 0)).setCell ⟨R, 1, none⟩ (.string ⟨#[]⟩) = W := ⟨_, rfl⟩
         have hrF : WF.heap[R]? = some (.cells #[.int .i64 0, .string ⟨#[]⟩] 39 (0, 0)) := by rw [← hWF]; exact set2 HRn.out _ _
         obtain ⟨d0, d1⟩ := fr2 hrF
         have hbF : Below w.heap.size w WF := by rw [← hWF]; exact (HBn.out.setCell (p := ⟨R, 0, none⟩) HRe.out _).setCell (p := ⟨R, 1, none⟩) HRe.out _
         rw [hWF]
         refine bodyPost_ret (v := .tuple #[.agg #[.int .i64 0, .string ⟨#[]⟩], .int .i64 0, .bool false, .bool false]) ?_ rfl (parF_nil hbF HNo.out)
         have hres : Tryz.f116.results = #[.cell 2 39, .tmp 3, .tmp 4, .tmp 5] := rfl
         simp [results, hres, d0, d1, go_sem]
       ·have hen := errne h0
        have HNo : Hid (∀ k c n, ¬ PfF data k c n) := Lib.hid fun k c n h => by
         obtain ⟨-, h1, h2, h3⟩ := HFull.out k c n h
         have h4 := h.wr
         rw [← h1, ← h2, HTt.out] at h4
         injection h4 with _ h4
         exact h0 h4
        clear h0
        go_wp2_with fail
        refine (none_walk _).mono ?_
        rintro x wn ⟨rfl, hbn⟩
        have hbR := bstep HBk.out (Nat.le_refl _) hbn
        have hrn := (hbR.block R (Array.getElem?_eq_some_iff.1 HR0.out).1).trans HR0.out
        have hbn2 := bstep HB0.out (Nat.le_refl _) hbR
        obtain ⟨d0, d1⟩ := fr2 hrn
        have hfr := fr_of hrn
        have HRn := Lib.hid hrn
        have HBn := Lib.hid hbn2
        clear hbn hbR hrn hbn2
        go_wp2_with fail
        clear d0 d1 hfr
        obtain ⟨WF, hWF⟩ : ∃ W, (wn.setCell ⟨R, 0, none⟩ (.int .i64 0)).setCell ⟨R, 1, none⟩ (.string ⟨#[]⟩) = W := ⟨_, rfl⟩
        have hrF : WF.heap[R]? = some (.cells #[.int .i64 0, .string ⟨#[]⟩] 39 (0, 0)) := by rw [← hWF]; exact set2 HRn.out _ _
        obtain ⟨d0, d1⟩ := fr2 hrF
        have hbF : Below w.heap.size w WF := by rw [← hWF]; exact (HBn.out.setCell (p := ⟨R, 0, none⟩) HRe.out _).setCell (p := ⟨R, 1, none⟩) HRe.out _
        rw [hWF]
        refine bodyPost_ret (v := .tuple #[.agg #[.int .i64 0, .string ⟨#[]⟩], .int .i64 0, .bool false, .bool false]) ?_ rfl (parF_nil hbF HNo.out)
        have hres : Tryz.f116.results = #[.cell 2 39, .tmp 3, .tmp 4, .tmp 5] := rfl
        simp [results, hres, d0, d1, go_sem]
      ·have hen := errne he
       have HNo := HNs
       clear he
       go_wp2_with fail
       refine (none_walk _).mono ?_
       rintro x wn ⟨rfl, hbn⟩
       have hbR := bstep HBk.out (Nat.le_refl _) hbn
       have hrn := (hbR.block R (Array.getElem?_eq_some_iff.1 HR0.out).1).trans HR0.out
       have hbn2 := bstep HB0.out (Nat.le_refl _) hbR
       obtain ⟨d0, d1⟩ := fr2 hrn
       have hfr := fr_of hrn
       have HRn := Lib.hid hrn
       have HBn := Lib.hid hbn2
       clear hbn hbR hrn hbn2
       go_wp2_with fail
       clear d0 d1 hfr
       obtain ⟨WF, hWF⟩ : ∃ W, (wn.setCell ⟨R, 0, none⟩ (.int .i64 0)).setCell ⟨R, 1, none⟩ (.string ⟨#[]⟩) = W := ⟨_, rfl⟩
       have hrF : WF.heap[R]? = some (.cells #[.int .i64 0, .string ⟨#[]⟩] 39 (0, 0)) := by rw [← hWF]; exact set2 HRn.out _ _
       obtain ⟨d0, d1⟩ := fr2 hrF
       have hbF : Below w.heap.size w WF := by rw [← hWF]; exact (HBn.out.setCell (p := ⟨R, 0, none⟩) HRe.out _).setCell (p := ⟨R, 1, none⟩) HRe.out _
       rw [hWF]
       refine bodyPost_ret (v := .tuple #[.agg #[.int .i64 0, .string ⟨#[]⟩], .int .i64 0, .bool false, .bool false]) ?_ rfl (parF_nil hbF HNo.out)
       have hres : Tryz.f116.results = #[.cell 2 39, .tmp 3, .tmp 4, .tmp 5] := rfl
       simp [results, hres, d0, d1, go_sem]
     ·have hsi : ¬ (16 : Int) ≤ y.toNat := by omega
      have hdec : decide ((16 : Int) ≤ (y.toNat : Int)) = false := by simp; omega
      obtain ⟨cc, hcc⟩ : ∃ c, c = body := ⟨_, rfl⟩
      subst hcc
      have HCc := HBl
      have HFull : Hid (∀ k' c' n', PfF data k' c' n' → true = true ∧ (kk : Int) = (k' : Int) ∧ cc = c' ∧ (sz : Int) = (n' : Int)) := Lib.hid fun k c n h => by
       have h1 := h.kk
       have h2 := h.sz
       have h3 := h.body
       rw [HA.out] at h2 h3
       try simp only at h2 h3
       rw [HBt.out] at h2
       rw [HX0.out.2] at h1
       have h4 : n + l2.length = data.length := h2
       refine ⟨rfl, ?_, h3, ?_⟩
       ·have := HKk.out; omega
       ·have := HSz.out.1; omega
      go_upto_region 20 with (fail)
      obtain ⟨F, hF⟩ : ∃ F, w3.heap.size = F := ⟨_, rfl⟩
      obtain ⟨W4, hW4⟩ : ∃ W, w3.alloc (.cells #[.int .i64 (kk : Int), .string (sB cc)] 39) = W := ⟨_, rfl⟩
      have HFb : Hid (W4.heap[F]? = some (.cells #[.int .i64 (kk : Int), .string (sB cc)] 39 (0, 0))) := Lib.hid (by rw [← hW4, ← hF]; exact heap_alloc_new _ _)
      have HBk : Hid (Below W0.heap.size W0 W4) := Lib.hid (by rw [← hW4]; exact HBk.out.alloc HBk.out.size _)
      rw [hW4, hF]
      clear hW4 hF
      have hw := fun w => wrap_walk (kk : Int) cc HCc.out w
      obtain ⟨⟨t, e3⟩, ht⟩ : ∃ r, wrapF (kk : Int) cc = r := ⟨_, rfl⟩
      rw [ht] at hw
      have HW := Lib.hid hw
      have HTt := Lib.hid ht
      clear hw ht
      obtain ⟨f0, f1⟩ := fr2 HFb.out
      go_wp2_with fail
      refine (HW.out _).mono ?_
      rintro x w7 ⟨rfl, hb7⟩
      have hf7 := (hb7.block F (Array.getElem?_eq_some_iff.1 HFb.out).1).trans HFb.out
      have HF7 := Lib.hid hf7
      have HBk := Lib.hid (bstep HBk.out (Nat.le_refl _) hb7)
      clear hb7 hf7 f0 f1 HW
      by_cases h0 : e3 = 0
      ·subst h0
       by_cases hq : t = data.take sz
       ·have hse := str_eq t (data.take sz)
        have hsn := str_ne t (data.take sz)
        rw [decide_eq_true hq] at hse hsn
        have HQ : Hid (wrapF (kk : Int) cc = (data.take sz, 0)) := Lib.hid (by rw [HTt.out, hq])
        clear hq
        have hr7 := (HBk.out.block R (Array.getElem?_eq_some_iff.1 HR0.out).1).trans HR0.out
        have HR7 := Lib.hid hr7
        obtain ⟨d0, d1⟩ := fr2 hr7
        obtain ⟨f0, f1⟩ := fr2 HF7.out
        have hfr := fr_of hr7
        have HBn := Lib.hid (bstep HB0.out (Nat.le_refl _) HBk.out)
        clear hr7
        go_wp2_with fail
        clear d0 d1 hfr f0 f1
        obtain ⟨WF, hWF⟩ : ∃ W, (w7.setCell ⟨R, 0, none⟩ (.int .i64 (kk : Int))).setCell ⟨R, 1, none⟩ (.string (sB cc)) = W := ⟨_, rfl⟩
        have hrF : WF.heap[R]? = some (.cells #[.int .i64 (kk : Int), .string (sB cc)] 39 (0, 0)) := by rw [← hWF]; exact set2 HR7.out _ _
        obtain ⟨d0, d1⟩ := fr2 hrF
        have hbF : Below w.heap.size w WF := by rw [← hWF]; exact (HBn.out.setCell (p := ⟨R, 0, none⟩) HRe.out _).setCell (p := ⟨R, 1, none⟩) HRe.out _
        rw [hWF]
        refine bodyPost_ret (v := .tuple #[.agg #[.int .i64 (kk : Int), .string (sB cc)], .int .i64 (sz : Int), .bool false, .bool true]) ?_ rfl ⟨hbF, (kk : Int), cc, (sz : Int), false, true, rfl, fun _ => ⟨by have := HSz.out; omega, by have := HSz.out; omega, HCc.out, by rw [Int.toNat_natCast]; exact HQ.out⟩, fun k' c' n' h => ⟨rfl, (HFull.out k' c' n' h).2⟩⟩
        have hres : Tryz.f116.results = #[.cell 2 39, .tmp 3, .tmp 4, .tmp 5] := rfl
        simp [results, hres, d0, d1, go_sem]
       ·have hse := str_eq t (data.take sz)
        have hsn := str_ne t (data.take sz)
        rw [decide_eq_false hq] at hse hsn
        have HNo : Hid (∀ k c n, ¬ PfF data k c n) := Lib.hid fun k c n h => by
         obtain ⟨-, h1, h2, h3⟩ := HFull.out k c n h
         have h4 := h.wr
         have h3' : sz = n := by omega
         rw [← h1, ← h2, ← h3', HTt.out] at h4
         injection h4 with h4
         exact hq h4
        clear hq
        go_wp2_with fail
        refine (none_walk _).mono ?_
        rintro x wn ⟨rfl, hbn⟩
        have hbR := bstep HBk.out (Nat.le_refl _) hbn
        have hrn := (hbR.block R (Array.getElem?_eq_some_iff.1 HR0.out).1).trans HR0.out
        have hbn2 := bstep HB0.out (Nat.le_refl _) hbR
        obtain ⟨d0, d1⟩ := fr2 hrn
        have hfr := fr_of hrn
        have HRn := Lib.hid hrn
        have HBn := Lib.hid hbn2
        clear hbn hbR hrn hbn2
        go_wp2_with fail
        clear d0 d1 hfr
        obtain ⟨WF, hWF⟩ : ∃ W, (wn.setCell ⟨R, 0, none⟩ (.int .i64 0)).setCell ⟨R, 1, none⟩ (.string ⟨#[]⟩) = W := ⟨_, rfl⟩
        have hrF : WF.heap[R]? = some (.cells #[.int .i64 0, .string ⟨#[]⟩] 39 (0, 0)) := by rw [← hWF]; exact set2 HRn.out _ _
        obtain ⟨d0, d1⟩ := fr2 hrF
        have hbF : Below w.heap.size w WF := by rw [← hWF]; exact (HBn.out.setCell (p := ⟨R, 0, none⟩) HRe.out _).setCell (p := ⟨R, 1, none⟩) HRe.out _
        rw [hWF]
        refine bodyPost_ret (v := .tuple #[.agg #[.int .i64 0, .string ⟨#[]⟩], .int .i64 0, .bool false, .bool false]) ?_ rfl (parF_nil hbF HNo.out)
        have hres : Tryz.f116.results = #[.cell 2 39, .tmp 3, .tmp 4, .tmp 5] := rfl
        simp [results, hres, d0, d1, go_sem]
      ·have hen := errne h0
       have HNo : Hid (∀ k c n, ¬ PfF data k c n) := Lib.hid fun k c n h => by
        obtain ⟨-, h1, h2, h3⟩ := HFull.out k c n h
        have h4 := h.wr
        rw [← h1, ← h2, HTt.out] at h4
        injection h4 with _ h4
        exact h0 h4
       clear h0
       go_wp2_with fail
       refine (none_walk _).mono ?_
       rintro x wn ⟨rfl, hbn⟩
       have hbR := bstep HBk.out (Nat.le_refl _) hbn
       have hrn := (hbR.block R (Array.getElem?_eq_some_iff.1 HR0.out).1).trans HR0.out
       have hbn2 := bstep HB0.out (Nat.le_refl _) hbR
       obtain ⟨d0, d1⟩ := fr2 hrn
       have hfr := fr_of hrn
       have HRn := Lib.hid hrn
       have HBn := Lib.hid hbn2
       clear hbn hbR hrn hbn2
       go_wp2_with fail
       clear d0 d1 hfr
       obtain ⟨WF, hWF⟩ : ∃ W, (wn.setCell ⟨R, 0, none⟩ (.int .i64 0)).setCell ⟨R, 1, none⟩ (.string ⟨#[]⟩) = W := ⟨_, rfl⟩
       have hrF : WF.heap[R]? = some (.cells #[.int .i64 0, .string ⟨#[]⟩] 39 (0, 0)) := by rw [← hWF]; exact set2 HRn.out _ _
       obtain ⟨d0, d1⟩ := fr2 hrF
       have hbF : Below w.heap.size w WF := by rw [← hWF]; exact (HBn.out.setCell (p := ⟨R, 0, none⟩) HRe.out _).setCell (p := ⟨R, 1, none⟩) HRe.out _
       rw [hWF]
       refine bodyPost_ret (v := .tuple #[.agg #[.int .i64 0, .string ⟨#[]⟩], .int .i64 0, .bool false, .bool false]) ?_ rfl (parF_nil hbF HNo.out)
       have hres : Tryz.f116.results = #[.cell 2 39, .tmp 3, .tmp 4, .tmp 5] := rfl
       simp [results, hres, d0, d1, go_sem]
    ·have hopf : K.opens (data.take sz) = false := by simpa using hop
     have HOp := Lib.hid (K.open_no (sB (data.take sz)) htl hopf w3)
     have HNo : Hid (∀ k c n, ¬ PfF data k c n) := Lib.hid fun k c n h => by
      have h2 := h.sz
      rw [HA.out] at h2
      try simp only at h2
      rw [HBt.out] at h2
      have h4 : n + l2.length = data.length := h2
      have h5 : n = sz := by have := HSz.out.1; omega
      have h6 := h.op
      rw [h5] at h6
      exact hop h6
     clear hop hopf htl
     go_wp2_with fail
     refine (HOp.out).mono ?_
     rintro x _ ⟨rfl, rfl⟩
     go_wp2_with fail
     refine (none_walk _).mono ?_
     rintro x wn ⟨rfl, hbn⟩
     have hbR := bstep HBk.out (Nat.le_refl _) hbn
     have hrn := (hbR.block R (Array.getElem?_eq_some_iff.1 HR0.out).1).trans HR0.out
     have hbn2 := bstep HB0.out (Nat.le_refl _) hbR
     obtain ⟨d0, d1⟩ := fr2 hrn
     have hfr := fr_of hrn
     have HRn := Lib.hid hrn
     have HBn := Lib.hid hbn2
     clear hbn hbR hrn hbn2
     go_wp2_with fail
     clear d0 d1 hfr
     obtain ⟨WF, hWF⟩ : ∃ W, (wn.setCell ⟨R, 0, none⟩ (.int .i64 0)).setCell ⟨R, 1, none⟩ (.string ⟨#[]⟩) = W := ⟨_, rfl⟩
     have hrF : WF.heap[R]? = some (.cells #[.int .i64 0, .string ⟨#[]⟩] 39 (0, 0)) := by rw [← hWF]; exact set2 HRn.out _ _
     obtain ⟨d0, d1⟩ := fr2 hrF
     have hbF : Below w.heap.size w WF := by rw [← hWF]; exact (HBn.out.setCell (p := ⟨R, 0, none⟩) HRe.out _).setCell (p := ⟨R, 1, none⟩) HRe.out _
     rw [hWF]
     refine bodyPost_ret (v := .tuple #[.agg #[.int .i64 0, .string ⟨#[]⟩], .int .i64 0, .bool false, .bool false]) ?_ rfl (parF_nil hbF HNo.out)
     have hres : Tryz.f116.results = #[.cell 2 39, .tmp 3, .tmp 4, .tmp 5] := rfl
     simp [results, hres, d0, d1, go_sem]
   ·have hern := errne her
    have HNo : Hid (∀ k c n, ¬ PfF data k c n) := Lib.hid fun k c n h => by
     have h2 := h.er
     rw [HA.out] at h2
     try simp only at h2
     rw [HBt.out] at h2
     exact her h2
    clear her
    go_wp2_with fail
    refine (none_walk _).mono ?_
    rintro x wn ⟨rfl, hbn⟩
    have hbR := bstep HBk.out (Nat.le_refl _) hbn
    have hrn := (hbR.block R (Array.getElem?_eq_some_iff.1 HR0.out).1).trans HR0.out
    have hbn2 := bstep HB0.out (Nat.le_refl _) hbR
    obtain ⟨d0, d1⟩ := fr2 hrn
    have hfr := fr_of hrn
    have HRn := Lib.hid hrn
    have HBn := Lib.hid hbn2
    clear hbn hbR hrn hbn2
    go_wp2_with fail
    clear d0 d1 hfr
    obtain ⟨WF, hWF⟩ : ∃ W, (wn.setCell ⟨R, 0, none⟩ (.int .i64 0)).setCell ⟨R, 1, none⟩ (.string ⟨#[]⟩) = W := ⟨_, rfl⟩
    have hrF : WF.heap[R]? = some (.cells #[.int .i64 0, .string ⟨#[]⟩] 39 (0, 0)) := by rw [← hWF]; exact set2 HRn.out _ _
    obtain ⟨d0, d1⟩ := fr2 hrF
    have hbF : Below w.heap.size w WF := by rw [← hWF]; exact (HBn.out.setCell (p := ⟨R, 0, none⟩) HRe.out _).setCell (p := ⟨R, 1, none⟩) HRe.out _
    rw [hWF]
    refine bodyPost_ret (v := .tuple #[.agg #[.int .i64 0, .string ⟨#[]⟩], .int .i64 0, .bool false, .bool false]) ?_ rfl (parF_nil hbF HNo.out)
    have hres : Tryz.f116.results = #[.cell 2 39, .tmp 3, .tmp 4, .tmp 5] := rfl
    simp [results, hres, d0, d1, go_sem]
 ·have hne : ((x0.toNat : Int) != 165) = true := by
   refine bne_iff_ne.2 fun e => h165 (UInt8.toNat_inj.1 (by show x0.toNat = 165; omega))
  have HNo : Hid (∀ k c n, ¬ PfF data k c n) := Lib.hid fun k c n h => by have := h.m; rw [hx0] at this; exact h165 this
  clear h2 hx0 hy h165
  go_enter Tryz.func116, Tryz.ntmps116
  go_upto_region 1 with (fail)
  rw [HW0.out, HRq.out]
  go_wp2_with fail
  refine (none_walk _).mono ?_
  rintro x wn ⟨rfl, hbn⟩
  have hbR := bstep HBk.out (Nat.le_refl _) hbn
  have hrn := (hbR.block R (Array.getElem?_eq_some_iff.1 HR0.out).1).trans HR0.out
  have hbn2 := bstep HB0.out (Nat.le_refl _) hbR
  obtain ⟨d0, d1⟩ := fr2 hrn
  have hfr := fr_of hrn
  have HRn := Lib.hid hrn
  have HBn := Lib.hid hbn2
  clear hbn hbR hrn hbn2
  go_wp2_with fail
  clear d0 d1 hfr
  obtain ⟨WF, hWF⟩ : ∃ W, (wn.setCell ⟨R, 0, none⟩ (.int .i64 0)).setCell ⟨R, 1, none⟩ (.string ⟨#[]⟩) = W := ⟨_, rfl⟩
  have hrF : WF.heap[R]? = some (.cells #[.int .i64 0, .string ⟨#[]⟩] 39 (0, 0)) := by rw [← hWF]; exact set2 HRn.out _ _
  obtain ⟨d0, d1⟩ := fr2 hrF
  have hbF : Below w.heap.size w WF := by rw [← hWF]; exact (HBn.out.setCell (p := ⟨R, 0, none⟩) HRe.out _).setCell (p := ⟨R, 1, none⟩) HRe.out _
  rw [hWF]
  refine bodyPost_ret (v := .tuple #[.agg #[.int .i64 0, .string ⟨#[]⟩], .int .i64 0, .bool false, .bool false]) ?_ rfl (parF_nil hbF HNo.out)
  have hres : Tryz.f116.results = #[.cell 2 39, .tmp 3, .tmp 4, .tmp 5] := rfl
  simp [results, hres, d0, d1, go_sem]
end Go.Proofs.YtlmjefjimoghcaaGreat
