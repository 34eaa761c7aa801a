/- A part of the proofs of TopCounter and TopStrict: what the functions of the program do, each walked once, and plain laws about it. No condition. -/
import Derived.Test.YtlmjefjimoghcaaGreatA37
namespace Go.Proofs.YtlmjefjimoghcaaGreat
set_option linter.unusedSimpArgs false
set_option linter.unnecessarySimpa false
set_option linter.unusedVariables false
open Go.RowKit
attribute [local go_sem ↓] Go.wp_at_zero Go.wp_at_succ
/-- what a reader of buscode returns -/
def RdP (R : Nat) (w : World) (x : Ending) (w' : World) : Prop := Touch (fun k => k = R) w w' ∧ ∃ (l : List Str) (ok : Bool) (A : Option Addr) (c : Nat), x = .returned (.tuple #[.slice A l.length c, .bool ok]) ∧ InS w' A l ∧ l.length ≤ 4096 ∧ ∀ s ∈ l, s.length ≤ 128
theorem rdP_nil {R : Nat} {w w' : World} {ok : Bool} (h : Touch (fun k => k = R) w w') : RdP R w (.returned (.tuple #[.slice none 0 0, .bool ok])) w' := ⟨h, [], ok, none, 0, rfl, flat_nil _ _ _, by simp, fun s hs => by cases hs⟩
theorem RwP.rd {n R : Nat} {w w' : World} {x : Ending} (hn : n ≤ 128) (h : RwP n R w x w') : RdP R w x w' := by
 obtain ⟨ht, ok, rfl | ⟨l, G, hG, rfl, hs, hv, hl⟩⟩ := h
 ·exact rdP_nil ht
 ·exact ⟨ht, l, ok, _, _, rfl, srow_in hs, hl, fun s h => by have := (hv s h).2; omega⟩
theorem srow_own {w0 w : World} {G : Nat} {l : List Str} (h : SRow w G l) (hG : w0.heap.size ≤ G) (hl : l.length ≤ 1000000) : OwnR w0 9 1 (.slice (some ⟨G, 0, none⟩) l.length l.length) l.length (sc l) w :=
 ⟨⟨by rw [sc_length, Nat.mul_one], .inr ⟨G, l.length, (sc l).toArray, rfl, by omega, h.to, Nat.le_refl _, by unfold maxLen; omega, by simp [sc_length], by rw [Nat.mul_one, ← sc_length l]; simp⟩⟩, fun g hg => by injection hg with hg; have hg : G = g := hg; omega⟩
theorem one_srow (w : World) (s : Str) : SRow (w.alloc (.cells #[.string (sB s)] 9)) w.heap.size [s] := heap_alloc_new w _
def goodM (f : Int → Option Value) : Prop := ∀ k v, f k = some v → ∃ s : Str, v = .string (sB s) ∧ s.length ≤ 128
theorem goodM_upd {f : Int → Option Value} (h : goodM f) (k : Int) {s : Str} (hs : s.length ≤ 128) : goodM (upd f k (some (.string (sB s)))) := fun a v hv => by
 unfold upd at hv
 split at hv
 ·injection hv with hv; exact ⟨s, hv.symm, hs⟩
 ·exact h a v hv
def ReR (wc : World) (M N : Nat) (v i : Value) (wr : World) : Prop := ∃ (k : Nat) (t : Int) (f : Int → Option Value), i = .int .i64 (k : Int) ∧ v = .int .i64 t ∧ k ≤ N ∧ -1 ≤ t ∧ t ≤ 5000 * (k : Int) ∧ MapF kI (fun _ => True) wr M f ∧ goodM f ∧ Below wc.heap.size wc wr
def RoR (w5 : World) (M N : Nat) (f : Int → Option Value) (v i : Value) (wr : World) : Prop := ∃ (j : Nat) (xs : List Str), i = .int .i64 (j : Int) ∧ 1 ≤ j ∧ (j ≤ N ∨ j = 1) ∧ xs.length = j ∧ (∀ s ∈ xs, s.length ≤ 128) ∧ OwnR w5 9 1 v j (sc xs) wr ∧ MapF kI (fun _ => True) wr M f ∧ Below w5.heap.size w5 wr
set_option maxRecDepth 100000 in
set_option maxHeartbeats 4000000 in
theorem rcount_walk (n : Nat) (h1 : 1 ≤ n) (h128 : n ≤ 128) {w : World} {R m : Nat} (hR : RdS w R m) (hm : m ≤ 100000) : Calls Tryz.prog 113 #[.agg #[.int .i64 (n : Int)], .pointer (some ⟨R, 0, none⟩)] w fun x w' => RdP R w x w' := by
 obtain ⟨W0, hW0⟩ : ∃ W, w.alloc (.cells #[.int .i64 (n : Int)] 109) = W := ⟨_, rfl⟩
 have hb0 : Below w.heap.size w W0 := by rw [← hW0]; exact (Below.refl _ _).alloc (Nat.le_refl _) _
 obtain ⟨P, hP⟩ : ∃ P, w.heap.size = P := ⟨_, rfl⟩
 have hce : W0.heap[P]? = some (.cells #[.int .i64 (n : Int)] 109 (0, 0)) := by rw [← hW0, ← hP]; exact heap_alloc_new _ _
 have hlt := hR.lt
 have hRP : P ≠ R := by omega
 have HCe := Lib.hid hce
 have HRP := Lib.hid hRP
 have HW0 := Lib.hid hW0
 have HPe := Lib.hid hP
 have HR0 := Lib.hid (hR.frame (hb0.block R hlt))
 have HT0 : Hid (Touch (fun k => k = R) w W0) := Lib.hid (.of_below hb0)
 have HPw : Hid (P < W0.heap.size) := Lib.hid (Array.getElem?_eq_some_iff.1 hce).1
 have HM := Lib.hid hm
 have HN : Hid (1 ≤ n ∧ n ≤ 128) := Lib.hid ⟨h1, h128⟩
 clear hb0 hW0 hlt hRP hR hm hce hP h1 h128
 go_enter Tryz.func113, Tryz.ntmps113
 go_upto_region 1 with (fail)
 rw [HW0.out, HPe.out]
 go_wp2_with fail
 refine (rdsN (by exact HR0.out) 4096 (by decide)).mono ?_
 rintro x w1 ⟨N, rfl, hN4, hr1, ht1⟩
 have HR1 := Lib.hid hr1
 have HT1 := Lib.hid (HT0.out.trans ht1 fun _ _ h => h)
 have HC1 := Lib.hid ((ht1.block P HPw.out HRP.out).trans HCe.out)
 have HN4 : Hid (N ≤ 4096) := Lib.hid (by omega)
 clear hr1 ht1
 by_cases h0 : N = 0
 ·subst h0
  go_wp2_with fail
  refine (rdsE (by exact HR1.out)).mono ?_
  rintro x w2 ⟨er, rfl, -, ht2⟩
  have HT2 := Lib.hid (HT1.out.trans ht2 fun _ _ h => h)
  clear ht2
  go_wp2_with fail
  refine bodyPost_ret (results_tmp2 rfl _ _ _) rfl ?_
  exact rdP_nil HT2.out
 have hnz : ((N : Int) == 0) = false := by simpa using h0
 have HNp : Hid (0 < N) := Lib.hid (by omega)
 clear h0
 go_wp2_with fail
 refine (rdsX (by exact HR1.out) 128 (by decide)).mono ?_
 rintro x w2 ⟨fs, rfl, hf1, -, hr2, ht2⟩
 have HR2 := Lib.hid hr2
 have HT2 := Lib.hid (HT1.out.trans ht2 fun _ _ h => h)
 have HC2 := Lib.hid ((ht2.block P (Array.getElem?_eq_some_iff.1 HC1.out).1 HRP.out).trans HC1.out)
 have HFl : Hid (fs.length ≤ 128) := Lib.hid (by omega)
 clear hr2 ht2 hf1
 go_wp2_with fail
 refine (rdsX (by exact HR2.out) 128 (by decide)).mono ?_
 rintro x w3 ⟨st0, rfl, hf1, -, hr3, ht3⟩
 have HR3 := Lib.hid hr3
 have HT3 := Lib.hid (HT2.out.trans ht3 fun _ _ h => h)
 have HC3 := Lib.hid ((ht3.block P (Array.getElem?_eq_some_iff.1 HC2.out).1 HRP.out).trans HC2.out)
 have HSl : Hid (st0.length ≤ 128) := Lib.hid (by omega)
 clear hr3 ht3 hf1
 go_wp2_with fail
 refine (rdsL (by exact HR3.out)).mono ?_
 rintro x _ ⟨lf, rfl, -, rfl⟩
 go_wp2_with fail
 refine (rdsX (by exact HR3.out) (lf : Int) (by omega)).mono ?_
 rintro x w4 ⟨sa, rfl, -, hsa, hr4, ht4⟩
 have HR4 := Lib.hid hr4
 have HT4 := Lib.hid (HT3.out.trans ht4 fun _ _ h => h)
 have HC4 := Lib.hid ((ht4.block P (Array.getElem?_eq_some_iff.1 HC3.out).1 HRP.out).trans HC3.out)
 have HSa := Lib.hid hsa
 clear hr4 ht4 hsa
 go_wp2_with fail
 refine (rdsL (by exact HR4.out)).mono ?_
 rintro x _ ⟨lf2, rfl, -, rfl⟩
 go_wp2_with fail
 refine (rdsT (by exact HR4.out) _).mono ?_
 rintro x w5 ⟨sb, rfl, hsb, hr5, ht5⟩
 have HR5 := Lib.hid hr5
 have HT5 := Lib.hid (HT4.out.trans ht5 fun _ _ h => h)
 have HC5 := Lib.hid ((ht5.block P (Array.getElem?_eq_some_iff.1 HC4.out).1 HRP.out).trans HC4.out)
 have HSb := Lib.hid hsb
 clear hr5 ht5 hsb
 go_wp2_with fail
 refine (rdsR (by exact HR5.out)).mono ?_
 rintro x _ ⟨er, rfl, rfl⟩
 by_cases her : er = 0
 ·subst her
  have HX := Lib.hid (decNums_walk sa (by have := HSa.out; have := HM.out; omega) 4096 w5)
  have hgl := decNumF_len sa 4096
  have hgb := decNumF_lt sa 4096
  obtain ⟨gs, hgs⟩ : ∃ l, (decNumF sa 4096).1 = l := ⟨_, rfl⟩
  obtain ⟨e, he⟩ : ∃ e, (decNumF sa 4096).2 = e := ⟨_, rfl⟩
  rw [hgs, he] at HX
  rw [hgs] at hgl hgb
  have HGl := Lib.hid hgl
  have HGb := Lib.hid hgb
  clear hgl hgb hgs he
  go_wp2_with fail
  refine (HX.out).mono ?_
  rintro x w6 ⟨hb6, A6, c6, rfl, hin6⟩
  have HB6 := Lib.hid hb6
  have HI6 := Lib.hid hin6.1
  have HC6 := Lib.hid ((hb6.block P (Array.getElem?_eq_some_iff.1 HC5.out).1).trans HC5.out)
  have HY := Lib.hid (rldec_walk sb (by have := HSb.out; have := HM.out; omega) 4096 w6)
  clear hb6 hin6 HX
  go_wp2_with fail
  refine (HY.out).mono ?_
  rintro x w7 ⟨hb7, ts, f, A7, c7, rfl, hin7, hl7, hs7, -⟩
  have HB7 := Lib.hid (bstep HB6.out (Nat.le_refl _) hb7)
  have HI7 := Lib.hid (HI6.out.mono hb7)
  have hC7 := (hb7.block P (Array.getElem?_eq_some_iff.1 HC6.out).1).trans HC6.out
  have HC7 := Lib.hid hC7
  have cp := (one_cell hC7).1
  have HLg := Lib.hid (long_walk n HN.out.1 HN.out.2 ts (by omega) (fun s h => by have := hs7 s h; omega) w7 A7 c7 hin7)
  have HVv := Lib.hid (longV_b n HN.out.2 ts)
  have HTl := Lib.hid hl7
  clear hb7 hin7 hl7 hs7 hC7 HY
  go_wp2_with fail
  refine (HLg.out).mono ?_
  rintro x w8 ⟨hb8, hcase⟩
  have HB8 := Lib.hid (bstep HB7.out (Nat.le_refl _) hb8)
  have HI8 := Lib.hid (HI7.out.mono hb8)
  have hC8 := (hb8.block P (Array.getElem?_eq_some_iff.1 HC7.out).1).trans HC7.out
  have HC8 := Lib.hid hC8
  clear cp HLg hb8
  have cp := (one_cell hC8).1
  clear hC8
  have hbA : Below w8.heap.size w8 (w8.alloc (.cells #[.string (sB fs)] 9)) := (Below.refl _ _).alloc (Nat.le_refl _) _
  have HBA := Lib.hid hbA
  have HLf : Hid (Calls Tryz.prog 148 #[.agg #[.int .i64 (n : Int)], .slice (some ⟨w8.heap.size, 0, none⟩) 1 1] (w8.alloc (.cells #[.string (sB fs)] 9)) fun x w' => LongP (w8.alloc (.cells #[.string (sB fs)] 9)) (longV n [fs]) x w') := Lib.hid (long_walk n HN.out.1 HN.out.2 [fs] (by simp) (fun s h => by simp at h; rw [h]; have := HFl.out; omega) _ _ 1 (srow_in (one_srow w8 fs)))
  have HVf := Lib.hid (longV_b n HN.out.2 [fs])
  clear hbA
  rcases hcase with ⟨-, rfl⟩ | ⟨-, Gv, -, rfl, hsv⟩
  ·go_wp2_with fail
   refine (HLf.out).mono ?_
   rintro x w9 ⟨hb9, hcase⟩
   have HBz : Hid (Below w5.heap.size w5 w9) := Lib.hid (bstep (bstep HB8.out (Nat.le_refl _) HBA.out) (Nat.le_refl _) hb9)
   clear hb9 cp HLf
   rcases hcase with ⟨-, rfl⟩ | ⟨-, Gt, -, rfl, -⟩
   ·by_cases he : e = 0
    ·subst he
     by_cases hf : f = 0
     ·subst hf
      go_wp2_with fail
      refine bodyPost_ret (results_tmp2 rfl _ _ _) rfl ?_
      exact rdP_nil (below_touch HT5.out HBz.out)
     ·have hfn := errne hf
      clear hf
      go_wp2_with fail
      refine bodyPost_ret (results_tmp2 rfl _ _ _) rfl ?_
      exact rdP_nil (below_touch HT5.out HBz.out)
    ·have hen := errne he
     clear he
     go_wp2_with fail
     refine bodyPost_ret (results_tmp2 rfl _ _ _) rfl ?_
     exact rdP_nil (below_touch HT5.out HBz.out)
   ·by_cases he : e = 0
    ·subst he
     by_cases hf : f = 0
     ·subst hf
      go_wp2_with fail
      refine bodyPost_ret (results_tmp2 rfl _ _ _) rfl ?_
      exact rdP_nil (below_touch HT5.out HBz.out)
     ·have hfn := errne hf
      clear hf
      go_wp2_with fail
      refine bodyPost_ret (results_tmp2 rfl _ _ _) rfl ?_
      exact rdP_nil (below_touch HT5.out HBz.out)
    ·have hen := errne he
     clear he
     go_wp2_with fail
     refine bodyPost_ret (results_tmp2 rfl _ _ _) rfl ?_
     exact rdP_nil (below_touch HT5.out HBz.out)
  ·obtain ⟨vs, hvs⟩ : ∃ vs, (longV n ts).1 = vs := ⟨_, rfl⟩
   rw [hvs] at hsv HVv ⊢
   have HV8 := Lib.hid hsv
   have HVb := Lib.hid HVv.out.2
   clear hsv hvs
   go_wp2_with fail
   refine (HLf.out).mono ?_
   rintro x w9 ⟨hb9, hcase⟩
   have HBz : Hid (Below w5.heap.size w5 w9) := Lib.hid (bstep (bstep HB8.out (Nat.le_refl _) HBA.out) (Nat.le_refl _) hb9)
   have HB89 : Hid (Below w8.heap.size w8 w9) := Lib.hid (bstep HBA.out (Nat.le_refl _) hb9)
   clear hb9 cp HLf
   rcases hcase with ⟨-, rfl⟩ | ⟨hlo, Gt, hGt, rfl, hst⟩
   ·by_cases he : e = 0
    ·subst he
     by_cases hf : f = 0
     ·subst hf
      go_wp2_with fail
      refine bodyPost_ret (results_tmp2 rfl _ _ _) rfl ?_
      exact rdP_nil (below_touch HT5.out HBz.out)
     ·have hfn := errne hf
      clear hf
      go_wp2_with fail
      refine bodyPost_ret (results_tmp2 rfl _ _ _) rfl ?_
      exact rdP_nil (below_touch HT5.out HBz.out)
    ·have hen := errne he
     clear he
     go_wp2_with fail
     refine bodyPost_ret (results_tmp2 rfl _ _ _) rfl ?_
     exact rdP_nil (below_touch HT5.out HBz.out)
   ·by_cases hgv : e = 0 ∧ f = 0 ∧ gs.length = vs.length
    ·obtain ⟨rfl, rfl, hlen⟩ := hgv
     have hlo2 : ∃ s0, (longV n [fs]).1 = [s0] := by
      unfold longV at hlo ⊢
      split at hlo
      ·rename_i h
       rw [if_pos h]; exact ⟨_, rfl⟩
      ·cases hlo
     obtain ⟨s0, hs0⟩ := hlo2
     rw [hs0] at hst HVf ⊢
     have HSt0 := Lib.hid hst
     have HS0b := Lib.hid HVf.out.2
     have HGt0 : Hid (w5.heap.size ≤ Gt) := Lib.hid (by have := HB8.out.size; have := HBA.out.size; omega)
     have HVl : Hid (vs.length = gs.length) := Lib.hid hlen.symm
     have HV9 := Lib.hid (HV8.out.mono HB89.out)
     have HI9 := Lib.hid (HI8.out.mono HB89.out)
     have hC9 := (HB89.out.block P (Array.getElem?_eq_some_iff.1 HC8.out).1).trans HC8.out
     have cp := (one_cell hC9).1
     have hgl4 := HGl.out
     have hlb : ((gs.length : Int) != (vs.length : Int)) = false := by rw [hlen]; simp
     have hgli : (gs.length : Int) ≤ 4096 := by omega
     clear hst hlo hs0 hGt hlen hC9 hgl4
     have hl1 : ([s0] : List Str).length = 1 := rfl
     rw [hl1]
     clear hl1
     by_cases hse : st0 = []
     ·subst hse
      have hz : sB [] = ⟨#[]⟩ := rfl
      rw [hz]
      clear hz cp
      obtain ⟨st, hst⟩ : ∃ st : Str, st = [] := ⟨_, rfl⟩
      obtain ⟨W, hW⟩ : ∃ W, W = w9 := ⟨_, rfl⟩
      subst hW
      have HBs := HBz
      have HSt := HSt0
      have HGt := HGt0
      have HVs := HV9
      have HGs := HI9
      have HS2l : Hid (st.length ≤ 128) := Lib.hid (by rw [hst]; simp)
      have hz : (⟨#[]⟩ : ByteArray) = sB st := by rw [hst]; rfl
      go_upto_region 19 with (fail)
      have hz2 : sB [] = sB st := by rw [hst]
      first | rw [hz] | rw [hz2]
      clear hz hz2 hst
      have hmk : (Instr.makeMap 212 none).run Tryz.prog W = .ok (.map (some W.heap.size)) (W.alloc (.map #[] 0)) := by simp [Instr.makeMap, Result.andThen]
      obtain ⟨W2, hW2⟩ : ∃ W2, W.alloc (.map #[] 0) = W2 := ⟨_, rfl⟩
      obtain ⟨M, hM⟩ : ∃ M, W.heap.size = M := ⟨_, rfl⟩
      have HM0 : Hid (MapF kI (fun _ => True) W2 M (fun _ => none)) := Lib.hid (by rw [← hW2, ← hM]; exact mapF_new W)
      have HB2 : Hid (Below W.heap.size W W2) := Lib.hid (by rw [← hW2]; exact (Below.refl _ _).alloc (Nat.le_refl _) _)
      have HMs : Hid (W.heap.size ≤ M) := Lib.hid (Nat.le_of_eq hM)
      rw [hW2, hM] at hmk
      clear hW2 hM
      go_wp2_with fail
      clear hmk
      go_loopw [22, 112] (fun v i wr => ReR W M gs.length v i wr) (fun _ i _ => ((gs.length : Int) - intOf i).toNat)
      case atStart => exact ⟨0, -1, _, rfl, rfl, Nat.zero_le _, by decide, by decide, HM0.out, (fun k v h => by cases h), HB2.out⟩
      case round =>
       obtain ⟨k, t, fm, rfl, rfl, hk, ht1, ht2, hm, hgm, hb⟩ := hrel
       have HBr := Lib.hid hb
       have HMr := Lib.hid hm
       have HGm := Lib.hid hgm
       by_cases hlt : k < gs.length
       ·have hki : (k : Int) < gs.length := by omega
        obtain ⟨a, rfl, c0⟩ := HGs.out.at hb hlt
        obtain ⟨g, hg⟩ : ∃ g, gs.getD k default = g := ⟨_, rfl⟩
        rw [hg] at c0
        have hg0 := (HGb.out g (by rw [← hg]; exact List.mem_of_getElem? (get_default hlt))).1
        have hvl := HVl.out
        have hv1 := HVs.out.mono hb
        have cv := hv1.cell (i := k) (by omega)
        have hkv : (k : Int) < vs.length := by omega
        obtain ⟨s, hs⟩ : ∃ s, vs.getD k default = s := ⟨_, rfl⟩
        rw [hs] at cv
        have hsl := HVb.out s (by rw [← hs]; exact List.mem_of_getElem? (get_default (by omega)))
        have HSl := Lib.hid hsl
        by_cases hgn : (N : Int) ≤ g
        ·have HBz := Lib.hid (bstep HBs.out (Nat.le_refl _) hb)
         clear hb hm hgm hg hvl hv1 hs hsl
         go_wp2_with fail
         refine bodyPost_ret (results_tmp2 rfl _ _ _) rfl ?_
         exact rdP_nil (below_touch HT5.out HBz.out)
        ·have hgs4 := HGl.out
         have hk4 : (k : Int) ≤ 4096 := by omega
         have hN4 := HN4.out
         have hg4 : g < 4096 := by omega
         by_cases htn : t < 0
         ·obtain ⟨o, hup, hm2⟩ := mapF_upd (kv := kI) keyInt hm (k := g) trivial Tryz.underlying212 (.string (sB s))
          unfold kI at hup
          have HM2 := Lib.hid hm2
          have HG2 := Lib.hid (goodM_upd hgm g hsl)
          have HB3 := Lib.hid (mset_below hb HMs.out o)
          clear hb hm hgm hg hvl hv1 hs hsl hgs4 hN4 hm2
          go_wp2_with fail
          go_roundw
          case rel => exact ⟨k + 1, g, _, by go_num, rfl, by omega, by omega, by omega, HM2.out, HG2.out, HB3.out⟩
          case measure => simp [intOf]; omega
         ·obtain ⟨t2, ht2e⟩ : ∃ t2, t + (g + 1) = t2 := ⟨_, rfl⟩
          obtain ⟨o, hup, hm2⟩ := mapF_upd (kv := kI) keyInt hm (k := t2) trivial Tryz.underlying212 (.string (sB s))
          unfold kI at hup
          have HM2 := Lib.hid hm2
          have HG2 := Lib.hid (goodM_upd hgm t2 hsl)
          have HB3 := Lib.hid (mset_below hb HMs.out o)
          clear hb hm hgm hg hvl hv1 hs hsl hgs4 hN4 hm2
          go_wp2_with fail
          go_roundw
          case rel => exact ⟨k + 1, t2, _, by go_num, rfl, by omega, by omega, by omega, HM2.out, HG2.out, HB3.out⟩
          case measure => simp [intOf]; omega
       ·obtain rfl : k = gs.length := by omega
        have HBq := Lib.hid (bstep HBs.out (Nat.le_refl _) hb)
        have hown := srow_own (HSt.out.mono hb) HGt.out (by simp)
        have HO0 : Hid (OwnR w5 9 1 (.slice (some ⟨Gt, 0, none⟩) 1 1) 1 (sc [s0]) wr) := Lib.hid hown
        clear hb hm hgm hown ht1 ht2 hlt hk
        go_wp2_with fail
        go_loopw [25, 26] (fun v i wr => RoR w5 M N fm v i wr) (fun _ i _ => ((N : Int) - intOf i).toNat)
        case atStart => exact ⟨1, [s0], rfl, by omega, .inr rfl, rfl, HS0b.out, HO0.out, HMr.out, HBq.out⟩
        case round =>
         obtain ⟨j, xs, rfl, hj1, hjN, hxl, hxb, ho, hm, hb⟩ := hrel
         have HO := Lib.hid ho
         have HM := Lib.hid hm
         have HB := Lib.hid hb
         have HXb := Lib.hid hxb
         have HXl := Lib.hid hxl
         obtain ⟨A', c', rfl⟩ := row_sl ho.row
         by_cases hlt : j < N
         ·have hji : (j : Int) < N := by omega
          have hN4 := HN4.out
          have HJ1 : Hid (j + 1 ≤ 1000000) := Lib.hid (by omega)
          rcases hfj : fm (j : Int) with _ | v
          ·have hz : (zeroValue 9).run Tryz.prog wr = .ok (.string ⟨#[]⟩) wr := by simp [zeroValue, go_sem]; rfl
           have hlk := mapF_none (kv := kI) keyInt hm (k := (j : Int)) trivial Tryz.underlying212 hz hfj true
           unfold kI at hlk
           obtain ⟨q, hq⟩ : ∃ q, j = q + 1 := ⟨j - 1, by omega⟩
           have hqi : (j : Int) - 1 = (q : Int) := by omega
           have hql : (q : Int) < j := by omega
           obtain ⟨b, rfl, cb⟩ := (ownS_in ho).at (.refl _ _) (show q < xs.length by omega)
           obtain ⟨y, hy⟩ : ∃ y, xs.getD q default = y := ⟨_, rfl⟩
           rw [hy] at cb
           have hyl := hxb y (by rw [← hy]; exact List.mem_of_getElem? (get_default (by omega)))
           have hstl := HS2l.out
           have hmx : maxLen = 2 ^ 63 - 1 := rfl
           have had := add_walk y st (by omega) (by omega) wr
           have hdl : addOk y st = true → (addV y st).length ≤ 128 := fun h => by
            unfold addOk at h
            simp only [Bool.and_eq_true, decide_eq_true_eq] at h
            unfold addV
            rw [sumS_length y st 0 h.2]; exact hyl
           obtain ⟨ok, hok⟩ : ∃ ok, addOk y st = ok := ⟨_, rfl⟩
           rw [hok] at had hdl
           have HAd := Lib.hid had
           have HDl := Lib.hid hdl
           clear ho hm hb hxb hxl hq hy hyl hstl hmx had hdl hok hfj hN4
           cases ok with
           | false =>
            go_wp2_with fail
            refine (HAd.out).mono ?_
            rintro x w8 ⟨rfl, hb8⟩
            have HBz := Lib.hid (bstep HB.out (Nat.le_refl _) hb8)
            clear hb8 cb hlk
            go_wp2_with fail
            refine bodyPost_ret (results_tmp2 rfl _ _ _) rfl ?_
            exact rdP_nil (below_touch HT5.out HBz.out)
           | true =>
            go_wp2_with fail
            refine (HAd.out).mono ?_
            rintro x w8 ⟨rfl, hb8⟩
            have h8 := bstep HB.out (Nat.le_refl _) hb8
            have ho8 := HO.out.below hb8
            obtain ⟨A9, c9, W9, hrun, ho9, hb9, hg9⟩ := push_str ho8 h8 HJ1.out (addV y st)
            have hm8 := HM.out.of_heap (hb8.block M HM.out.lt)
            have HM9 : Hid (MapF kI (fun _ => True) W9 M fm) := Lib.hid (hm8.of_heap ((hg9.block M (by have := hm8.lt; rw [World.size_alloc]; omega) fun e => row_ne ho8.row hm8 e.symm rfl).trans (Below.heap_alloc w8 _ M hm8.lt)))
            have HO9 := Lib.hid ho9
            have HB9 := Lib.hid hb9
            have HRUN := Lib.hid hrun
            clear hb8 cb hlk h8 ho8 hrun ho9 hb9 hg9 hm8
            go_wp2_with (at_builtin; refine wpList_append_eq rfl _ _ _ rfl _ _ rfl rfl HRUN.out ?_)
            go_roundw
            case rel => exact ⟨j + 1, xs ++ [addV y st], by go_num, by omega, .inl (by omega), by rw [List.length_append, HXl.out]; rfl, fun s hs => by
             rw [List.mem_append, List.mem_singleton] at hs
             rcases hs with hs | rfl
             ·exact HXb.out s hs
             ·first | exact HDl.out rfl | exact HDl.out trivial, HO9.out, HM9.out, HB9.out⟩
            case measure => simp [intOf]; omega
          ·obtain ⟨y, rfl, hyl⟩ := HGm.out _ _ hfj
           have hlk := mapF_look (kv := kI) keyInt hm (k := (j : Int)) trivial Tryz.underlying212 hfj true
           unfold kI at hlk
           obtain ⟨A9, c9, W9, hrun, ho9, hb9, hg9⟩ := push_str ho hb HJ1.out y
           have HM9 : Hid (MapF kI (fun _ => True) W9 M fm) := Lib.hid (hm.of_heap ((hg9.block M (by have := hm.lt; rw [World.size_alloc]; omega) fun e => row_ne ho.row hm e.symm rfl).trans (Below.heap_alloc wr _ M hm.lt)))
           have HO9 := Lib.hid ho9
           have HB9 := Lib.hid hb9
           have HRUN := Lib.hid hrun
           have HYl := Lib.hid hyl
           clear ho hm hb hxb hxl hfj hN4 hrun ho9 hb9 hg9 hyl
           go_wp2_with (at_builtin; refine wpList_append_eq rfl _ _ _ rfl _ _ rfl rfl HRUN.out ?_)
           go_roundw
           case rel => exact ⟨j + 1, xs ++ [y], by go_num, by omega, .inl (by omega), by rw [List.length_append, HXl.out]; rfl, fun s hs => by
            rw [List.mem_append, List.mem_singleton] at hs
            rcases hs with hs | rfl
            ·exact HXb.out s hs
            ·exact HYl.out, HO9.out, HM9.out, HB9.out⟩
           case measure => simp [intOf]; omega
         ·have hge : ¬ (j : Int) < N := by omega
          have hN4 := HN4.out
          have HX4 : Hid (xs.length ≤ 4096) := Lib.hid (by omega)
          have HIn := Lib.hid (ownS_in ho)
          clear ho hm hb hxb hxl hN4
          go_wp2_with fail
          refine bodyPost_ret (results_tmp2 rfl _ _ _) rfl ?_
          exact ⟨below_touch HT5.out HB.out, xs, true, A', c', by rw [HXl.out]; rfl, HIn.out, HX4.out, HXb.out⟩
     ·have hse0 : ((sB st0).toList == ([] : List UInt8)) = false := by
       rw [sB_toList]; simpa using hse
      have hsn0 : ((sB st0).toList != ([] : List UInt8)) = true := by rw [bne, hse0]; rfl
      have hbA : Below w9.heap.size w9 (w9.alloc (.cells #[.string (sB st0)] 9)) := (Below.refl _ _).alloc (Nat.le_refl _) _
      have HBA2 := Lib.hid hbA
      have HL2 : Hid (Calls Tryz.prog 148 #[.agg #[.int .i64 (n : Int)], .slice (some ⟨w9.heap.size, 0, none⟩) 1 1] (w9.alloc (.cells #[.string (sB st0)] 9)) fun x w' => LongP (w9.alloc (.cells #[.string (sB st0)] 9)) (longV n [st0]) x w') := Lib.hid (long_walk n HN.out.1 HN.out.2 [st0] (by simp) (fun s h => by simp at h; rw [h]; have := HSl.out; omega) _ _ 1 (srow_in (one_srow w9 st0)))
      have HV2 := Lib.hid (longV_b n HN.out.2 [st0])
      clear hbA hse
      go_wp2_with fail
      refine (HL2.out).mono ?_
      rintro x w10 ⟨hb10, hcase⟩
      have HB910 : Hid (Below w9.heap.size w9 w10) := Lib.hid (bstep HBA2.out (Nat.le_refl _) hb10)
      have HBs : Hid (Below w5.heap.size w5 w10) := Lib.hid (bstep HBz.out (Nat.le_refl _) HB910.out)
      clear hb10 cp HL2
      rcases hcase with ⟨-, rfl⟩ | ⟨hlo, G2, hG2, rfl, hst2⟩
      ·have HBz := HBs
       go_wp2_with fail
       refine bodyPost_ret (results_tmp2 rfl _ _ _) rfl ?_
       exact rdP_nil (below_touch HT5.out HBz.out)
      ·have hlo2 : ∃ s0, (longV n [st0]).1 = [s0] := by
        unfold longV at hlo ⊢
        split at hlo
        ·rename_i h
         rw [if_pos h]; exact ⟨_, rfl⟩
        ·cases hlo
       obtain ⟨st, hst⟩ := hlo2
       rw [hst] at hst2 HV2 ⊢
       have cx := hst2.cell (i := 0) (by simp)
       have cx2 : w10.cell? ⟨G2, 0, none⟩ = some (.string (sB st)) := cx
       have hl1 : ([st] : List Str).length = 1 := rfl
       rw [hl1]
       have HS2l : Hid (st.length ≤ 128) := Lib.hid (HV2.out.2 st (by simp))
       obtain ⟨W, hW⟩ : ∃ W, W = w10 := ⟨_, rfl⟩
       subst hW
       have HSt := Lib.hid (HSt0.out.mono HB910.out)
       have HGt := HGt0
       have HVs := Lib.hid (HV9.out.mono HB910.out)
       have HGs := Lib.hid (HI9.out.mono HB910.out)
       clear hlo hst hst2 cx hl1 hG2
       go_upto_region 19 with (fail)
       clear cx2
       have hmk : (Instr.makeMap 212 none).run Tryz.prog W = .ok (.map (some W.heap.size)) (W.alloc (.map #[] 0)) := by simp [Instr.makeMap, Result.andThen]
       obtain ⟨W2, hW2⟩ : ∃ W2, W.alloc (.map #[] 0) = W2 := ⟨_, rfl⟩
       obtain ⟨M, hM⟩ : ∃ M, W.heap.size = M := ⟨_, rfl⟩
       have HM0 : Hid (MapF kI (fun _ => True) W2 M (fun _ => none)) := Lib.hid (by rw [← hW2, ← hM]; exact mapF_new W)
       have HB2 : Hid (Below W.heap.size W W2) := Lib.hid (by rw [← hW2]; exact (Below.refl _ _).alloc (Nat.le_refl _) _)
       have HMs : Hid (W.heap.size ≤ M) := Lib.hid (Nat.le_of_eq hM)
       rw [hW2, hM] at hmk
       clear hW2 hM
       go_wp2_with fail
       clear hmk
       go_loopw [22, 112] (fun v i wr => ReR W M gs.length v i wr) (fun _ i _ => ((gs.length : Int) - intOf i).toNat)
       case atStart => exact ⟨0, -1, _, rfl, rfl, Nat.zero_le _, by decide, by decide, HM0.out, (fun k v h => by cases h), HB2.out⟩
       case round =>
        obtain ⟨k, t, fm, rfl, rfl, hk, ht1, ht2, hm, hgm, hb⟩ := hrel
        have HBr := Lib.hid hb
        have HMr := Lib.hid hm
        have HGm := Lib.hid hgm
        by_cases hlt : k < gs.length
        ·have hki : (k : Int) < gs.length := by omega
         obtain ⟨a, rfl, c0⟩ := HGs.out.at hb hlt
         obtain ⟨g, hg⟩ : ∃ g, gs.getD k default = g := ⟨_, rfl⟩
         rw [hg] at c0
         have hg0 := (HGb.out g (by rw [← hg]; exact List.mem_of_getElem? (get_default hlt))).1
         have hvl := HVl.out
         have hv1 := HVs.out.mono hb
         have cv := hv1.cell (i := k) (by omega)
         have hkv : (k : Int) < vs.length := by omega
         obtain ⟨s, hs⟩ : ∃ s, vs.getD k default = s := ⟨_, rfl⟩
         rw [hs] at cv
         have hsl := HVb.out s (by rw [← hs]; exact List.mem_of_getElem? (get_default (by omega)))
         have HSl := Lib.hid hsl
         by_cases hgn : (N : Int) ≤ g
         ·have HBz := Lib.hid (bstep HBs.out (Nat.le_refl _) hb)
          clear hb hm hgm hg hvl hv1 hs hsl
          go_wp2_with fail
          refine bodyPost_ret (results_tmp2 rfl _ _ _) rfl ?_
          exact rdP_nil (below_touch HT5.out HBz.out)
         ·have hgs4 := HGl.out
          have hk4 : (k : Int) ≤ 4096 := by omega
          have hN4 := HN4.out
          have hg4 : g < 4096 := by omega
          by_cases htn : t < 0
          ·obtain ⟨o, hup, hm2⟩ := mapF_upd (kv := kI) keyInt hm (k := g) trivial Tryz.underlying212 (.string (sB s))
           unfold kI at hup
           have HM2 := Lib.hid hm2
           have HG2 := Lib.hid (goodM_upd hgm g hsl)
           have HB3 := Lib.hid (mset_below hb HMs.out o)
           clear hb hm hgm hg hvl hv1 hs hsl hgs4 hN4 hm2
           go_wp2_with fail
           go_roundw
           case rel => exact ⟨k + 1, g, _, by go_num, rfl, by omega, by omega, by omega, HM2.out, HG2.out, HB3.out⟩
           case measure => simp [intOf]; omega
          ·obtain ⟨t2, ht2e⟩ : ∃ t2, t + (g + 1) = t2 := ⟨_, rfl⟩
           obtain ⟨o, hup, hm2⟩ := mapF_upd (kv := kI) keyInt hm (k := t2) trivial Tryz.underlying212 (.string (sB s))
           unfold kI at hup
           have HM2 := Lib.hid hm2
           have HG2 := Lib.hid (goodM_upd hgm t2 hsl)
           have HB3 := Lib.hid (mset_below hb HMs.out o)
           clear hb hm hgm hg hvl hv1 hs hsl hgs4 hN4 hm2
           go_wp2_with fail
           go_roundw
           case rel => exact ⟨k + 1, t2, _, by go_num, rfl, by omega, by omega, by omega, HM2.out, HG2.out, HB3.out⟩
           case measure => simp [intOf]; omega
        ·obtain rfl : k = gs.length := by omega
         have HBq := Lib.hid (bstep HBs.out (Nat.le_refl _) hb)
         have hown := srow_own (HSt.out.mono hb) HGt.out (by simp)
         have HO0 : Hid (OwnR w5 9 1 (.slice (some ⟨Gt, 0, none⟩) 1 1) 1 (sc [s0]) wr) := Lib.hid hown
         clear hb hm hgm hown ht1 ht2 hlt hk
         go_wp2_with fail
         go_loopw [25, 26] (fun v i wr => RoR w5 M N fm v i wr) (fun _ i _ => ((N : Int) - intOf i).toNat)
         case atStart => exact ⟨1, [s0], rfl, by omega, .inr rfl, rfl, HS0b.out, HO0.out, HMr.out, HBq.out⟩
         case round =>
          obtain ⟨j, xs, rfl, hj1, hjN, hxl, hxb, ho, hm, hb⟩ := hrel
          have HO := Lib.hid ho
          have HM := Lib.hid hm
          have HB := Lib.hid hb
          have HXb := Lib.hid hxb
          have HXl := Lib.hid hxl
          obtain ⟨A', c', rfl⟩ := row_sl ho.row
          by_cases hlt : j < N
          ·have hji : (j : Int) < N := by omega
           have hN4 := HN4.out
           have HJ1 : Hid (j + 1 ≤ 1000000) := Lib.hid (by omega)
           rcases hfj : fm (j : Int) with _ | v
           ·have hz : (zeroValue 9).run Tryz.prog wr = .ok (.string ⟨#[]⟩) wr := by simp [zeroValue, go_sem]; rfl
            have hlk := mapF_none (kv := kI) keyInt hm (k := (j : Int)) trivial Tryz.underlying212 hz hfj true
            unfold kI at hlk
            obtain ⟨q, hq⟩ : ∃ q, j = q + 1 := ⟨j - 1, by omega⟩
            have hqi : (j : Int) - 1 = (q : Int) := by omega
            have hql : (q : Int) < j := by omega
            obtain ⟨b, rfl, cb⟩ := (ownS_in ho).at (.refl _ _) (show q < xs.length by omega)
            obtain ⟨y, hy⟩ : ∃ y, xs.getD q default = y := ⟨_, rfl⟩
            rw [hy] at cb
            have hyl := hxb y (by rw [← hy]; exact List.mem_of_getElem? (get_default (by omega)))
            have hstl := HS2l.out
            have hmx : maxLen = 2 ^ 63 - 1 := rfl
            have had := add_walk y st (by omega) (by omega) wr
            have hdl : addOk y st = true → (addV y st).length ≤ 128 := fun h => by
             unfold addOk at h
             simp only [Bool.and_eq_true, decide_eq_true_eq] at h
             unfold addV
             rw [sumS_length y st 0 h.2]; exact hyl
            obtain ⟨ok, hok⟩ : ∃ ok, addOk y st = ok := ⟨_, rfl⟩
            rw [hok] at had hdl
            have HAd := Lib.hid had
            have HDl := Lib.hid hdl
            clear ho hm hb hxb hxl hq hy hyl hstl hmx had hdl hok hfj hN4
            cases ok with
            | false =>
             go_wp2_with fail
             refine (HAd.out).mono ?_
             rintro x w8 ⟨rfl, hb8⟩
             have HBz := Lib.hid (bstep HB.out (Nat.le_refl _) hb8)
             clear hb8 cb hlk
             go_wp2_with fail
             refine bodyPost_ret (results_tmp2 rfl _ _ _) rfl ?_
             exact rdP_nil (below_touch HT5.out HBz.out)
            | true =>
             go_wp2_with fail
             refine (HAd.out).mono ?_
             rintro x w8 ⟨rfl, hb8⟩
             have h8 := bstep HB.out (Nat.le_refl _) hb8
             have ho8 := HO.out.below hb8
             obtain ⟨A9, c9, W9, hrun, ho9, hb9, hg9⟩ := push_str ho8 h8 HJ1.out (addV y st)
             have hm8 := HM.out.of_heap (hb8.block M HM.out.lt)
             have HM9 : Hid (MapF kI (fun _ => True) W9 M fm) := Lib.hid (hm8.of_heap ((hg9.block M (by have := hm8.lt; rw [World.size_alloc]; omega) fun e => row_ne ho8.row hm8 e.symm rfl).trans (Below.heap_alloc w8 _ M hm8.lt)))
             have HO9 := Lib.hid ho9
             have HB9 := Lib.hid hb9
             have HRUN := Lib.hid hrun
             clear hb8 cb hlk h8 ho8 hrun ho9 hb9 hg9 hm8
             go_wp2_with (at_builtin; refine wpList_append_eq rfl _ _ _ rfl _ _ rfl rfl HRUN.out ?_)
             go_roundw
             case rel => exact ⟨j + 1, xs ++ [addV y st], by go_num, by omega, .inl (by omega), by rw [List.length_append, HXl.out]; rfl, fun s hs => by
              rw [List.mem_append, List.mem_singleton] at hs
              rcases hs with hs | rfl
              ·exact HXb.out s hs
              ·first | exact HDl.out rfl | exact HDl.out trivial, HO9.out, HM9.out, HB9.out⟩
             case measure => simp [intOf]; omega
           ·obtain ⟨y, rfl, hyl⟩ := HGm.out _ _ hfj
            have hlk := mapF_look (kv := kI) keyInt hm (k := (j : Int)) trivial Tryz.underlying212 hfj true
            unfold kI at hlk
            obtain ⟨A9, c9, W9, hrun, ho9, hb9, hg9⟩ := push_str ho hb HJ1.out y
            have HM9 : Hid (MapF kI (fun _ => True) W9 M fm) := Lib.hid (hm.of_heap ((hg9.block M (by have := hm.lt; rw [World.size_alloc]; omega) fun e => row_ne ho.row hm e.symm rfl).trans (Below.heap_alloc wr _ M hm.lt)))
            have HO9 := Lib.hid ho9
            have HB9 := Lib.hid hb9
            have HRUN := Lib.hid hrun
            have HYl := Lib.hid hyl
            clear ho hm hb hxb hxl hfj hN4 hrun ho9 hb9 hg9 hyl
            go_wp2_with (at_builtin; refine wpList_append_eq rfl _ _ _ rfl _ _ rfl rfl HRUN.out ?_)
            go_roundw
            case rel => exact ⟨j + 1, xs ++ [y], by go_num, by omega, .inl (by omega), by rw [List.length_append, HXl.out]; rfl, fun s hs => by
             rw [List.mem_append, List.mem_singleton] at hs
             rcases hs with hs | rfl
             ·exact HXb.out s hs
             ·exact HYl.out, HO9.out, HM9.out, HB9.out⟩
            case measure => simp [intOf]; omega
          ·have hge : ¬ (j : Int) < N := by omega
           have hN4 := HN4.out
           have HX4 : Hid (xs.length ≤ 4096) := Lib.hid (by omega)
           have HIn := Lib.hid (ownS_in ho)
           clear ho hm hb hxb hxl hN4
           go_wp2_with fail
           refine bodyPost_ret (results_tmp2 rfl _ _ _) rfl ?_
           exact ⟨below_touch HT5.out HB.out, xs, true, A', c', by rw [HXl.out]; rfl, HIn.out, HX4.out, HXb.out⟩
    ·by_cases he : e = 0
     ·by_cases hf : f = 0
      ·subst he hf
       have hln : gs.length ≠ vs.length := fun h => hgv ⟨rfl, rfl, h⟩
       have hlb : ((gs.length : Int) != (vs.length : Int)) = true := by
        exact bne_iff_ne.2 (by omega)
       clear hgv hln
       go_wp2_with fail
       refine bodyPost_ret (results_tmp2 rfl _ _ _) rfl ?_
       exact rdP_nil (below_touch HT5.out HBz.out)
      ·subst he
       have hfn := errne hf
       clear hf hgv
       go_wp2_with fail
       refine bodyPost_ret (results_tmp2 rfl _ _ _) rfl ?_
       exact rdP_nil (below_touch HT5.out HBz.out)
     ·have hen := errne he
      clear he hgv
      go_wp2_with fail
      refine bodyPost_ret (results_tmp2 rfl _ _ _) rfl ?_
      exact rdP_nil (below_touch HT5.out HBz.out)
 ·have hern := errne her
  clear her
  go_wp2_with fail
  refine bodyPost_ret (results_tmp2 rfl _ _ _) rfl ?_
  exact rdP_nil HT5.out
end Go.Proofs.YtlmjefjimoghcaaGreat
