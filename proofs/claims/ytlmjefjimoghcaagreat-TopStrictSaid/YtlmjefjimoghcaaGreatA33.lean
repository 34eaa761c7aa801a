/- A part of the proofs of TopCounter and TopStrict: what the functions of the program do, each walked once, and plain laws about it. No condition. -/
import Derived.Test.YtlmjefjimoghcaaGreatA27
namespace Go.Proofs.YtlmjefjimoghcaaGreat
set_option linter.unusedSimpArgs false
set_option linter.unnecessarySimpa false
set_option linter.unusedVariables false
open Go.RowKit
attribute [local go_sem ↓] Go.wp_at_zero Go.wp_at_succ
def vecB (n : Int) (s : Str) : Bool := isV s && decide ((s.length : Int) = n)
/-- a list of values of one width -/
def busV (n : Int) (l : List Str) : Bool := l.all (vecB n) && (decide (1 ≤ n) && decide (n ≤ 128) && decide (l.length ≤ 4096))
def BvR (w : World) (l : List Str) (n : Int) (i : Value) (wr : World) : Prop := ∃ k : Nat, i = .int .i64 (k : Int) ∧ k ≤ l.length ∧ (l.take k).all (vecB n) = true ∧ Below w.heap.size w wr
theorem any_stepA {f : Str → Bool} {l : List Str} {k : Nat} (hk : k < l.length) : (l.take (k + 1)).all f = ((l.take k).all f && f (l.getD k default)) := by
 rw [List.take_succ_eq_append_getElem hk, List.all_append]; simp [List.getD, hk]
set_option maxRecDepth 100000 in
theorem busV_walk (l : List Str) (hl : l.length ≤ 1000000) (hs : ∀ s ∈ l, s.length ≤ 100000) (n : Int) (w : World) (A : Option Addr) (c : Nat) (hF : InS w A l) : Calls Tryz.prog 37 #[.int .i64 n, .slice A l.length c] w fun e w' => e = .returned (.bool (busV n l)) ∧ Below w.heap.size w w' := by
 have HF := Lib.hid hF
 have HS := Lib.hid hs
 have hli : (l.length : Int) ≤ 1000000 := by omega
 have HL := Lib.hid hl
 clear hF hs hl
 go_enter Tryz.func37, Tryz.ntmps37
 go_wp2_with fail
 go_loopw [9] (fun i wr => BvR w l n i wr) (fun i _ => ((l.length : Int) - intOf i).toNat)
 case atStart => exact ⟨0, rfl, Nat.zero_le _, rfl, .refl _ _⟩
 case round =>
  obtain ⟨k, rfl, hk, hall, hb⟩ := hrel
  have HB := Lib.hid hb
  have HAl := Lib.hid hall
  by_cases hlt : k < l.length
  ·have hki : (k : Int) < l.length := by omega
   obtain ⟨s, hs⟩ : ∃ s, l.getD k default = s := ⟨_, rfl⟩
   obtain ⟨a, rfl, c0⟩ := HF.out.at hb hlt
   rw [hs] at c0
   have hsl := HS.out s (by rw [← hs]; exact List.mem_of_getElem? (get_default hlt))
   have hst : (l.take (k + 1)).all (vecB n) = ((l.take k).all (vecB n) && vecB n s) := by rw [any_stepA hlt, hs]
   cases hv : vecB n s with
   | true =>
    have HV := Lib.hid (valid_walk s (by unfold maxLen; omega) n true hv wr)
    have HN : Hid ((l.take (k + 1)).all (vecB n) = true) := Lib.hid (by rw [hst, hall, hv]; rfl)
    clear hb hall hs hsl hst hv
    go_wp2_with fail
    refine (HV.out).mono ?_
    rintro x w2 ⟨rfl, hb2⟩
    have HB2 := Lib.hid (bstep HB.out (Nat.le_refl _) hb2)
    clear hb2
    go_wp2_with fail
    go_roundw
    case rel => exact ⟨k + 1, by go_num, by omega, HN.out, HB2.out⟩
    case measure => simp [intOf]; omega
   | false =>
    have HV := Lib.hid (valid_walk s (by unfold maxLen; omega) n false hv wr)
    have HN : Hid (busV n l = false) := Lib.hid (by
     have : l.all (vecB n) = false := by
      rw [List.all_eq_false]
      exact ⟨s, by rw [← hs]; exact List.mem_of_getElem? (get_default hlt), by rw [hv]; decide⟩
     unfold busV; rw [this]; rfl)
    clear hb hall hs hsl hst hv
    go_wp2_with fail
    refine (HV.out).mono ?_
    rintro x w2 ⟨rfl, hb2⟩
    have HB2 := Lib.hid (bstep HB.out (Nat.le_refl _) hb2)
    clear hb2
    go_wp2_with fail
    go_ret
    rw [HN.out]
    exact ⟨rfl, HB2.out⟩
  ·obtain rfl : k = l.length := by omega
   rw [List.take_length] at hall
   have HE : Hid (busV n l = (decide (1 ≤ n) && decide (n ≤ 128) && decide ((l.length : Int) ≤ 4096))) := Lib.hid (by unfold busV; rw [hall, Bool.true_and]; congr 1; exact decide_eq_decide.2 (by omega))
   clear hb hall
   by_cases h1 : 1 ≤ n <;> by_cases h2 : n ≤ 128
   all_goals
    go_wp2_with fail
    go_ret
    rw [HE.out]
    exact ⟨by first | (simp [h1, h2]; done) | (simp; omega), HB.out⟩
/-- the steps from value to value, of those that are known -/
def stepsK (l : List Str) : Nat → List Str
 | 0 => []
 | k + 1 => if addOk (l.getD k default) (l.getD (k + 1) default) then stepsK l k ++ [diffV (l.getD k default) (l.getD (k + 1) default)] else stepsK l k
def stepsL (l : List Str) : List Str := stepsK l (l.length - 1)
def bestW (ds ws : List Str) : Str := ws.foldl (fun b x => if ds.count b < ds.count x then x else b) []
def stepV (l : List Str) : Str := if busV ((l.getD 0 []).length : Int) l && decide (l ≠ []) then bestW (stepsL l) (words (stepsL l)) else []
theorem stepsK_len (l : List Str) : ∀ k, (stepsK l k).length ≤ k
 | 0 => Nat.le_refl _
 | k + 1 => by
  have := stepsK_len l k
  unfold stepsK; split
  ·simp; omega
  ·omega
theorem vecB_of {n : Int} {l : List Str} (h : busV n l = true) {s : Str} (hs : s ∈ l) : isV s = true ∧ (s.length : Int) = n := by
 unfold busV at h
 rw [Bool.and_eq_true] at h
 have := List.all_eq_true.1 h.1 s hs
 unfold vecB at this
 rw [Bool.and_eq_true, decide_eq_true_eq] at this
 exact this
theorem busV_n {n : Int} {l : List Str} (h : busV n l = true) : 1 ≤ n ∧ n ≤ 128 ∧ l.length ≤ 4096 := by
 unfold busV at h
 simp only [Bool.and_eq_true, decide_eq_true_eq] at h
 exact ⟨h.2.1.1, h.2.1.2, h.2.2⟩
def cntF (ds : List Str) (s : Str) : Option Value := if s ∈ ds then some (.int .i64 (ds.count s : Int)) else none
theorem cnt_snoc (ds : List Str) (s : Str) : upd (cntF ds) s (some (.int .i64 ((ds.count s : Int) + 1))) = cntF (ds ++ [s]) := by
 funext x
 unfold upd cntF
 by_cases hx : x = s
 ·subst hx
  rw [if_pos rfl, if_pos (by simp), List.count_append]
  simp
 ·rw [if_neg hx, List.count_append]
  have h0 : List.count x [s] = 0 := by simp [List.count_cons, List.count_nil, Ne.symm hx]
  rw [h0]
  by_cases hm : x ∈ ds
  ·rw [if_pos hm, if_pos (by simp [hm])]; simp
  ·rw [if_neg hm, if_neg (by simp [hm, hx])]
theorem lookC {w : World} {M : Nat} {ds : List Str} (h : MapF kStr (fun _ => True) w M (cntF ds)) (s : Str) : (Instr.lookup 199 (.map (some M)) (.string (sB s)) false).run Tryz.prog w = .ok (.int .i64 (ds.count s : Int)) w := by
 by_cases hs : s ∈ ds
 ·exact mapF_look keyStr h (k := s) trivial Tryz.underlying199 (v := .int .i64 (ds.count s : Int)) (by unfold cntF; rw [if_pos hs]) false
 ·have hz : (zeroValue 3).run Tryz.prog w = .ok (.int .i64 0) w := by simp [zeroValue, go_sem]; rfl
  have h0 : ds.count s = 0 := List.count_eq_zero.2 hs
  rw [h0]
  exact mapF_none keyStr h (k := s) trivial Tryz.underlying199 hz (by unfold cntF; rw [if_neg hs]) false
/-- the counts and the words after m pairs -/
def StR (w : World) (M : Nat) (l : List Str) (v i : Value) (wr : World) : Prop := ∃ j m : Nat, i = .int .i64 (j : Int) ∧ j = m + 1 ∧ j ≤ l.length ∧ OwnR w 9 1 v (words (stepsK l m)).length (sc (words (stepsK l m))) wr ∧ MapF kStr (fun _ => True) wr M (cntF (stepsK l m)) ∧ Below w.heap.size w wr
/-- the best of the first k words -/
def StB (w : World) (ds ws : List Str) (b i : Value) (wr : World) : Prop := ∃ k : Nat, i = .int .i64 (k : Int) ∧ k ≤ ws.length ∧ b = .string (sB (bestW ds (ws.take k))) ∧ Below w.heap.size w wr
theorem best_snoc (ds ws : List Str) (x : Str) : bestW ds (ws ++ [x]) = if ds.count (bestW ds ws) < ds.count x then x else bestW ds ws := by unfold bestW; rw [List.foldl_append]; rfl
set_option maxRecDepth 100000 in
set_option maxHeartbeats 2000000 in
theorem step_walk (l : List Str) (hl : l.length ≤ 1000000) (hs : ∀ s ∈ l, s.length ≤ 100000) (w : World) (A : Option Addr) (c : Nat) (hF : InS w A l) : Calls Tryz.prog 158 #[.slice A l.length c] w fun e w' => e = .returned (.string (sB (stepV l))) ∧ Below w.heap.size w w' := by
 by_cases h0 : l = []
 ·subst h0
  clear hl hs hF
  go_enter Tryz.func158, Tryz.ntmps158
  go_wp2_with fail
  go_ret
  exact ⟨rfl, .refl _ _⟩
 have hlp : 0 < l.length := List.length_pos_iff.2 h0
 obtain ⟨s0, hs0⟩ : ∃ s, l.getD 0 default = s := ⟨_, rfl⟩
 obtain ⟨a, rfl, c0⟩ := hF.at (.refl _ _) hlp
 rw [hs0, show a.add 0 = a by simp [Addr.add]] at c0
 have HBv := Lib.hid (busV_walk l hl hs (s0.length : Int) w (some a) c hF)
 have hsz := sB_size s0
 have hlz : ¬ (l.length : Int) = 0 := by omega
 have hlzb : ((l.length : Int) == 0) = false := by simpa using hlz
 have HE : Hid (stepV l = if busV (s0.length : Int) l then bestW (stepsL l) (words (stepsL l)) else []) := Lib.hid (by
  unfold stepV; rw [show l.getD 0 [] = s0 from hs0, decide_eq_true h0, Bool.and_true])
 have HF := Lib.hid hF
 have HS0 := Lib.hid hs
 have HLl := Lib.hid hl
 cases hv : busV (s0.length : Int) l with
 | false =>
  rw [hv] at HBv
  have HE2 : Hid (stepV l = []) := Lib.hid (by rw [HE.out, hv]; rfl)
  clear hl hs hF h0 hs0 hv hlp
  go_enter Tryz.func158, Tryz.ntmps158
  go_wp2_with fail
  refine (HBv.out).mono ?_
  rintro x w1 ⟨rfl, hb1⟩
  have HB1 := Lib.hid hb1
  clear hb1
  go_wp2_with fail
  go_ret
  rw [HE2.out]
  exact ⟨rfl, HB1.out⟩
 | true =>
  rw [hv] at HBv
  have HE2 : Hid (stepV l = bestW (stepsL l) (words (stepsL l))) := Lib.hid (by rw [HE.out, hv]; rfl)
  have HVb := Lib.hid fun s (h : s ∈ l) => vecB_of hv h
  have hb4 := (busV_n hv).2.2
  have hbn := (busV_n hv).2.1
  clear hl hs hF h0 hs0 hv
  go_enter Tryz.func158, Tryz.ntmps158
  go_wp2_with fail
  refine (HBv.out).mono ?_
  rintro x wb ⟨rfl, hb1⟩
  have HB1 := Lib.hid hb1
  have hmk : (Instr.makeMap 199 none).run Tryz.prog wb = .ok (.map (some wb.heap.size)) (wb.alloc (.map #[] 0)) := by simp [Instr.makeMap, Result.andThen]
  clear hb1
  go_wp2_with fail
  have ho0 : OwnR wb 9 1 (.slice (some ⟨wb.heap.size + 1, 0, none⟩) 0 0) 0 [] ((wb.alloc (.map #[] 0)).alloc (.cells #[] 9)) := ⟨⟨rfl, .inr ⟨wb.heap.size + 1, 0, #[], rfl, Nat.zero_le _, by have := heap_alloc_new (wb.alloc (.map #[] 0)) (.cells #[] 9); rw [World.size_alloc] at this; exact this, Nat.le_refl _, Nat.zero_le _, rfl, rfl⟩⟩, fun g hg => by injection hg with hg; have hg : wb.heap.size + 1 = g := hg; omega⟩
  have hm0 : MapF kStr (fun _ => True) ((wb.alloc (.map #[] 0)).alloc (.cells #[] 9)) wb.heap.size (cntF []) := (mapF_new wb).of_heap (Below.heap_alloc _ _ _ (by rw [World.size_alloc]; omega))
  have hb0 : Below wb.heap.size wb ((wb.alloc (.map #[] 0)).alloc (.cells #[] 9)) := ((Below.refl _ _).alloc (Nat.le_refl _) _).alloc (by rw [World.size_alloc]; omega) _
  obtain ⟨W1, hW1⟩ : ∃ W, (wb.alloc (.map #[] 0)).alloc (.cells #[] 9) = W := ⟨_, rfl⟩
  obtain ⟨G, hG⟩ : ∃ G, wb.heap.size + 1 = G := ⟨_, rfl⟩
  obtain ⟨M, hM⟩ : ∃ M, wb.heap.size = M := ⟨_, rfl⟩
  rw [hW1] at ho0 hm0 hb0 ⊢
  rw [hG] at ho0 ⊢
  rw [hM] at hm0 ⊢
  have HO0 := Lib.hid ho0
  have HM0 := Lib.hid hm0
  have HB0 := Lib.hid hb0
  have HMs : Hid (wb.heap.size ≤ M) := Lib.hid (by rw [hM]; exact Nat.le_refl _)
  have HFi := Lib.hid (HF.out.mono HB1.out)
  clear ho0 hm0 hb0 hW1 hG hM hmk
  go_loopw [4, 5] (fun v i wr => StR wb M l v i wr) (fun _ i _ => ((l.length : Int) - intOf i).toNat)
  case atStart => exact ⟨1, 0, rfl, rfl, by omega, HO0.out, HM0.out, HB0.out⟩
  case round =>
   obtain ⟨j, m, rfl, hjm, hjl, ho, hm, hb⟩ := hrel
   have HO := Lib.hid ho
   have HM := Lib.hid hm
   have HB := Lib.hid hb
   obtain ⟨A', c', rfl⟩ := row_sl ho.row
   have hstl := stepsK_len l m
   by_cases hlt : j < l.length
   ·have hji : (j : Int) < l.length := by omega
    have hmi : (j : Int) - 1 = (m : Int) := by omega
    have hll := HLl.out
    have hw : IntKind.i64.wrap (m : Int) = (m : Int) := IntWalk.i64_in _ (by omega)
    have hml : (m : Int) < l.length := by omega
    have HL : Hid ((stepsK l m).length ≤ 900000) := Lib.hid (by omega)
    obtain ⟨s1, hs1⟩ : ∃ s, l.getD m default = s := ⟨_, rfl⟩
    obtain ⟨s2, hs2⟩ : ∃ s, l.getD j default = s := ⟨_, rfl⟩
    have hin1 : s1 ∈ l := by rw [← hs1]; exact List.mem_of_getElem? (get_default (by omega))
    have hin2 : s2 ∈ l := by rw [← hs2]; exact List.mem_of_getElem? (get_default (by omega))
    have hmm : maxLen = 2 ^ 63 - 1 := rfl
    have l1 := HS0.out _ hin1
    have l2 := HS0.out _ hin2
    have hd0 := fun w => diff_walk s1 s2 (by omega) (by omega) w
    have hst : stepsK l j = if addOk s1 s2 then stepsK l m ++ [diffV s1 s2] else stepsK l m := by rw [hjm, ← hs1, ← hs2, hjm]; rfl
    obtain ⟨d, hd⟩ : ∃ d, (if addOk s1 s2 then diffV s1 s2 else []) = d := ⟨_, rfl⟩
    have hst2 : stepsK l j = if addOk s1 s2 then stepsK l m ++ [d] else stepsK l m := by
     rw [hst, ← hd]; split <;> rfl
    obtain ⟨ok, hok⟩ : ∃ ok, addOk s1 s2 = ok := ⟨_, rfl⟩
    rw [hok] at hst2
    obtain ⟨ds, hds⟩ : ∃ ds, stepsK l m = ds := ⟨_, rfl⟩
    have HD : Hid (∀ w : World, Calls Tryz.prog 177 #[.string (sB s1), .string (sB s2)] w fun e w' => e = .returned (.tuple #[.string (sB d), .bool ok]) ∧ Below w.heap.size w w') := Lib.hid (by
     intro w; have := hd0 w; rw [hd, hok] at this; exact this)
    rw [hds] at hst2 HO HM HL
    rw [hjm] at hst2
    have HS := Lib.hid hst2
    clear c0
    obtain ⟨a1, ha1, c0⟩ := HFi.out.at hb (show m < l.length by omega)
    obtain ⟨a2, ha2, c1⟩ := HFi.out.at hb hlt
    injection ha1 with ha1
    injection ha2 with ha2
    subst ha1 ha2
    rw [hs1] at c0
    rw [hs2] at c1
    have HK : Hid (∀ W', Below wr.heap.size wr W' → W'.cell? (a.add m) = some (.string (sB s1)) ∧ W'.cell? (a.add j) = some (.string (sB s2))) := Lib.hid (by
     intro W' hW'
     obtain ⟨b, hb1, d0⟩ := HFi.out.at (bstep HB.out (Nat.le_refl _) hW') (show m < l.length by omega)
     obtain ⟨b', hb1', d1⟩ := HFi.out.at (bstep HB.out (Nat.le_refl _) hW') hlt
     injection hb1 with hb1; subst hb1
     injection hb1' with hb1'; subst hb1'
     rw [hs1] at d0; rw [hs2] at d1
     exact ⟨d0, d1⟩)
    have HJ : Hid (j = m + 1) := Lib.hid hjm
    clear hjm ho hm hb hst hst2 hd0 hin1 hin2 l1 l2 hmm hd hok hs1 hs2 hll hstl
    rw [hds]
    clear hds
    go_upto_region 7 with (fail)
    refine wp_region_noPanic ?_
    refine wp_region_D 15 (fun w' : World => w'.cell? (a.add m) = some (.string (sB s1)) ∧ w'.cell? (a.add j) = some (.string (sB s2))) (by kernel_rfl) ⟨c0, c1⟩ (fun hU => ?_)
    have hC : (fun w' : World => w'.cell? (a.add m) = some (.string (sB s1)) ∧ w'.cell? (a.add j) = some (.string (sB s2))) wr.drew := ⟨c0, c1⟩
    clear hU
    refine tk 0 32 14 rfl rfl (.inr hC) ?_
    simp only [Act.put, zA, zB, zC]
    refine tk 1 33 13 rfl rfl (.inr hC) ?_
    simp only [Act.put, zA, zB, zC]
    refine tk 2 34 12 rfl rfl (.inr hC) ?_
    simp only [Act.put, zA, zB, zC]
    refine tk 3 35 11 rfl rfl (.inr hC) ?_
    simp only [Act.put, zA, zB, zC]
    refine tl 4 36 10 rfl rfl (.inr hC) ?_
    simp only [Act.put, zA, zB, zC]
    refine tk 5 37 9 rfl rfl (.inr hC) ?_
    simp only [Act.put, zA, zB, zC]
    refine tk 6 38 8 rfl rfl (.inr hC) ?_
    simp only [Act.put, zA, zB, zC]
    refine tk 7 39 7 rfl rfl (.inr hC) ?_
    simp only [Act.put, zA, zB, zC]
    refine tl 8 40 6 rfl rfl (.inr hC) ?_
    simp only [Act.put, zA, zB, zC]
    refine ry 5 [9] ?_
    refine rn rfl (fun K hK => ?_) ?_
    ·go_simp
     go_at_call 177
     with_reducible refine (HD.out _).mono ?_
     rintro x w1 ⟨rfl, hb1⟩
     have HB1 : Hid (Below wr.heap.size wr w1) := Lib.hid ((Below.refl wr.heap.size wr).drew.trans hb1)
     clear hb1
     go_wp2_with fail
     refine shut_C hK ?_ (fun hC => ?_)
     ·exact HK.out _ HB1.out
     clear hK K
     try simp only [Act.put, zA, zB, zC]
     refine tk 10 31 4 rfl rfl (.inr hC) ?_
     simp only [Act.put, zA, zB, zC]
     refine tk 11 42 3 rfl rfl (.inr hC) ?_
     simp only [Act.put, zA, zB, zC]
     refine tk 12 43 2 rfl rfl (.inr hC) ?_
     simp only [Act.put, zA, zB, zC]
     refine tk 13 6 1 rfl rfl (.inr hC) ?_
     simp only [Act.put, zA, zB, zC]
     refine tk 14 7 0 rfl rfl (.inr hC) ?_
     simp only [Act.put, zA, zB, zC]
     refine wpAnyD_done (by kernel_rfl) ?_ _
     refine NoPanic.normal ?_
     have HBw := Lib.hid (bstep HB.out (Nat.le_refl _) HB1.out)
     have HMw : Hid (MapF kStr (fun _ => True) w1 M (cntF ds)) := Lib.hid (HM.out.of_heap (HB1.out.block M HM.out.lt))
     have HOw := Lib.hid (HO.out.below HB1.out)
     rcases Bool.eq_false_or_eq_true ok with hok | hok
     ·subst hok
      have HS2 : Hid (stepsK l (m + 1) = ds ++ [d]) := Lib.hid (by rw [HS.out]; rfl)
      obtain ⟨cn, hcn⟩ : ∃ cn, ds.count d = cn := ⟨_, rfl⟩
      have hcl : (cn : Int) ≤ 1000000 := by have := List.count_le_length (a := d) (l := ds); have := HL.out; omega
      have HC : Hid (upd (cntF ds) d (some (.int .i64 ((cn : Int) + 1))) = cntF (ds ++ [d])) := Lib.hid (by rw [← hcn]; exact cnt_snoc ds d)
      by_cases h0 : cn = 0
      ·have hnd : d ∉ ds := List.count_eq_zero.1 (by omega)
       have HWd : Hid (words (ds ++ [d]) = words ds ++ [d]) := Lib.hid (by rw [words_snoc]; unfold addW; rw [if_neg (by rw [words_mem]; exact hnd)])
       subst h0
       have hlk := lookC HMw.out d
       rw [hcn] at hlk
       obtain ⟨A4, c4, W4, hrun, ho4, hb4, hg4⟩ := push_str HOw.out HBw.out (by have := words_len ds; have := HL.out; omega) d
       have hm4 : MapF kStr (fun _ => True) W4 M (cntF ds) := by
        refine HMw.out.of_heap ((hg4.block M (by have := HMw.out.lt; rw [World.size_alloc]; omega) fun e => row_ne HOw.out.row HMw.out e.symm rfl).trans (Below.heap_alloc w1 _ M HMw.out.lt))
       have hlk4 := lookC hm4 d
       rw [hcn] at hlk4
       obtain ⟨o, hup, hm5⟩ := mapF_upd keyStr hm4 (k := d) trivial Tryz.underlying199 (.int .i64 1)
       have HM5 : Hid (MapF kStr (fun _ => True) (mset W4 M o) M (cntF (ds ++ [d]))) := Lib.hid (by rw [← HC.out]; exact hm5)
       have HB5 : Hid (Below wb.heap.size wb (mset W4 M o)) := Lib.hid (mset_below hb4 HMs.out o)
       have HO5 : Hid (OwnR wb 9 1 (.slice A4 ((words ds).length + 1) c4) ((words ds).length + 1) (sc (words ds ++ [d])) (mset W4 M o)) := Lib.hid (ho4.frame fun g hg => mset_far o (row_ne ho4.row hm4 hg))
       have HRUN := Lib.hid hrun
       clear hC hcn HC hnd hrun ho4 hb4 hg4 hm4 hm5
       go_wp2_with (at_builtin; refine wpList_append_eq rfl _ _ _ rfl _ _ rfl rfl HRUN.out ?_)
       go_roundw
       case rel => exact ⟨j + 1, m + 1, by go_num, by rw [HJ.out], by omega, by rw [HS2.out]; show OwnR wb 9 1 _ (words (ds ++ [d])).length (sc (words (ds ++ [d]))) _; rw [HWd.out, List.length_append]; exact HO5.out, by rw [HS2.out]; exact HM5.out, HB5.out⟩
       case measure => simp [intOf]; omega
      ·have hnz : ((cn : Int) == 0) = false := by simpa using h0
       have hnd : d ∈ ds := by
        apply Classical.byContradiction; intro h; rw [List.count_eq_zero.2 h] at hcn; omega
       have HWd : Hid (words (ds ++ [d]) = words ds) := Lib.hid (by rw [words_snoc]; unfold addW; rw [if_pos (by rw [words_mem]; exact hnd)])
       have hlk := lookC HMw.out d
       rw [hcn] at hlk
       obtain ⟨o, hup, hm5⟩ := mapF_upd keyStr HMw.out (k := d) trivial Tryz.underlying199 (.int .i64 ((cn : Int) + 1))
       have HM5 : Hid (MapF kStr (fun _ => True) (mset w1 M o) M (cntF (ds ++ [d]))) := Lib.hid (by rw [← HC.out]; exact hm5)
       have HB5 : Hid (Below wb.heap.size wb (mset w1 M o)) := Lib.hid (mset_below HBw.out HMs.out o)
       have HO5 : Hid (OwnR wb 9 1 (.slice A' (words ds).length c') (words ds).length (sc (words ds)) (mset w1 M o)) := Lib.hid (HOw.out.frame fun g hg => mset_far o (row_ne HOw.out.row HMw.out hg))
       clear hC hcn HC hnd hm5
       go_wp2_with fail
       go_roundw
       case rel => exact ⟨j + 1, m + 1, by go_num, by rw [HJ.out], by omega, by rw [HS2.out]; show OwnR wb 9 1 _ (words (ds ++ [d])).length (sc (words (ds ++ [d]))) _; rw [HWd.out]; exact HO5.out, by rw [HS2.out]; exact HM5.out, HB5.out⟩
       case measure => simp [intOf]; omega
     ·subst hok
      have HS2 : Hid (stepsK l (m + 1) = ds) := Lib.hid (by rw [HS.out]; rfl)
      clear hC
      go_wp2_with fail
      go_roundw
      case rel => exact ⟨j + 1, m + 1, by go_num, by rw [HJ.out], by omega, by rw [HS2.out]; exact HOw.out, by rw [HS2.out]; exact HMw.out, HBw.out⟩
      case measure => simp [intOf]; omega
    exact rz
   ·obtain rfl : j = l.length := by omega
    have hml : l.length - 1 = m := by omega
    have hE3 : stepV l = bestW (stepsK l m) (words (stepsK l m)) := by rw [HE2.out]; unfold stepsL; rw [hml]
    have hwl := words_len (stepsK l m)
    obtain ⟨ds, hds⟩ : ∃ ds, stepsK l m = ds := ⟨_, rfl⟩
    rw [hds] at hE3 HO HM hwl hstl ⊢
    obtain ⟨ws, hws⟩ : ∃ ws, words ds = ws := ⟨_, rfl⟩
    rw [hws] at hE3 HO hwl ⊢
    have HE3 := Lib.hid hE3
    have hll := HLl.out
    have hwi : (ws.length : Int) ≤ 1000000 := by omega
    have HI := Lib.hid (ownS_in HO.out)
    have HDl : Hid (ds.length ≤ 1000000) := Lib.hid (by omega)
    obtain ⟨W0, hW0⟩ : ∃ W0, W0 = wr := ⟨_, rfl⟩
    subst hW0
    clear ho hm hb hstl hml hE3 hwl hds hws hll hjm hjl hlt c0
    go_wp2_with fail
    go_loopw [8, 59] (fun b i wr => StB W0 ds ws b i wr) (fun _ i _ => ((ws.length : Int) - intOf i).toNat)
    case atStart => exact ⟨0, rfl, Nat.zero_le _, by rw [List.take_zero]; rfl, .refl _ _⟩
    case round =>
     obtain ⟨k, rfl, hk, rfl, hb⟩ := hrel
     have HBk := Lib.hid hb
     by_cases hlt : k < ws.length
     ·have hki : (k : Int) < ws.length := by omega
      obtain ⟨x, hx⟩ : ∃ x, ws.getD k default = x := ⟨_, rfl⟩
      have HT : Hid (bestW ds (ws.take (k + 1)) = if ds.count (bestW ds (ws.take k)) < ds.count x then x else bestW ds (ws.take k)) := Lib.hid (by rw [take_getDS hlt, hx, best_snoc])
      obtain ⟨b, hbw⟩ : ∃ b, bestW ds (ws.take k) = b := ⟨_, rfl⟩
      rw [hbw] at HT ⊢
      obtain ⟨a3, rfl, c3⟩ := HI.out.at hb hlt
      rw [hx] at c3
      have HMk := Lib.hid (HM.out.of_heap (hb.block M HM.out.lt))
      have hlx := lookC HMk.out x
      have hlb := lookC HMk.out b
      have hc1 := List.count_le_length (a := x) (l := ds)
      have hc2 := List.count_le_length (a := b) (l := ds)
      have hdl := HDl.out
      obtain ⟨cx, hcx⟩ : ∃ cx, ds.count x = cx := ⟨_, rfl⟩
      obtain ⟨cb, hcb⟩ : ∃ cb, ds.count b = cb := ⟨_, rfl⟩
      rw [hcx] at hlx HT hc1
      rw [hcb] at hlb HT hc2
      clear hb hx hbw hcx hcb
      by_cases hlt2 : cb < cx
      ·have hi2 : (cb : Int) < cx := by omega
       rw [if_pos hlt2] at HT
       clear hlt2 hc1 hc2 hdl
       go_wp2_with fail
       go_roundw
       case rel => exact ⟨k + 1, by go_num, by omega, by rw [HT.out], HBk.out⟩
       case measure => simp [intOf]; omega
      ·have hi2 : ¬ (cb : Int) < cx := by omega
       rw [if_neg hlt2] at HT
       clear hlt2 hc1 hc2 hdl
       go_wp2_with fail
       go_roundw
       case rel => exact ⟨k + 1, by go_num, by omega, by rw [HT.out], HBk.out⟩
       case measure => simp [intOf]; omega
     ·obtain rfl : k = ws.length := by omega
      rw [List.take_length]
      go_wp2_with fail
      go_ret
      rw [HE3.out]
      exact ⟨rfl, bstep HB1.out (Nat.le_refl _) (bstep HB.out (Nat.le_refl _) HBk.out)⟩
end Go.Proofs.YtlmjefjimoghcaaGreat
