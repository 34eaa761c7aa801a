/- A part of the proofs of TopCounter and TopStrict: what the functions of the program do, each walked once, and plain laws about it. No condition. -/
import Derived.Test.YtlmjefjimoghcaaGreatA35
namespace Go.Proofs.YtlmjefjimoghcaaGreat
set_option linter.unusedSimpArgs false
set_option linter.unnecessarySimpa false
set_option linter.unusedVariables false
open Go.RowKit
attribute [local go_sem ↓] Go.wp_at_zero Go.wp_at_succ
def gapC (last i : Int) : Int := if last < 0 then i else i - last - 1
def cgap : Int → List Int → List Int
 | _, [] => []
 | last, i :: r => gapC last i :: cgap i r
theorem cgap_len : ∀ (l : List Int) (last : Int), (cgap last l).length = l.length
 | [], _ => rfl
 | i :: r, _ => by simp [cgap, cgap_len r i]
theorem cgap_snoc : ∀ (l : List Int) (last i : Int), cgap last (l ++ [i]) = cgap last l ++ [gapC (l.getLastD last) i]
 | [], _, _ => rfl
 | t :: r, last, i => by
  show _ :: cgap t (r ++ [i]) = _ :: (cgap t r ++ _)
  rw [cgap_snoc r t i]
  cases r <;> rfl
def valsC (l : List Str) (ex : List Int) : List Str := ex.map fun i => l.getD i.toNat default
def counterF (l : List Str) : List UInt8 :=
 if l = [] then V.num 0
 else V.num l.length ++ textF (shortV (l.getD 0 default)) ++ textF (shortV (stepV l)) ++ textF (numsF (cgap (-1) (excF l (stepV l)))) ++ (encRL ((valsC l (excF l (stepV l))).map shortV)).1
theorem excK_b (l : List Str) (st : Str) : ∀ k, ∀ i ∈ excK l st k, 1 ≤ i ∧ i ≤ (k : Int)
 | 0, i, h => by cases h
 | k + 1, i, h => by
  have ih := excK_b l st k
  unfold excK at h
  generalize (addOk (l.getD k default) st && _) = b at h
  cases b
  ·simp only [Bool.false_eq_true, if_false, List.mem_append, List.mem_singleton] at h
   rcases h with h | rfl
   ·have := ih i h; omega
   ·omega
  ·simp only [if_true] at h
   have := ih i h; omega
theorem excF_b {l : List Str} {st : Str} (h0 : l ≠ []) {i : Int} (h : i ∈ excF l st) : 1 ≤ i ∧ i < (l.length : Int) := by
 have := excK_b l st (l.length - 1) i h
 have := List.length_pos_iff.2 h0
 omega
theorem diffV_len {a b : Str} (h : addOk a b = true) : (diffV a b).length ≤ 128 := by
 unfold addOk at h
 simp only [Bool.and_eq_true, decide_eq_true_eq] at h
 have h1 := known_parts h.1.2
 unfold diffV
 rw [sumS_length b (invV a) 1 (by rw [invV_length]; exact h.2.symm)]
 exact h1.2.1
theorem stepsK_b (l : List Str) : ∀ k, ∀ s ∈ stepsK l k, s.length ≤ 128
 | 0, s, h => by cases h
 | k + 1, s, h => by
  have ih := stepsK_b l k
  unfold stepsK at h
  split at h
  ·rename_i hok
   rw [List.mem_append, List.mem_singleton] at h
   rcases h with h | rfl
   ·exact ih s h
   ·exact diffV_len hok
  ·exact ih s h
theorem best_mem (ds : List Str) (ws : List Str) : bestW ds ws = [] ∨ bestW ds ws ∈ ws := by
 induction ws using snoc_rec with
 | h0 => exact .inl rfl
 | h1 ws x ih =>
  rw [best_snoc]
  split
  ·exact .inr (by simp)
  ·rcases ih with h | h
   ·exact .inl h
   ·exact .inr (by simp [h])
theorem stepV_len (l : List Str) : (stepV l).length ≤ 128 := by
 unfold stepV
 split
 ·rcases best_mem (stepsL l) (words (stepsL l)) with h | h
  ·rw [h]; simp
  ·exact stepsK_b l _ _ ((words_mem _ _).1 h)
 ·simp
structure TwoC (w0 : World) (l1 : List Int) (l2 : List Str) (v1 v2 : Value) (W : World) : Prop where
 o1 : OwnR w0 3 1 v1 l1.length (ic l1) W
 o2 : OwnR w0 9 1 v2 l2.length (sc l2) W
 below : Below w0.heap.size w0 W
section
variable {w0 W : World} {l1 : List Int} {l2 : List Str} {v1 v2 : Value}
theorem TwoC.drew (h : TwoC w0 l1 l2 v1 v2 W) : TwoC w0 l1 l2 v1 v2 W.drew := ⟨h.o1.frame fun _ _ => rfl, h.o2.frame fun _ _ => rfl, h.below.drew⟩
theorem TwoC.mono (h : TwoC w0 l1 l2 v1 v2 W) {W' : World} (hb : Below W.heap.size W W') : TwoC w0 l1 l2 v1 v2 W' := ⟨h.o1.below hb, h.o2.below hb, bstep h.below (Nat.le_refl _) hb⟩
theorem TwoC.alloc (h : TwoC w0 l1 l2 v1 v2 W) (o : Obj) : ∃ W', W.alloc o = W' ∧ TwoC w0 l1 l2 v1 v2 W' ∧ W'.heap[W.heap.size]? = some o ∧ (∀ (g : Nat) (o' : Obj), W.heap[g]? = some o' → W'.heap[g]? = some o') :=
 ⟨_, rfl, h.mono ((Below.refl _ _).alloc (Nat.le_refl _) _), heap_alloc_new _ _, fun g o' hg => (Below.heap_alloc W _ g (Array.getElem?_eq_some_iff.1 hg).1).trans hg⟩
set_option maxRecDepth 100000 in
theorem TwoC.push1 (h : TwoC w0 l1 l2 v1 v2 W) (hn : l1.length + 1 ≤ 1000000) {g : Nat} {x : Int} (t : W.heap[g]? = some (.cells #[.int .i64 x] 3 (0, 0))) :
  ∃ A c W', (Builtin.append_ #[27, 27] 27 #[v1, .slice (some ⟨g, 0, none⟩) 1 1]).run Tryz.prog W = .ok (.slice A (l1.length + 1) c) W' ∧ TwoC w0 (l1 ++ [x]) l2 (.slice A (l1.length + 1) c) v2 W' ∧ (∀ (g' : Nat) (s : ByteArray), W.heap[g']? = some (Obj.cells #[.string s] 9 (0, 0)) → W'.heap[g']? = some (Obj.cells #[.string s] 9 (0, 0))) := by
 obtain ⟨A, c, W', hr, ho, hg, hb⟩ := h.o1.push Tryz.underlying27 rfl rfl rfl rfl rfl (by decide) hn g (.int .i64 x) (by rw [cell_of_row W g 0 _ _ _ t]; rfl) rfl h.below.size
 refine ⟨A, c, W', hr, ⟨?_, ?_, ?_⟩, ?_⟩
 ·rw [List.length_append]; show OwnR w0 3 1 _ (l1.length + 1) _ W'
  have e : ic (l1 ++ [x]) = ic l1 ++ [.int .i64 x] := by simp [ic]
  rw [e]; exact ho
 ·refine h.o2.frame fun k hk => hg.block k (h.o2.lt hk) fun e => ?_
  obtain ⟨cur, hc⟩ := row_block h.o2.row hk
  exact row_cells_ne h.o1.row hc (by decide) e.symm rfl
 ·exact below_grown h.below h.below.size hg h.o1.new
 ·intro g' s t'
  exact (hg.block g' (Array.getElem?_eq_some_iff.1 t').1 fun e => row_cells_ne h.o1.row t' (by decide) e.symm rfl).trans t'
set_option maxRecDepth 100000 in
theorem TwoC.push2 (h : TwoC w0 l1 l2 v1 v2 W) (hn : l2.length + 1 ≤ 1000000) {g : Nat} {x : Str} (t : W.heap[g]? = some (.cells #[.string (sB x)] 9 (0, 0))) :
  ∃ A c W', (Builtin.append_ #[31, 31] 31 #[v2, .slice (some ⟨g, 0, none⟩) 1 1]).run Tryz.prog W = .ok (.slice A (l2.length + 1) c) W' ∧ TwoC w0 l1 (l2 ++ [x]) v1 (.slice A (l2.length + 1) c) W' ∧ (∀ (g' : Nat) (s : Int), W.heap[g']? = some (Obj.cells #[.int .i64 s] 3 (0, 0)) → W'.heap[g']? = some (Obj.cells #[.int .i64 s] 3 (0, 0))) := by
 obtain ⟨A, c, W', hr, ho, hg, hb⟩ := h.o2.push Tryz.underlying31 rfl rfl rfl rfl rfl (by decide) hn g (.string (sB x)) (by rw [cell_of_row W g 0 _ _ _ t]; rfl) rfl h.below.size
 refine ⟨A, c, W', hr, ⟨?_, ?_, ?_⟩, ?_⟩
 ·refine h.o1.frame fun k hk => hg.block k (h.o1.lt hk) fun e => ?_
  obtain ⟨cur, hc⟩ := row_block h.o1.row hk
  exact row_cells_ne h.o2.row hc (by decide) e.symm rfl
 ·rw [List.length_append, sc_append]; exact ho
 ·exact below_grown h.below h.below.size hg h.o2.new
 ·intro g' s t'
  exact (hg.block g' (Array.getElem?_eq_some_iff.1 t').1 fun e => row_cells_ne h.o2.row t' (by decide) e.symm rfl).trans t'
end
def CnR (w0 : World) (l : List Str) (ex : List Int) (v1 v2 lv i : Value) (W : World) : Prop := ∃ (k : Nat) (last : Int), i = .int .i64 (k : Int) ∧ lv = .int .i64 last ∧ k ≤ ex.length ∧ last = (ex.take k).getLastD (-1) ∧ -1 ≤ last ∧ last ≤ 4096 ∧ TwoC w0 (cgap (-1) (ex.take k)) (valsC l (ex.take k)) v1 v2 W
theorem valsC_b {l : List Str} (hs : ∀ s ∈ l, s.length ≤ 128) (ex : List Int) : ∀ s ∈ valsC l ex, s.length ≤ 100000 := fun s h => by
 obtain ⟨i, _, rfl⟩ := List.mem_map.1 h
 rw [List.getD_eq_getElem?_getD]
 by_cases hi : i.toNat < l.length
 ·rw [List.getElem?_eq_getElem hi, Option.getD_some]
  have := hs _ (List.getElem_mem hi); omega
 ·rw [List.getElem?_eq_none (by omega)]
  show ([] : Str).length ≤ _
  simp
theorem valsC_snoc (l : List Str) (a : List Int) (i : Int) : valsC l (a ++ [i]) = valsC l a ++ [l.getD i.toNat default] := by simp [valsC]
set_option maxRecDepth 100000 in
set_option maxHeartbeats 4000000 in
theorem counter_walk (n : Int) (l : List Str) (hl : l.length ≤ 4096) (hs : ∀ s ∈ l, s.length ≤ 128) (w : World) (A : Option Addr) (c : Nat) (hF : InS w A l) : Calls Tryz.prog 123 #[.agg #[.int .i64 n], .slice A l.length c] w fun e w' => e = .returned (.tuple #[.string (sB (counterF l)), .bool true]) ∧ Below w.heap.size w w' := by
 obtain ⟨W0, hW0⟩ : ∃ W, w.alloc (.cells #[.int .i64 n] 109) = W := ⟨_, rfl⟩
 have hb0 : Below w.heap.size w W0 := by rw [← hW0]; exact (Below.refl _ _).alloc (Nat.le_refl _) _
 have HF := Lib.hid (hF.mono hb0)
 have HB0 := Lib.hid hb0
 have HW0 := Lib.hid hW0
 have HS0 := Lib.hid hs
 have HLl := Lib.hid hl
 have hli : (l.length : Int) ≤ 4096 := by omega
 have HNm := Lib.hid fun w => num_at l.length (by omega) w
 by_cases h0 : l = []
 ·subst h0
  have HC : Hid (counterF [] = V.num 0) := Lib.hid rfl
  have HNm : Hid (∀ w : World, Calls Tryz.prog 53 #[.int .i64 0] w fun e w' => e = .returned (.string (sB (V.num 0))) ∧ Below w.heap.size w w') := Lib.hid fun w => num_at 0 (by decide) w
  clear hF hb0 hW0 hs hl HLl
  go_enter Tryz.func123, Tryz.ntmps123
  go_upto_region 1 with (fail)
  rw [HW0.out]
  go_wp2_with fail
  refine (HNm.out _).mono ?_
  rintro x w1 ⟨rfl, hb1⟩
  have HB1 := Lib.hid (bstep HB0.out (Nat.le_refl _) hb1)
  clear hb1
  go_wp2_with fail
  go_ret2
  rw [HC.out]
  exact ⟨rfl, HB1.out⟩
 have hs100 : ∀ s ∈ l, s.length ≤ 100000 := fun s h => by have := hs s h; omega
 have hlp := List.length_pos_iff.2 h0
 have hst := stepV_len l
 have HSt := Lib.hid fun w h => step_walk l (by omega) hs100 w A c h
 obtain ⟨st, hste⟩ : ∃ st, stepV l = st := ⟨_, rfl⟩
 rw [hste] at hst HSt
 have HEx := Lib.hid fun w h => bexc_walk l (by omega) hs100 st (by omega) w A c h
 obtain ⟨s0, hs0⟩ : ∃ s, l.getD 0 default = s := ⟨_, rfl⟩
 have hs0m : s0 ∈ l := by rw [← hs0]; exact List.mem_of_getElem? (get_default hlp)
 have hs0l := hs s0 hs0m
 obtain ⟨ex, hex⟩ : ∃ ex, excF l st = ex := ⟨_, rfl⟩
 have hexb : ∀ i ∈ ex, 1 ≤ i ∧ i < (l.length : Int) := by rw [← hex]; exact fun i h => excF_b h0 h
 have hexl : ex.length ≤ 4096 := by rw [← hex]; have := excK_len l st (l.length - 1); unfold excF; omega
 rw [hex] at HEx
 have HC : Hid (counterF l = V.num l.length ++ textF (shortV s0) ++ textF (shortV st) ++ textF (numsF (cgap (-1) ex)) ++ (encRL ((valsC l ex).map shortV)).1) := Lib.hid (by
  unfold counterF
  rw [if_neg h0, hste, hs0, hex])
 have hlz : ¬ (l.length : Int) = 0 := by omega
 have hlzb : ((l.length : Int) == 0) = false := by simpa using hlz
 have hexi : (ex.length : Int) ≤ 4096 := by omega
 have HXb := Lib.hid hexb
 have HXl := Lib.hid hexl
 have HLp := Lib.hid hlp
 have HS0m := Lib.hid hs0
 have HSh0 := Lib.hid fun w => shorten_walk s0 (by unfold maxLen; omega) w
 have HSh1 := Lib.hid fun w => shorten_walk st (by unfold maxLen; omega) w
 have hsl0 := shortV_length s0
 have hsl1 := shortV_length st
 obtain ⟨t0, ht0⟩ : ∃ t, shortV s0 = t := ⟨_, rfl⟩
 obtain ⟨t1, ht1⟩ : ∃ t, shortV st = t := ⟨_, rfl⟩
 rw [ht0] at HSh0 HC hsl0
 rw [ht1] at HSh1 HC hsl1
 have HTx0 := Lib.hid fun w => text_at t0 (by omega) w
 have HTx1 := Lib.hid fun w => text_at t1 (by omega) w
 have htl0 := textF_len t0
 have htl1 := textF_len t1
 have HZ0 : Hid ((textF t0).length ≤ 200 ∧ (textF t1).length ≤ 200) := Lib.hid ⟨by omega, by omega⟩
 clear hF hb0 hW0 hs hl hs100 hlp hst hste hs0 hs0m hs0l hex hexb hexl hsl0 hsl1 ht0 ht1 htl0 htl1 h0
 go_enter Tryz.func123, Tryz.ntmps123
 go_upto_region 1 with (fail)
 rw [HW0.out]
 go_wp2_with fail
 refine (HNm.out _).mono ?_
 rintro x w1 ⟨rfl, hb1⟩
 have HB1 := Lib.hid hb1
 clear hb1
 go_wp2_with fail
 refine (HSt.out _ (HF.out.mono HB1.out)).mono ?_
 rintro x w2 ⟨rfl, hb2⟩
 have HB2 := Lib.hid (bstep HB1.out (Nat.le_refl _) hb2)
 clear hb2
 go_wp2_with fail
 refine (HEx.out _ (HF.out.mono HB2.out)).mono ?_
 rintro x w3 ⟨hb3, A3, c3, rfl, hi3⟩
 have HB3 := Lib.hid (bstep HB2.out (Nat.le_refl _) hb3)
 have HI3 := Lib.hid hi3
 have HF3 := Lib.hid (HF.out.mono HB3.out)
 clear hb3 hi3 HEx HSt
 go_wp2_with fail
 go_loopw [8, 9, 10, 31] (fun v1 v2 lv i wr => CnR w3 l ex v1 v2 lv i wr) (fun _ _ _ i _ => ((ex.length : Int) - intOf i).toNat)
 case atStart => exact ⟨0, -1, rfl, rfl, Nat.zero_le _, rfl, by decide, by decide, ⟨.nil _ _ _ _, .nil _ _ _ _, .refl _ _⟩⟩
 case round =>
  obtain ⟨k, last, rfl, rfl, hk, hla, hl1, hl2, hT⟩ := hrel
  have HT0 := Lib.hid hT
  obtain ⟨A1', c1', rfl⟩ := row_sl hT.o1.row
  obtain ⟨A2', c2', rfl⟩ := row_sl hT.o2.row
  have hbe := hT.below
  by_cases hlt : k < ex.length
  ·have hki : (k : Int) < ex.length := by omega
   obtain ⟨i, hi⟩ : ∃ i, ex.getD k default = i := ⟨_, rfl⟩
   obtain ⟨a3, rfl, c3x⟩ := HI3.out.at hbe hlt
   rw [hi] at c3x
   have hib := HXb.out i (by rw [← hi]; exact List.mem_of_getElem? (get_default hlt))
   obtain ⟨iN, rfl⟩ : ∃ n : Nat, i = (n : Int) := ⟨i.toNat, by omega⟩
   have hil : iN < l.length := by omega
   have hii : (iN : Int) < l.length := hib.2
   have hi1 : (1 : Int) ≤ iN := hib.1
   obtain ⟨s, hs⟩ : ∃ s, l.getD iN default = s := ⟨_, rfl⟩
   obtain ⟨a, rfl, c0⟩ := HF3.out.at hbe hil
   rw [hs] at c0
   have HKc : Hid (∀ W', Below w3.heap.size w3 W' → W'.cell? (a.add iN) = some (.string (sB s))) := Lib.hid (by
    intro W' hW'
    obtain ⟨b, hb1, d0⟩ := HF3.out.at hW' hil
    injection hb1 with hb1; subst hb1
    rw [hs] at d0
    exact d0)
   have hcl : (cgap (-1) (ex.take k)).length = k := by rw [cgap_len, List.length_take]; omega
   have hvl : (valsC l (ex.take k)).length = k := by unfold valsC; rw [List.length_map, List.length_take]; omega
   have hxl := HXl.out
   have hte : ex.take (k + 1) = ex.take k ++ [(iN : Int)] := by rw [List.take_succ_eq_append_getElem hlt]; congr 2; rw [← hi]; simp [List.getD, hlt]
   have hg1 : cgap (-1) (ex.take (k + 1)) = cgap (-1) (ex.take k) ++ [gapC last iN] := by rw [hte, cgap_snoc, ← hla]
   have hv1 : valsC l (ex.take (k + 1)) = valsC l (ex.take k) ++ [s] := by rw [hte, valsC_snoc, Int.toNat_natCast, hs]
   have hla1 : (iN : Int) = (ex.take (k + 1)).getLastD (-1) := by rw [hte]; exact (List.getLastD_concat ..).symm
   obtain ⟨cg, hcg⟩ : ∃ cg, cgap (-1) (ex.take k) = cg := ⟨_, rfl⟩
   obtain ⟨vl, hvg⟩ : ∃ vl, valsC l (ex.take k) = vl := ⟨_, rfl⟩
   rw [hcg] at HT0 hcl hg1 ⊢
   rw [hvg] at HT0 hvl hv1 ⊢
   have HN1 : Hid (cg.length + 1 ≤ 1000000) := Lib.hid (by omega)
   have HN2 : Hid (vl.length + 1 ≤ 1000000) := Lib.hid (by omega)
   have hil4 := HLl.out
   have hi4 : (iN : Int) ≤ 4096 := by omega
   by_cases hneg : last < 0
   ·have HStep : Hid ((iN : Int) = (ex.take (k + 1)).getLastD (-1) ∧ -1 ≤ (iN : Int) ∧ (iN : Int) ≤ 4096 ∧ ∀ (v1 v2 : Value) (W : World), TwoC w3 (cg ++ [(iN : Int)]) (vl ++ [s]) v1 v2 W → TwoC w3 (cgap (-1) (ex.take (k + 1))) (valsC l (ex.take (k + 1))) v1 v2 W) := Lib.hid ⟨hla1, by omega, by omega, fun v1 v2 W h => by rw [hg1, hv1]; unfold gapC; rw [if_pos hneg]; exact h⟩
    clear hT hbe hi hib hs hcl hvl hxl hte hg1 hv1 hla1 hcg hvg hla hil4
    go_upto_region 14 with (fail)
    refine wp_region_noPanic ?_
    refine wp_region_D 15 (fun w' : World => w'.cell? (a.add iN) = some (.string (sB s))) (by kernel_rfl) c0 (fun hU => ?_)
    have hC : (fun w' : World => w'.cell? (a.add iN) = some (.string (sB s))) wr.drew := c0
    clear hU
    obtain ⟨W, hW⟩ : ∃ W, wr.drew = W := ⟨_, rfl⟩
    have HS := Lib.hid HT0.out.drew
    rw [hW] at HS hC ⊢
    clear hW HT0
    refine tk 0 42 14 rfl rfl (.inr hC) ?_
    simp only [Act.put, zA, zB, zC]
    refine tk 1 43 13 rfl rfl (.inr hC) ?_
    simp only [Act.put, zA, zB, zC]
    refine tk 4 46 12 rfl rfl (.inr hC) ?_
    simp only [Act.put, zA, zB, zC]
    refine tk 5 47 11 rfl rfl (.inr hC) ?_
    simp only [Act.put, zA, zB, zC]
    refine tk 6 48 10 rfl rfl (.inr hC) ?_
    simp only [Act.put, zA, zB, zC]
    refine tk 7 49 9 rfl rfl (.inr hC) ?_
    simp only [Act.put, zA, zB, zC]
    refine tl 8 50 8 rfl rfl (.inr hC) ?_
    simp only [Act.put, zA, zB, zC]
    refine tk 11 53 7 rfl rfl (.inr hC) ?_
    simp only [Act.put, zA, zB, zC]
    refine ry 6 [2, 9] ?_
    refine rn rfl (fun K hK => ?_) ?_
    ·go_simp
     obtain ⟨W, hW, hS, ht1, hk⟩ := HS.out.alloc (.cells #[.int .i64 (iN : Int)] 3)
     try rw [hW]
     have HT1 := Lib.hid ht1
     have HK := Lib.hid hk
     have HS := Lib.hid hS
     try (have HT2 := Lib.hid (HK.out _ _ HT2.out))
     clear hW hS ht1 hk HK
     refine shut_C hK ?_ (fun hC => ?_)
     ·exact HKc.out _ HS.out.below
     clear hK K
     try simp only [Act.put, zA, zB, zC]
     refine ry 5 [3, 9] ?_
     refine rn rfl (fun K hK => ?_) ?_
     ·obtain ⟨A1n, c1n, W, hrun, hS, hk⟩ := HS.out.push1 HN1.out HT1.out
      refine step_append_eq rfl (.tmp 42) (.tmp 44) 27 rfl _ _ _ _ rfl rfl hrun ?_
      have HK := Lib.hid hk
      have HS := Lib.hid hS
      try (have HT2 := Lib.hid (HK.out _ _ HT2.out))
      clear hrun hS hk HK
      refine shut_C hK ?_ (fun hC => ?_)
      ·exact HKc.out _ HS.out.below
      clear hK K
      try simp only [Act.put, zA, zB, zC]
      refine ry 4 [9] ?_
      refine rn rfl (fun K hK => ?_) ?_
      ·go_simp
       obtain ⟨W, hW, hS, ht2, hk⟩ := HS.out.alloc (.cells #[.string (sB s)] 9)
       try rw [hW]
       have HT2 := Lib.hid ht2
       have HK := Lib.hid hk
       have HS := Lib.hid hS
       try (have HT1 := Lib.hid (HK.out _ _ HT1.out))
       clear hW hS ht2 hk HK
       refine shut_C hK ?_ (fun hC => ?_)
       ·exact HKc.out _ HS.out.below
       clear hK K
       try simp only [Act.put, zA, zB, zC]
       refine ry 3 [10] ?_
       refine rn rfl (fun K hK => ?_) ?_
       ·obtain ⟨A2n, c2n, W, hrun, hS, hk⟩ := HS.out.push2 HN2.out HT2.out
        refine step_append_eq rfl (.tmp 46) (.tmp 51) 31 rfl _ _ _ _ rfl rfl hrun ?_
        have HK := Lib.hid hk
        have HS := Lib.hid hS
        try (have HT1 := Lib.hid (HK.out _ _ HT1.out))
        clear hrun hS hk HK
        refine shut_C hK ?_ (fun hC => ?_)
        ·exact HKc.out _ HS.out.below
        clear hK K
        try simp only [Act.put, zA, zB, zC]
        refine tk 12 8 2 rfl rfl (.inr hC) ?_
        simp only [Act.put, zA, zB, zC]
        refine tk 13 9 1 rfl rfl (.inr hC) ?_
        simp only [Act.put, zA, zB, zC]
        refine tk 14 10 0 rfl rfl (.inr hC) ?_
        simp only [Act.put, zA, zB, zC]
        refine wpAnyD_done (by kernel_rfl) ?_ _
        refine NoPanic.normal ?_
        go_wp2_with fail
        go_roundw
        case rel => exact ⟨k + 1, (iN : Int), by go_num, rfl, by omega, HStep.out.1, HStep.out.2.1, HStep.out.2.2.1, HStep.out.2.2.2 _ _ _ HS.out⟩
        case measure => simp [intOf]; omega
       exact rz
      exact rz
     refine rn rfl (fun K hK => ?_) ?_
     ·go_simp
      obtain ⟨W, hW, hS, ht2, hk⟩ := HS.out.alloc (.cells #[.string (sB s)] 9)
      try rw [hW]
      have HT2 := Lib.hid ht2
      have HK := Lib.hid hk
      have HS := Lib.hid hS
      try (have HT1 := Lib.hid (HK.out _ _ HT1.out))
      clear hW hS ht2 hk HK
      refine shut_C hK ?_ (fun hC => ?_)
      ·exact HKc.out _ HS.out.below
      clear hK K
      try simp only [Act.put, zA, zB, zC]
      refine ry 4 [3] ?_
      refine rn rfl (fun K hK => ?_) ?_
      ·obtain ⟨A1n, c1n, W, hrun, hS, hk⟩ := HS.out.push1 HN1.out HT1.out
       refine step_append_eq rfl (.tmp 42) (.tmp 44) 27 rfl _ _ _ _ rfl rfl hrun ?_
       have HK := Lib.hid hk
       have HS := Lib.hid hS
       try (have HT2 := Lib.hid (HK.out _ _ HT2.out))
       clear hrun hS hk HK
       refine shut_C hK ?_ (fun hC => ?_)
       ·exact HKc.out _ HS.out.below
       clear hK K
       try simp only [Act.put, zA, zB, zC]
       refine ry 3 [10] ?_
       refine rn rfl (fun K hK => ?_) ?_
       ·obtain ⟨A2n, c2n, W, hrun, hS, hk⟩ := HS.out.push2 HN2.out HT2.out
        refine step_append_eq rfl (.tmp 46) (.tmp 51) 31 rfl _ _ _ _ rfl rfl hrun ?_
        have HK := Lib.hid hk
        have HS := Lib.hid hS
        try (have HT1 := Lib.hid (HK.out _ _ HT1.out))
        clear hrun hS hk HK
        refine shut_C hK ?_ (fun hC => ?_)
        ·exact HKc.out _ HS.out.below
        clear hK K
        try simp only [Act.put, zA, zB, zC]
        refine tk 12 8 2 rfl rfl (.inr hC) ?_
        simp only [Act.put, zA, zB, zC]
        refine tk 13 9 1 rfl rfl (.inr hC) ?_
        simp only [Act.put, zA, zB, zC]
        refine tk 14 10 0 rfl rfl (.inr hC) ?_
        simp only [Act.put, zA, zB, zC]
        refine wpAnyD_done (by kernel_rfl) ?_ _
        refine NoPanic.normal ?_
        go_wp2_with fail
        go_roundw
        case rel => exact ⟨k + 1, (iN : Int), by go_num, rfl, by omega, HStep.out.1, HStep.out.2.1, HStep.out.2.2.1, HStep.out.2.2.2 _ _ _ HS.out⟩
        case measure => simp [intOf]; omega
       exact rz
      exact rz
     exact rz
    refine rn rfl (fun K hK => ?_) ?_
    ·go_simp
     obtain ⟨W, hW, hS, ht2, hk⟩ := HS.out.alloc (.cells #[.string (sB s)] 9)
     try rw [hW]
     have HT2 := Lib.hid ht2
     have HK := Lib.hid hk
     have HS := Lib.hid hS
     try (have HT1 := Lib.hid (HK.out _ _ HT1.out))
     clear hW hS ht2 hk HK
     refine shut_C hK ?_ (fun hC => ?_)
     ·exact HKc.out _ HS.out.below
     clear hK K
     try simp only [Act.put, zA, zB, zC]
     refine ry 5 [2] ?_
     refine rn rfl (fun K hK => ?_) ?_
     ·go_simp
      obtain ⟨W, hW, hS, ht1, hk⟩ := HS.out.alloc (.cells #[.int .i64 (iN : Int)] 3)
      try rw [hW]
      have HT1 := Lib.hid ht1
      have HK := Lib.hid hk
      have HS := Lib.hid hS
      try (have HT2 := Lib.hid (HK.out _ _ HT2.out))
      clear hW hS ht1 hk HK
      refine shut_C hK ?_ (fun hC => ?_)
      ·exact HKc.out _ HS.out.below
      clear hK K
      try simp only [Act.put, zA, zB, zC]
      refine ry 4 [3] ?_
      refine rn rfl (fun K hK => ?_) ?_
      ·obtain ⟨A1n, c1n, W, hrun, hS, hk⟩ := HS.out.push1 HN1.out HT1.out
       refine step_append_eq rfl (.tmp 42) (.tmp 44) 27 rfl _ _ _ _ rfl rfl hrun ?_
       have HK := Lib.hid hk
       have HS := Lib.hid hS
       try (have HT2 := Lib.hid (HK.out _ _ HT2.out))
       clear hrun hS hk HK
       refine shut_C hK ?_ (fun hC => ?_)
       ·exact HKc.out _ HS.out.below
       clear hK K
       try simp only [Act.put, zA, zB, zC]
       refine ry 3 [10] ?_
       refine rn rfl (fun K hK => ?_) ?_
       ·obtain ⟨A2n, c2n, W, hrun, hS, hk⟩ := HS.out.push2 HN2.out HT2.out
        refine step_append_eq rfl (.tmp 46) (.tmp 51) 31 rfl _ _ _ _ rfl rfl hrun ?_
        have HK := Lib.hid hk
        have HS := Lib.hid hS
        try (have HT1 := Lib.hid (HK.out _ _ HT1.out))
        clear hrun hS hk HK
        refine shut_C hK ?_ (fun hC => ?_)
        ·exact HKc.out _ HS.out.below
        clear hK K
        try simp only [Act.put, zA, zB, zC]
        refine tk 12 8 2 rfl rfl (.inr hC) ?_
        simp only [Act.put, zA, zB, zC]
        refine tk 13 9 1 rfl rfl (.inr hC) ?_
        simp only [Act.put, zA, zB, zC]
        refine tk 14 10 0 rfl rfl (.inr hC) ?_
        simp only [Act.put, zA, zB, zC]
        refine wpAnyD_done (by kernel_rfl) ?_ _
        refine NoPanic.normal ?_
        go_wp2_with fail
        go_roundw
        case rel => exact ⟨k + 1, (iN : Int), by go_num, rfl, by omega, HStep.out.1, HStep.out.2.1, HStep.out.2.2.1, HStep.out.2.2.2 _ _ _ HS.out⟩
        case measure => simp [intOf]; omega
       exact rz
      exact rz
     exact rz
    exact rz
   ·obtain ⟨gp, hgp⟩ : ∃ gp, (iN : Int) - last - 1 = gp := ⟨_, rfl⟩
    have HStep : Hid ((iN : Int) = (ex.take (k + 1)).getLastD (-1) ∧ -1 ≤ (iN : Int) ∧ (iN : Int) ≤ 4096 ∧ ∀ (v1 v2 : Value) (W : World), TwoC w3 (cg ++ [gp]) (vl ++ [s]) v1 v2 W → TwoC w3 (cgap (-1) (ex.take (k + 1))) (valsC l (ex.take (k + 1))) v1 v2 W) := Lib.hid ⟨hla1, by omega, by omega, fun v1 v2 W h => by rw [hg1, hv1]; unfold gapC; rw [if_neg hneg, hgp]; exact h⟩
    clear hT hbe hi hib hs hcl hvl hxl hte hg1 hv1 hla1 hcg hvg hla hil4
    go_upto_region 14 with (fail)
    refine wp_region_noPanic ?_
    refine wp_region_D 15 (fun w' : World => w'.cell? (a.add iN) = some (.string (sB s))) (by kernel_rfl) c0 (fun hU => ?_)
    have hC : (fun w' : World => w'.cell? (a.add iN) = some (.string (sB s))) wr.drew := c0
    clear hU
    obtain ⟨W, hW⟩ : ∃ W, wr.drew = W := ⟨_, rfl⟩
    have HS := Lib.hid HT0.out.drew
    rw [hW] at HS hC ⊢
    clear hW HT0
    refine tk 0 42 14 rfl rfl (.inr hC) ?_
    simp only [Act.put, zA, zB, zC]
    refine tk 1 43 13 rfl rfl (.inr hC) ?_
    simp only [Act.put, zA, zB, zC]
    refine tk 4 46 12 rfl rfl (.inr hC) ?_
    simp only [Act.put, zA, zB, zC]
    refine tk 5 47 11 rfl rfl (.inr hC) ?_
    simp only [Act.put, zA, zB, zC]
    refine tk 6 48 10 rfl rfl (.inr hC) ?_
    simp only [Act.put, zA, zB, zC]
    refine tk 7 49 9 rfl rfl (.inr hC) ?_
    simp only [Act.put, zA, zB, zC]
    refine tl 8 50 8 rfl rfl (.inr hC) ?_
    simp only [Act.put, zA, zB, zC]
    refine tk 11 53 7 rfl rfl (.inr hC) ?_
    simp only [Act.put, zA, zB, zC]
    refine ry 6 [2, 9] ?_
    refine rn rfl (fun K hK => ?_) ?_
    ·go_simp
     obtain ⟨W, hW, hS, ht1, hk⟩ := HS.out.alloc (.cells #[.int .i64 gp] 3)
     try rw [hW]
     have HT1 := Lib.hid ht1
     have HK := Lib.hid hk
     have HS := Lib.hid hS
     try (have HT2 := Lib.hid (HK.out _ _ HT2.out))
     clear hW hS ht1 hk HK
     refine shut_C hK ?_ (fun hC => ?_)
     ·exact HKc.out _ HS.out.below
     clear hK K
     try simp only [Act.put, zA, zB, zC]
     refine ry 5 [3, 9] ?_
     refine rn rfl (fun K hK => ?_) ?_
     ·obtain ⟨A1n, c1n, W, hrun, hS, hk⟩ := HS.out.push1 HN1.out HT1.out
      refine step_append_eq rfl (.tmp 42) (.tmp 44) 27 rfl _ _ _ _ rfl rfl hrun ?_
      have HK := Lib.hid hk
      have HS := Lib.hid hS
      try (have HT2 := Lib.hid (HK.out _ _ HT2.out))
      clear hrun hS hk HK
      refine shut_C hK ?_ (fun hC => ?_)
      ·exact HKc.out _ HS.out.below
      clear hK K
      try simp only [Act.put, zA, zB, zC]
      refine ry 4 [9] ?_
      refine rn rfl (fun K hK => ?_) ?_
      ·go_simp
       obtain ⟨W, hW, hS, ht2, hk⟩ := HS.out.alloc (.cells #[.string (sB s)] 9)
       try rw [hW]
       have HT2 := Lib.hid ht2
       have HK := Lib.hid hk
       have HS := Lib.hid hS
       try (have HT1 := Lib.hid (HK.out _ _ HT1.out))
       clear hW hS ht2 hk HK
       refine shut_C hK ?_ (fun hC => ?_)
       ·exact HKc.out _ HS.out.below
       clear hK K
       try simp only [Act.put, zA, zB, zC]
       refine ry 3 [10] ?_
       refine rn rfl (fun K hK => ?_) ?_
       ·obtain ⟨A2n, c2n, W, hrun, hS, hk⟩ := HS.out.push2 HN2.out HT2.out
        refine step_append_eq rfl (.tmp 46) (.tmp 51) 31 rfl _ _ _ _ rfl rfl hrun ?_
        have HK := Lib.hid hk
        have HS := Lib.hid hS
        try (have HT1 := Lib.hid (HK.out _ _ HT1.out))
        clear hrun hS hk HK
        refine shut_C hK ?_ (fun hC => ?_)
        ·exact HKc.out _ HS.out.below
        clear hK K
        try simp only [Act.put, zA, zB, zC]
        refine tk 12 8 2 rfl rfl (.inr hC) ?_
        simp only [Act.put, zA, zB, zC]
        refine tk 13 9 1 rfl rfl (.inr hC) ?_
        simp only [Act.put, zA, zB, zC]
        refine tk 14 10 0 rfl rfl (.inr hC) ?_
        simp only [Act.put, zA, zB, zC]
        refine wpAnyD_done (by kernel_rfl) ?_ _
        refine NoPanic.normal ?_
        go_wp2_with fail
        go_roundw
        case rel => exact ⟨k + 1, (iN : Int), by go_num, rfl, by omega, HStep.out.1, HStep.out.2.1, HStep.out.2.2.1, HStep.out.2.2.2 _ _ _ HS.out⟩
        case measure => simp [intOf]; omega
       exact rz
      exact rz
     refine rn rfl (fun K hK => ?_) ?_
     ·go_simp
      obtain ⟨W, hW, hS, ht2, hk⟩ := HS.out.alloc (.cells #[.string (sB s)] 9)
      try rw [hW]
      have HT2 := Lib.hid ht2
      have HK := Lib.hid hk
      have HS := Lib.hid hS
      try (have HT1 := Lib.hid (HK.out _ _ HT1.out))
      clear hW hS ht2 hk HK
      refine shut_C hK ?_ (fun hC => ?_)
      ·exact HKc.out _ HS.out.below
      clear hK K
      try simp only [Act.put, zA, zB, zC]
      refine ry 4 [3] ?_
      refine rn rfl (fun K hK => ?_) ?_
      ·obtain ⟨A1n, c1n, W, hrun, hS, hk⟩ := HS.out.push1 HN1.out HT1.out
       refine step_append_eq rfl (.tmp 42) (.tmp 44) 27 rfl _ _ _ _ rfl rfl hrun ?_
       have HK := Lib.hid hk
       have HS := Lib.hid hS
       try (have HT2 := Lib.hid (HK.out _ _ HT2.out))
       clear hrun hS hk HK
       refine shut_C hK ?_ (fun hC => ?_)
       ·exact HKc.out _ HS.out.below
       clear hK K
       try simp only [Act.put, zA, zB, zC]
       refine ry 3 [10] ?_
       refine rn rfl (fun K hK => ?_) ?_
       ·obtain ⟨A2n, c2n, W, hrun, hS, hk⟩ := HS.out.push2 HN2.out HT2.out
        refine step_append_eq rfl (.tmp 46) (.tmp 51) 31 rfl _ _ _ _ rfl rfl hrun ?_
        have HK := Lib.hid hk
        have HS := Lib.hid hS
        try (have HT1 := Lib.hid (HK.out _ _ HT1.out))
        clear hrun hS hk HK
        refine shut_C hK ?_ (fun hC => ?_)
        ·exact HKc.out _ HS.out.below
        clear hK K
        try simp only [Act.put, zA, zB, zC]
        refine tk 12 8 2 rfl rfl (.inr hC) ?_
        simp only [Act.put, zA, zB, zC]
        refine tk 13 9 1 rfl rfl (.inr hC) ?_
        simp only [Act.put, zA, zB, zC]
        refine tk 14 10 0 rfl rfl (.inr hC) ?_
        simp only [Act.put, zA, zB, zC]
        refine wpAnyD_done (by kernel_rfl) ?_ _
        refine NoPanic.normal ?_
        go_wp2_with fail
        go_roundw
        case rel => exact ⟨k + 1, (iN : Int), by go_num, rfl, by omega, HStep.out.1, HStep.out.2.1, HStep.out.2.2.1, HStep.out.2.2.2 _ _ _ HS.out⟩
        case measure => simp [intOf]; omega
       exact rz
      exact rz
     exact rz
    refine rn rfl (fun K hK => ?_) ?_
    ·go_simp
     obtain ⟨W, hW, hS, ht2, hk⟩ := HS.out.alloc (.cells #[.string (sB s)] 9)
     try rw [hW]
     have HT2 := Lib.hid ht2
     have HK := Lib.hid hk
     have HS := Lib.hid hS
     try (have HT1 := Lib.hid (HK.out _ _ HT1.out))
     clear hW hS ht2 hk HK
     refine shut_C hK ?_ (fun hC => ?_)
     ·exact HKc.out _ HS.out.below
     clear hK K
     try simp only [Act.put, zA, zB, zC]
     refine ry 5 [2] ?_
     refine rn rfl (fun K hK => ?_) ?_
     ·go_simp
      obtain ⟨W, hW, hS, ht1, hk⟩ := HS.out.alloc (.cells #[.int .i64 gp] 3)
      try rw [hW]
      have HT1 := Lib.hid ht1
      have HK := Lib.hid hk
      have HS := Lib.hid hS
      try (have HT2 := Lib.hid (HK.out _ _ HT2.out))
      clear hW hS ht1 hk HK
      refine shut_C hK ?_ (fun hC => ?_)
      ·exact HKc.out _ HS.out.below
      clear hK K
      try simp only [Act.put, zA, zB, zC]
      refine ry 4 [3] ?_
      refine rn rfl (fun K hK => ?_) ?_
      ·obtain ⟨A1n, c1n, W, hrun, hS, hk⟩ := HS.out.push1 HN1.out HT1.out
       refine step_append_eq rfl (.tmp 42) (.tmp 44) 27 rfl _ _ _ _ rfl rfl hrun ?_
       have HK := Lib.hid hk
       have HS := Lib.hid hS
       try (have HT2 := Lib.hid (HK.out _ _ HT2.out))
       clear hrun hS hk HK
       refine shut_C hK ?_ (fun hC => ?_)
       ·exact HKc.out _ HS.out.below
       clear hK K
       try simp only [Act.put, zA, zB, zC]
       refine ry 3 [10] ?_
       refine rn rfl (fun K hK => ?_) ?_
       ·obtain ⟨A2n, c2n, W, hrun, hS, hk⟩ := HS.out.push2 HN2.out HT2.out
        refine step_append_eq rfl (.tmp 46) (.tmp 51) 31 rfl _ _ _ _ rfl rfl hrun ?_
        have HK := Lib.hid hk
        have HS := Lib.hid hS
        try (have HT1 := Lib.hid (HK.out _ _ HT1.out))
        clear hrun hS hk HK
        refine shut_C hK ?_ (fun hC => ?_)
        ·exact HKc.out _ HS.out.below
        clear hK K
        try simp only [Act.put, zA, zB, zC]
        refine tk 12 8 2 rfl rfl (.inr hC) ?_
        simp only [Act.put, zA, zB, zC]
        refine tk 13 9 1 rfl rfl (.inr hC) ?_
        simp only [Act.put, zA, zB, zC]
        refine tk 14 10 0 rfl rfl (.inr hC) ?_
        simp only [Act.put, zA, zB, zC]
        refine wpAnyD_done (by kernel_rfl) ?_ _
        refine NoPanic.normal ?_
        go_wp2_with fail
        go_roundw
        case rel => exact ⟨k + 1, (iN : Int), by go_num, rfl, by omega, HStep.out.1, HStep.out.2.1, HStep.out.2.2.1, HStep.out.2.2.2 _ _ _ HS.out⟩
        case measure => simp [intOf]; omega
       exact rz
      exact rz
     exact rz
    exact rz
  ·obtain rfl : k = ex.length := by omega
   rw [List.take_length] at HT0 ⊢
   have hcl : (cgap (-1) ex).length = ex.length := cgap_len _ _
   have hvl : (valsC l ex).length = ex.length := by unfold valsC; rw [List.length_map]
   have hvb := valsC_b HS0.out ex
   obtain ⟨cg, hcg⟩ : ∃ cg, cgap (-1) ex = cg := ⟨_, rfl⟩
   obtain ⟨vl, hvg⟩ : ∃ vl, valsC l ex = vl := ⟨_, rfl⟩
   rw [hcg] at HT0 hcl HC ⊢
   rw [hvg] at HT0 hvl hvb HC ⊢
   have hxl := HXl.out
   have HEn := Lib.hid (encNums_walk cg (by omega) wr A1' c1' (ownI_in HT0.out.o1))
   have HSt := Lib.hid fun w h => short_walk vl (by omega) hvb w A2' c2' h
   have HRl := Lib.hid fun w A c h => encRL_walk (vl.map shortV) (by rw [List.length_map]; omega) w A c h
   rw [List.length_map] at HRl
   have h6 : (encNumF cg).1.length ≤ 600000 := encNumF_len cg
   obtain ⟨e1, he1⟩ : ∃ e, (encNumF cg).1 = e := ⟨_, rfl⟩
   obtain ⟨e2, he2⟩ : ∃ e, (encRL (vl.map shortV)).1 = e := ⟨_, rfl⟩
   have hr6 := encRL_len (vl.map shortV)
   have hC2 : counterF l = V.num l.length ++ textF t0 ++ textF t1 ++ textF e1 ++ e2 := by
    rw [HC.out, he2, ← he1]; rfl
   rw [he1] at HEn h6
   rw [he2] at HRl hr6
   have htl := textF_len e1
   have HTx2 := Lib.hid fun w => text_at e1 (by omega) w
   have HC2 := Lib.hid hC2
   have c00 : Hid (∀ W', Below w3.heap.size w3 W' → ∃ a, A = some a ∧ W'.cell? a = some (.string (sB s0))) := Lib.hid (by
    intro W' hW'
    obtain ⟨a, ha, d0⟩ := HF3.out.at hW' HLp.out
    refine ⟨a, ha, ?_⟩
    rw [HS0m.out, show a.add 0 = a by simp [Addr.add]] at d0
    exact d0)
   have z1 : (sB (V.num l.length)).size ≤ 9 := by rw [sB_size]; exact num_len _
   have z2 : (sB (textF t0)).size ≤ 200 := by rw [sB_size]; exact HZ0.out.1
   have z3 : (sB (textF t1)).size ≤ 200 := by rw [sB_size]; exact HZ0.out.2
   have z4 : (sB (textF e1)).size ≤ 600009 := by rw [sB_size]; omega
   have z5 : (sB e2).size ≤ 2000000 := by rw [sB_size]; exact hr6
   clear hT hbe hk hla hl1 hl2 hcl hvl hvb hcg hvg hxl he1 he2 h6 hr6 hC2 htl
   go_wp2_with fail
   refine (HEn.out).mono ?_
   rintro x w4 ⟨rfl, hb4⟩
   have HT4 := Lib.hid (HT0.out.mono hb4)
   clear hb4 HEn
   go_wp2_with fail
   refine (HSt.out w4 (ownS_in HT4.out.o2)).mono ?_
   rintro x w5 ⟨hb5, A5, c5, rfl, hi5⟩
   have HB5 := Lib.hid (bstep HT4.out.below (Nat.le_refl _) hb5)
   have HR := Lib.hid (HRl.out w5 A5 c5 hi5)
   clear hb5 hi5 HSt HRl
   go_wp2_with fail
   refine (HR.out).mono ?_
   rintro x w6 ⟨rfl, hb6⟩
   have HB6 := Lib.hid (bstep HB5.out (Nat.le_refl _) hb6)
   clear hb6 HR
   obtain ⟨a, rfl, c0⟩ := c00.out w6 HB6.out
   go_wp2_with fail
   refine (HSh0.out _).mono ?_
   rintro x w7 ⟨rfl, hb7⟩
   have HB7 := Lib.hid (bstep HB6.out (Nat.le_refl _) hb7)
   clear hb7 c0
   go_wp2_with fail
   refine (HTx0.out _).mono ?_
   rintro x w8 ⟨rfl, hb8⟩
   have HB8 := Lib.hid (bstep HB7.out (Nat.le_refl _) hb8)
   clear hb8
   go_wp2_with fail
   refine (HSh1.out _).mono ?_
   rintro x w9 ⟨rfl, hb9⟩
   have HB9 := Lib.hid (bstep HB8.out (Nat.le_refl _) hb9)
   clear hb9
   go_wp2_with fail
   refine (HTx1.out _).mono ?_
   rintro x w10 ⟨rfl, hb10⟩
   have HB10 := Lib.hid (bstep HB9.out (Nat.le_refl _) hb10)
   clear hb10
   go_wp2_with fail
   refine (HTx2.out _).mono ?_
   rintro x w11 ⟨rfl, hb11⟩
   have HB11 := Lib.hid (bstep HB10.out (Nat.le_refl _) hb11)
   clear hb11
   go_wp2_with fail
   go_ret2
   rw [HC2.out]
   refine ⟨?_, bstep HB0.out (Nat.le_refl _) (bstep HB3.out (Nat.le_refl _) HB11.out)⟩
   simp only [← sB_app]
   rfl
end Go.Proofs.YtlmjefjimoghcaaGreat
