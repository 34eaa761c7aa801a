/- A part of the proofs of TopCounter and TopStrict: what the functions of the program do, each walked once, and plain laws about it. No condition. -/
import Derived.Test.YtlmjefjimoghcaaGreatA18
import Derived.Test.YtlmjefjimoghcaaGreatA11
namespace Go.Proofs.YtlmjefjimoghcaaGreat
set_option linter.unusedSimpArgs false
set_option linter.unnecessarySimpa false
set_option linter.unusedVariables false
open Go.RowKit
attribute [local go_sem ↓] Go.wp_at_zero Go.wp_at_succ
abbrev StepF := List Int → Int → Int × Int
def eachS (g : StepF) (st : List Int × List Int) (n : Int) : List Int × List Int := (st.1 ++ [(g st.2 n).1], moveF st.2 (g st.2 n).2.toNat)
def eachL (g : StepF) (l : List Int) : List Int × List Int := l.foldl (eachS g) ([], row0)
def inR (v : Int) : Bool := decide (0 ≤ v) && decide (v < 4096)
def eachF (g : StepF) (l : List Int) : List Int × Int := if 4096 < l.length then ([], 9) else if l.all inR then ((eachL g l).1, 0) else ([], 2)
theorem eachL_snoc (g : StepF) (l : List Int) (n : Int) : eachL g (l ++ [n]) = eachS g (eachL g l) n := by simp [eachL]
def FullR (row : List Int) : Prop := row.length = 4096 ∧ ∀ x, 0 ≤ x → x < 4096 → x ∈ row
theorem row0_full : FullR row0 := by
 refine ⟨by unfold row0; rw [List.length_map, List.length_range], fun x h0 h1 => ?_⟩
 unfold row0
 rw [List.mem_map]
 exact ⟨x.toNat, List.mem_range.2 (by omega), by show (x.toNat : Int) = x; omega⟩
theorem FullR.move {row : List Int} (h : FullR row) {p : Nat} (hp : p < 4096) : FullR (moveF row p) :=
 ⟨(moveF_length (by rw [h.1]; exact hp)).trans h.1, fun x h0 h1 => (moveF_mem (by rw [h.1]; exact hp) x).2 (h.2 x h0 h1)⟩
/-- what a step of each does -/
def StepOk (fid : FuncId) (g : StepF) : Prop := ∀ (w : World) (O : Nat) (row : List Int) (n : Int), IRow w O row → FullR row → 0 ≤ n → n < 4096 →
 (0 ≤ (g row n).2 ∧ (g row n).2 < 4096) ∧ Calls Tryz.prog fid #[.slice (some ⟨O, 0, none⟩) 4096 4096, .int .i64 n] w fun e w' => e = .returned (.tuple #[.int .i64 (g row n).1, .int .i64 (g row n).2]) ∧ w = w'
theorem eachL_len (g : StepF) (l : List Int) : (eachL g l).1.length = l.length := by
 induction l using snoc_rec with
 | h0 => rfl
 | h1 l n ih => rw [eachL_snoc]; unfold eachS; simp [ih]
structure EachI (w : World) (g : StepF) (l : List Int) (O Q : Nat) (k : Nat) (wr : World) : Prop where
 row : IRow wr O (eachL g (l.take k)).2
 full : FullR (eachL g (l.take k)).2
 out : IRow wr Q ((eachL g (l.take k)).1 ++ List.replicate (l.length - k) 0)
 below : Below w.heap.size w wr
def EachR (w : World) (g : StepF) (l : List Int) (O Q : Nat) (i : Value) (wr : World) : Prop := ∃ k : Nat, i = .int .i64 (k : Int) ∧ k ≤ l.length ∧ EachI w g l O Q k wr
theorem irow_in {w : World} {Q : Nat} {l : List Int} (h : IRow w Q l) : InI w (some ⟨Q, 0, none⟩) l := fun j x hj => by
 refine ⟨_, rfl, (Array.getElem?_eq_some_iff.1 h.to).1, ?_⟩
 rw [Addr.add_lit, Nat.zero_add, cell_of_row _ Q j _ _ _ h.to, List.getElem?_toArray]
 exact hj
set_option maxRecDepth 100000 in
theorem each_list141 (g : StepF) (hS : StepOk 141 g) (l : List Int) (hl : l.length ≤ 1000000) (w : World) (A : Option Addr) (c : Nat) (hF : InI w A l) :
  Calls Tryz.prog 137 #[.slice A l.length c, .func (.func 141) #[] #[]] w fun x w' => RetI w (eachF g l).1 (eachF g l).2 x w' := by
 have HF := Lib.hid hF
 have HS := Lib.hid hS
 have hli : (l.length : Int) ≤ 1000000 := by omega
 clear hF hl hS
 by_cases h4 : 4096 < l.length
 ·have HE : Hid (eachF g l = ([], 9)) := Lib.hid (by unfold eachF; rw [if_pos h4])
  have h4i : (4096 : Int) < l.length := by omega
  go_enter Tryz.func137, Tryz.ntmps137
  go_wp2_with fail
  refine bodyPost_ret (results_tmp2 rfl _ _ _) rfl ?_
  rw [HE.out]
  exact retI_nil (.refl _ _)
 ·have h4i : ¬ (4096 : Int) < l.length := by omega
  go_enter Tryz.func137, Tryz.ntmps137
  go_wp2_with fail
  go_loopw [19] (fun i wr => ∃ k : Nat, i = .int .i64 (k : Int) ∧ k ≤ l.length ∧ (l.take k).all inR = true ∧ w = wr) (fun i _ => ((l.length : Int) - intOf i).toNat)
  case atStart => exact ⟨0, rfl, Nat.zero_le _, rfl, rfl⟩
  case round =>
   obtain ⟨k, rfl, hk, hv, rfl⟩ := hrel
   have HVa := Lib.hid hv
   clear hv
   by_cases hlt : k < l.length
   ·have hkl : (k : Int) < l.length := by omega
    obtain ⟨a, rfl, c0⟩ := HF.out.at (.refl _ _) hlt
    have HSt := Lib.hid (all_step (f := inR) hlt)
    have HNo := Lib.hid (@all_no inR l k hlt)
    obtain ⟨v, hv⟩ : ∃ v, l.getD k default = v := ⟨_, rfl⟩
    rw [hv] at c0 HSt HNo
    clear hv
    by_cases h0 : v < 0
    ·have HE : Hid (eachF g l = ([], 2)) := Lib.hid (by unfold eachF; rw [if_neg h4, HNo.out (by unfold inR; rw [decide_eq_false (by omega)]; rfl)]; rfl)
     go_wp2_with fail
     refine bodyPost_ret (results_tmp2 rfl _ _ _) rfl ?_
     rw [HE.out]
     exact retI_nil (.refl _ _)
    ·by_cases h1 : 4096 ≤ v
     ·have HE : Hid (eachF g l = ([], 2)) := Lib.hid (by unfold eachF; rw [if_neg h4, HNo.out (by unfold inR; rw [decide_eq_false (p := v < _) (by omega)]; simp)]; rfl)
      go_wp2_with fail
      refine bodyPost_ret (results_tmp2 rfl _ _ _) rfl ?_
      rw [HE.out]
      exact retI_nil (.refl _ _)
     ·have HT : Hid ((l.take (k + 1)).all inR = true) := Lib.hid (by rw [HSt.out, HVa.out]; unfold inR; rw [decide_eq_true (by omega), decide_eq_true (by omega)]; rfl)
      go_wp2_with fail
      go_roundw
      case rel => exact ⟨k + 1, by go_num, by omega, HT.out, trivial⟩
      case measure => simp [intOf]; omega
   ·obtain rfl : k = l.length := by omega
    have ha : l.all inR = true := by have := HVa.out; rwa [List.take_length] at this
    have HE : Hid (eachF g l = ((eachL g l).1, 0)) := Lib.hid (by unfold eachF; rw [if_neg h4, ha]; rfl)
    have HA := Lib.hid ha
    clear ha HVa
    go_wp2_with fail
    refine (row_walk _).mono ?_
    rintro x w1 ⟨rfl, hb1, hr1⟩
    obtain ⟨W2, hrun, hq2, hb2, hz2⟩ := made_row w1 l.length (by omega)
    have HB2 := Lib.hid (bstep hb1 (Nat.le_refl _) hb2)
    have hOl := (Array.getElem?_eq_some_iff.1 hr1.to).1
    have HI2 : Hid (EachI w g l w.heap.size w1.heap.size 0 W2) := Lib.hid ⟨(hb2.block _ hOl).trans hr1.to, row0_full, by simpa [eachL] using hq2, HB2.out⟩
    obtain ⟨O, hO⟩ : ∃ O, w.heap.size = O := ⟨_, rfl⟩
    obtain ⟨Q, hQ⟩ : ∃ Q, w1.heap.size = Q := ⟨_, rfl⟩
    have HOQ : Hid (w.heap.size = O ∧ O < Q) := Lib.hid ⟨hO, by rw [← hQ, ← hO]; exact hOl⟩
    rw [hO, hQ] at HI2
    rw [hO]
    rw [hQ] at hrun
    clear hb1 hr1 hq2 hb2 hz2 hOl hO
    go_wp2_with fail
    clear hQ hrun
    go_loopw [8, 36] (fun r i wr => r = .slice (some ⟨O, 0, none⟩) 4096 4096 ∧ EachR w g l O Q i wr) (fun _ i _ => ((l.length : Int) - intOf i).toNat)
    case atStart => exact ⟨rfl, 0, rfl, Nat.zero_le _, HI2.out⟩
    case round =>
     obtain ⟨rfl, k, rfl, hk, hI⟩ := hrel
     have HI := Lib.hid hI
     by_cases hlt : k < l.length
     ·have hkl : (k : Int) < l.length := by omega
      obtain ⟨a, rfl, c0⟩ := HF.out.at hI.below hlt
      obtain ⟨v, hv⟩ : ∃ v, l.getD k default = v := ⟨_, rfl⟩
      rw [hv] at c0
      have hvr := List.all_eq_true.1 HA.out v (by rw [← hv]; exact List.mem_of_getElem? (get_default hlt))
      simp [inR] at hvr
      obtain ⟨row, hrow⟩ : ∃ row, (eachL g (l.take k)).2 = row := ⟨_, rfl⟩
      have hok := HS.out wr O row v (hrow ▸ hI.row) (hrow ▸ hI.full) hvr.1 hvr.2
      obtain ⟨rs, hrs⟩ : ∃ rs, (g row v).1 = rs := ⟨_, rfl⟩
      obtain ⟨pl, hpl⟩ : ∃ pl : Nat, (g row v).2 = (pl : Int) := ⟨(g row v).2.toNat, by omega⟩
      rw [hrs, hpl] at hok
      have HSn : Hid (eachL g (l.take (k + 1)) = ((eachL g (l.take k)).1 ++ [rs], moveF row pl)) := Lib.hid (by
       rw [take_getD hlt, hv, eachL_snoc]; unfold eachS; rw [hrow, hrs, hpl, Int.toNat_natCast])
      have HW := Lib.hid hok.2
      have hp4 : pl < 4096 := by omega
      have HFu := Lib.hid ((hrow ▸ hI.full : FullR row))
      have hRow : IRow wr O row := hrow ▸ hI.row
      have HRow := Lib.hid hRow
      have HP4 := Lib.hid hp4
      have HPut := Lib.hid (put_row (show (eachL g (l.take k)).1.length = k by rw [eachL_len, List.length_take]; omega) hlt rs)
      have hOl : ((eachL g (l.take k)).1 ++ List.replicate (l.length - k) 0).length = l.length := by rw [List.length_append, eachL_len, List.length_take, List.length_replicate]; omega
      have g0 := hI.out.cell (i := k) (by rw [hOl]; exact hlt)
      have gf := hI.out.fr k
      have hset := hI.out.set k rs
      rw [HPut.out] at hset
      have hoq := HOQ.out
      have hrow2 : IRow (wr.setCell ⟨Q, k, none⟩ (.int .i64 rs)) O row := (Below.heap_setCell wr ⟨Q, k, none⟩ _ O (by show O ≠ Q; omega)).trans hRow.to
      have HM := Lib.hid (move_walk _ O row HFu.out.1 hrow2 pl hp4)
      have HSet := Lib.hid hset
      have HB3 : Hid (Below w.heap.size w (wr.setCell ⟨Q, k, none⟩ (.int .i64 rs))) := Lib.hid (hI.below.setCell (p := ⟨Q, k, none⟩) (by show _ ≤ Q; omega) _)
      clear hI hv hvr hok hrow hrs hpl hRow hOl hset hrow2 hoq hp4
      go_wp2_with fail
      refine (HW.out).mono ?_
      rintro x _ ⟨rfl, rfl⟩
      go_wp2_with fail
      refine (HM.out).mono ?_
      rintro x w5 ⟨rfl, ht5, hr5⟩
      have HT5 := Lib.hid ht5
      have HR5 := Lib.hid hr5
      clear ht5 hr5
      go_wp2_with fail
      go_roundw
      case rel =>
       have hoq := HOQ.out
       refine ⟨rfl, k + 1, by go_num, by omega, ⟨by rw [HSn.out]; exact HR5.out, by rw [HSn.out]; exact HFu.out.move HP4.out, ?_, ?_⟩⟩
       ·rw [HSn.out]
        exact (HT5.out.block Q (Array.getElem?_eq_some_iff.1 HSet.out.to).1 (by omega)).trans HSet.out.to
       ·exact HB3.out.trans (HT5.out.below _ HB3.out.size fun i hi => by rw [hi]; omega)
      case measure => simp [intOf]; omega
     ·obtain rfl : k = l.length := by omega
      have hout := hI.out
      rw [Nat.sub_self, List.replicate_zero, List.append_nil, List.take_length] at hout
      have HOut := Lib.hid hout
      have HLe := Lib.hid (eachL_len g l)
      clear hI hout
      go_wp2_with fail
      refine bodyPost_ret (results_tmp2 rfl _ _ _) rfl ?_
      rw [HE.out]
      exact ⟨HI.out.below, some ⟨Q, 0, none⟩, l.length, by rw [HLe.out]; rfl, irow_in HOut.out, Fresh.mk' (by have := HOQ.out; omega)⟩
set_option maxRecDepth 100000 in
theorem each_list138 (g : StepF) (hS : StepOk 138 g) (l : List Int) (hl : l.length ≤ 1000000) (w : World) (A : Option Addr) (c : Nat) (hF : InI w A l) :
  Calls Tryz.prog 137 #[.slice A l.length c, .func (.func 138) #[] #[]] w fun x w' => RetI w (eachF g l).1 (eachF g l).2 x w' := by
 have HF := Lib.hid hF
 have HS := Lib.hid hS
 have hli : (l.length : Int) ≤ 1000000 := by omega
 clear hF hl hS
 by_cases h4 : 4096 < l.length
 ·have HE : Hid (eachF g l = ([], 9)) := Lib.hid (by unfold eachF; rw [if_pos h4])
  have h4i : (4096 : Int) < l.length := by omega
  go_enter Tryz.func137, Tryz.ntmps137
  go_wp2_with fail
  refine bodyPost_ret (results_tmp2 rfl _ _ _) rfl ?_
  rw [HE.out]
  exact retI_nil (.refl _ _)
 ·have h4i : ¬ (4096 : Int) < l.length := by omega
  go_enter Tryz.func137, Tryz.ntmps137
  go_wp2_with fail
  go_loopw [19] (fun i wr => ∃ k : Nat, i = .int .i64 (k : Int) ∧ k ≤ l.length ∧ (l.take k).all inR = true ∧ w = wr) (fun i _ => ((l.length : Int) - intOf i).toNat)
  case atStart => exact ⟨0, rfl, Nat.zero_le _, rfl, rfl⟩
  case round =>
   obtain ⟨k, rfl, hk, hv, rfl⟩ := hrel
   have HVa := Lib.hid hv
   clear hv
   by_cases hlt : k < l.length
   ·have hkl : (k : Int) < l.length := by omega
    obtain ⟨a, rfl, c0⟩ := HF.out.at (.refl _ _) hlt
    have HSt := Lib.hid (all_step (f := inR) hlt)
    have HNo := Lib.hid (@all_no inR l k hlt)
    obtain ⟨v, hv⟩ : ∃ v, l.getD k default = v := ⟨_, rfl⟩
    rw [hv] at c0 HSt HNo
    clear hv
    by_cases h0 : v < 0
    ·have HE : Hid (eachF g l = ([], 2)) := Lib.hid (by unfold eachF; rw [if_neg h4, HNo.out (by unfold inR; rw [decide_eq_false (by omega)]; rfl)]; rfl)
     go_wp2_with fail
     refine bodyPost_ret (results_tmp2 rfl _ _ _) rfl ?_
     rw [HE.out]
     exact retI_nil (.refl _ _)
    ·by_cases h1 : 4096 ≤ v
     ·have HE : Hid (eachF g l = ([], 2)) := Lib.hid (by unfold eachF; rw [if_neg h4, HNo.out (by unfold inR; rw [decide_eq_false (p := v < _) (by omega)]; simp)]; rfl)
      go_wp2_with fail
      refine bodyPost_ret (results_tmp2 rfl _ _ _) rfl ?_
      rw [HE.out]
      exact retI_nil (.refl _ _)
     ·have HT : Hid ((l.take (k + 1)).all inR = true) := Lib.hid (by rw [HSt.out, HVa.out]; unfold inR; rw [decide_eq_true (by omega), decide_eq_true (by omega)]; rfl)
      go_wp2_with fail
      go_roundw
      case rel => exact ⟨k + 1, by go_num, by omega, HT.out, trivial⟩
      case measure => simp [intOf]; omega
   ·obtain rfl : k = l.length := by omega
    have ha : l.all inR = true := by have := HVa.out; rwa [List.take_length] at this
    have HE : Hid (eachF g l = ((eachL g l).1, 0)) := Lib.hid (by unfold eachF; rw [if_neg h4, ha]; rfl)
    have HA := Lib.hid ha
    clear ha HVa
    go_wp2_with fail
    refine (row_walk _).mono ?_
    rintro x w1 ⟨rfl, hb1, hr1⟩
    obtain ⟨W2, hrun, hq2, hb2, hz2⟩ := made_row w1 l.length (by omega)
    have HB2 := Lib.hid (bstep hb1 (Nat.le_refl _) hb2)
    have hOl := (Array.getElem?_eq_some_iff.1 hr1.to).1
    have HI2 : Hid (EachI w g l w.heap.size w1.heap.size 0 W2) := Lib.hid ⟨(hb2.block _ hOl).trans hr1.to, row0_full, by simpa [eachL] using hq2, HB2.out⟩
    obtain ⟨O, hO⟩ : ∃ O, w.heap.size = O := ⟨_, rfl⟩
    obtain ⟨Q, hQ⟩ : ∃ Q, w1.heap.size = Q := ⟨_, rfl⟩
    have HOQ : Hid (w.heap.size = O ∧ O < Q) := Lib.hid ⟨hO, by rw [← hQ, ← hO]; exact hOl⟩
    rw [hO, hQ] at HI2
    rw [hO]
    rw [hQ] at hrun
    clear hb1 hr1 hq2 hb2 hz2 hOl hO
    go_wp2_with fail
    clear hQ hrun
    go_loopw [8, 36] (fun r i wr => r = .slice (some ⟨O, 0, none⟩) 4096 4096 ∧ EachR w g l O Q i wr) (fun _ i _ => ((l.length : Int) - intOf i).toNat)
    case atStart => exact ⟨rfl, 0, rfl, Nat.zero_le _, HI2.out⟩
    case round =>
     obtain ⟨rfl, k, rfl, hk, hI⟩ := hrel
     have HI := Lib.hid hI
     by_cases hlt : k < l.length
     ·have hkl : (k : Int) < l.length := by omega
      obtain ⟨a, rfl, c0⟩ := HF.out.at hI.below hlt
      obtain ⟨v, hv⟩ : ∃ v, l.getD k default = v := ⟨_, rfl⟩
      rw [hv] at c0
      have hvr := List.all_eq_true.1 HA.out v (by rw [← hv]; exact List.mem_of_getElem? (get_default hlt))
      simp [inR] at hvr
      obtain ⟨row, hrow⟩ : ∃ row, (eachL g (l.take k)).2 = row := ⟨_, rfl⟩
      have hok := HS.out wr O row v (hrow ▸ hI.row) (hrow ▸ hI.full) hvr.1 hvr.2
      obtain ⟨rs, hrs⟩ : ∃ rs, (g row v).1 = rs := ⟨_, rfl⟩
      obtain ⟨pl, hpl⟩ : ∃ pl : Nat, (g row v).2 = (pl : Int) := ⟨(g row v).2.toNat, by omega⟩
      rw [hrs, hpl] at hok
      have HSn : Hid (eachL g (l.take (k + 1)) = ((eachL g (l.take k)).1 ++ [rs], moveF row pl)) := Lib.hid (by
       rw [take_getD hlt, hv, eachL_snoc]; unfold eachS; rw [hrow, hrs, hpl, Int.toNat_natCast])
      have HW := Lib.hid hok.2
      have hp4 : pl < 4096 := by omega
      have HFu := Lib.hid ((hrow ▸ hI.full : FullR row))
      have hRow : IRow wr O row := hrow ▸ hI.row
      have HRow := Lib.hid hRow
      have HP4 := Lib.hid hp4
      have HPut := Lib.hid (put_row (show (eachL g (l.take k)).1.length = k by rw [eachL_len, List.length_take]; omega) hlt rs)
      have hOl : ((eachL g (l.take k)).1 ++ List.replicate (l.length - k) 0).length = l.length := by rw [List.length_append, eachL_len, List.length_take, List.length_replicate]; omega
      have g0 := hI.out.cell (i := k) (by rw [hOl]; exact hlt)
      have gf := hI.out.fr k
      have hset := hI.out.set k rs
      rw [HPut.out] at hset
      have hoq := HOQ.out
      have hrow2 : IRow (wr.setCell ⟨Q, k, none⟩ (.int .i64 rs)) O row := (Below.heap_setCell wr ⟨Q, k, none⟩ _ O (by show O ≠ Q; omega)).trans hRow.to
      have HM := Lib.hid (move_walk _ O row HFu.out.1 hrow2 pl hp4)
      have HSet := Lib.hid hset
      have HB3 : Hid (Below w.heap.size w (wr.setCell ⟨Q, k, none⟩ (.int .i64 rs))) := Lib.hid (hI.below.setCell (p := ⟨Q, k, none⟩) (by show _ ≤ Q; omega) _)
      clear hI hv hvr hok hrow hrs hpl hRow hOl hset hrow2 hoq hp4
      go_wp2_with fail
      refine (HW.out).mono ?_
      rintro x _ ⟨rfl, rfl⟩
      go_wp2_with fail
      refine (HM.out).mono ?_
      rintro x w5 ⟨rfl, ht5, hr5⟩
      have HT5 := Lib.hid ht5
      have HR5 := Lib.hid hr5
      clear ht5 hr5
      go_wp2_with fail
      go_roundw
      case rel =>
       have hoq := HOQ.out
       refine ⟨rfl, k + 1, by go_num, by omega, ⟨by rw [HSn.out]; exact HR5.out, by rw [HSn.out]; exact HFu.out.move HP4.out, ?_, ?_⟩⟩
       ·rw [HSn.out]
        exact (HT5.out.block Q (Array.getElem?_eq_some_iff.1 HSet.out.to).1 (by omega)).trans HSet.out.to
       ·exact HB3.out.trans (HT5.out.below _ HB3.out.size fun i hi => by rw [hi]; omega)
      case measure => simp [intOf]; omega
     ·obtain rfl : k = l.length := by omega
      have hout := hI.out
      rw [Nat.sub_self, List.replicate_zero, List.append_nil, List.take_length] at hout
      have HOut := Lib.hid hout
      have HLe := Lib.hid (eachL_len g l)
      clear hI hout
      go_wp2_with fail
      refine bodyPost_ret (results_tmp2 rfl _ _ _) rfl ?_
      rw [HE.out]
      exact ⟨HI.out.below, some ⟨Q, 0, none⟩, l.length, by rw [HLe.out]; rfl, irow_in HOut.out, Fresh.mk' (by have := HOQ.out; omega)⟩
def frontG : StepF := fun row n => (Lib.idxOf row n, Lib.idxOf row n)
def unfrontG : StepF := fun row n => (row.getD n.toNat default, n)
theorem idxFrom_in {n : Int} : ∀ (row : List Int) (i : Nat), n ∈ row → ∃ k, k < row.length ∧ Lib.idxFrom row n i = ((i + k : Nat) : Int)
 | [], _, h => by simp at h
 | z :: zs, i, h => by
  unfold Lib.idxFrom
  by_cases hz : z = n
  ·exact ⟨0, by simp, by rw [if_pos hz]; rfl⟩
  ·have hm : n ∈ zs := by simpa [Ne.symm hz] using h
   obtain ⟨k, hk, he⟩ := idxFrom_in zs (i + 1) hm
   exact ⟨k + 1, by simp; omega, by rw [if_neg hz, he]; congr 1; omega⟩
theorem idxOf_in {row : List Int} {n : Int} (h : n ∈ row) : 0 ≤ Lib.idxOf row n ∧ Lib.idxOf row n < row.length := by
 obtain ⟨k, hk, he⟩ := idxFrom_in row 0 h
 unfold Lib.idxOf
 rw [he]; omega
theorem front_step : StepOk 141 frontG := fun w O row n hi hf h0 h1 => by
 have hx := idxOf_in (hf.2 n h0 h1)
 rw [hf.1] at hx
 refine ⟨⟨hx.1, by show Lib.idxOf row n < _; omega⟩, ?_⟩
 have hI := Tryz.slices_Index_int O 0 4096 4096 row n w (by rw [hf.1]; exact Nat.le_refl _) (by decide) (fun j hj => by
  rw [Nat.zero_add]; exact hi.cell hj)
 rw [List.take_of_length_le (by rw [hf.1]; exact Nat.le_refl _)] at hI
 obtain ⟨p, hp⟩ : ∃ p, Lib.idxOf row n = p := ⟨_, rfl⟩
 have hg : frontG row n = (p, p) := by unfold frontG; rw [hp]
 rw [hp] at hI
 rw [hg]
 have HI := Lib.hid hI
 clear hI hp hg hx hf hi
 go_enter Tryz.func141, Tryz.ntmps141
 go_wp2_with fail
 refine (HI.out).mono ?_
 rintro x _ ⟨rfl, rfl⟩
 go_wp2_with fail
 go_ret2
 exact ⟨rfl, rfl⟩
theorem unfront_step : StepOk 138 unfrontG := fun w O row n hi hf h0 h1 => by
 refine ⟨⟨h0, h1⟩, ?_⟩
 obtain ⟨k, rfl⟩ : ∃ k : Nat, n = (k : Int) := ⟨n.toNat, by omega⟩
 have c0 := hi.cell (i := k) (by rw [hf.1]; omega)
 obtain ⟨v, hv⟩ : ∃ v, row.getD k default = v := ⟨_, rfl⟩
 have hg : unfrontG row (k : Int) = (v, (k : Int)) := by unfold unfrontG; rw [Int.toNat_natCast, hv]
 rw [hv] at c0
 rw [hg]
 clear hv hg hf hi
 go_enter Tryz.func138, Tryz.ntmps138
 go_wp2_with fail
 go_ret2
 exact ⟨rfl, rfl⟩
theorem front_walk (l : List Int) (hl : l.length ≤ 1000000) (w : World) (A : Option Addr) (c : Nat) (hF : InI w A l) : Calls Tryz.prog 109 #[.slice A l.length c] w fun x w' => RetI w (eachF frontG l).1 (eachF frontG l).2 x w' := by
 have HW := Lib.hid (each_list141 frontG front_step l hl w A c hF)
 clear hl hF
 go_enter Tryz.func109, Tryz.ntmps109
 go_wp2_with fail
 refine (HW.out).mono ?_
 rintro x w1 ⟨hb, A1, c1, rfl, hin⟩
 have HB := Lib.hid hb
 have HIn := Lib.hid hin
 clear hb hin
 go_wp2_with fail
 refine bodyPost_ret (results_tmp2 rfl _ _ _) rfl ?_
 exact ⟨HB.out, A1, c1, rfl, HIn.out⟩
theorem unfront_walk (l : List Int) (hl : l.length ≤ 1000000) (w : World) (A : Option Addr) (c : Nat) (hF : InI w A l) : Calls Tryz.prog 103 #[.slice A l.length c] w fun x w' => RetI w (eachF unfrontG l).1 (eachF unfrontG l).2 x w' := by
 have HW := Lib.hid (each_list138 unfrontG unfront_step l hl w A c hF)
 clear hl hF
 go_enter Tryz.func103, Tryz.ntmps103
 go_wp2_with fail
 refine (HW.out).mono ?_
 rintro x w1 ⟨hb, A1, c1, rfl, hin⟩
 have HB := Lib.hid hb
 have HIn := Lib.hid hin
 clear hb hin
 go_wp2_with fail
 refine bodyPost_ret (results_tmp2 rfl _ _ _) rfl ?_
 exact ⟨HB.out, A1, c1, rfl, HIn.out⟩
def textF (s : Str) : List UInt8 := V.num s.length ++ s
def hdrF (ws : List Str) : List UInt8 := ws.flatMap textF
def longS (s : Str) : Bool := decide (128 < s.length)
def rlIx (l : List Str) : List Int := (runsF l).map fun r => (r.1 : Int)
def rlCt (l : List Str) : List Int := (runsF l).map fun r => (r.2 : Int) - 1
def encAsF (cd : Nat) (l : List Str) : List UInt8 × Int :=
 if decide (4096 < l.length) || l.any longS then ([], 9) else
  (V.num cd ++ V.num (words l).length ++ hdrF (words l) ++ textF (encNumF (if cd = 1 then (eachF frontG (rlIx l)).1 else rlIx l)).1 ++ (encNumF (rlCt l)).1, 0)
def encRL (l : List Str) : List UInt8 × Int :=
 if (encAsF 0 l).2 ≠ 0 then ([], (encAsF 0 l).2) else if (encAsF 1 l).1.length < (encAsF 0 l).1.length then ((encAsF 1 l).1, 0) else ((encAsF 0 l).1, 0)
theorem finE_len (e : Enc) : (finE e).length = e.out.length + 4 := by unfold finE; rw [List.length_append]; rfl
theorem num_len (n : Nat) : (V.num n).length ≤ 9 := by rw [V.num_length]; have := V.kOf_le n; omega
theorem encNumF_len (l : List Int) : (encNumF l).1.length ≤ 600000 := by
 unfold encNumF
 split
 ·simp
 ·rename_i h4
  split
  ·rename_i ha
   unfold numsE
   rw [List.length_append]
   have h1 := num_len l.length
   have h2 := (encNs_ok l fun v hv => by
    have := List.all_eq_true.1 ha v hv
    unfold okN at this
    simp only [Bool.and_eq_true, decide_eq_true_eq] at this
    omega).2.1
   split
   ·simp; omega
   ·rw [finE_len]; omega
  ·simp
theorem textF_len (s : Str) : (textF s).length ≤ s.length + 9 := by unfold textF; rw [List.length_append]; have := num_len s.length; omega
theorem hdrF_len (ws : List Str) (h : ∀ s ∈ ws, s.length ≤ 128) : (hdrF ws).length ≤ 137 * ws.length := by
 induction ws with
 | nil => simp [hdrF]
 | cons s ws ih =>
  have h1 := textF_len s
  have h2 := h s (by simp)
  have h3 := ih fun x hx => h x (by simp [hx])
  show (textF s ++ hdrF ws).length ≤ _
  rw [List.length_append, List.length_cons]; omega
theorem hdrF_snoc (ws : List Str) (s : Str) : hdrF (ws ++ [s]) = hdrF ws ++ textF s := by simp [hdrF]
theorem num_at (n : Nat) (hn : n < 2 ^ 63) (w : World) : Calls Tryz.prog 53 #[.int .i64 (n : Int)] w fun e w' => e = .returned (.string (sB (V.num n))) ∧ Below w.heap.size w w' := V.number_walk n hn w
theorem text_at (s : Str) (hs : s.length < 2 ^ 62) (w : World) : Calls Tryz.prog 82 #[.string (sB s)] w fun e w' => e = .returned (.string (sB (textF s))) ∧ Below w.heap.size w w' := by
 have := V.textF_walk (sB s) (by rw [sB_size]; exact hs) w
 rw [sB_size] at this
 unfold textF
 rw [← sB_app]
 exact this
theorem long_at (s : Str) (w : World) (r : Bool) (hr : longS s = r) : Calls Tryz.prog 106 #[.string (sB s)] w fun e w' => e = .returned (.bool r) ∧ w = w' := by
 have hsz := sB_size s
 have HR : Hid (r = decide ((128 : Int) < (s.length : Int))) := Lib.hid (by
  rw [← hr]; unfold longS
  rw [Bool.eq_iff_iff, decide_eq_true_iff, decide_eq_true_iff]; omega)
 clear hr
 go_enter Tryz.func106, Tryz.ntmps106
 go_wp2_with fail
 go_ret
 refine ⟨ret_bool ?_, rfl⟩
 rw [HR.out]
theorem any_stepS {f : Str → Bool} {l : List Str} {k : Nat} (hk : k < l.length) : (l.take (k + 1)).any f = ((l.take k).any f || f (l.getD k default)) := by
 rw [take_getDS hk]; simp
theorem dflt_get {l : List Str} {k : Nat} (h : k < l.length) : l[k]? = some (l.getD k default) := by rw [List.getD_eq_getElem?_getD, List.getElem?_eq_getElem h]; rfl
theorem idxFn_walk (l : List Str) (hl : l.length ≤ 1000000) (w : World) (A : Option Addr) (c : Nat) (hF : InS w A l) : Calls Tryz.prog 139 #[.slice A l.length c, .func (.func 106) #[] #[]] w fun e w' => ∃ n : Int, e = .returned (.int .i64 n) ∧ (decide (0 ≤ n) = l.any longS) ∧ w = w' := by
 have HF := Lib.hid hF
 have hli : (l.length : Int) ≤ 1000000 := by omega
 clear hF hl
 go_enter Tryz.func139, Tryz.ntmps139
 go_wp2_with fail
 go_loopw [8] (fun i wr => ∃ k : Nat, i = .int .i64 (k : Int) ∧ k ≤ l.length ∧ (l.take k).any longS = false ∧ w = wr) (fun i _ => ((l.length : Int) - intOf i).toNat)
 case atStart => exact ⟨0, rfl, Nat.zero_le _, rfl, rfl⟩
 case round =>
  obtain ⟨k, rfl, hk, hv, rfl⟩ := hrel
  have HVa := Lib.hid hv
  clear hv
  by_cases hlt : k < l.length
  ·have hkl : (k : Int) < l.length := by omega
   obtain ⟨a, rfl, c0⟩ := HF.out.at (.refl _ _) hlt
   have HSt := Lib.hid (any_stepS (f := longS) hlt)
   have HMem := Lib.hid (List.mem_of_getElem? (dflt_get hlt))
   obtain ⟨s, hs⟩ : ∃ s, l.getD k default = s := ⟨_, rfl⟩
   rw [hs] at c0 HSt HMem
   clear hs
   cases hb : longS s with
   | false =>
    have HC := Lib.hid fun w => long_at s w false hb
    have HT : Hid ((l.take (k + 1)).any longS = false) := Lib.hid (by rw [HSt.out, HVa.out, hb]; rfl)
    clear hb
    go_wp2_with fail
    refine (HC.out _).mono ?_
    rintro x _ ⟨rfl, rfl⟩
    go_wp2_with fail
    go_roundw
    case rel => exact ⟨k + 1, by go_num, by omega, HT.out, trivial⟩
    case measure => simp [intOf]; omega
   | true =>
    have HC := Lib.hid fun w => long_at s w true hb
    have HT : Hid (l.any longS = true) := Lib.hid (List.any_eq_true.2 ⟨s, HMem.out, hb⟩)
    clear hb
    go_wp2_with fail
    refine (HC.out _).mono ?_
    rintro x _ ⟨rfl, rfl⟩
    go_wp2_with fail
    refine bodyPost_ret (results_tmp rfl _ _ _) rfl ?_
    exact ⟨(k : Int), rfl, by rw [HT.out]; exact decide_eq_true (by omega), rfl⟩
  ·obtain rfl : k = l.length := by omega
   have HT : Hid (l.any longS = false) := Lib.hid (by have := HVa.out; rwa [List.take_length] at this)
   go_wp2_with fail
   refine bodyPost_ret (results_tmp rfl _ _ _) rfl ?_
   exact ⟨-1, rfl, by rw [HT.out]; rfl, rfl⟩
theorem contF_walk (l : List Str) (hl : l.length ≤ 1000000) (w : World) (A : Option Addr) (c : Nat) (hF : InS w A l) (r : Bool) (hr : l.any longS = r) : Calls Tryz.prog 105 #[.slice A l.length c, .func (.func 106) #[] #[]] w fun e w' => e = .returned (.bool r) ∧ w = w' := by
 have HW := Lib.hid (idxFn_walk l hl w A c hF)
 rw [hr] at HW
 clear hF hr hl
 go_enter Tryz.func105, Tryz.ntmps105
 go_wp2_with fail
 refine (HW.out).mono ?_
 rintro x _ ⟨n, rfl, hn, rfl⟩
 have HN := Lib.hid hn
 clear hn
 go_wp2_with fail
 go_ret
 exact ⟨ret_bool HN.out, rfl⟩
theorem dict_walk (l : List Str) (hl : l.length ≤ 100000) (w : World) (A : Option Addr) (c : Nat) (hF : InS w A l) : Calls Tryz.prog 107 #[.slice A l.length c] w fun x w' => Below w.heap.size w w' ∧ ∃ A1 c1, x = .returned (.slice A1 (words l).length c1) ∧ InS w' A1 (words l) := by
 have HX := Lib.hid (index_walk l hl w A c hF)
 clear hF hl
 go_enter Tryz.func107, Tryz.ntmps107
 go_wp2_with fail
 refine (HX.out).mono ?_
 rintro x w1 ⟨A1, c1, M, rfl, hin, _, hb, _⟩
 have HI := Lib.hid hin
 have HB := Lib.hid hb
 clear hin hb
 go_wp2_with fail
 go_ret
 exact ⟨HB.out, A1, c1, rfl, HI.out⟩
structure TwoA (w0 : World) (D : Nat) (x1 x2 : Int) (l1 l2 : List Int) (v1 v2 : Value) (W : World) : Prop where
 o1 : OwnR w0 3 1 v1 l1.length (ic l1) W
 o2 : OwnR w0 3 1 v2 l2.length (ic l2) W
 ne : ∀ g, v1.ownBlock = some g → v2.ownBlock ≠ some g
 blk : W.heap[D]? = some (.cells #[.int .i64 x1, .int .i64 x2] 165 (0, 0))
 below : Below w0.heap.size w0 W
/-- a new block with one number -/
structure TmpI (v1 v2 : Value) (g : Nat) (x : Int) (W : World) : Prop where
 blk : W.heap[g]? = some (.cells #[.int .i64 x] 3 (0, 0))
 n1 : v1.ownBlock ≠ some g
 n2 : v2.ownBlock ≠ some g
section
variable {w0 W : World} {D : Nat} {x1 x2 : Int} {l1 l2 : List Int} {v1 v2 : Value}
theorem TwoA.c0 (h : TwoA w0 D x1 x2 l1 l2 v1 v2 W) : W.cell? ⟨D, 0, none⟩ = some (.int .i64 x1) := by rw [cell_of_row W D 0 _ _ _ h.blk]; rfl
theorem TwoA.c1 (h : TwoA w0 D x1 x2 l1 l2 v1 v2 W) : W.cell? ⟨D, 1, none⟩ = some (.int .i64 x2) := by rw [cell_of_row W D 1 _ _ _ h.blk]; rfl
theorem TwoA.drew (h : TwoA w0 D x1 x2 l1 l2 v1 v2 W) : TwoA w0 D x1 x2 l1 l2 v1 v2 W.drew := ⟨h.o1.frame fun _ _ => rfl, h.o2.frame fun _ _ => rfl, h.ne, h.blk, h.below.drew⟩
theorem TwoA.Dl (h : TwoA w0 D x1 x2 l1 l2 v1 v2 W) : D < W.heap.size := (Array.getElem?_eq_some_iff.1 h.blk).1
theorem TwoA.alloc (h : TwoA w0 D x1 x2 l1 l2 v1 v2 W) (x : Int) : ∃ W', W.alloc (.cells #[.int .i64 x] 3) = W' ∧ TwoA w0 D x1 x2 l1 l2 v1 v2 W' ∧ TmpI v1 v2 W.heap.size x W' ∧ (∀ g y, TmpI v1 v2 g y W → TmpI v1 v2 g y W') := by
 refine ⟨_, rfl, ⟨h.o1.below ((Below.refl _ _).alloc (Nat.le_refl _) _), h.o2.below ((Below.refl _ _).alloc (Nat.le_refl _) _), h.ne, (Below.heap_alloc W _ D h.Dl).trans h.blk, h.below.alloc h.below.size _⟩, ⟨heap_alloc_new _ _, fun e => absurd (h.o1.lt e) (by omega), fun e => absurd (h.o2.lt e) (by omega)⟩, fun g y t => ⟨(Below.heap_alloc W _ g (Array.getElem?_eq_some_iff.1 t.blk).1).trans t.blk, t.n1, t.n2⟩⟩
set_option maxRecDepth 100000 in
theorem TwoA.push1 (h : TwoA w0 D x1 x2 l1 l2 v1 v2 W) (hn : l1.length + 1 ≤ 1000000) {g : Nat} {x : Int} (t : TmpI v1 v2 g x W) :
  ∃ A c W', (Builtin.append_ #[27, 27] 27 #[v1, .slice (some ⟨g, 0, none⟩) 1 1]).run Tryz.prog W = .ok (.slice A (l1.length + 1) c) W' ∧ TwoA w0 D x1 x2 (l1 ++ [x]) l2 (.slice A (l1.length + 1) c) v2 W' ∧ (∀ g' y, TmpI v1 v2 g' y W → TmpI (.slice A (l1.length + 1) c) v2 g' y W') := by
 obtain ⟨A, c, W', hr, ho, hg, hb⟩ := h.o1.push Tryz.underlying27 rfl rfl rfl rfl rfl (by decide) hn g (.int .i64 x) (by rw [cell_of_row W g 0 _ _ _ t.blk]; rfl) rfl h.below.size
 refine ⟨A, c, W', hr, ⟨?_, ?_, ?_, ?_, ?_⟩, ?_⟩
 ·rw [List.length_append]; show OwnR w0 3 1 _ (l1.length + 1) _ W'
  have e : ic (l1 ++ [x]) = ic l1 ++ [.int .i64 x] := by simp [ic]
  rw [e]; exact ho
 ·exact h.o2.frame fun k hk => hg.block k (h.o2.lt hk) fun e => h.ne k e.symm hk
 ·intro k hk he
  rcases hb with hb | ⟨hb, _⟩
  ·exact h.ne k (hb ▸ hk) he
  ·rw [hb] at hk; injection hk with hk; exact absurd (h.o2.lt he) (by omega)
 ·refine (hg.block D h.Dl fun e => ?_).trans h.blk
  obtain ⟨cur, hc⟩ := row_block h.o1.row e.symm
  rw [h.blk] at hc; injection hc with hc; injection hc with _ hc _; exact absurd hc (by decide)
 ·exact below_grown h.below h.below.size hg h.o1.new
 ·intro g' y t'
  have hl := (Array.getElem?_eq_some_iff.1 t'.blk).1
  refine ⟨(hg.block g' hl fun e => t'.n1 e.symm).trans t'.blk, fun e => ?_, t'.n2⟩
  rcases hb with hb | ⟨hb, _⟩
  ·exact t'.n1 (hb ▸ e)
  ·rw [hb] at e; injection e with e; omega
set_option maxRecDepth 100000 in
theorem TwoA.swap (h : TwoA w0 D x1 x2 l1 l2 v1 v2 W) (hn : l2.length + 1 ≤ 1000000) {g : Nat} {x : Int} (t : TmpI v1 v2 g x W) :
  ∃ A c W', (Builtin.append_ #[27, 27] 27 #[v2, .slice (some ⟨g, 0, none⟩) 1 1]).run Tryz.prog W = .ok (.slice A (l2.length + 1) c) W' ∧ TwoA w0 D x1 x2 l1 (l2 ++ [x]) v1 (.slice A (l2.length + 1) c) W' ∧ (∀ g' y, TmpI v1 v2 g' y W → TmpI v1 (.slice A (l2.length + 1) c) g' y W') := by
 have h' : TwoA w0 D x1 x2 l2 l1 v2 v1 W := ⟨h.o2, h.o1, fun g h1 h2 => h.ne g h2 h1, h.blk, h.below⟩
 obtain ⟨A, c, W', h1, h2, h3⟩ := h'.push1 hn (g := g) (x := x) ⟨t.blk, t.n2, t.n1⟩
 exact ⟨A, c, W', h1, ⟨h2.o2, h2.o1, fun g a b => h2.ne g b a, h2.blk, h2.below⟩, fun g' y t' => by
  obtain ⟨a, b, d⟩ := h3 g' y ⟨t'.blk, t'.n2, t'.n1⟩
  exact ⟨a, d, b⟩⟩
end
end Go.Proofs.YtlmjefjimoghcaaGreat
