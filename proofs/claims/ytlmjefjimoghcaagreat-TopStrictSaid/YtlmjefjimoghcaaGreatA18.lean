/- A part of the proofs of TopCounter and TopStrict: what the functions of the program do, each walked once, and plain laws about it. No condition. -/
import Derived.Test.YtlmjefjimoghcaaGreatA17
namespace Go.Proofs.YtlmjefjimoghcaaGreat
set_option linter.unusedSimpArgs false
set_option linter.unnecessarySimpa false
set_option linter.unusedVariables false
open Go.RowKit
attribute [local go_sem ↓] Go.wp_at_zero Go.wp_at_succ
/-- one value of two cells more -/
theorem OwnR.push2 {w0 w : World} {e t : TypeId} {i : TypeInfo} {z : Value} {bytes : Nat} {v : Value} {n : Nat} {xs : List Value} (h : OwnR w0 e 2 v n xs w) (ht : Tryz.prog.underlying t = some (.slice e)) (hi : Tryz.prog.info? e = some i) (hz : i.zero = some z) (hs : i.size = 2) (hby : i.bytes = bytes) (hzs : z.cells.size = 2) (hb : bytes ≤ 1000) (hn : n + 1 ≤ 1000000)
  (g : Nat) (u u2 : Value) (hg : w.cell? ⟨g, 0, none⟩ = some u) (hg2 : w.cell? ⟨g, 1, none⟩ = some u2) (hu : u.oneCell' = true) (hu2 : u2.oneCell' = true) (hw : w0.heap.size ≤ w.heap.size) :
  ∃ A c w', (Builtin.append_ #[t, t] t #[v, .slice (some ⟨g, 0, none⟩) 1 1]).run Tryz.prog w = .ok (.slice A (n + 1) c) w' ∧ OwnR w0 e 2 (.slice A (n + 1) c) (n + 1) (xs ++ [u, u2]) w' ∧ w.grownBy w' v.ownBlock ∧ ((Value.slice A (n + 1) c).ownBlock = v.ownBlock ∨ ((Value.slice A (n + 1) c).ownBlock = some w.heap.size ∧ w.heap.size < w'.heap.size)) := by
 obtain ⟨v', w', h1, h2, h3, h4⟩ := append_at (P := Tryz.prog) w t t e i z 2 bytes ht hi hz hs hby hzs (by decide) v n xs h.row ⟨g, 0, none⟩ 1 1 [u, u2] rfl (fun j x hj => by
  match j, hj with
  | 0, hj => cases hj; rw [Addr.add_lit]; exact hg
  | 1, hj => cases hj; rw [Addr.add_lit]; exact hg2) (fun x hx => by simp at hx; rcases hx with rfl | rfl <;> assumption) hn hb (by decide)
 obtain ⟨A, c, rfl⟩ := row_sl h2
 refine ⟨A, c, w', h1, ⟨h2, fun k hk => ?_⟩, h3, h4⟩
 rcases h4 with h4 | ⟨h4, _⟩
 ·exact h.new k (h4 ▸ hk)
 ·rw [h4] at hk; injection hk with hk; omega
/-- a cell of a row of values of any size is written -/
theorem row_setN {w : World} {e : TypeId} {size g n c : Nat} {xs : List Value} (h : w.ownsRow 0 e size (.slice (some ⟨g, 0, none⟩) n c) n xs) (i : Nat) (v : Value) : (w.setCell ⟨g, i, none⟩ v).ownsRow 0 e size (.slice (some ⟨g, 0, none⟩) n c) n (xs.set i v) := by
 refine ⟨by rw [List.length_set]; exact h.1, ?_⟩
 rcases h.2 with ⟨h1, _⟩ | ⟨g', cap, cur, h1, h0, hg, hnc, hcm, hcs, htk⟩
 ·cases h1
 ·injection h1 with h1 _ h2
  injection h1 with h1; injection h1 with h1
  subst h1 h2
  refine .inr ⟨g, c, cur.setIfInBounds i v, rfl, h0, heap_setCell_any w g i cur e _ v hg, hnc, hcm, by rw [Array.size_setIfInBounds]; exact hcs, ?_⟩
  rw [← htk, Array.toList_setIfInBounds, List.take_set]
def rcells (l : List (Nat × Nat)) : List Value := l.flatMap fun r => [.int .i64 (r.1 : Int), .int .i64 (r.2 : Int)]
theorem rcells_append (a b : List (Nat × Nat)) : rcells (a ++ b) = rcells a ++ rcells b := by simp [rcells]
theorem rcells_length (l : List (Nat × Nat)) : (rcells l).length = l.length * 2 := by
 induction l with
 | nil => rfl
 | cons r l ih => show (_ :: _ :: rcells l).length = _; simp [ih]; omega
def bump (l : List (Nat × Nat)) : List (Nat × Nat) := l.dropLast ++ [((l.getLastD (0, 0)).1, (l.getLastD (0, 0)).2 + 1)]
theorem bump_snoc (l : List (Nat × Nat)) (i c : Nat) : bump (l ++ [(i, c)]) = l ++ [(i, c + 1)] := by
 unfold bump
 rw [List.dropLast_concat, List.getLastD_concat]
def runStep (ws : List Str) (st : Option Str × List (Nat × Nat)) (s : Str) : Option Str × List (Nat × Nat) := (some s, if st.1 = some s then bump st.2 else st.2 ++ [(ws.idxOf s, 1)])
def runsOf (ws : List Str) (l : List Str) : Option Str × List (Nat × Nat) := l.foldl (runStep ws) (none, [])
def runsF (l : List Str) : List (Nat × Nat) := (runsOf (words l) l).2
theorem runsOf_snoc (ws : List Str) (l : List Str) (s : Str) : runsOf ws (l ++ [s]) = runStep ws (runsOf ws l) s := by simp [runsOf]
theorem runsOf_last (ws : List Str) (l : List Str) (s : Str) : (runsOf ws (l ++ [s])).1 = some s := by rw [runsOf_snoc]; rfl
theorem runsOf_some (ws : List Str) (l : List Str) (s : Str) : ∃ p i c, (runsOf ws (l ++ [s])).2 = p ++ [(i, c)] := by
 rw [runsOf_snoc]
 unfold runStep
 simp only
 split
 ·exact ⟨_, _, _, rfl⟩
 ·exact ⟨_, _, _, rfl⟩
theorem runsOf_len (ws : List Str) (l : List Str) : (runsOf ws l).2.length ≤ l.length ∧ ∀ r ∈ (runsOf ws l).2, 1 ≤ r.2 ∧ r.2 ≤ l.length := by
 induction l using snoc_rec with
 | h0 => exact ⟨Nat.le_refl _, fun r hr => by simp [runsOf] at hr⟩
 | h1 l s ih =>
  obtain ⟨i1, i2⟩ := ih
  rw [runsOf_snoc]
  unfold runStep
  simp only
  split
  ·rename_i h
   rcases snoc_cases l with rfl | ⟨l', s', rfl⟩
   ·cases h
   ·obtain ⟨p, i, c, hp⟩ := runsOf_some ws l' s'
    rw [hp] at i1 i2 ⊢
    rw [bump_snoc]
    constructor
    ·simp at i1 ⊢; omega
    ·intro r hr
     rw [List.mem_append, List.mem_singleton] at hr
     rcases hr with hr | rfl
     ·have := i2 r (List.mem_append_left _ hr); simp at this ⊢; omega
     ·have := i2 (i, c) (by simp); simp at this ⊢; omega
  ·constructor
   ·simp; omega
   ·intro r hr
    rw [List.mem_append, List.mem_singleton] at hr
    rcases hr with hr | rfl
    ·have := i2 r hr; simp; omega
    ·simp
def InRp (w : World) (A : Option Addr) (l : List (Nat × Nat)) : Prop := Flat w (fun k => k < w.heap.size) A (rcells l)
def RunsP (w : World) (l : List (Nat × Nat)) (x : Ending) (w' : World) : Prop := Below w.heap.size w w' ∧ ∃ A c, x = .returned (.slice A l.length c) ∧ InRp w' A l
structure RunI (w : World) (l : List Str) (M : Nat) (v : Value) (k : Nat) (wr : World) : Prop where
 own : OwnR w 165 2 v (runsOf (words l) (l.take k)).2.length (rcells (runsOf (words l) (l.take k)).2) wr
 map : MapF kStr (fun _ => True) wr M (placeF (words l))
 below : Below w.heap.size w wr
def RunR (w : World) (l : List Str) (M : Nat) (v i : Value) (wr : World) : Prop := ∃ k : Nat, i = .int .i64 (k : Int) ∧ k ≤ l.length ∧ RunI w l M v k wr
theorem str_eq (p s : Str) : ((sB p).toList == (sB s).toList) = decide (p = s) := by
 rw [sB_toList, sB_toList]
 by_cases h : p = s
 ·rw [decide_eq_true h, h]; exact beq_self_eq_true _
 ·rw [decide_eq_false h]; exact beq_eq_false_iff_ne.2 h
theorem rcells_at (p : List (Nat × Nat)) (i c : Nat) : (rcells (p ++ [(i, c)]))[p.length * 2 + 1]? = some (.int .i64 (c : Int)) := by
 rw [rcells_append, List.getElem?_append_right (by rw [rcells_length]; omega), rcells_length, show p.length * 2 + 1 - p.length * 2 = 1 by omega]; rfl
theorem rcells_set (p : List (Nat × Nat)) (i c d : Nat) : (rcells (p ++ [(i, c)])).set (p.length * 2 + 1) (.int .i64 (d : Int)) = rcells (p ++ [(i, d)]) := by
 rw [rcells_append, rcells_append, List.set_append_right _ _ (by rw [rcells_length]; omega), rcells_length, show p.length * 2 + 1 - p.length * 2 = 1 by omega]; rfl
set_option maxRecDepth 100000 in
theorem runs_walk (l : List Str) (hl : l.length ≤ 100000) (w : World) (A : Option Addr) (c : Nat) (hF : InS w A l) : Calls Tryz.prog 108 #[.slice A l.length c] w fun x w' => RunsP w (runsF l) x w' := by
 have HF := Lib.hid hF
 have HL := Lib.hid hl
 have hli : (l.length : Int) ≤ 100000 := by omega
 have HX := Lib.hid (index_walk l hl w A c hF)
 clear hF hl
 go_enter Tryz.func108, Tryz.ntmps108
 go_wp2_with fail
 refine (HX.out).mono ?_
 rintro x w1 ⟨A1, c1, M, rfl, _, hm, hb, hM⟩
 have HM := Lib.hid hm
 have HB := Lib.hid hb
 have HMs := Lib.hid hM
 clear hm hb hM HX
 go_wp2_with fail
 go_loopw [5, 15] (fun v i wr => RunR w l M v i wr) (fun _ i _ => ((l.length : Int) - intOf i).toNat)
 case atStart => exact ⟨0, rfl, Nat.zero_le _, .nil _ _ _ _, HM.out, HB.out⟩
 case round =>
  obtain ⟨k, rfl, hk, hI⟩ := hrel
  have HI := Lib.hid hI
  obtain ⟨A', c', rfl⟩ := row_sl hI.own.row
  have hrl := runsOf_len (words l) (l.take k)
  have hlk : (l.take k).length = k := by rw [List.length_take]; omega
  rw [hlk] at hrl
  by_cases hlt : k < l.length
  ·have hki : (k : Int) < l.length := by omega
   obtain ⟨s, hs⟩ : ∃ s, l.getD k default = s := ⟨_, rfl⟩
   have HT := Lib.hid (show l.take (k + 1) = l.take k ++ [s] by rw [take_getDS hlt, hs])
   have hmem : s ∈ l := by rw [← hs]; exact List.mem_of_getElem? (by rw [List.getD_eq_getElem?_getD, List.getElem?_eq_getElem hlt]; rfl)
   obtain ⟨a, rfl, c0⟩ := HF.out.at hI.below hlt
   rw [hs] at c0
   have hlook := mapF_look keyStr hI.map (k := s) trivial Tryz.underlying199 (v := .int .i64 ((words l).idxOf s : Int)) (by unfold placeF; rw [if_pos ((words_mem l s).2 hmem)]) false
   rcases Nat.eq_zero_or_pos k with rfl | hk0
   ·have hno : ¬ (runsOf (words l) (l.take 0)).1 = some s := by simp [runsOf]
    have c0z : wr.cell? a = some (.string (sB s)) := by have e0 : a.add 0 = a := by simp [Addr.add]
                                                        rw [e0] at c0; exact c0
    have HW2 : Hid ((runsOf (words l) (l.take (0 + 1))).2 = (runsOf (words l) (l.take 0)).2 ++ [((words l).idxOf s, 1)]) := Lib.hid (by rw [HT.out, runsOf_snoc]; unfold runStep; simp only; rw [if_neg hno])
    have ho3 := hI.own.below ((Below.refl _ _).alloc (Nat.le_refl _) (.cells #[.int .i64 ((words l).idxOf s : Int), .int .i64 1] 165))
    have hba := hI.below.alloc hI.below.size (.cells #[.int .i64 ((words l).idxOf s : Int), .int .i64 1] 165)
    obtain ⟨A4, c4, W4, hrun, ho4, hg4, hown4⟩ := ho3.push2 Tryz.underlying163 rfl rfl rfl rfl rfl (by decide) (by omega) wr.heap.size (.int .i64 ((words l).idxOf s : Int)) (.int .i64 1) (by rw [cell_of_row _ _ _ _ _ _ (heap_alloc_new wr _)]; rfl) (by rw [cell_of_row _ _ _ _ _ _ (heap_alloc_new wr _)]; rfl) rfl rfl (by rw [World.size_alloc]; have := hI.below.size; omega)
    have hm4 : MapF kStr (fun _ => True) W4 M (placeF (words l)) := hI.map.of_heap ((hg4.block M (by have := hI.map.lt; rw [World.size_alloc]; omega) fun e => row_ne hI.own.row hI.map e.symm rfl).trans (Below.heap_alloc wr _ M hI.map.lt))
    have hb4 := below_grown hba (by rw [World.size_alloc]; have := hI.below.size; omega) hg4 hI.own.new
    have HI4 : Hid (RunI w l M (.slice A4 ((runsOf (words l) (l.take 0)).2.length + 1) c4) (0 + 1) W4) := Lib.hid (by
     refine ⟨?_, hm4, hb4⟩
     rw [HW2.out, List.length_append, rcells_append]
     exact ho4)
    have HRUN := Lib.hid hrun
    obtain ⟨ix, hix⟩ : ∃ ix, ((words l).idxOf s : Int) = ix := ⟨_, rfl⟩
    rw [hix] at hlook HRUN
    clear hI hrl hlk hmem ho3 hba hrun ho4 hg4 hown4 hm4 hb4 hno hs hix
    have hk0i : 0 ≤ ((0 : Nat) : Int) := Int.natCast_nonneg _
    go_wp2_with (at_builtin; refine wpList_append_eq rfl _ _ _ rfl _ _ rfl rfl HRUN.out ?_)
    go_roundw
    case rel => exact ⟨_, by go_num, by omega, HI4.out⟩
    case measure => simp [intOf]; omega
   ·obtain ⟨j, hj⟩ : ∃ j, j + 1 = k := ⟨k - 1, by omega⟩
    have hjl : j < l.length := by omega
    obtain ⟨q, hq⟩ : ∃ q, l.getD j default = q := ⟨_, rfl⟩
    have hTk : l.take k = l.take j ++ [q] := by rw [← hj, take_getDS hjl, hq]
    obtain ⟨a', ha', c0'⟩ := HF.out.at hI.below hjl
    injection ha' with ha'
    rw [← ha', hq] at c0'
    have hl1 : (runsOf (words l) (l.take k)).1 = some q := by rw [hTk, runsOf_last]
    have hji : (k : Int) - 1 = (j : Int) := by omega
    have hjp : 0 < (k : Int) := by omega
    by_cases hqs : q = s
    ·have hse : ((sB q).toList == (sB s).toList) = true := by rw [str_eq, decide_eq_true hqs]
     obtain ⟨p, i, cc, hp⟩ := runsOf_some (words l) (l.take j) q
     rw [← hTk] at hp
     have HW2 : Hid ((runsOf (words l) (l.take (k + 1))).2 = p ++ [(i, cc + 1)]) := Lib.hid (by rw [HT.out, runsOf_snoc]; unfold runStep; simp only; rw [if_pos (by rw [hl1, hqs]), hp, bump_snoc])
     have ho := hI.own
     have hn : (runsOf (words l) (l.take k)).2.length = p.length + 1 := by rw [hp]; simp
     have hcc : cc ≤ k := by have := hrl.2 (i, cc) (by rw [hp]; simp); exact this.2
     rw [hp] at ho
     have hn2 : (p ++ [(i, cc)]).length = p.length + 1 := by simp
     rw [hn2] at ho
     rw [hn]
     obtain ⟨G, c2, hv, hGl, _, hcell, hfr⟩ := row_some ho.row (by omega)
     injection hv with hv1 _ hv2
     subst hv1 hv2
     have c1 := hcell (p.length * 2 + 1) _ (rcells_at p i cc)
     have f1 := hfr (p.length * 2 + 1)
     have HNe := Lib.hid (row_ne ho.row hI.map rfl)
     have hset := row_setN ho.row (p.length * 2 + 1) (.int .i64 ((cc + 1 : Nat) : Int))
     rw [rcells_set] at hset
     have HSet := Lib.hid hset
     have HGn := Lib.hid (ho.new G rfl)
     have hcci : (cc : Int) ≤ 100000 := by omega
     have hpl : (p.length : Int) ≤ 100000 := by have := hrl.1; rw [hn] at this; omega
     clear hI hrl hlk hmem hs hq hl1 hqs hp hset ho hn hn2 hcell hfr ha' hTk hlook hcc hj
     go_wp2_with fail
     go_roundw
     case rel =>
      have h2 : (p ++ [(i, cc + 1)]).length = p.length + 1 := by simp
      refine ⟨k + 1, by go_num, by omega, ⟨?_, HI.out.map.of_heap (Below.heap_setCell _ ⟨G, p.length * 2 + 1, none⟩ _ M (by show M ≠ G; exact fun e => HNe.out e.symm)), HI.out.below.setCell (p := ⟨G, p.length * 2 + 1, none⟩) HGn.out _⟩⟩
      rw [HW2.out, h2]
      exact ⟨HSet.out, fun g hg => by injection hg with hg; rw [← hg]; exact HGn.out⟩
     case measure => simp [intOf]; omega
    ·have hse : ((sB q).toList == (sB s).toList) = false := by rw [str_eq, decide_eq_false hqs]
     have hno : ¬ (runsOf (words l) (l.take k)).1 = some s := by rw [hl1]; intro h; injection h with h; exact hqs h
     clear hqs hq hl1 ha' hTk hj
     have HW2 : Hid ((runsOf (words l) (l.take (k + 1))).2 = (runsOf (words l) (l.take k)).2 ++ [((words l).idxOf s, 1)]) := Lib.hid (by rw [HT.out, runsOf_snoc]; unfold runStep; simp only; rw [if_neg hno])
     have ho3 := hI.own.below ((Below.refl _ _).alloc (Nat.le_refl _) (.cells #[.int .i64 ((words l).idxOf s : Int), .int .i64 1] 165))
     have hba := hI.below.alloc hI.below.size (.cells #[.int .i64 ((words l).idxOf s : Int), .int .i64 1] 165)
     obtain ⟨A4, c4, W4, hrun, ho4, hg4, hown4⟩ := ho3.push2 Tryz.underlying163 rfl rfl rfl rfl rfl (by decide) (by omega) wr.heap.size (.int .i64 ((words l).idxOf s : Int)) (.int .i64 1) (by rw [cell_of_row _ _ _ _ _ _ (heap_alloc_new wr _)]; rfl) (by rw [cell_of_row _ _ _ _ _ _ (heap_alloc_new wr _)]; rfl) rfl rfl (by rw [World.size_alloc]; have := hI.below.size; omega)
     have hm4 : MapF kStr (fun _ => True) W4 M (placeF (words l)) := hI.map.of_heap ((hg4.block M (by have := hI.map.lt; rw [World.size_alloc]; omega) fun e => row_ne hI.own.row hI.map e.symm rfl).trans (Below.heap_alloc wr _ M hI.map.lt))
     have hb4 := below_grown hba (by rw [World.size_alloc]; have := hI.below.size; omega) hg4 hI.own.new
     have HI4 : Hid (RunI w l M (.slice A4 ((runsOf (words l) (l.take k)).2.length + 1) c4) (k + 1) W4) := Lib.hid (by
      refine ⟨?_, hm4, hb4⟩
      rw [HW2.out, List.length_append, rcells_append]
      exact ho4)
     have HRUN := Lib.hid hrun
     obtain ⟨ix, hix⟩ : ∃ ix, ((words l).idxOf s : Int) = ix := ⟨_, rfl⟩
     rw [hix] at hlook HRUN
     clear hI hrl hlk hmem ho3 hba hrun ho4 hg4 hown4 hm4 hb4 hno hs hix
     have hk0i : 0 ≤ ((k : Nat) : Int) := Int.natCast_nonneg _
     go_wp2_with (at_builtin; refine wpList_append_eq rfl _ _ _ rfl _ _ rfl rfl HRUN.out ?_)
     go_roundw
     case rel => exact ⟨_, by go_num, by omega, HI4.out⟩
     case measure => simp [intOf]; omega
  ·obtain rfl : k = l.length := by omega
   have HT : Hid (l.take l.length = l) := Lib.hid List.take_length
   clear hI hrl hlk
   go_wp2_with fail
   go_ret
   have h := HI.out.own
   rw [HT.out] at h ⊢
   exact ⟨HI.out.below, A', c', rfl, (row_flat h.row).mono fun _ h => h.2⟩
theorem step_copy_eq {P : Program} {ops : Array Oper} {o : Oper} {a : Act} {w : World} {K : Act → World → Prop} {Q : Exit → Act → World → Prop} {E : Prop}
  (hg : o.guard = none) (d x : Operand) (dT sT : TypeId) (hop : o.op = Op.call { callee := Callee.builtin Builtin.copy, args := #[d, x], argTypes := #[dT, sT] })
  (v1 v2 v' : Value) (w' : World) (hd : a.eval d = v1) (hx : a.eval x = v2) (hrun : (Builtin.copy_ #[dT, sT] o.type #[v1, v2]).run P w = .ok v' w')
  (hK : K (a.put o.dst v') w') : if Region.wanted o (yielded ops a.tmps) = true then Oper.wp P o a w K Q else E := by
 have hw : Region.wanted o (yielded ops a.tmps) = true := by simp [Region.wanted, hg]
 rw [if_pos hw]
 unfold Oper.wp
 simp [execOp, hop, resolve, invoke, builtin, hd, hx, hrun, Result.andThen]
 exact hK
def row0 : List Int := (List.range 4096).map Int.ofNat
def moveF (l : List Int) (p : Nat) : List Int := l.getD p default :: (l.take p ++ l.drop (p + 1))
theorem moveF_length {l : List Int} {p : Nat} (h : p < l.length) : (moveF l p).length = l.length := by simp [moveF]; omega
theorem moveF_mem {l : List Int} {p : Nat} (h : p < l.length) (x : Int) : x ∈ moveF l p ↔ x ∈ l := by
 have hs : l = l.take p ++ (l.getD p default :: l.drop (p + 1)) := by
  have h1 : l.getD p default = l[p] := by simp [List.getD, h]
  rw [h1, ← List.drop_eq_getElem_cons h, List.take_append_drop]
 unfold moveF
 conv => rhs; rw [hs]
 simp only [List.mem_cons, List.mem_append]
 constructor
 ·rintro (h | h | h) <;> simp [h]
 ·rintro (h | h | h) <;> simp [h]
theorem irow_zero {w : World} {G : Nat} {l : List Int} (h : IRow w G l) (xs : List Int) : IRow (w.setRow G (ic xs).toArray) G xs := setRow_heap w G _ _ _ _ h.to
def rowTo (k : Nat) : List Int := (List.range k).map Int.ofNat
theorem rowTo_succ (k : Nat) : rowTo (k + 1) = rowTo k ++ [(k : Int)] := by simp [rowTo, List.range_succ]
theorem rowTo_len (k : Nat) : (rowTo k).length = k := by simp [rowTo]
set_option maxRecDepth 100000 in
theorem row_walk (w : World) : Calls Tryz.prog 166 #[] w fun x w' => x = .returned (.slice (some ⟨w.heap.size, 0, none⟩) 4096 4096) ∧ Below w.heap.size w w' ∧ IRow w' w.heap.size row0 := by
 obtain ⟨W, hrun, hrow, hb, hsz⟩ := made_row w 4096 (Nat.le_refl _)
 have hrun' : (Instr.makeSlice 27 (.int .i64 4096) (.int .i64 4096)).run Tryz.prog w = .ok (.slice (some ⟨w.heap.size, 0, none⟩) 4096 4096) W := hrun
 have HR := Lib.hid hrow
 have HB := Lib.hid hb
 clear hrun hrow hb hsz
 go_enter Tryz.func166, Tryz.ntmps166
 go_wp2_with fail
 clear hrun'
 obtain ⟨N, hN⟩ : ∃ N : Nat, 4096 = N := ⟨_, rfl⟩
 have HN := Lib.hid hN
 rw [hN] at HR
 clear hN
 go_loopw [6] (fun i wr => ∃ k : Nat, i = .int .i64 (k : Int) ∧ k ≤ 4096 ∧ Below w.heap.size w wr ∧ IRow wr w.heap.size (rowTo k ++ List.replicate (N - k) 0)) (fun i _ => (4096 - intOf i).toNat)
 case atStart => exact ⟨0, rfl, Nat.zero_le _, HB.out, by simpa [rowTo] using HR.out⟩
 case round =>
  obtain ⟨k, rfl, hk, hb, hi⟩ := hrel
  have HBl := Lib.hid hb
  have HI := Lib.hid hi
  clear hb hi
  by_cases hlt : k < 4096
  ·have hki : (k : Int) < 4096 := by omega
   have hlen : (rowTo k ++ List.replicate (N - k) 0).length = N := by rw [List.length_append, rowTo_len, List.length_replicate, ← HN.out]; omega
   have c0 := HI.out.cell (i := k) (by rw [hlen, ← HN.out]; exact hlt)
   have f0 := HI.out.fr k
   have hset := HI.out.set k (k : Int)
   rw [put_row (rowTo_len k) (by rw [← HN.out]; exact hlt), ← rowTo_succ] at hset
   have HS := Lib.hid hset
   clear hset hlen
   go_wp2_with fail
   go_roundw
   case rel => exact ⟨k + 1, by go_num, by omega, HBl.out.setCell (p := ⟨w.heap.size, k, none⟩) (Nat.le_refl _) _, HS.out⟩
   case measure => simp [intOf]; omega
  ·obtain rfl : k = 4096 := by omega
   have HF : Hid (IRow wr w.heap.size row0) := Lib.hid (by
    have := HI.out
    rw [← HN.out, Nat.sub_self, List.replicate_zero, List.append_nil] at this
    exact this)
   clear HI HR
   go_wp2_with fail
   go_ret
   exact ⟨rfl, HBl.out, HF.out⟩
theorem touch_setRow {w : World} {G : Nat} {cs : Array Value} : Touch (fun k => k = G) w (w.setRow G cs) := Touch.setRow (S := fun k => k = G) (a := w) (b := w) (Touch.refl _ _) (.inl rfl) cs
theorem one_ic (l : List Int) : ∀ u ∈ ic l, u.oneCell' = true := fun u hu => by
 obtain ⟨b, _, rfl⟩ := List.mem_map.1 hu
 rfl
set_option maxRecDepth 100000 in
theorem copy_row (w : World) (O : Nat) (l : List Int) (hl : l.length = 4096) (hi : IRow w O l) (p : Nat) (hp : p < 4096) : ∃ W2, (Builtin.copy_ #[27, 27] 3 #[.slice (if p = 0 then some ⟨O, 0, none⟩ else some ⟨O, 1, none⟩) p p, .slice (some ⟨O, 0, none⟩) p p]).run Tryz.prog w = .ok (.int .i64 (p : Int)) W2 ∧ Touch (fun k => k = O) w W2 ∧ IRow W2 O (l.take 1 ++ l.take p ++ l.drop (1 + p)) := by
 by_cases h0 : p = 0
 ·subst h0
  refine ⟨w, run_copy_none w 27 27 3 3 _ _ 0 0 0 0 Tryz.underlying27 rfl rfl, Touch.refl _ _, ?_⟩
  have : l.take 1 ++ l.take 0 ++ l.drop (1 + 0) = l := by cases l <;> simp
  rw [this]; exact hi
 ·have hln : (ic (l.take p)).length = p := by rw [ic_length, List.length_take]; omega
  have h := run_copy_row (P := Tryz.prog) w 27 27 3 3 O 1 p p ⟨O, 0, none⟩ p p (ic l).toArray 3 (ic (l.take p)) Tryz.underlying27 rfl hi.to (by rw [hln]; simp) (fun j v hj => by
   have hjp : j < p := by have := (List.getElem?_eq_some_iff.1 hj).1; rw [hln] at this; exact this
   rw [Addr.add_lit, Nat.zero_add, cell_of_row w O j _ _ _ hi.to, List.getElem?_toArray]
   rw [← hj]
   simp [ic, List.getElem?_take, hjp]) (by rw [hln]; simp [ic, hl]; omega) (one_ic _)
  rw [if_neg h0, hln] at *
  refine ⟨_, h, touch_setRow, ?_⟩
  have he : (ic l).toArray.toList.take 1 ++ ic (l.take p) ++ (ic l).toArray.toList.drop (1 + p) = ic (l.take 1 ++ l.take p ++ l.drop (1 + p)) := by simp [ic, List.map_take, List.map_drop]
  rw [he]
  exact irow_zero hi _
theorem move_list {l : List Int} (hl : l.length = 4096) {p : Nat} (hp : p < 4096) : (l.take 1 ++ l.take p ++ l.drop (1 + p)).set 0 (l.getD p default) = moveF l p ∧ (l.take 1 ++ l.take p ++ l.drop (1 + p)).length = 4096 := by
 cases l with
 | nil => simp at hl
 | cons x l =>
  constructor
  ·unfold moveF
   rw [Nat.add_comm 1 p]; rfl
  ·simp at hl ⊢; omega
set_option maxRecDepth 100000 in
theorem move_walk (w : World) (O : Nat) (l : List Int) (hl : l.length = 4096) (hi : IRow w O l) (p : Nat) (hp : p < 4096) : Calls Tryz.prog 167 #[.slice (some ⟨O, 0, none⟩) 4096 4096, .int .i64 (p : Int)] w fun x w' => x = .returned (.slice (some ⟨O, 0, none⟩) 4096 4096) ∧ Touch (fun k => k = O) w w' ∧ IRow w' O (moveF l p) := by
 obtain ⟨v, hv⟩ : ∃ v, l.getD p default = v := ⟨_, rfl⟩
 have c0 := hi.cell (i := p) (by omega)
 rw [hv] at c0
 obtain ⟨W2, hrun, ht, hi2⟩ := copy_row w.drew O l hl hi p hp
 obtain ⟨hm, hml⟩ := move_list hl hp
 rw [hv] at hm
 have HG : Hid (W2.cell? ⟨O, 0, none⟩ = some (.int .i64 ((l.take 1 ++ l.take p ++ l.drop (1 + p)).getD 0 default)) ∧ W2.frozen? ⟨O, 0, none⟩ = false) := Lib.hid ⟨hi2.cell (i := 0) (by omega), hi2.fr 0⟩
 have hset := hi2.set 0 v
 rw [hm] at hset
 obtain ⟨m, hme⟩ : ∃ m, moveF l p = m := ⟨_, rfl⟩
 rw [hme] at hset ⊢
 have HFin := Lib.hid hset
 have HT : Hid (Touch (fun k => k = O) w (W2.setCell ⟨O, 0, none⟩ (.int .i64 v))) := Lib.hid (((Touch.refl (fun k => k = O) w).drew.trans ht fun _ _ h => h).setCell (p := ⟨O, 0, none⟩) (.inl rfl) _)
 have HRUN := Lib.hid hrun
 have hpi : (p : Int) < 4096 := by omega
 clear hl hp hv hrun ht hi2 hm hml hset hi hme
 have hw1 : IntKind.i64.wrap ((p : Int) + 1) = (p : Int) + 1 := IntWalk.i64_in _ (by omega)
 have h1 : 0 ≤ (p : Int) + 1 := by omega
 have h2 : (p : Int) + 1 ≤ 4096 := by omega
 have h3 : 1 ≤ (p : Int) + 1 := by omega
 have h4 : (p : Int) ≤ 4096 := by omega
 go_enter Tryz.func167, Tryz.ntmps167
 go_upto_region 2 with (fail)
 refine wp_region_noPanic ?_
 refine wp_region_D 11 (fun _ => True) (by kernel_rfl) trivial (fun hU => ?_)
 have hC : (fun _ : World => True) w.drew := trivial
 clear hU
 refine tk 0 10 10 rfl rfl (.inr hC) ?_
 simp only [Act.put, zA, zB, zC]
 refine tk 1 11 9 rfl rfl (.inr hC) ?_
 simp only [Act.put, zA, zB, zC]
 refine tk 2 12 8 rfl rfl (.inr hC) ?_
 simp only [Act.put, zA, zB, zC]
 refine tk 3 13 7 rfl rfl (.inr hC) ?_
 simp only [Act.put, zA, zB, zC]
 refine tk 4 14 6 rfl rfl (.inr hC) ?_
 simp only [Act.put, zA, zB, zC]
 refine tk 5 15 5 rfl rfl (.inr hC) ?_
 simp only [Act.put, zA, zB, zC]
 refine tk 6 16 4 rfl rfl (.inr hC) ?_
 simp only [Act.put, zA, zB, zC]
 refine tk 7 17 3 rfl rfl (.inr hC) ?_
 simp only [Act.put, zA, zB, zC]
 refine tk 8 18 2 rfl rfl (.inr hC) ?_
 simp only [Act.put, zA, zB, zC]
 refine tk 9 19 1 rfl rfl (.inr hC) ?_
 simp only [Act.put, zA, zB, zC]
 refine ry 0 [10] ?_
 refine rn rfl (fun K hK => ?_) ?_
 ·refine step_copy_eq rfl (.tmp 15) (.tmp 19) 27 27 rfl _ _ _ _ rfl rfl HRUN.out ?_
  refine shut_C hK ?_ (fun hC => ?_)
  ·trivial
  clear hK K
  try simp only [Act.put, zA, zB, zC]
  refine wpAnyD_done (by kernel_rfl) ?_ _
  refine NoPanic.normal ?_
  have g0 := HG.out.1
  have gf := HG.out.2
  go_wp2_with fail
  all_goals
   go_ret
   exact ⟨rfl, HT.out, HFin.out⟩
 exact rz
end Go.Proofs.YtlmjefjimoghcaaGreat
