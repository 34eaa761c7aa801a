import Derived.Test.YtagfnobchdfhfaaWd
import Derived.Lib.BufferWrite
namespace Go.Proofs.Ytagfnobchdfhfaa
set_option linter.unusedSimpArgs false
set_option linter.unnecessarySimpa false
set_option linter.unusedVariables false
open Go.RowKit
attribute [local go_sem ↓] Go.wp_at_zero Go.wp_at_succ

def torn (old new : List UInt8) (m : Nat) : List UInt8 := new.take m ++ old.drop m
/-- the sectors after the first j writes ended, each with m bytes -/
def endN (m : Nat → Nat) (secs : List (List UInt8)) (l : List (Nat × ByteArray)) : Nat → List (List UInt8)
  | 0 => secs
  | j + 1 => match l[j]? with
    | some p => (endN m secs l j).modify p.1 fun o => torn o p.2.data.toList (m j)
    | none => endN m secs l j
theorem endN_length (m : Nat → Nat) (secs : List (List UInt8)) (l : List (Nat × ByteArray)) (j : Nat) : (endN m secs l j).length = secs.length := by
  induction j with
  | zero => rfl
  | succ j ih =>
    unfold endN
    split
    · rw [List.length_modify]; exact ih
    · exact ih
def endF (d : DM) (m : Nat → Nat) : DM := { d with secs := endN m d.secs d.pend d.pend.length, pend := [] }
theorem step_copy_eq {P : Program} {ops : Array Oper} {o : Oper} {a : Act} {w : World} {K : Act → World → Prop} {Q : Exit → Act → World → Prop} {E : Prop}
    (hg : o.guard = none) (d x : Operand) (dT sT : TypeId) (hop : o.op = Op.call { callee := Callee.builtin Builtin.copy, args := #[d, x], argTypes := #[dT, sT] })
    (v1 v2 v' : Value) (w' : World) (hd : a.eval d = v1) (hx : a.eval x = v2) (hrun : (Builtin.copy_ #[dT, sT] o.type #[v1, v2]).run P w = .ok v' w')
    (hK : K (a.put o.dst v') w') : if Region.wanted o (yielded ops a.tmps) = true then Oper.wp P o a w K Q else E := by
  have hw : Region.wanted o (yielded ops a.tmps) = true := by simp [Region.wanted, hg]
  rw [if_pos hw]
  unfold Oper.wp
  simp [execOp, hop, resolve, invoke, builtin, hd, hx, hrun, Result.andThen]
  exact hK
section
variable {S : Nat → Prop} {D : Nat} {d : DM} {w : World} {vd vb vp : Value} {dl : List Value}
/-- a sector is written anew -/
theorem DkO.sector (h : DkO S D d w vd vb vp dl) {k g c : Nat} {b b' : List UInt8} (hb : d.secs[k]? = some b) (hv : dl[k]? = some (.slice (some ⟨g, 0, none⟩) 64 c)) (hl : b'.length = 64)
    {w' : World} {cur cur' : Array Value} (hg : w.heap[g]? = some (.cells cur 5 (0, 0))) (hg' : w'.heap[g]? = some (.cells cur' 5 (0, 0))) (hs : cur'.size = cur.size) (ht : cur'.toList.take 64 = bcells b') (hf : ∀ i, i ≠ g → i < w.heap.size → w'.heap[i]? = w.heap[i]?) :
    DkO S D { d with secs := d.secs.set k b' } w' vd vb vp dl := by
  have lt : ∀ {e size v n xs}, w.ownsRow 0 e size v n xs → ∀ g, v.ownBlock = some g → g < w.heap.size := fun h g hg => (h.lt g hg).2
  have ne : ∀ {e size v n xs}, w.ownsRow 0 e size v n xs → e ≠ 5 → ∀ i, v.ownBlock = some i → i ≠ g := fun hr he i hi hig => by
    obtain ⟨cc, hc⟩ := row_block hr hi
    rw [hig, hg] at hc
    injection hc with hc; injection hc with _ hc _; exact he hc.symm
  have keep : ∀ {e size v n xs}, w.ownsRow 0 e size v n xs → e ≠ 5 → w'.ownsRow 0 e size v n xs := fun hr he => row_of hr fun i hi => hf i (ne hr he i hi) (lt hr i hi)
  have hD : D ≠ g := fun e => by
    have := h.obj
    rw [e, hg] at this
    injection this with this; injection this with _ this _; exact absurd this (by decide)
  have hsl : (d.secs.set k b').length = d.secs.length := List.length_set
  refine ⟨(hf D hD h.lt).trans h.obj, h.sD, by show w'.ownsRow 0 74 1 vd (d.secs.set k b').length dl; rw [hsl]; exact keep h.rd (by decide), h.sd, by show w'.ownsRow 0 4 1 vb (d.secs.set k b').length _; rw [hsl]; exact keep h.rb (by decide), h.sb, keep h.rp (by decide), h.sp, ?_, h.inj, by show 0 < (d.secs.set k b').length; rw [hsl]; exact h.len, by show ∀ p ∈ d.pend, p.1 < (d.secs.set k b').length ∧ _; rw [hsl]; exact h.fit⟩
  intro i c' hc'
  have hc'' : (d.secs.set k b')[i]? = some c' := hc'
  by_cases hik : k = i
  · subst hik
    rw [List.getElem?_set_self (List.getElem?_eq_some_iff.1 hb).1] at hc''
    cases hc''
    obtain ⟨v, h1, h2, g2, h3, h4⟩ := h.sec k b hb
    rw [hv] at h1; cases h1
    refine ⟨_, hv, ⟨by simp [bcells, hl], .inr ?_⟩, g2, h3, h4⟩
    rcases h2.2 with ⟨e, _⟩ | ⟨g3, cap, cu, e, h5, h6, h7, h8, h9, h10⟩
    · cases e
    · injection e with e1 e2 e3
      injection e1 with e1
      injection e1 with e1
      subst e1 e3
      rw [hg] at h6; injection h6 with h6; injection h6 with h6; subst h6
      exact ⟨g, c, cur', rfl, h5, hg', h7, h8, by rw [hs]; exact h9, ht⟩
  · rw [List.getElem?_set_ne hik] at hc''
    obtain ⟨v, h1, h2, g2, h3, h4⟩ := h.sec i c' hc''
    refine ⟨v, h1, row_of h2 fun g3 hg3 => hf g3 ?_ (lt h2 g3 hg3), g2, h3, h4⟩
    rintro rfl
    exact hik (h.inj k i _ _ hv h1 (by rw [hg3]; rfl))
end
end Go.Proofs.Ytagfnobchdfhfaa
