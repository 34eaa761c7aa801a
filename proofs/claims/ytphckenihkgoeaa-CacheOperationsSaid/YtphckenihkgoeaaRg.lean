import Derived.Test.YtphckenihkgoeaaRows
import Derived.Deep.RegionHeld3
import Derived.StillTail
import Derived.WalkKit
import Derived.Deep.DrawnRows
namespace Go.Proofs.Ytphckenihkgoeaa
set_option linter.unusedSimpArgs false
set_option linter.unnecessarySimpa false
set_option linter.unusedVariables false
open Go.RowKit

section
variable {P : Program} {ops : Array Oper} {md : Region.Mode} {Q : Exit → Act → World → Prop} {k0 : Nat} {C : World → Prop}
/-- whatever order is picked; behind every operation number k0 is done, or C holds -/
def wpAnyD (P : Program) (md : Region.Mode) (ops : Array Oper) (Q : Exit → Act → World → Prop) (k0 : Nat) (C : World → Prop) : Nat → Array Bool → Act → World → Prop
  | 0, listed, a, w => Region.ready md ops listed = [] ∧ Q .normal a w
  | fuel + 1, listed, a, w =>
    (Region.ready md ops listed = [] → Q .normal a w) ∧
    ∀ i ∈ Region.ready md ops listed, wpOp P ops Q i (fun a' w' => ((listed.setIfInBounds i true).getD k0 false = true ∨ C w') ∧ wpAnyD P md ops Q k0 C fuel (listed.setIfInBounds i true) a' w') a w
theorem wpAny_of_D : ∀ (fuel : Nat) (listed : Array Bool) (a : Act) (w : World), wpAnyD P md ops Q k0 C fuel listed a w → wpAny P md ops Q fuel listed a w
  | 0, _, _, _, h => h
  | fuel + 1, _, _, _, h => ⟨h.1, fun i hi => wpOp_mono (fun a' w' h' => wpAny_of_D fuel _ a' w' h'.2) (h.2 i hi)⟩
theorem wpAnyD_first {i : Nat} {oi : Oper} {v : Value} {S : World → Prop} (hi : ops[i]? = some oi) (hsel : ∀ (j : Nat) (o : Oper) cs b, ops[j]? = some o → o.op ≠ .select cs b)
    (hQ : ∀ c a w, Q (.panic c) (a.put oi.dst v) w → Q (.panic c) a w) (hik : i ≠ k0) :
    ∀ (fuel : Nat) (listed : Array Bool) (a : Act) (w : World), ((listed.getD k0 false = false ∧ (Region.waitsFor md ops k0 i || decide (ops.size ≤ k0)) = true ∧ ∀ w, C w → S w) ∨ ∀ w, S w) →
      (∀ j oj, ops[j]? = some oj → j ≠ i → listed.getD j true = false → (∀ e ∈ oj.after, Region.binds md e = true → e.on ≠ i) → oi.apart ops oj = true) →
      i ∈ Region.ready md ops listed → YieldsIf P ops S oi v a → (listed.getD k0 false = true ∨ C w) →
      wpAnyD P md ops Q k0 C fuel (listed.setIfInBounds i true) (a.put oi.dst v) w → wpAnyD P md ops Q k0 C (fuel + 1) listed a w := by
  have hSw : ∀ (listed : Array Bool) (w : World), ((listed.getD k0 false = false ∧ (Region.waitsFor md ops k0 i || decide (ops.size ≤ k0)) = true ∧ ∀ w, C w → S w) ∨ ∀ w, S w) → (listed.getD k0 false = true ∨ C w) → S w := by
    intro listed w hd hu
    rcases hd with ⟨h1, _, h2⟩ | h
    · rcases hu with hu | hu
      · rw [h1] at hu; cases hu
      · exact h2 w hu
    · exact h w
  intro fuel
  induction fuel with
  | zero =>
    intro listed a w hd _ hr hy hS H
    refine ⟨fun h => (by rw [h] at hr; cases hr), fun j hj => ?_⟩
    by_cases hji : j = i
    · subst hji; exact hy.wpOp hi (hSw listed w hd hS) ⟨hS.imp getD_set_true id, H⟩
    · have := ready_mono hj hji
      rw [H.1] at this
      cases this
  | succ fuel ih =>
    intro listed a w hd hfree hr hy hS H
    refine ⟨fun h => (by rw [h] at hr; cases hr), fun j hj => ?_⟩
    by_cases hji : j = i
    · subst hji; exact hy.wpOp hi (hSw listed w hd hS) ⟨hS.imp getD_set_true id, H⟩
    · have h1 := H.2 j (ready_mono hj hji)
      obtain ⟨hjun, oj, hoj, hall⟩ := mem_ready.1 hj
      have hun := (mem_ready.1 hr).1
      have hnot : ∀ e ∈ oj.after, Region.binds md e = true → e.on ≠ i := fun e he hb heq => by
        have h1 := hall e he hb
        rw [heq, getD_both hun] at h1
        cases h1
      have h2 := wpOp_putIf hoj (hfree j oj hoj hji hjun hnot) (fun cs b => hsel i oi cs b hi) (fun cs b => hsel j oj cs b hoj) hQ hy h1
      have hfree' : ∀ k ok, ops[k]? = some ok → k ≠ i → (listed.setIfInBounds j true).getD k true = false →
          (∀ e ∈ ok.after, Region.binds md e = true → e.on ≠ i) → oi.apart ops ok = true := fun k ok hk hki hun hno => by
        refine hfree k ok hk hki ?_ hno
        by_cases hjk : j = k
        · subst hjk; exact hjun
        · rw [getD_set_ne true hjk] at hun; exact hun
      have hd' : (((listed.setIfInBounds j true).getD k0 false = false ∧ (Region.waitsFor md ops k0 i || decide (ops.size ≤ k0)) = true ∧ ∀ w, C w → S w) ∨ ∀ w, S w) := by
        rcases hd with ⟨e1, e2, e3⟩ | h
        · left
          refine ⟨?_, e2, e3⟩
          have hjk : j ≠ k0 := by
            rintro rfl
            rw [Bool.or_eq_true] at e2
            rcases e2 with e2 | e2
            · obtain ⟨o', ho', e, he, hb, hon⟩ := Region.waitsFor_spec e2
              rw [hoj] at ho'; cases ho'
              exact hnot e he hb hon
            · have := (Array.getElem?_eq_some_iff.1 hoj).1
              have := of_decide_eq_true e2
              omega
          rw [getD_set_ne false hjk]; exact e1
        · exact .inr h
      refine wpOp_mono (fun a' w' h3 => ?_) h2
      have hS' : (listed.setIfInBounds j true).getD k0 false = true ∨ C w' := by
        rcases h3.2.1 with h4 | h4
        · left
          rw [Array.setIfInBounds_comm _ _ (Ne.symm hji), getD_set_ne false hik] at h4
          exact h4
        · exact .inr h4
      refine ⟨hS', ih (listed.setIfInBounds j true) a' w' hd' hfree' (ready_mono hr (Ne.symm hji)) h3.1 hS' ?_⟩
      rw [Array.setIfInBounds_comm _ _ hji]
      exact h3.2.2
/-- a load is taken first -/
theorem wpAnyD_load {i : Nat} {oi : Oper} {v : Value} {fuel : Nat} {listed : Array Bool} {a : Act} {w : World} {dst : Option Tmp} (hi : ops[i]? = some oi) (hdst : oi.dst = dst)
    (hB : (Region.noSelect ops && Region.free md ops listed i && (Region.ready md ops listed).contains i && (i != k0) && !(listed.getD k0 false) && (Region.waitsFor md ops k0 i || decide (ops.size ≤ k0))) = true)
    (hQ : ∀ c a w, Q (.panic c) (a.put oi.dst v) w → Q (.panic c) a w) (hw : Region.wanted oi (yielded ops a.tmps) = true) (hy : ∀ w, C w → (execOp a.eval oi).run P w = .ok (.value v) w) (hS : listed.getD k0 false = true ∨ C w)
    (h : wpAnyD P md ops Q k0 C fuel (listed.setIfInBounds i true) (a.put dst v) w) : wpAnyD P md ops Q k0 C (fuel + 1) listed a w := by
  subst hdst
  simp only [Bool.and_eq_true, bne_iff_ne, Bool.not_eq_true'] at hB
  obtain ⟨⟨⟨⟨⟨hs, hf⟩, hr⟩, hik⟩, hk⟩, hwt⟩ := hB
  exact wpAnyD_first (S := C) hi (Region.noSelect_spec hs) hQ hik fuel listed a w (.inl ⟨hk, hwt, fun _ h => h⟩) (Region.free_spec hi hf) (by simpa using hr) (.inl ⟨hw, hy⟩) hS h
/-- an operation that touches no memory is taken first -/
theorem wpAnyD_take {i : Nat} {oi : Oper} {v : Value} {fuel : Nat} {listed : Array Bool} {a : Act} {w : World} {dst : Option Tmp} (hi : ops[i]? = some oi) (hdst : oi.dst = dst)
    (hB : (Region.noSelect ops && Region.free md ops listed i && (Region.ready md ops listed).contains i && (i != k0)) = true)
    (hQ : ∀ c a w, Q (.panic c) (a.put oi.dst v) w → Q (.panic c) a w) (hw : Region.wanted oi (yielded ops a.tmps) = true) (hy : ∀ w, (execOp a.eval oi).run P w = .ok (.value v) w) (hS : listed.getD k0 false = true ∨ C w)
    (h : wpAnyD P md ops Q k0 C fuel (listed.setIfInBounds i true) (a.put dst v) w) : wpAnyD P md ops Q k0 C (fuel + 1) listed a w := by
  subst hdst
  simp only [Bool.and_eq_true, bne_iff_ne] at hB
  obtain ⟨⟨⟨hs, hf⟩, hr⟩, hik⟩ := hB
  exact wpAnyD_first (S := fun _ => True) hi (Region.noSelect_spec hs) hQ hik fuel listed a w (.inr fun _ => trivial) (Region.free_spec hi hf) (by simpa using hr) (.inl ⟨hw, fun w _ => hy w⟩) hS h
def AllReadyD (P : Program) (md : Region.Mode) (ops : Array Oper) (Q : Exit → Act → World → Prop) (k0 : Nat) (C : World → Prop) (fuel : Nat) (listed : Array Bool) (a : Act) (w : World) (rs : List Nat) : Prop :=
  ∀ i ∈ rs, wpOp P ops Q i (fun a' w' => ((listed.setIfInBounds i true).getD k0 false = true ∨ C w') ∧ wpAnyD P md ops Q k0 C fuel (listed.setIfInBounds i true) a' w') a w
theorem AllReadyD.nil {fuel : Nat} {listed : Array Bool} {a : Act} {w : World} : AllReadyD P md ops Q k0 C fuel listed a w [] := fun _ h => by cases h
theorem AllReadyD.cons {fuel : Nat} {listed : Array Bool} {a : Act} {w : World} {i : Nat} {o : Oper} {rs : List Nat} (ho : ops[i]? = some o)
    (h : ∀ K' : Act → World → Prop, Shut (∀ a w, ((listed.setIfInBounds i true).getD k0 false = true ∨ C w) → (((listed.setIfInBounds i true).getD k0 false = true ∨ C w) → wpAnyD P md ops Q k0 C fuel (listed.setIfInBounds i true) a w) → K' a w) → if Region.wanted o (yielded ops a.tmps) = true then Oper.wp P o a w K' Q else K' (a.put o.dst undef) w)
    (hs : AllReadyD P md ops Q k0 C fuel listed a w rs) : AllReadyD P md ops Q k0 C fuel listed a w (i :: rs) := fun j hj => by
  rcases List.mem_cons.1 hj with rfl | hj
  · exact wpOp_step ho (fun K' hK => h K' (fun a w hS hW => hK a w ⟨hS, hW hS⟩))
  · exact hs j hj
theorem wpAnyD_ready {rs : List Nat} {fuel : Nat} {listed : Array Bool} {a : Act} {w : World} (hr : Region.ready md ops listed = rs) (hne : rs ≠ [])
    (h : AllReadyD P md ops Q k0 C fuel listed a w rs) : wpAnyD P md ops Q k0 C (fuel + 1) listed a w := ⟨fun h0 => absurd (hr ▸ h0) hne, hr ▸ h⟩
theorem wpAnyD_done {listed : Array Bool} {a : Act} {w : World} (hr : Region.ready md ops listed = []) (h : Q .normal a w) :
    ∀ fuel, wpAnyD P md ops Q k0 C fuel listed a w
  | 0 => ⟨hr, h⟩
  | _ + 1 => ⟨fun _ => h, by rw [hr]; simp⟩
theorem wp_region_D {id : Nat} {a : Act} {w : World} (k0 : Nat) (C : World → Prop) (hm : P.follows .mixedOrders = true) (hC : C w.drew)
    (h : (∀ l : Array Bool, l.getD k0 false = true ∨ C w.drew) → wpAnyD P .any ops Q k0 C ops.size (Array.replicate ops.size false) a w.drew) : (Code.region id ops true).wp P Q a w :=
  wp_region_any hm (wpAny_of_D _ _ _ _ (h fun _ => .inr hC))
theorem shut_C {K' : Act → World → Prop} {X : Prop} {C : World → Prop} {R : Act → World → Prop} (hK : Shut (∀ a w, (X ∨ C w) → ((X ∨ C w) → R a w) → K' a w)) {a : Act} {w : World} (hc : C w) (h : C w → R a w) : K' a w := hK.out a w (.inr hc) (fun _ => h hc)
theorem shut_K {K' : Act → World → Prop} {X : Prop} {C : World → Prop} {R : Act → World → Prop} (hK : Shut (∀ a w, (X ∨ C w) → ((X ∨ C w) → R a w) → K' a w)) {a : Act} {w : World} (hx : X) (h : R a w) : K' a w := hK.out a w (.inl hx) (fun _ => h)
end
end Go.Proofs.Ytphckenihkgoeaa
