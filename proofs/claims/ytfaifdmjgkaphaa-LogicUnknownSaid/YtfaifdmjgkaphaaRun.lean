/- Running closed operations in the kernel: a front of a region whose operations look at no cell of the world is run at one go. -/
import Derived.WalkKit
namespace Go.Proofs.Ytfaifdmjgkaphaa

def runAll (P : Program) (ops : Array Oper) : List Oper → Act → World → Option (Act × World)
  | [], a, w => some (a, w)
  | o :: rest, a, w =>
    if Region.wanted o (yielded ops a.tmps) then
      match (execOp a.eval o).run P w with
      | .ok (.value v) w' => runAll P ops rest (a.put o.dst v) w'
      | .ok .skip w' => runAll P ops rest (a.put o.dst undef) w'
      | _ => none
    else runAll P ops rest (a.put o.dst undef) w

theorem wpList_runAll {P : Program} {ops : Array Oper} {Q : Exit → Act → World → Prop} {rest : List Oper} : ∀ (l : List Oper) {a a' : Act} {w w' : World},
    runAll P ops l a w = some (a', w') → wpList P ops Q rest a' w' → wpList P ops Q (l ++ rest) a w
  | [], a, a', w, w', h, hk => by simp [runAll] at h; obtain ⟨rfl, rfl⟩ := h; exact hk
  | o :: l, a, a', w, w', h, hk => by
    unfold runAll at h
    rw [List.cons_append]
    unfold wpList
    split at h
    · rename_i hw
      rw [if_pos hw]
      left
      unfold Oper.wp
      split at h
      · rename_i v w1 heq
        rw [heq, Oper.upon_value]
        exact wpList_runAll l h hk
      · rename_i w1 heq
        rw [heq, Oper.upon_skip]
        exact wpList_runAll l h hk
      · cases h
    · rename_i hw
      rw [if_neg hw]
      exact wpList_runAll l h hk

theorem wpList_front {P : Program} {ops : Array Oper} {Q : Exit → Act → World → Prop} {l : List Oper} (n : Nat) {a : Act} {w : World} {R : Type} (f : Act → R) (r : R)
    (h : (runAll P ops (l.take n) a w).map (fun p => (f p.1, p.2)) = some (r, w)) (hk : ∀ a', f a' = r → wpList P ops Q (l.drop n) a' w) : wpList P ops Q l a w := by
  rw [← List.take_append_drop n l]
  match hr : runAll P ops (l.take n) a w with
  | none => simp [hr] at h
  | some (a', w') =>
    simp [hr] at h
    obtain ⟨h1, rfl⟩ := h
    exact wpList_runAll _ hr (hk a' h1)

theorem setRow_alloc (w : World) (old cs : Array Value) (t : TypeId) (fr : Nat × Nat) : (w.alloc (.cells old t fr)).setRow w.heap.size cs = w.alloc (.cells cs t fr) := by
  unfold World.setRow World.alloc
  congr 1
  apply Array.ext
  · simp
  · intro i h1 h2
    simp only [Array.getElem_modify, Array.getElem_push]
    split
    · rename_i h; subst h; simp
    · rename_i h
      have h3 : i < w.heap.size := by simp [Array.size_push] at h2; omega
      simp [h3]
end Go.Proofs.Ytfaifdmjgkaphaa
