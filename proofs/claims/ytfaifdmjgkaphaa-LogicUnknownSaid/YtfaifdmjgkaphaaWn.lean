import Derived.Test.YtfaifdmjgkaphaaWm
namespace Go.Proofs.Ytfaifdmjgkaphaa
open Go.RowKit

def inn (g x : Nat) (ys ks : List Nat) : List Nat := ys.foldl (fun ks y => ins ks (pOp g x y)) ks
def outr (g : Nat) (xs ys ks : List Nat) : List Nat := xs.foldl (fun ks x => inn g x ys ks) ks
theorem inn_snoc (g x : Nat) (ys ks : List Nat) (y : Nat) : inn g x (ys ++ [y]) ks = ins (inn g x ys ks) (pOp g x y) := by simp [inn]
theorem outr_snoc (g : Nat) (xs ys ks : List Nat) (x : Nat) : outr g (xs ++ [x]) ys ks = inn g x ys (outr g xs ys ks) := by simp [outr]
theorem wB_size (c : Nat) : (wB c).size = (wL c).length := by
  show ((wL c).map UInt8.ofNat).toArray.size = _
  simp
theorem wL_len (c : Nat) : (wL c).length ≤ 2 := by unfold wL; split <;> simp
theorem wL_lt (c j : Nat) (h : j < (wL c).length) : (wL c)[j] < 256 := by
  have : ∀ x ∈ wL c, x < 256 := by
    unfold wL; split
    · rename_i h; intro x hx; simp at hx; omega
    · intro x hx; simp at hx; omega
  exact this _ (List.getElem_mem h)
theorem wL_snoc (c j : Nat) (h : j < (wL c).length) : (wL c).take (j + 1) = (wL c).take j ++ [(wL c)[j]] := by
  rw [List.take_succ_eq_append_getElem h]
theorem row_cell (c cap j : Nat) (h : j < (wL c).length) : (bytesRow (wB c) cap)[j]? = some (.int .u8 ((wL c)[j] : Nat)) := by
  have hs : j < ((wB c).data.map (fun b => Value.int .u8 b.toNat)).size := by
    rw [Array.size_map]; show j < (wB c).size; rw [wB_size]; exact h
  unfold bytesRow
  rw [Array.getElem?_append_left hs]
  have hl := wL_lt c j h
  simp [wB, h]
  omega
/-- what a loop over the ways reads -/
def YB (w : World) (B c : Nat) : Prop := ∀ j (h : j < (wL c).length), w.cell? ⟨B, j, none⟩ = some (.int .u8 ((wL c)[j] : Nat))
theorem YB.below {w w' : World} {B c N : Nat} (h : YB w B c) (hb : Below N w w') (hN : B < N) : YB w' B c := fun j hj => (hb.cell (by exact hN)).trans (h j hj)
theorem YB.mset {w : World} {B c M : Nat} (h : YB w B c) (o : Obj) (hB : B ≠ M) : YB (mset w M o) B c := fun j hj => by
  rw [← h j hj]
  unfold World.cell?
  rw [mset_far o hB]
theorem yb_new (w : World) (c cap : Nat) (fz : Nat × Nat) : YB (w.alloc (.cells (bytesRow (wB c) cap) 5 fz)) w.heap.size c := fun j hj => by
  rw [cell_of_row _ _ _ _ _ _ (heap_alloc_new _ _), row_cell c cap j hj]

/-- the block of the three gates -/
def FB (w : World) (F : Nat) : Prop := w.heap[F]? = some (.cells #[.func (.func 11) #[] #[], .func (.func 12) #[] #[], .func (.func 13) #[] #[]] 23 (0, 0))
theorem FB.c0 {w F} (h : FB w F) : w.cell? ⟨F, 0, none⟩ = some (.func (.func 11) #[] #[]) := by rw [cell_of_row w F 0 _ _ _ h]; rfl
theorem FB.c1 {w F} (h : FB w F) : w.cell? ⟨F, 1, none⟩ = some (.func (.func 12) #[] #[]) := by rw [cell_of_row w F 1 _ _ _ h]; rfl
theorem FB.c2 {w F} (h : FB w F) : w.cell? ⟨F, 2, none⟩ = some (.func (.func 13) #[] #[]) := by rw [cell_of_row w F 2 _ _ _ h]; rfl
theorem FB.lt {w F} (h : FB w F) : F < w.heap.size := (Array.getElem?_eq_some_iff.1 h).1
theorem FB.below {w w' F N} (h : FB w F) (hb : Below N w w') (hN : F < N) : FB w' F := (hb.block F hN).trans h
structure St (w00 : World) (F M X a : Nat) (ks : List Nat) (w : World) : Prop where
  fb : FB w F
  mb : MB w M ks
  yb : YB w X a
  bl : Below w00.heap.size w00 w
  lt : X < w.heap.size
  fm : F ≠ M
  xm : X ≠ M
  le : w00.heap.size ≤ M
theorem St.below {w00 F M X a ks w w'} (h : St w00 F M X a ks w) (hb : Below w.heap.size w w') : St w00 F M X a ks w' :=
  ⟨h.fb.below hb h.fb.lt, h.mb.below hb h.mb.lt, h.yb.below hb h.lt, bstep h.bl (Nat.le_refl _) hb, Nat.lt_of_lt_of_le h.lt hb.size, h.fm, h.xm, h.le⟩
theorem St.drew {w00 F M X a ks w} (h : St w00 F M X a ks w) : St w00 F M X a ks w.drew := h.below (Below.refl _ _).drew
theorem St.alloc {w00 F M X a ks w} (h : St w00 F M X a ks w) (o : Obj) : St w00 F M X a ks (w.alloc o) := h.below ((Below.refl _ _).alloc (Nat.le_refl _) _)
theorem St.upd {w00 F M X a ks w} (h : St w00 F M X a ks w) (k : Nat) : ∃ o, (Instr.mapUpdate 25 (.map (some M)) (.int .u8 (k : Int)) (.bool true)).run Try.prog w = .ok () (mset w M o) ∧ St w00 F M X a (ins ks k) (mset w M o) := by
  obtain ⟨o, h1, h2⟩ := mb_upd h.mb k
  exact ⟨o, h1, (mset_far o h.fm).trans h.fb, h2, h.yb.mset o h.xm, mset_below h.bl h.le o, by rw [mset_size]; exact h.lt, h.fm, h.xm, h.le⟩
theorem St.len {w00 F M X a ks w} (h : St w00 F M X a ks w) : (Builtin.len_ #[25] 3 #[.map (some M)]).run Try.prog w = .ok (.int .i64 (ks.length : Nat)) w := mb_len h.mb
theorem St.look {w00 F M X a ks w} (h : St w00 F M X a ks w) (k : Nat) : (Instr.lookup 25 (.map (some M)) (.int .u8 (k : Int)) false).run Try.prog w = .ok (.bool (decide (k ∈ ks))) w := mb_look h.mb k
theorem ydrew {w : World} {B c : Nat} (h : YB w B c) : YB w.drew B c := h
/-- what the law asks of the answers -/
theorem asked (g a b : Nat) (hg : g < 3) : ∃ W ks, pOp g a b = W ∧ outr g (wL a) (wL b) [] = ks ∧ (W = 48 ∨ W = 49 ∨ W = 120 ∨ W = 122) ∧ ¬ 120 ∈ ks ∧ ¬ 122 ∈ ks ∧ (((W = 48 ∨ W = 49) ∧ ks.length = 1 ∧ W ∈ ks) ∨ (W = 120 ∧ ks.length ≠ 1)) := by
  refine ⟨_, _, rfl, rfl, ?_⟩
  have hg' : g = 0 ∨ g = 1 ∨ g = 2 := by omega
  have key : ∀ g : Fin 3, ∀ i j : Fin 4, ∃ W ks, tv g i j = W ∧ outr g (if i.val = 0 then [48] else if i.val = 1 then [49] else [48, 49]) (if j.val = 0 then [48] else if j.val = 1 then [49] else [48, 49]) [] = ks ∧ (W = 48 ∨ W = 49 ∨ W = 120 ∨ W = 122) ∧ ¬ 120 ∈ ks ∧ ¬ 122 ∈ ks ∧ (((W = 48 ∨ W = 49) ∧ ks.length = 1 ∧ W ∈ ks) ∨ (W = 120 ∧ ks.length ≠ 1)) := by
    intro g i j
    refine ⟨_, _, rfl, rfl, ?_⟩
    revert g i j
    decide
  have wk : ∀ c, wL c = if kn c = 0 then [48] else if kn c = 1 then [49] else [48, 49] := by
    intro c
    unfold wL
    rcases kn_cases c with ⟨h, hk⟩ | ⟨h, hk⟩ | ⟨h, hk⟩ | ⟨h1, h2, h3, hk⟩
    · subst h; rfl
    · subst h; rfl
    · subst h; rfl
    · rw [hk, if_neg (by omega)]; rfl
  obtain ⟨W, ks, e1, e2, e3⟩ := key ⟨g, hg⟩ ⟨kn a, kn_lt a⟩ ⟨kn b, kn_lt b⟩
  have e1' : pOp g a b = W := e1
  rw [wk a, wk b, e1']
  rw [show outr g (if kn a = 0 then [48] else if kn a = 1 then [49] else [48, 49]) (if kn b = 0 then [48] else if kn b = 1 then [49] else [48, 49]) [] = ks from e2]
  exact e3
end Go.Proofs.Ytfaifdmjgkaphaa
