import Derived.Test.YtphckenihkgoeaaWf
namespace Go.Proofs.Ytphckenihkgoeaa
set_option linter.unusedSimpArgs false
set_option linter.unnecessarySimpa false
set_option linter.unusedVariables false
open Go.RowKit
attribute [local go_sem ↓] Go.wp_at_zero Go.wp_at_succ

abbrev Items := List (K × List Chg)
def keys (l : Items) : List K := l.map (·.1)
def tot (l : Items) : Int := (l.map fun p => weight p.2).sum
/-- a cache -/
structure CM where
  cap : Int
  items : Items
  hits : Int
  misses : Int
/-- what holds of its lists -/
structure Good (d : CM) : Prop where
  cap0 : 0 ≤ d.cap
  cap1 : d.cap ≤ 1073741824
  nd : (keys d.items).Nodup
  wf : ∀ k ∈ keys d.items, wfK k
  small : ∀ p ∈ d.items, p.2.length ≤ 1000 ∧ ∀ i, i < p.2.length → (p.2.getD i default).2.size ≤ 1000
  fit : tot d.items ≤ 4294967296
/-- a cache in the memory: S: what it writes; R: its lists' blocks -/
structure CkO (S R : Nat → Prop) (C : Nat) (d : CM) (w : World) (vo : Value) (M : Nat) (f : K → Option Value) : Prop where
  obj : w.heap[C]? = some (.cells #[.int .i64 d.cap, .int .i64 (tot d.items), .map (some M), vo, .int .i64 d.hits, .int .i64 d.misses] 63 (0, 0))
  sC : S C
  mp : MapF w M f
  sM : S M
  ro : w.ownsRow 0 33 3 vo d.items.length (kscells (keys d.items))
  so : ∀ g, vo.ownBlock = some g → S g
  has : ∀ p ∈ d.items, ∃ A c, f p.1 = some (.agg #[.slice A p.2.length c, .int .i64 (weight p.2)]) ∧ Chgs w R A p.2
  non : ∀ k, k ∉ keys d.items → f k = none
  dj : ∀ k, S k → ¬ R k
def Ck (S R : Nat → Prop) (C : Nat) (d : CM) (w : World) : Prop := ∃ vo M f, CkO S R C d w vo M f
section
variable {S R : Nat → Prop} {C : Nat} {d : CM} {w w' : World} {vo : Value} {M : Nat} {f : K → Option Value}
theorem CkO.frame (h : CkO S R C d w vo M f) (hf : ∀ k, S k ∨ R k → k < w.heap.size → w'.heap[k]? = w.heap[k]?) : CkO S R C d w' vo M f :=
  ⟨(hf C (.inl h.sC) (Array.getElem?_eq_some_iff.1 h.obj).1).trans h.obj, h.sC, h.mp.of_heap (hf M (.inl h.sM) h.mp.lt), h.sM, row_of h.ro fun g hg => hf g (.inl (h.so g hg)) (h.ro.lt g hg).2, h.so,
    fun p hp => by
      obtain ⟨A, c, h1, h2⟩ := h.has p hp
      exact ⟨A, c, h1, h2.frame fun k hk => hf k (.inr hk)⟩, h.non, h.dj⟩
theorem Ck.frame (h : Ck S R C d w) (hf : ∀ k, S k ∨ R k → k < w.heap.size → w'.heap[k]? = w.heap[k]?) : Ck S R C d w' := by
  obtain ⟨vo, M, f, h⟩ := h
  exact ⟨vo, M, f, h.frame hf⟩
theorem CkO.c0 (h : CkO S R C d w vo M f) : w.cell? ⟨C, 0, none⟩ = some (.int .i64 d.cap) := by rw [cell_of_row w C 0 _ _ _ h.obj]; rfl
theorem CkO.c1 (h : CkO S R C d w vo M f) : w.cell? ⟨C, 1, none⟩ = some (.int .i64 (tot d.items)) := by rw [cell_of_row w C 1 _ _ _ h.obj]; rfl
theorem CkO.c2 (h : CkO S R C d w vo M f) : w.cell? ⟨C, 2, none⟩ = some (.map (some M)) := by rw [cell_of_row w C 2 _ _ _ h.obj]; rfl
theorem CkO.c3 (h : CkO S R C d w vo M f) : w.cell? ⟨C, 3, none⟩ = some vo := by rw [cell_of_row w C 3 _ _ _ h.obj]; rfl
theorem CkO.c4 (h : CkO S R C d w vo M f) : w.cell? ⟨C, 4, none⟩ = some (.int .i64 d.hits) := by rw [cell_of_row w C 4 _ _ _ h.obj]; rfl
theorem CkO.c5 (h : CkO S R C d w vo M f) : w.cell? ⟨C, 5, none⟩ = some (.int .i64 d.misses) := by rw [cell_of_row w C 5 _ _ _ h.obj]; rfl
theorem CkO.fr (h : CkO S R C d w vo M f) (i : Nat) : w.frozen? ⟨C, i, none⟩ = false := by
  simp [World.frozen?, h.obj]
theorem CkO.lt (h : CkO S R C d w vo M f) : C < w.heap.size := (Array.getElem?_eq_some_iff.1 h.obj).1
/-- Total, Hits -/
theorem total_walk (h : CkO S R C d w vo M f) : Calls Try.prog 21 #[.pointer (some ⟨C, 0, none⟩)] w fun e w' => e = .returned (.int .i64 (tot d.items)) ∧ w = w' := by
  have c1 := h.c1
  clear h
  go_enter Try.func21, Try.ntmps21
  go_wp2_with fail
  go_ret
  exact ⟨rfl, rfl⟩
theorem keys_walk (h : CkO S R C d w vo M f) (hl : d.items.length ≤ 1000000) : Calls Try.prog 22 #[.pointer (some ⟨C, 0, none⟩)] w fun e w' => ∃ A c, e = .returned (.slice A d.items.length c) ∧ Flat w' (fun k => w.heap.size ≤ k ∧ k < w'.heap.size) A (kscells (keys d.items)) ∧ Below w.heap.size w w' := by
  obtain ⟨A, c, rfl⟩ := row_sl h.ro
  have c3 := h.c3
  have el : (keys d.items).length = d.items.length := by simp [keys]
  have HC := Lib.hid (cloneK w _ A c (keys d.items) (row_flat h.ro) (by omega))
  rw [el] at HC
  clear h el
  go_enter Try.func22, Try.ntmps22
  go_wp2_with fail
  refine (HC.out).mono ?_
  rintro e w' ⟨A', c', rfl, hf, hb⟩
  go_wp2_with fail
  go_ret
  exact ⟨A', c', rfl, hf, hb⟩
theorem hits_walk (h : CkO S R C d w vo M f) : Calls Try.prog 28 #[.pointer (some ⟨C, 0, none⟩)] w fun e w' => e = .returned (.tuple #[.int .i64 d.hits, .int .i64 d.misses]) ∧ Below w.heap.size w w' := by
  have c4 := h.c4
  have c5 := h.c5
  clear h
  go_enter Try.func28, Try.ntmps28
  go_wp2_with fail
  try go_quiet (fail)
  go_wp2_with fail
  exact bodyPost_ret (v := .tuple #[.int .i64 d.hits, .int .i64 d.misses]) (by simp [results, Try.results28, go_sem]) rfl ⟨rfl, below_drewN (Below.refl _ _) _⟩
end
/-- New -/
theorem new_bad (w : World) (n : Int) (hn : n < 0 ∨ 1073741824 < n) : Calls Try.prog 13 #[.int .i64 n] w fun e w' => e = .returned (.tuple #[.pointer none, .int .i64 1]) ∧ w = w' := by
  by_cases h : n < 0
  · go_enter Try.func13, Try.ntmps13
    go_wp2_with fail
    exact bodyPost_ret (v := .tuple #[.pointer none, .int .i64 1]) (by simp [results, Try.results13, go_sem]) rfl ⟨rfl, rfl⟩
  · have h2 : 1073741824 < n := by omega
    go_enter Try.func13, Try.ntmps13
    go_wp2_with fail
    exact bodyPost_ret (v := .tuple #[.pointer none, .int .i64 1]) (by simp [results, Try.results13, go_sem]) rfl ⟨rfl, rfl⟩
theorem new_walk (w : World) (n : Int) (h0 : 0 ≤ n) (h1 : n ≤ 1073741824) : Calls Try.prog 13 #[.int .i64 n] w fun e w' => ∃ C, e = .returned (.tuple #[.pointer (some ⟨C, 0, none⟩), .int .i64 0]) ∧ Below w.heap.size w w' ∧ Ck (fun k => w.heap.size ≤ k ∧ k < w'.heap.size) (fun _ => False) C ⟨n, [], 0, 0⟩ w' := by
  have h2 : ¬ n < 0 := by omega
  have h3 : ¬ 1073741824 < n := by omega
  have hmk : (Instr.makeMap 61 none).run Try.prog w = .ok (.map (some w.heap.size)) (w.alloc (.map #[] 0)) := by simp [Instr.makeMap, Result.andThen]
  go_enter Try.func13, Try.ntmps13
  go_wp2_with fail
  refine bodyPost_ret (v := .tuple #[.pointer (some ⟨w.heap.size + 1, 0, none⟩), .int .i64 0]) (by simp [results, Try.results13, go_sem]) rfl ⟨w.heap.size + 1, rfl, ((Below.refl _ _).alloc (Nat.le_refl _) _).alloc (by simp) _, .slice none 0 0, w.heap.size, fun _ => none, ?_⟩
  have hs : (w.alloc (.map #[] 0)).heap.size = w.heap.size + 1 := by simp
  refine ⟨?_, ⟨by omega, by simp⟩, (mapF_new w).of_heap (Below.heap_alloc _ _ _ (by simp)), ⟨Nat.le_refl _, by simp; omega⟩, ⟨rfl, .inl ⟨rfl, rfl⟩⟩, fun g hg => (by cases hg), fun p hp => (by cases hp), fun _ _ => rfl, fun _ _ h => h⟩
  have := heap_alloc_new (w.alloc (.map #[] 0)) (.cells #[.int .i64 n, .int .i64 0, .map (some w.heap.size), .slice none 0 0, .int .i64 0, .int .i64 0] 63)
  rw [hs] at this
  exact this
end Go.Proofs.Ytphckenihkgoeaa
