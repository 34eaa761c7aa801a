import Derived.Test.YtphckenihkgoeaaWc
import Derived.Lib.SliceRun
namespace Go.Proofs.Ytphckenihkgoeaa
set_option linter.unusedSimpArgs false
set_option linter.unnecessarySimpa false
set_option linter.unusedVariables false
open Go.RowKit
attribute [local go_sem ↓] Go.wp_at_zero Go.wp_at_succ

theorem bs22 (W : World) : (Instr.buildSlice 22 0 #[]).run Try.prog W = .ok (.slice (some ⟨W.heap.size, 0, none⟩) 0 0) (W.alloc (.cells #[] 35)) := by
  have e : Array.map (fun _ : Nat => (default : Value)) (Array.range 0) = #[] := by simp
  simp [Instr.buildSlice, e, Instr.fill, go_sem]
theorem bs55 (W : World) : (Instr.buildSlice 55 0 #[]).run Try.prog W = .ok (.slice (some ⟨W.heap.size, 0, none⟩) 0 0) (W.alloc (.cells #[] 33)) := by
  have e : Array.map (fun _ : Nat => (default : Value)) (Array.range 0) = #[] := by simp
  simp [Instr.buildSlice, e, Instr.fill, go_sem]
attribute [local go_sem ↓] bs22 bs55
/-- cells behind an address -/
def Flat (w : World) (T : Nat → Prop) (A : Option Addr) (xs : List Value) : Prop := ∀ j u, xs[j]? = some u → ∃ a, A = some a ∧ T a.block ∧ w.cell? (a.add j) = some u
theorem Flat.frame {w w' : World} {T : Nat → Prop} {A : Option Addr} {l : List Value} (h : Flat w T A l) (hf : ∀ k, T k → k < w.heap.size → w'.heap[k]? = w.heap[k]?) : Flat w' T A l := fun j u hj => by
  obtain ⟨a, h1, h2, h3⟩ := h j u hj
  have hl := World.block_lt_of_cell? w _ h3
  rw [add_block] at hl
  exact ⟨a, h1, h2, (World.cell?_of_block (by rw [add_block]; exact hf _ h2 hl)).trans h3⟩
theorem Flat.mono {w : World} {T T' : Nat → Prop} {A : Option Addr} {l : List Value} (h : Flat w T A l) (hT : ∀ k, T k → T' k) : Flat w T' A l := fun j u hj => by
  obtain ⟨a, h1, h2, h3⟩ := h j u hj
  exact ⟨a, h1, hT _ h2, h3⟩
/-- the cells of changes, and of keys -/
def ccells : List Chg → List Value
  | [] => []
  | x :: l => .int .i64 x.1 :: .string x.2 :: ccells l
def kscells : List K → List Value
  | [] => []
  | x :: l => .int .i64 x.1 :: .int .i64 x.2.1 :: .int .i64 x.2.2 :: kscells l
theorem ccells_length : ∀ l : List Chg, (ccells l).length = l.length * 2
  | [] => rfl
  | x :: l => by simp [ccells, ccells_length l]; omega
theorem kscells_length : ∀ l : List K, (kscells l).length = l.length * 3
  | [] => rfl
  | x :: l => by simp [kscells, kscells_length l]; omega
theorem ccells_get : ∀ (l : List Chg) (i : Nat) (x : Chg), l[i]? = some x → (ccells l)[i * 2]? = some (.int .i64 x.1) ∧ (ccells l)[i * 2 + 1]? = some (.string x.2)
  | [], _, _, h => by simp at h
  | y :: l, 0, x, h => by simp at h; subst h; exact ⟨rfl, rfl⟩
  | y :: l, i + 1, x, h => by
    have := ccells_get l i x (by simpa using h)
    rw [show (i + 1) * 2 = i * 2 + 1 + 1 by omega]
    exact this
theorem ccells_inv : ∀ (l : List Chg) (j : Nat) (u : Value), (ccells l)[j]? = some u → ∃ i x, l[i]? = some x ∧ ((j = i * 2 ∧ u = .int .i64 x.1) ∨ (j = i * 2 + 1 ∧ u = .string x.2))
  | [], _, _, h => by simp [ccells] at h
  | y :: l, 0, u, h => ⟨0, y, rfl, .inl ⟨rfl, by simpa [ccells] using h.symm⟩⟩
  | y :: l, 1, u, h => ⟨0, y, rfl, .inr ⟨rfl, by simpa [ccells] using h.symm⟩⟩
  | y :: l, j + 2, u, h => by
    obtain ⟨i, x, h1, h2⟩ := ccells_inv l j u (by simpa [ccells] using h)
    exact ⟨i + 1, x, by simpa using h1, h2.imp (fun h => ⟨by omega, h.2⟩) fun h => ⟨by omega, h.2⟩⟩
theorem kscells_get : ∀ (l : List K) (i : Nat) (x : K), l[i]? = some x → (kscells l)[i * 3]? = some (.int .i64 x.1) ∧ (kscells l)[i * 3 + 1]? = some (.int .i64 x.2.1) ∧ (kscells l)[i * 3 + 2]? = some (.int .i64 x.2.2)
  | [], _, _, h => by simp at h
  | y :: l, 0, x, h => by simp at h; subst h; exact ⟨rfl, rfl, rfl⟩
  | y :: l, i + 1, x, h => by
    have := kscells_get l i x (by simpa using h)
    rw [show (i + 1) * 3 = i * 3 + 1 + 1 + 1 by omega]
    exact this
theorem get_default {α : Type} [Inhabited α] {l : List α} {i : Nat} (hi : i < l.length) : l[i]? = some (l.getD i default) := by
  rw [List.getD_eq_getElem?_getD, List.getElem?_eq_getElem hi]; rfl
theorem add_succ (a : Addr) (i j : Nat) (hj : 0 < j) : (⟨(a.add i).block, (a.add i).off + j, none⟩ : Addr) = a.add (i + j) := by
  unfold Addr.add
  split
  · rename_i h; subst h
    rw [if_neg (by omega)]; simp
  · rw [if_neg (by omega)]; simp; omega
theorem Chgs.flat {w : World} {T : Nat → Prop} {A : Option Addr} {l : List Chg} (h : Chgs w T A l) : Flat w T A (ccells l) := fun j u hj => by
  obtain ⟨i, x, h1, h2⟩ := ccells_inv l j u hj
  have hi := (List.getElem?_eq_some_iff.1 h1).1
  obtain ⟨a, rfl, h3⟩ := h i hi
  have e := get_default hi
  rw [h1] at e; injection e with e; rw [← e] at h3
  refine ⟨a, rfl, h3.bl, ?_⟩
  rcases h2 with ⟨rfl, rfl⟩ | ⟨rfl, rfl⟩
  · exact h3.c0
  · have := h3.c1; rw [add_succ a _ 1 (by decide)] at this; exact this
theorem Flat.chgs {w : World} {T : Nat → Prop} {A : Option Addr} {l : List Chg} (h : Flat w T A (ccells l)) : Chgs w T A l := fun i hi => by
  obtain ⟨h1, h2⟩ := ccells_get l i _ (get_default hi)
  obtain ⟨a, rfl, h3, h4⟩ := h _ _ h1
  obtain ⟨a', e, h5, h6⟩ := h _ _ h2
  cases e
  exact ⟨a, rfl, h3, h4, by rw [add_succ a _ 1 (by decide)]; exact h6⟩
theorem row_flat {w : World} {B : Nat} {e : TypeId} {size : Nat} {A : Option Addr} {n c : Nat} {xs : List Value} (h : w.ownsRow B e size (.slice A n c) n xs) : Flat w (fun k => B ≤ k ∧ k < w.heap.size) A xs := fun j u hj => by
  rcases h.2 with ⟨h1, h2⟩ | ⟨g, cap, cur, h1, h0, hg, hc, _, _, ht⟩
  · have h3 := h.1
    have hn := (List.getElem?_eq_some_iff.1 hj).1
    have h4 : n = 0 := by injection h1
    rw [h3, h4] at hn
    omega
  · injection h1 with h1 h2; subst h1
    refine ⟨_, rfl, ⟨h0, (Array.getElem?_eq_some_iff.1 hg).1⟩, ?_⟩
    rw [Addr.add_lit, cell_of_row w g _ _ _ _ hg]
    rw [← ht, List.getElem?_take] at hj
    split at hj
    · simpa using hj
    · cases hj
theorem flat_nil (w : World) (T : Nat → Prop) (A : Option Addr) : Flat w T A [] := fun j u hj => by simp at hj
theorem row_sl {w : World} {B : Nat} {e : TypeId} {size : Nat} {v : Value} {n : Nat} {xs : List Value} (h : w.ownsRow B e size v n xs) : ∃ a c, v = .slice a n c := by
  rcases h.2 with ⟨rfl, rfl⟩ | ⟨g, cap, cur, rfl, _⟩
  · exact ⟨_, _, rfl⟩
  · exact ⟨_, _, rfl⟩
theorem one_cc : ∀ l : List Chg, ∀ u ∈ ccells l, u.oneCell' = true
  | [], _, h => by simp [ccells] at h
  | x :: l, u, h => by
    simp only [ccells, List.mem_cons] at h
    rcases h with rfl | rfl | h
    · rfl
    · rfl
    · exact one_cc l u h
theorem one_kc : ∀ l : List K, ∀ u ∈ kscells l, u.oneCell' = true
  | [], _, h => by simp [kscells] at h
  | x :: l, u, h => by
    simp only [kscells, List.mem_cons] at h
    rcases h with rfl | rfl | rfl | h
    · rfl
    · rfl
    · rfl
    · exact one_kc l u h
theorem q22 (w : World) (a : Option Addr) (n c n' c' : Nat) : (binOp .eql 22 (.slice a n c) (.slice none n' c')).run Try.prog w = .ok (.bool a.isNone) w := Lib.run_eql_slice_nil w _ _ a n c n' c' Try.underlying22
theorem q55 (w : World) (a : Option Addr) (n c n' c' : Nat) : (binOp .eql 55 (.slice a n c) (.slice none n' c')).run Try.prog w = .ok (.bool a.isNone) w := Lib.run_eql_slice_nil w _ _ a n c n' c' Try.underlying55
/-- rows of keys -/
def Keys (w : World) (T : Nat → Prop) (A : Option Addr) (l : List K) : Prop := Flat w T A (kscells l)
/-- the cells behind an address are written freely -/
def Nice (w : World) (e : TypeId) (A : Option Addr) : Prop := ∀ a, A = some a → ∃ g cur, a = ⟨g, 0, none⟩ ∧ w.heap[g]? = some (.cells cur e (0, 0))
theorem cloneCn (w : World) (T : Nat → Prop) (A : Option Addr) (c : Nat) (l : (List Chg)) (h : Flat w T A (ccells l)) (hn : l.length ≤ 1000000) : Calls Try.prog 25 #[.slice A l.length c] w fun e w' => ∃ A' c', e = .returned (.slice A' l.length c') ∧ Flat w' (fun k => w.heap.size ≤ k ∧ k < w'.heap.size) A' (ccells l) ∧ Below w.heap.size w w' ∧ Nice w' 35 A' := by
  cases A with
  | none =>
    have hl : l = [] := by
      cases l with
      | nil => rfl
      | cons x l => obtain ⟨a, h1, _⟩ := h 0 _ rfl; cases h1
    subst hl
    have q := q22
    go_enter Try.func25, Try.ntmps25
    go_wp2_with fail
    go_ret
    exact ⟨none, 0, rfl, flat_nil _ _ _, Below.refl _ _, fun _ h => by cases h⟩
  | some a =>
    have HF := Lib.hid h
    obtain ⟨i0, hi, hz0, hz1, hz2⟩ : ∃ i0, Try.prog.info? 35 = some i0 ∧ i0.zero = some (.agg #[.int .i64 0, .string ⟨#[]⟩]) ∧ i0.size = 2 ∧ i0.bytes = 24 := ⟨_, rfl, rfl, rfl, rfl⟩
    have HI := Lib.hid hi
    clear h hi
    have q := q22
    go_enter Try.func25, Try.ntmps25
    go_wp2_with (at_builtin; refine wpList_append_own _ rfl _ _ 22 rfl w.heap.size 35 i0 (.agg #[.int .i64 0, .string ⟨#[]⟩]) 2 24 Try.underlying22 HI.out hz0 hz1 hz2 rfl (by decide) _ _ _ rfl (World.ownsRow_made w #[] 0 (Nat.le_refl _) (Nat.zero_le _) rfl) a l.length c (ccells l) rfl ?qc1 ?qc2 ?qc3 ?qc4 ?qc5 ?qc6 ?_)
    case qc1 => exact ccells_length l
    case qc2 =>
      intro j u hj
      obtain ⟨a', e, _, h3⟩ := HF.out j u hj
      cases e
      exact Lib.cell?_alloc_some _ h3
    case qc3 => exact one_cc l
    case qc4 => unfold maxLen; omega
    case qc5 => omega
    case qc6 => simp
    intro v' w1 hown hgrow hnil
    obtain ⟨A', c', rfl⟩ := row_sl hown
    go_wp2_with fail
    go_ret
    refine ⟨A', c', rfl, row_flat hown, ?_, ?_⟩
    · exact ((Below.refl _ w).alloc (Nat.le_refl _) _).grown hgrow (by simp) (by intro k hk; simp [Value.ownBlock] at hk; omega)
    · rintro a' rfl
      rcases hown.2 with ⟨e, _⟩ | ⟨g, cap, cur, e, _, hg, _⟩
      · cases e
      · injection e with e; injection e with e
        exact ⟨g, cur, e, hg⟩
theorem cloneC (w : World) (T : Nat → Prop) (A : Option Addr) (c : Nat) (l : (List Chg)) (h : Flat w T A (ccells l)) (hn : l.length ≤ 1000000) : Calls Try.prog 25 #[.slice A l.length c] w fun e w' => ∃ A' c', e = .returned (.slice A' l.length c') ∧ Flat w' (fun k => w.heap.size ≤ k ∧ k < w'.heap.size) A' (ccells l) ∧ Below w.heap.size w w' :=
  (cloneCn w T A c l h hn).mono fun e w' ⟨A', c', h1, h2, h3, _⟩ => ⟨A', c', h1, h2, h3⟩
theorem cloneKn (w : World) (T : Nat → Prop) (A : Option Addr) (c : Nat) (l : (List K)) (h : Flat w T A (kscells l)) (hn : l.length ≤ 1000000) : Calls Try.prog 30 #[.slice A l.length c] w fun e w' => ∃ A' c', e = .returned (.slice A' l.length c') ∧ Flat w' (fun k => w.heap.size ≤ k ∧ k < w'.heap.size) A' (kscells l) ∧ Below w.heap.size w w' ∧ Nice w' 33 A' := by
  cases A with
  | none =>
    have hl : l = [] := by
      cases l with
      | nil => rfl
      | cons x l => obtain ⟨a, h1, _⟩ := h 0 _ rfl; cases h1
    subst hl
    have q := q55
    go_enter Try.func30, Try.ntmps30
    go_wp2_with fail
    go_ret
    exact ⟨none, 0, rfl, flat_nil _ _ _, Below.refl _ _, fun _ h => by cases h⟩
  | some a =>
    have HF := Lib.hid h
    obtain ⟨i0, hi, hz0, hz1, hz2⟩ : ∃ i0, Try.prog.info? 33 = some i0 ∧ i0.zero = some (.agg #[.int .i64 0, .int .i64 0, .int .i64 0]) ∧ i0.size = 3 ∧ i0.bytes = 24 := ⟨_, rfl, rfl, rfl, rfl⟩
    have HI := Lib.hid hi
    clear h hi
    have q := q55
    go_enter Try.func30, Try.ntmps30
    go_wp2_with (at_builtin; refine wpList_append_own _ rfl _ _ 55 rfl w.heap.size 33 i0 (.agg #[.int .i64 0, .int .i64 0, .int .i64 0]) 3 24 Try.underlying55 HI.out hz0 hz1 hz2 rfl (by decide) _ _ _ rfl (World.ownsRow_made w #[] 0 (Nat.le_refl _) (Nat.zero_le _) rfl) a l.length c (kscells l) rfl ?qc1 ?qc2 ?qc3 ?qc4 ?qc5 ?qc6 ?_)
    case qc1 => exact kscells_length l
    case qc2 =>
      intro j u hj
      obtain ⟨a', e, _, h3⟩ := HF.out j u hj
      cases e
      exact Lib.cell?_alloc_some _ h3
    case qc3 => exact one_kc l
    case qc4 => unfold maxLen; omega
    case qc5 => omega
    case qc6 => simp
    intro v' w1 hown hgrow hnil
    obtain ⟨A', c', rfl⟩ := row_sl hown
    go_wp2_with fail
    go_ret
    refine ⟨A', c', rfl, row_flat hown, ?_, ?_⟩
    · exact ((Below.refl _ w).alloc (Nat.le_refl _) _).grown hgrow (by simp) (by intro k hk; simp [Value.ownBlock] at hk; omega)
    · rintro a' rfl
      rcases hown.2 with ⟨e, _⟩ | ⟨g, cap, cur, e, _, hg, _⟩
      · cases e
      · injection e with e; injection e with e
        exact ⟨g, cur, e, hg⟩
theorem cloneK (w : World) (T : Nat → Prop) (A : Option Addr) (c : Nat) (l : (List K)) (h : Flat w T A (kscells l)) (hn : l.length ≤ 1000000) : Calls Try.prog 30 #[.slice A l.length c] w fun e w' => ∃ A' c', e = .returned (.slice A' l.length c') ∧ Flat w' (fun k => w.heap.size ≤ k ∧ k < w'.heap.size) A' (kscells l) ∧ Below w.heap.size w w' :=
  (cloneKn w T A c l h hn).mono fun e w' ⟨A', c', h1, h2, h3, _⟩ => ⟨A', c', h1, h2, h3⟩
theorem cloneC_walk (w : World) (T : Nat → Prop) (A : Option Addr) (c : Nat) (l : List Chg) (h : Chgs w T A l) (hn : l.length ≤ 1000000) : Calls Try.prog 25 #[.slice A l.length c] w fun e w' => ∃ A' c', e = .returned (.slice A' l.length c') ∧ Chgs w' (fun k => w.heap.size ≤ k ∧ k < w'.heap.size) A' l ∧ Below w.heap.size w w' ∧ Nice w' 35 A' := by
  refine (cloneCn w T A c l h.flat hn).mono ?_
  rintro e w' ⟨A', c', rfl, hf, hb, hni⟩
  exact ⟨A', c', rfl, hf.chgs, hb, hni⟩
end Go.Proofs.Ytphckenihkgoeaa
