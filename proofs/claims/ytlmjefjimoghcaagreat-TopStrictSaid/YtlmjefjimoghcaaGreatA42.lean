/- A part of the proofs of TopCounter and TopStrict: what the functions of the program do, each walked once, and plain laws about it. No condition. -/
import Derived.Test.YtlmjefjimoghcaaGreatA41
namespace Go.Proofs.YtlmjefjimoghcaaGreat
set_option linter.unusedSimpArgs false
set_option linter.unnecessarySimpa false
set_option linter.unusedVariables false
open Go.RowKit
attribute [local go_sem ↓] Go.wp_at_zero Go.wp_at_succ
structure Stp where
 cost : Nat
 pcs : Nat
 len : Nat
 dst : Nat
 byt : Nat
instance : Inhabited Stp := ⟨⟨0, 0, 0, 0, 0⟩⟩
def stc (x : Stp) : List Value := [.int .i64 (x.cost : Int), .int .i64 (x.pcs : Int), .int .i64 (x.len : Int), .int .i64 (x.dst : Int), .int .u8 (x.byt : Int)]
def spc (l : List Stp) : List Value := l.flatMap stc
theorem spc_append (a b : List Stp) : spc (a ++ b) = spc a ++ spc b := by simp [spc]
theorem spc_length (l : List Stp) : (spc l).length = l.length * 5 := by
 induction l with
 | nil => rfl
 | cons x l ih => show (stc x ++ spc l).length = _; rw [List.length_append, ih]; show 5 + _ = (_ + 1) * 5; omega
theorem stp_split {l : List Stp} {k : Nat} (h : k < l.length) : l = l.take k ++ (l.getD k default :: l.drop (k + 1)) := by
 have e1 : l.getD k default :: l.drop (k + 1) = l.drop k := by rw [List.drop_eq_getElem_cons h]; simp [List.getD, h]
 rw [e1, List.take_append_drop]
theorem spc_split {l : List Stp} {k : Nat} (h : k < l.length) : spc l = spc (l.take k) ++ (stc (l.getD k default) ++ spc (l.drop (k + 1))) := by
 have := congrArg spc (stp_split h)
 rw [spc_append] at this
 exact this
theorem spc_get {l : List Stp} {k : Nat} (h : k < l.length) (j : Nat) (hj : j < 5) : (spc l)[k * 5 + j]? = (stc (l.getD k default))[j]? := by
 have hl : (spc (l.take k)).length = k * 5 := by rw [spc_length, List.length_take]; congr 1; omega
 rw [spc_split h, List.getElem?_append_right (by omega), hl, show k * 5 + j - k * 5 = j by omega, List.getElem?_append_left (by show j < 5; exact hj)]
def SpRow (w : World) (G : Nat) (l : List Stp) : Prop := w.heap[G]? = some (.cells (spc l).toArray 187 (0, 0))
theorem SpRow.to {w : World} {G : Nat} {l : List Stp} (h : SpRow w G l) : w.heap[G]? = some (.cells (spc l).toArray 187 (0, 0)) := h
theorem SpRow.cell {w : World} {G : Nat} {l : List Stp} (h : SpRow w G l) {k : Nat} (hk : k < l.length) (j : Nat) (hj : j < 5) : w.cell? ⟨G, k * 5 + j, none⟩ = (stc (l.getD k default))[j]? := by
 rw [cell_of_row w G _ _ _ _ h, ← spc_get hk j hj]
 exact List.getElem?_toArray
theorem SpRow.fr {w : World} {G : Nat} {l : List Stp} (h : SpRow w G l) (i : Nat) : w.frozen? ⟨G, i, none⟩ = false := by simp [World.frozen?, h.to]
theorem SpRow.mono {w w' : World} {G : Nat} {l : List Stp} (h : SpRow w G l) (hb : Below w.heap.size w w') : SpRow w' G l := (hb.block G (Array.getElem?_eq_some_iff.1 h.to).1).trans h.to
/-- a piece is tried at i -/
def tryF (i l d b : Nat) (st : Bool × List Stp) : Bool × List Stp :=
 let nx := st.2.getD (i + l) default
 let cu := st.2.getD i default
 if st.1 = false ∨ nx.cost + priceF l d < cu.cost ∨ (nx.cost + priceF l d = cu.cost ∧ nx.pcs + 1 < cu.pcs) then (true, st.2.set i ⟨nx.cost + priceF l d, nx.pcs + 1, l, d, b⟩) else st
/-- the variables of Parse that try sees -/
structure PaO (w : World) (T I C S G : Nat) (i : Nat) (st : Bool × List Stp) : Prop where
 ct : w.heap[T]? = some (.cells #[.slice (some ⟨G, 0, none⟩) st.2.length st.2.length] 185 (0, 0))
 ci : w.heap[I]? = some (.cells #[.int .i64 (i : Int)] 3 (0, 0))
 cc : w.heap[C]? = some (.cells #[.int .i64 9, .int .i64 12, .int .i64 1, .int .i64 1] 152 (0, 0))
 cs : w.heap[S]? = some (.cells #[.bool st.1] 4 (0, 0))
 row : SpRow w G st.2
theorem PaO.mono {w w' : World} {T I C S G i : Nat} {st : Bool × List Stp} (h : PaO w T I C S G i st) (hb : Below w.heap.size w w') : PaO w' T I C S G i st := by
 have k : ∀ g o, w.heap[g]? = some o → w'.heap[g]? = some o := fun g o h => (hb.block g (Array.getElem?_eq_some_iff.1 h).1).trans h
 exact ⟨k _ _ h.ct, k _ _ h.ci, k _ _ h.cc, k _ _ h.cs, h.row.mono hb⟩
def C13 (w : World) (C p q : Nat) (l d b nc np : Nat) : Prop := w.cell? ⟨C, 0, none⟩ = some (.int .i64 9) ∧ w.cell? ⟨C, 1, none⟩ = some (.int .i64 12) ∧ w.cell? ⟨C, 2, none⟩ = some (.int .i64 1) ∧ w.cell? ⟨C, 3, none⟩ = some (.int .i64 1) ∧ w.cell? ⟨p, 0, none⟩ = some (.int .i64 (l : Int)) ∧ w.cell? ⟨p, 1, none⟩ = some (.int .i64 (d : Int)) ∧ w.cell? ⟨p, 2, none⟩ = some (.int .u8 (b : Int)) ∧ w.cell? ⟨q, 0, none⟩ = some (.int .i64 (nc : Int)) ∧ w.cell? ⟨q, 1, none⟩ = some (.int .i64 (np : Int))
theorem C13.of {w : World} {C p q l d b nc np : Nat} {nl nd nb : Int} (hc : w.heap[C]? = some (.cells #[.int .i64 9, .int .i64 12, .int .i64 1, .int .i64 1] 152 (0, 0))) (hp : w.heap[p]? = some (.cells #[.int .i64 (l : Int), .int .i64 (d : Int), .int .u8 (b : Int)] 97 (0, 0))) (hq : w.heap[q]? = some (.cells #[.int .i64 (nc : Int), .int .i64 (np : Int), .int .i64 nl, .int .i64 nd, .int .u8 nb] 187 (0, 0))) : C13 w C p q l d b nc np := by
 refine ⟨?_, ?_, ?_, ?_, ?_, ?_, ?_, ?_, ?_⟩
 ·rw [cell_of_row w _ 0 _ _ _ hc]; rfl
 ·rw [cell_of_row w _ 1 _ _ _ hc]; rfl
 ·rw [cell_of_row w _ 2 _ _ _ hc]; rfl
 ·rw [cell_of_row w _ 3 _ _ _ hc]; rfl
 ·rw [cell_of_row w _ 0 _ _ _ hp]; rfl
 ·rw [cell_of_row w _ 1 _ _ _ hp]; rfl
 ·rw [cell_of_row w _ 2 _ _ _ hp]; rfl
 ·rw [cell_of_row w _ 0 _ _ _ hq]; rfl
 ·rw [cell_of_row w _ 1 _ _ _ hq]; rfl
def CutT (W1 : World) (nc np pr l d b : Nat) (v : Value) (wx : World) : Prop := ∃ t : Nat, v = .pointer (some ⟨t, 0, none⟩) ∧ wx.heap[t]? = some (.cells #[.int .i64 ((nc : Int) + (pr : Int)), .int .i64 ((np : Int) + 1), .int .i64 (l : Int), .int .i64 (d : Int), .int .u8 (b : Int)] 187 (0, 0)) ∧ Below W1.heap.size W1 wx
theorem drew_block {w : World} {g : Nat} {o : Obj} (h : w.heap[g]? = some o) (n : Nat) : (w.drewN n).heap[g]? = some o := h
theorem SpRow.five {w : World} {G : Nat} {l : List Stp} (h : SpRow w G l) {k : Nat} (hk : k < l.length) : w.cell? ⟨G, k * 5, none⟩ = some (.int .i64 ((l.getD k default).cost : Int)) ∧ w.cell? ⟨G, k * 5 + 1, none⟩ = some (.int .i64 ((l.getD k default).pcs : Int)) ∧ w.cell? ⟨G, k * 5 + 2, none⟩ = some (.int .i64 ((l.getD k default).len : Int)) ∧ w.cell? ⟨G, k * 5 + 3, none⟩ = some (.int .i64 ((l.getD k default).dst : Int)) ∧ w.cell? ⟨G, k * 5 + 4, none⟩ = some (.int .u8 ((l.getD k default).byt : Int)) :=
 ⟨h.cell hk 0 (by decide), h.cell hk 1 (by decide), h.cell hk 2 (by decide), h.cell hk 3 (by decide), h.cell hk 4 (by decide)⟩
theorem PaO.ktl {w : World} {T I C S G i N : Nat} {seen : Bool} {best : List Stp} (h : PaO w T I C S G i (seen, best)) (hN : best.length = N) : w.cell? ⟨T, 0, none⟩ = some (.slice (some ⟨G, 0, none⟩) N N) := by
 have := (one_cell h.ct).1
 rw [this]; simp only [hN]
theorem fr_of {w : World} {g : Nat} {a : Array Value} {t : TypeId} (h : w.heap[g]? = some (.cells a t (0, 0))) : ∀ j, w.frozen? ⟨g, j, none⟩ = false := fun j => by simp [World.frozen?, h]
theorem five_set {w : World} {g : Nat} {a b c d e : Value} {t : TypeId} (h : w.heap[g]? = some (.cells #[a, b, c, d, e] t (0, 0))) (a' b' c' d' e' : Value) : (((((w.setCell ⟨g, 0, none⟩ a').setCell ⟨g, 1, none⟩ b').setCell ⟨g, 2, none⟩ c').setCell ⟨g, 3, none⟩ d').setCell ⟨g, 4, none⟩ e').heap[g]? = some (.cells #[a', b', c', d', e'] t (0, 0)) :=
 heap_setCell_any _ g 4 _ _ _ _ (heap_setCell_any _ g 3 _ _ _ _ (heap_setCell_any _ g 2 _ _ _ _ (heap_setCell_any _ g 1 _ _ _ _ (heap_setCell_any w g 0 _ _ _ _ h))))
theorem spc_set {l : List Stp} {k : Nat} (h : k < l.length) (x : Stp) : (((((spc l).set (k * 5) (.int .i64 (x.cost : Int))).set (k * 5 + 1) (.int .i64 (x.pcs : Int))).set (k * 5 + 2) (.int .i64 (x.len : Int))).set (k * 5 + 3) (.int .i64 (x.dst : Int))).set (k * 5 + 4) (.int .u8 (x.byt : Int)) = spc (l.set k x) := by
 have hl : (spc (l.take k)).length = k * 5 := by rw [spc_length, List.length_take]; congr 1; omega
 have e0 : l.set k x = l.take k ++ x :: l.drop (k + 1) := by rw [List.set_eq_take_append_cons_drop, if_pos h]
 rw [e0, spc_append, spc_split h]
 obtain ⟨A, hA⟩ : ∃ A, spc (l.take k) = A := ⟨_, rfl⟩
 rw [hA] at hl ⊢
 obtain ⟨B, hB⟩ : ∃ B, spc (l.drop (k + 1)) = B := ⟨_, rfl⟩
 have e : spc (x :: l.drop (k + 1)) = stc x ++ B := by rw [← hB]; rfl
 rw [e, hB]
 have s0 : ∀ (j : Nat) (C : List Value) (v : Value), (A ++ C).set (k * 5 + j) v = A ++ C.set j v := fun j C v => by
  rw [List.set_append_right _ _ (by omega), hl, show k * 5 + j - k * 5 = j by omega]
 have s00 := s0 0
 rw [Nat.add_zero] at s00
 rw [s00, s0 1, s0 2, s0 3, s0 4]
 rfl
theorem SpRow.set5 {w : World} {G : Nat} {l : List Stp} (h : SpRow w G l) {k : Nat} (hk : k < l.length) (x : Stp) : SpRow (((((w.setCell ⟨G, k * 5, none⟩ (.int .i64 (x.cost : Int))).setCell ⟨G, k * 5 + 1, none⟩ (.int .i64 (x.pcs : Int))).setCell ⟨G, k * 5 + 2, none⟩ (.int .i64 (x.len : Int))).setCell ⟨G, k * 5 + 3, none⟩ (.int .i64 (x.dst : Int))).setCell ⟨G, k * 5 + 4, none⟩ (.int .u8 (x.byt : Int))) G (l.set k x) := by
 have := heap_setCell_any _ G (k * 5 + 4) _ _ _ (.int .u8 (x.byt : Int)) (heap_setCell_any _ G (k * 5 + 3) _ _ _ (.int .i64 (x.dst : Int)) (heap_setCell_any _ G (k * 5 + 2) _ _ _ (.int .i64 (x.len : Int)) (heap_setCell_any _ G (k * 5 + 1) _ _ _ (.int .i64 (x.pcs : Int)) (heap_setCell_any w G (k * 5) _ _ _ (.int .i64 (x.cost : Int)) h))))
 refine this.trans ?_
 rw [← spc_set hk x]
 simp
theorem PaO.put {w0 w : World} {T I C S G i : Nat} {seen : Bool} {best : List Stp} (h : PaO w T I C S G i (seen, best)) {pc pn l d b : Nat} (hi : i < best.length) (hb : Below w0.heap.size w0 w) :
  PaO ((((((w.setCell ⟨G, i * 5, none⟩ (.int .i64 (pc : Int))).setCell ⟨G, i * 5 + 1, none⟩ (.int .i64 (pn : Int))).setCell ⟨G, i * 5 + 2, none⟩ (.int .i64 (l : Int))).setCell ⟨G, i * 5 + 3, none⟩ (.int .i64 (d : Int))).setCell ⟨G, i * 5 + 4, none⟩ (.int .u8 (b : Int))).setCell ⟨S, 0, none⟩ (.bool true)) T I C S G i (true, best.set i ⟨pc, pn, l, d, b⟩) ∧
  Touch (fun k => k = G ∨ k = S) w0 ((((((w.setCell ⟨G, i * 5, none⟩ (.int .i64 (pc : Int))).setCell ⟨G, i * 5 + 1, none⟩ (.int .i64 (pn : Int))).setCell ⟨G, i * 5 + 2, none⟩ (.int .i64 (l : Int))).setCell ⟨G, i * 5 + 3, none⟩ (.int .i64 (d : Int))).setCell ⟨G, i * 5 + 4, none⟩ (.int .u8 (b : Int))).setCell ⟨S, 0, none⟩ (.bool true)) := by
 have tG := cells_ne h.ct h.row.to (by decide)
 have iG := cells_ne h.ci h.row.to (by decide)
 have cG := cells_ne h.cc h.row.to (by decide)
 have sG := cells_ne h.cs h.row.to (by decide)
 have tS := cells_ne h.ct h.cs (by decide)
 have iS := cells_ne h.ci h.cs (by decide)
 have cS := cells_ne h.cc h.cs (by decide)
 obtain ⟨W, hW⟩ : ∃ W, ((((w.setCell ⟨G, i * 5, none⟩ (.int .i64 (pc : Int))).setCell ⟨G, i * 5 + 1, none⟩ (.int .i64 (pn : Int))).setCell ⟨G, i * 5 + 2, none⟩ (.int .i64 (l : Int))).setCell ⟨G, i * 5 + 3, none⟩ (.int .i64 (d : Int))).setCell ⟨G, i * 5 + 4, none⟩ (.int .u8 (b : Int)) = W := ⟨_, rfl⟩
 have hr : SpRow W G (best.set i ⟨pc, pn, l, d, b⟩) := by rw [← hW]; exact h.row.set5 hi ⟨pc, pn, l, d, b⟩
 have far : ∀ g, g ≠ G → W.heap[g]? = w.heap[g]? := fun g hg => by
  rw [← hW]
  exact (Below.heap_setCell _ ⟨G, _, none⟩ _ g hg).trans ((Below.heap_setCell _ ⟨G, _, none⟩ _ g hg).trans ((Below.heap_setCell _ ⟨G, _, none⟩ _ g hg).trans ((Below.heap_setCell _ ⟨G, _, none⟩ _ g hg).trans (Below.heap_setCell _ ⟨G, _, none⟩ _ g hg))))
 have ht : Touch (fun k => k = G ∨ k = S) w0 W := by
  rw [← hW]
  exact ((((((Touch.of_below hb).setCell (p := ⟨G, _, none⟩) (.inl (.inl rfl)) _).setCell (p := ⟨G, _, none⟩) (.inl (.inl rfl)) _).setCell (p := ⟨G, _, none⟩) (.inl (.inl rfl)) _).setCell (p := ⟨G, _, none⟩) (.inl (.inl rfl)) _).setCell (p := ⟨G, _, none⟩) (.inl (.inl rfl)) _)
 rw [hW]
 refine ⟨⟨?_, ?_, ?_, ?_, ?_⟩, ht.setCell (p := ⟨S, 0, none⟩) (.inl (.inr rfl)) _⟩
 ·rw [Below.heap_setCell W ⟨S, 0, none⟩ _ T tS, far T tG, List.length_set]; exact h.ct
 ·rw [Below.heap_setCell W ⟨S, 0, none⟩ _ I iS, far I iG]; exact h.ci
 ·rw [Below.heap_setCell W ⟨S, 0, none⟩ _ C cS, far C cG]; exact h.cc
 ·exact heap_setCell_any W S 0 _ _ _ _ ((far S sG).trans h.cs)
 ·exact (Below.heap_setCell W ⟨S, 0, none⟩ _ G (Ne.symm sG)).trans hr.to
theorem one_five {w : World} {g : Nat} {a b c d e : Value} {t : TypeId} (h : w.heap[g]? = some (.cells #[a, b, c, d, e] t (0, 0))) : w.cell? ⟨g, 0, none⟩ = some a ∧ w.cell? ⟨g, 1, none⟩ = some b ∧ w.cell? ⟨g, 2, none⟩ = some c ∧ w.cell? ⟨g, 3, none⟩ = some d ∧ w.cell? ⟨g, 4, none⟩ = some e := by
 refine ⟨?_, ?_, ?_, ?_, ?_⟩ <;> rw [cell_of_row w g _ _ _ _ h] <;> rfl
set_option maxRecDepth 100000 in
set_option maxHeartbeats 4000000 in
theorem try_walk {w : World} {T I C S G i : Nat} {st : Bool × List Stp} (h : PaO w T I C S G i st) (l d b : Nat) (hl : l ≤ 10000) (hd : d ≤ 10000) (hil : i + l < st.2.length) (hn : st.2.length ≤ 10000)
  (hb1 : (st.2.getD (i + l) default).cost ≤ 1000000) (hb2 : (st.2.getD (i + l) default).pcs ≤ 1000000) :
  Calls Tryz.prog 131 #[pieceV l d b, .pointer (some ⟨T, 0, none⟩), .pointer (some ⟨I, 0, none⟩), .pointer (some ⟨C, 0, none⟩), .pointer (some ⟨S, 0, none⟩)] w fun e w' => e = .returned (.tuple #[]) ∧ PaO w' T I C S G i (tryF i l d b st) ∧ Touch (fun k => k = G ∨ k = S) w w' := by
 unfold pieceV
 obtain ⟨seen, best⟩ := st
 simp only at h hil hn hb1 hb2
 obtain ⟨q, hq⟩ : ∃ q, i + l = q := ⟨_, rfl⟩
 obtain ⟨N, hN⟩ : ∃ N, best.length = N := ⟨_, rfl⟩
 obtain ⟨⟨nc, np, nl, nd, nb⟩, hnx⟩ : ∃ x, best.getD q default = x := ⟨_, rfl⟩
 obtain ⟨⟨cc, cp, cl, cd, cb⟩, hcu⟩ : ∃ x, best.getD i default = x := ⟨_, rfl⟩
 rw [hq, hnx] at hb1 hb2
 rw [hq, hN] at hil
 rw [hN] at hn
 simp only at hb1 hb2
 have hpl := priceF_le hl hd
 have HPr := Lib.hid fun w => price_walk l d b hl hd w
 have HNl := Lib.hid hN
 have HIb : Hid (i < best.length) := Lib.hid (by omega)
 have HCu := Lib.hid hcu
 have hiN : (i : Int) < N := by omega
 have HTf : Hid (tryF i l d b (seen, best) = if seen = false ∨ nc + priceF l d < cc ∨ (nc + priceF l d = cc ∧ np + 1 < cp) then (true, best.set i ⟨nc + priceF l d, np + 1, l, d, b⟩) else (seen, best)) := Lib.hid (by
  unfold tryF; simp only; rw [hq, hnx, hcu])
 obtain ⟨pr, hpr⟩ : ∃ p, priceF l d = p := ⟨_, rfl⟩
 rw [hpr] at hpl HPr HTf
 obtain ⟨W0, hW0⟩ : ∃ W, w.alloc (.cells #[.int .i64 (l : Int), .int .i64 (d : Int), .int .u8 (b : Int)] 97) = W := ⟨_, rfl⟩
 have hb0 : Below w.heap.size w W0 := by rw [← hW0]; exact (Below.refl _ _).alloc (Nat.le_refl _) _
 have h0 := h.mono hb0
 have hp0 : W0.heap[w.heap.size]? = some (.cells #[.int .i64 (l : Int), .int .i64 (d : Int), .int .u8 (b : Int)] 97 (0, 0)) := by rw [← hW0]; exact heap_alloc_new _ _
 have kt := (one_cell h0.ct).1
 rw [show ((seen, best) : Bool × List Stp).2.length = N from hN] at kt
 have ki := (one_cell h0.ci).1
 have p0 : W0.cell? ⟨w.heap.size, 0, none⟩ = some (.int .i64 (l : Int)) := by rw [cell_of_row W0 _ 0 _ _ _ hp0]; rfl
 have hqb : q < best.length := by omega
 have n0 := h0.row.cell hqb 0 (by decide)
 have n1 := h0.row.cell hqb 1 (by decide)
 have n2 := h0.row.cell hqb 2 (by decide)
 have n3 := h0.row.cell hqb 3 (by decide)
 have n4 := h0.row.cell hqb 4 (by decide)
 rw [hnx] at n0 n1 n2 n3 n4
 simp only [stc, List.getElem?_cons_zero, List.getElem?_cons_succ, Nat.add_zero] at n0 n1 n2 n3 n4
 have hqi : (i : Int) + (l : Int) = (q : Int) := by omega
 have hqN : (q : Int) < N := by omega
 have hNi : (N : Int) ≤ 10000 := by omega
 have HH := Lib.hid h0
 have HP0 := Lib.hid hp0
 have HW0 := Lib.hid hW0
 have HB0 := Lib.hid hb0
 clear h h0 hp0 hb0 hW0 hl hd hil hn hq hN hnx hcu hqb hpr
 go_enter Tryz.func131, Tryz.ntmps131
 go_upto_region 1 with (fail)
 rw [HW0.out]
 go_upto_region 2 with (fail)
 obtain ⟨W1, hW1⟩ : ∃ W, W0.alloc (.cells #[.int .i64 (nc : Int), .int .i64 (np : Int), .int .i64 (nl : Int), .int .i64 (nd : Int), .int .u8 (nb : Int)] 187) = W := ⟨_, rfl⟩
 have hb1' : Below W0.heap.size W0 W1 := by rw [← hW1]; exact (Below.refl _ _).alloc (Nat.le_refl _) _
 have hq6 : W1.heap[W0.heap.size]? = some (.cells #[.int .i64 (nc : Int), .int .i64 (np : Int), .int .i64 (nl : Int), .int .i64 (nd : Int), .int .u8 (nb : Int)] 187 (0, 0)) := by rw [← hW1]; exact heap_alloc_new _ _
 have H1 := Lib.hid (HH.out.mono hb1')
 have HP1 := Lib.hid ((hb1'.block _ (Array.getElem?_eq_some_iff.1 HP0.out).1).trans HP0.out)
 obtain ⟨p, hp⟩ : ∃ p, w.heap.size = p := ⟨_, rfl⟩
 obtain ⟨r, hr⟩ : ∃ r, W0.heap.size = r := ⟨_, rfl⟩
 rw [hp] at HP1 ⊢
 rw [hr] at hq6 ⊢
 rw [hW1]
 have HQ6 := Lib.hid hq6
 have HB01 : Hid (Below w.heap.size w W1) := Lib.hid (bstep HB0.out (Nat.le_refl _) hb1')
 have hc0 := C13.of H1.out.cc HP1.out hq6
 have HK : Hid (∀ W', Below W1.heap.size W1 W' → C13 W' C p r l d b nc np) := Lib.hid fun W' hb => C13.of ((hb.block _ (Array.getElem?_eq_some_iff.1 H1.out.cc).1).trans H1.out.cc) ((hb.block _ (Array.getElem?_eq_some_iff.1 HP1.out).1).trans HP1.out) ((hb.block _ (Array.getElem?_eq_some_iff.1 HQ6.out).1).trans HQ6.out)
 unfold costV pieceV at HPr
 have hw1 : IntKind.i64.wrap ((nc : Int) + (pr : Int)) = (nc : Int) + (pr : Int) := IntWalk.i64_in _ (by omega)
 have hw2 : IntKind.i64.wrap ((np : Int) + 1) = (np : Int) + 1 := IntWalk.i64_in _ (by omega)
 clear kt ki p0 n0 n1 n2 n3 n4 hb1' hW1 hp hr hq6
 go_cut [7] from 8 (fun v wx => CutT W1 nc np pr l d b v wx)
 case first =>
  refine wp_region_noPanic ?_
  refine wp_region_D 13 (fun w' : World => C13 w' C p r l d b nc np) (by kernel_rfl) hc0 (fun hU => ?_)
  have hC : (fun w' : World => C13 w' C p r l d b nc np) W1.drew := hc0
  clear hU
  refine tk 0 15 12 rfl rfl (.inr hC) ?_
  simp only [Act.put, zA, zB, zC]
  refine wpAnyD_load (i := 1) (dst := some 16) (v := ?_) (fuel := 11) rfl rfl (by kernel_rfl) (fun _ _ _ h => h) (by rfl) ?_ (.inr hC) ?_
  rotate_left
  ·intro w hSw
   obtain ⟨k1, k2, k3, k4, k5, k6, k7, k8, k9⟩ := hSw
   go_simp
   try with_reducible rfl
  simp only [Act.put, zA, zB, zC]
  refine wpAnyD_load (i := 2) (dst := some 17) (v := ?_) (fuel := 10) rfl rfl (by kernel_rfl) (fun _ _ _ h => h) (by rfl) ?_ (.inr hC) ?_
  rotate_left
  ·intro w hSw
   obtain ⟨k1, k2, k3, k4, k5, k6, k7, k8, k9⟩ := hSw
   go_simp
   try with_reducible rfl
  simp only [Act.put, zA, zB, zC]
  refine wpAnyD_load (i := 3) (dst := some 18) (v := ?_) (fuel := 9) rfl rfl (by kernel_rfl) (fun _ _ _ h => h) (by rfl) ?_ (.inr hC) ?_
  rotate_left
  ·intro w hSw
   obtain ⟨k1, k2, k3, k4, k5, k6, k7, k8, k9⟩ := hSw
   go_simp
   try with_reducible rfl
  simp only [Act.put, zA, zB, zC]
  refine tk 6 21 8 rfl rfl (.inr hC) ?_
  simp only [Act.put, zA, zB, zC]
  refine wpAnyD_load (i := 7) (dst := some 22) (v := ?_) (fuel := 7) rfl rfl (by kernel_rfl) (fun _ _ _ h => h) (by rfl) ?_ (.inr hC) ?_
  rotate_left
  ·intro w hSw
   obtain ⟨k1, k2, k3, k4, k5, k6, k7, k8, k9⟩ := hSw
   go_simp
   try with_reducible rfl
  simp only [Act.put, zA, zB, zC]
  refine tk 8 23 6 rfl rfl (.inr hC) ?_
  simp only [Act.put, zA, zB, zC]
  refine wpAnyD_load (i := 9) (dst := some 24) (v := ?_) (fuel := 5) rfl rfl (by kernel_rfl) (fun _ _ _ h => h) (by rfl) ?_ (.inr hC) ?_
  rotate_left
  ·intro w hSw
   obtain ⟨k1, k2, k3, k4, k5, k6, k7, k8, k9⟩ := hSw
   go_simp
   try with_reducible rfl
  simp only [Act.put, zA, zB, zC]
  refine ry 4 [4, 11] ?_
  refine rn rfl (fun K hK => ?_) ?_
  ·go_simp
   go_at_call 132
   with_reducible refine (HPr.out _).mono ?_
   rintro x w1 ⟨rfl, hb1⟩
   have HB1 : Hid (Below W1.heap.size W1 w1) := Lib.hid (by
    first
    | exact (Below.refl W1.heap.size W1).drew.trans hb1
    | exact bstep ((Below.refl W1.heap.size W1).alloc (Nat.le_refl _) _).drew (Nat.le_refl _) hb1)
   try (
    have HZ1 : Hid (w1.heap[W1.heap.size]? = some (.cells #[.int .i64 0, .int .i64 0, .int .i64 0, .int .i64 0, .int .u8 0] 187 (0, 0))) := Lib.hid ((hb1.block W1.heap.size (by show _ < (W1.alloc _).heap.size; rw [World.size_alloc]; omega)).trans (heap_alloc_new W1 _))
    have hfr := fr_of HZ1.out
    have hc0 := one_five HZ1.out)
   clear hb1
   go_wp2_with fail
   refine shut_C hK ?_ (fun hC => ?_)
   ·first
    | with_reducible exact HK.out _ HB1.out
    | with_reducible exact HK.out _ ((Below.refl W1.heap.size W1).alloc (Nat.le_refl _) _).drew
    | with_reducible exact HK.out _ (HB1.out.alloc HB1.out.size _)
    | with_reducible exact HK.out _ (HB1.out.alloc HB1.out.size _).drew
    | with_reducible exact HK.out _ (((((HB1.out.setCell (p := ⟨W1.heap.size, 0, none⟩) (Nat.le_refl _) _).setCell (p := ⟨W1.heap.size, 1, none⟩) (Nat.le_refl _) _).setCell (p := ⟨W1.heap.size, 2, none⟩) (Nat.le_refl _) _).setCell (p := ⟨W1.heap.size, 3, none⟩) (Nat.le_refl _) _).setCell (p := ⟨W1.heap.size, 4, none⟩) (Nat.le_refl _) _)
   clear hK K
   try simp only [Act.put, zA, zB, zC]
   refine tk 5 20 3 rfl rfl (.inr hC) ?_
   simp only [Act.put, zA, zB, zC]
   refine tk 10 25 2 rfl rfl (.inr hC) ?_
   simp only [Act.put, zA, zB, zC]
   refine ry 1 [11] ?_
   refine rn rfl (fun K hK => ?_) ?_
   ·go_simp
    refine shut_C hK ?_ (fun hC => ?_)
    ·first
     | with_reducible exact HK.out _ HB1.out
     | with_reducible exact HK.out _ ((Below.refl W1.heap.size W1).alloc (Nat.le_refl _) _).drew
     | with_reducible exact HK.out _ (HB1.out.alloc HB1.out.size _)
     | with_reducible exact HK.out _ (HB1.out.alloc HB1.out.size _).drew
     | with_reducible exact HK.out _ (((((HB1.out.setCell (p := ⟨W1.heap.size, 0, none⟩) (Nat.le_refl _) _).setCell (p := ⟨W1.heap.size, 1, none⟩) (Nat.le_refl _) _).setCell (p := ⟨W1.heap.size, 2, none⟩) (Nat.le_refl _) _).setCell (p := ⟨W1.heap.size, 3, none⟩) (Nat.le_refl _) _).setCell (p := ⟨W1.heap.size, 4, none⟩) (Nat.le_refl _) _)
    clear hK K
    try simp only [Act.put, zA, zB, zC]
    refine ry 0 [12] ?_
    refine rn rfl (fun K hK => ?_) ?_
    ·go_simp
     refine shut_C hK ?_ (fun hC => ?_)
     ·first
      | with_reducible exact HK.out _ HB1.out
      | with_reducible exact HK.out _ ((Below.refl W1.heap.size W1).alloc (Nat.le_refl _) _).drew
      | with_reducible exact HK.out _ (HB1.out.alloc HB1.out.size _)
      | with_reducible exact HK.out _ (HB1.out.alloc HB1.out.size _).drew
      | with_reducible exact HK.out _ (((((HB1.out.setCell (p := ⟨W1.heap.size, 0, none⟩) (Nat.le_refl _) _).setCell (p := ⟨W1.heap.size, 1, none⟩) (Nat.le_refl _) _).setCell (p := ⟨W1.heap.size, 2, none⟩) (Nat.le_refl _) _).setCell (p := ⟨W1.heap.size, 3, none⟩) (Nat.le_refl _) _).setCell (p := ⟨W1.heap.size, 4, none⟩) (Nat.le_refl _) _)
     clear hK K
     try simp only [Act.put, zA, zB, zC]
     refine wpAnyD_done (by kernel_rfl) ?_ _
     refine NoPanic.normal ?_
     first
     | (
      have HZF := Lib.hid (five_set HZ1.out (.int .i64 ((nc : Int) + (pr : Int))) (.int .i64 ((np : Int) + 1)) (.int .i64 (l : Int)) (.int .i64 (d : Int)) (.int .u8 (b : Int)))
      have HBe := Lib.hid (((((HB1.out.setCell (p := ⟨W1.heap.size, 0, none⟩) (Nat.le_refl _) (.int .i64 ((nc : Int) + (pr : Int)))).setCell (p := ⟨W1.heap.size, 1, none⟩) (Nat.le_refl _) (.int .i64 ((np : Int) + 1))).setCell (p := ⟨W1.heap.size, 2, none⟩) (Nat.le_refl _) (.int .i64 (l : Int))).setCell (p := ⟨W1.heap.size, 3, none⟩) (Nat.le_refl _) (.int .i64 (d : Int))).setCell (p := ⟨W1.heap.size, 4, none⟩) (Nat.le_refl _) (.int .u8 (b : Int)))
      obtain ⟨WF, hWF⟩ : ∃ W, ((((((w1.setCell ⟨W1.heap.size, 0, none⟩ (.int .i64 ((nc : Int) + (pr : Int)))).setCell ⟨W1.heap.size, 1, none⟩ (.int .i64 ((np : Int) + 1))).setCell ⟨W1.heap.size, 2, none⟩ (.int .i64 (l : Int))).setCell ⟨W1.heap.size, 3, none⟩ (.int .i64 (d : Int))).setCell ⟨W1.heap.size, 4, none⟩ (.int .u8 (b : Int)))) = W := ⟨_, rfl⟩
      obtain ⟨t, ht⟩ : ∃ t, W1.heap.size = t := ⟨_, rfl⟩
      rw [hWF] at HZF HBe ⊢
      rw [ht] at HZF ⊢
      clear hfr hc0)
     | (
      have HZF := Lib.hid (heap_alloc_new w1 (.cells #[.int .i64 ((nc : Int) + (pr : Int)), .int .i64 ((np : Int) + 1), .int .i64 (l : Int), .int .i64 (d : Int), .int .u8 (b : Int)] 187))
      have HBe := Lib.hid (HB1.out.alloc HB1.out.size (.cells #[.int .i64 ((nc : Int) + (pr : Int)), .int .i64 ((np : Int) + 1), .int .i64 (l : Int), .int .i64 (d : Int), .int .u8 (b : Int)] 187))
      obtain ⟨WF, hWF⟩ : ∃ W, (w1.alloc (.cells #[.int .i64 ((nc : Int) + (pr : Int)), .int .i64 ((np : Int) + 1), .int .i64 (l : Int), .int .i64 (d : Int), .int .u8 (b : Int)] 187)) = W := ⟨_, rfl⟩
      obtain ⟨t, ht⟩ : ∃ t, w1.heap.size = t := ⟨_, rfl⟩
      rw [hWF] at HZF HBe ⊢
      rw [ht] at HZF ⊢)
     clear hC hWF ht hw1 hw2
     go_wp2_with fail
     go_meet
     exact ⟨t, rfl, HZF.out, HBe.out⟩
    exact rz
   exact rz
  refine rn rfl (fun K hK => ?_) ?_
  ·go_simp
   refine shut_C hK ?_ (fun hC => ?_)
   ·first
    | with_reducible exact HK.out _ HB1.out
    | with_reducible exact HK.out _ ((Below.refl W1.heap.size W1).alloc (Nat.le_refl _) _).drew
    | with_reducible exact HK.out _ (HB1.out.alloc HB1.out.size _)
    | with_reducible exact HK.out _ (HB1.out.alloc HB1.out.size _).drew
    | with_reducible exact HK.out _ (((((HB1.out.setCell (p := ⟨W1.heap.size, 0, none⟩) (Nat.le_refl _) _).setCell (p := ⟨W1.heap.size, 1, none⟩) (Nat.le_refl _) _).setCell (p := ⟨W1.heap.size, 2, none⟩) (Nat.le_refl _) _).setCell (p := ⟨W1.heap.size, 3, none⟩) (Nat.le_refl _) _).setCell (p := ⟨W1.heap.size, 4, none⟩) (Nat.le_refl _) _)
   clear hK K
   try simp only [Act.put, zA, zB, zC]
   refine ry 3 [4] ?_
   refine rn rfl (fun K hK => ?_) ?_
   ·go_simp
    go_at_call 132
    with_reducible refine (HPr.out _).mono ?_
    rintro x w1 ⟨rfl, hb1⟩
    have HB1 : Hid (Below W1.heap.size W1 w1) := Lib.hid (by
     first
     | exact (Below.refl W1.heap.size W1).drew.trans hb1
     | exact bstep ((Below.refl W1.heap.size W1).alloc (Nat.le_refl _) _).drew (Nat.le_refl _) hb1)
    try (
     have HZ1 : Hid (w1.heap[W1.heap.size]? = some (.cells #[.int .i64 0, .int .i64 0, .int .i64 0, .int .i64 0, .int .u8 0] 187 (0, 0))) := Lib.hid ((hb1.block W1.heap.size (by show _ < (W1.alloc _).heap.size; rw [World.size_alloc]; omega)).trans (heap_alloc_new W1 _))
     have hfr := fr_of HZ1.out
     have hc0 := one_five HZ1.out)
    clear hb1
    go_wp2_with fail
    refine shut_C hK ?_ (fun hC => ?_)
    ·first
     | with_reducible exact HK.out _ HB1.out
     | with_reducible exact HK.out _ ((Below.refl W1.heap.size W1).alloc (Nat.le_refl _) _).drew
     | with_reducible exact HK.out _ (HB1.out.alloc HB1.out.size _)
     | with_reducible exact HK.out _ (HB1.out.alloc HB1.out.size _).drew
     | with_reducible exact HK.out _ (((((HB1.out.setCell (p := ⟨W1.heap.size, 0, none⟩) (Nat.le_refl _) _).setCell (p := ⟨W1.heap.size, 1, none⟩) (Nat.le_refl _) _).setCell (p := ⟨W1.heap.size, 2, none⟩) (Nat.le_refl _) _).setCell (p := ⟨W1.heap.size, 3, none⟩) (Nat.le_refl _) _).setCell (p := ⟨W1.heap.size, 4, none⟩) (Nat.le_refl _) _)
    clear hK K
    try simp only [Act.put, zA, zB, zC]
    refine tk 5 20 2 rfl rfl (.inr hC) ?_
    simp only [Act.put, zA, zB, zC]
    refine tk 10 25 1 rfl rfl (.inr hC) ?_
    simp only [Act.put, zA, zB, zC]
    refine ry 0 [12] ?_
    refine rn rfl (fun K hK => ?_) ?_
    ·go_simp
     refine shut_C hK ?_ (fun hC => ?_)
     ·first
      | with_reducible exact HK.out _ HB1.out
      | with_reducible exact HK.out _ ((Below.refl W1.heap.size W1).alloc (Nat.le_refl _) _).drew
      | with_reducible exact HK.out _ (HB1.out.alloc HB1.out.size _)
      | with_reducible exact HK.out _ (HB1.out.alloc HB1.out.size _).drew
      | with_reducible exact HK.out _ (((((HB1.out.setCell (p := ⟨W1.heap.size, 0, none⟩) (Nat.le_refl _) _).setCell (p := ⟨W1.heap.size, 1, none⟩) (Nat.le_refl _) _).setCell (p := ⟨W1.heap.size, 2, none⟩) (Nat.le_refl _) _).setCell (p := ⟨W1.heap.size, 3, none⟩) (Nat.le_refl _) _).setCell (p := ⟨W1.heap.size, 4, none⟩) (Nat.le_refl _) _)
     clear hK K
     try simp only [Act.put, zA, zB, zC]
     refine wpAnyD_done (by kernel_rfl) ?_ _
     refine NoPanic.normal ?_
     first
     | (
      have HZF := Lib.hid (five_set HZ1.out (.int .i64 ((nc : Int) + (pr : Int))) (.int .i64 ((np : Int) + 1)) (.int .i64 (l : Int)) (.int .i64 (d : Int)) (.int .u8 (b : Int)))
      have HBe := Lib.hid (((((HB1.out.setCell (p := ⟨W1.heap.size, 0, none⟩) (Nat.le_refl _) (.int .i64 ((nc : Int) + (pr : Int)))).setCell (p := ⟨W1.heap.size, 1, none⟩) (Nat.le_refl _) (.int .i64 ((np : Int) + 1))).setCell (p := ⟨W1.heap.size, 2, none⟩) (Nat.le_refl _) (.int .i64 (l : Int))).setCell (p := ⟨W1.heap.size, 3, none⟩) (Nat.le_refl _) (.int .i64 (d : Int))).setCell (p := ⟨W1.heap.size, 4, none⟩) (Nat.le_refl _) (.int .u8 (b : Int)))
      obtain ⟨WF, hWF⟩ : ∃ W, ((((((w1.setCell ⟨W1.heap.size, 0, none⟩ (.int .i64 ((nc : Int) + (pr : Int)))).setCell ⟨W1.heap.size, 1, none⟩ (.int .i64 ((np : Int) + 1))).setCell ⟨W1.heap.size, 2, none⟩ (.int .i64 (l : Int))).setCell ⟨W1.heap.size, 3, none⟩ (.int .i64 (d : Int))).setCell ⟨W1.heap.size, 4, none⟩ (.int .u8 (b : Int)))) = W := ⟨_, rfl⟩
      obtain ⟨t, ht⟩ : ∃ t, W1.heap.size = t := ⟨_, rfl⟩
      rw [hWF] at HZF HBe ⊢
      rw [ht] at HZF ⊢
      clear hfr hc0)
     | (
      have HZF := Lib.hid (heap_alloc_new w1 (.cells #[.int .i64 ((nc : Int) + (pr : Int)), .int .i64 ((np : Int) + 1), .int .i64 (l : Int), .int .i64 (d : Int), .int .u8 (b : Int)] 187))
      have HBe := Lib.hid (HB1.out.alloc HB1.out.size (.cells #[.int .i64 ((nc : Int) + (pr : Int)), .int .i64 ((np : Int) + 1), .int .i64 (l : Int), .int .i64 (d : Int), .int .u8 (b : Int)] 187))
      obtain ⟨WF, hWF⟩ : ∃ W, (w1.alloc (.cells #[.int .i64 ((nc : Int) + (pr : Int)), .int .i64 ((np : Int) + 1), .int .i64 (l : Int), .int .i64 (d : Int), .int .u8 (b : Int)] 187)) = W := ⟨_, rfl⟩
      obtain ⟨t, ht⟩ : ∃ t, w1.heap.size = t := ⟨_, rfl⟩
      rw [hWF] at HZF HBe ⊢
      rw [ht] at HZF ⊢)
     clear hC hWF ht hw1 hw2
     go_wp2_with fail
     go_meet
     exact ⟨t, rfl, HZF.out, HBe.out⟩
    exact rz
   exact rz
  exact rz
 case rest =>
  obtain ⟨t, rfl, hz, hbe⟩ := hcut
  have HZF := Lib.hid hz
  have HBe := Lib.hid hbe
  clear hz hbe
  obtain ⟨WF, hWF⟩ : ∃ W, W = wc := ⟨_, rfl⟩
  subst hWF
  have HF := Lib.hid (H1.out.mono HBe.out)
  have HBF := Lib.hid (bstep HB01.out (Nat.le_refl _) HBe.out)
  have kt := HF.out.ktl HNl.out
  have ki := (one_cell HF.out.ci).1
  have ks := (one_cell HF.out.cs).1
  obtain ⟨x0, x1, -, -, -⟩ := one_five HZF.out
  obtain ⟨u0, u1, -, -, -⟩ := HF.out.row.five HIb.out
  simp only at kt ks
  rw [HCu.out] at u0 u1
  rcases Bool.eq_false_or_eq_true seen with hs | hs
  ·subst hs
   by_cases g1 : nc + pr < cc
   ·have d1 : decide ((nc : Int) + (pr : Int) < (cc : Int)) = true := by simp; omega
    have HYes : Hid (tryF i l d b (true, best) = (true, best.set i ⟨nc + pr, np + 1, l, d, b⟩)) := Lib.hid (by rw [HTf.out]; exact if_pos (.inr (.inl g1)))
    clear g1
    go_upto_region 3 with (fail)
    go_quiet (fail)
    have HFq := Lib.hid (HF.out.mono (below_drewN (.refl WF.heap.size WF) nq))
    have HZq := Lib.hid (drew_block HZF.out nq)
    have HBq := Lib.hid (below_drewN HBF.out nq)
    obtain ⟨WQ, hWQ⟩ : ∃ W, WF.drewN nq = W := ⟨_, rfl⟩
    rw [hWQ] at HFq HZq HBq ⊢
    clear hWQ kt ki ks x0 x1 u0 u1
    have kt := HFq.out.ktl HNl.out
    have ki := (one_cell HFq.out.ci).1
    have ks := (one_cell HFq.out.cs)
    obtain ⟨x0, x1, x2, x3, x4⟩ := one_five HZq.out
    have gfr := HFq.out.row.fr
    have hSG := cells_ne HFq.out.cs HFq.out.row.to (by decide)
    have hGS := Ne.symm hSG
    obtain ⟨u0, u1, u2, u3, u4⟩ := HFq.out.row.five HIb.out
    have HFin := Lib.hid (HFq.out.put (pc := nc + pr) (pn := np + 1) (l := l) (d := d) (b := b) HIb.out HBq.out)
    go_wp2_with fail
    refine bodyPost_end (results_none rfl _ _ _) rfl ?_
    rw [HYes.out]
    exact ⟨rfl, HFin.out.1, HFin.out.2⟩
   ·have d1 : decide ((nc : Int) + (pr : Int) < (cc : Int)) = false := by simp; omega
    by_cases g2 : nc + pr = cc
    ·have d2 : ((nc : Int) + (pr : Int) == (cc : Int)) = true := by simp; omega
     by_cases g3 : np + 1 < cp
     ·have d3 : decide ((np : Int) + 1 < (cp : Int)) = true := by simp; omega
      have HYes : Hid (tryF i l d b (true, best) = (true, best.set i ⟨nc + pr, np + 1, l, d, b⟩)) := Lib.hid (by rw [HTf.out]; exact if_pos (.inr (.inr ⟨g2, g3⟩)))
      clear g1 g2 g3
      go_upto_region 3 with (fail)
      go_quiet (fail)
      have HFq := Lib.hid (HF.out.mono (below_drewN (.refl WF.heap.size WF) nq))
      have HZq := Lib.hid (drew_block HZF.out nq)
      have HBq := Lib.hid (below_drewN HBF.out nq)
      obtain ⟨WQ, hWQ⟩ : ∃ W, WF.drewN nq = W := ⟨_, rfl⟩
      rw [hWQ] at HFq HZq HBq ⊢
      clear hWQ kt ki ks x0 x1 u0 u1
      have kt := HFq.out.ktl HNl.out
      have ki := (one_cell HFq.out.ci).1
      have ks := (one_cell HFq.out.cs)
      obtain ⟨x0, x1, x2, x3, x4⟩ := one_five HZq.out
      have gfr := HFq.out.row.fr
      have hSG := cells_ne HFq.out.cs HFq.out.row.to (by decide)
      have hGS := Ne.symm hSG
      obtain ⟨u0, u1, u2, u3, u4⟩ := HFq.out.row.five HIb.out
      have HFin := Lib.hid (HFq.out.put (pc := nc + pr) (pn := np + 1) (l := l) (d := d) (b := b) HIb.out HBq.out)
      go_wp2_with fail
      refine bodyPost_end (results_none rfl _ _ _) rfl ?_
      rw [HYes.out]
      exact ⟨rfl, HFin.out.1, HFin.out.2⟩
     ·have d3 : decide ((np : Int) + 1 < (cp : Int)) = false := by simp; omega
      have HNo : Hid (tryF i l d b (true, best) = (true, best)) := Lib.hid (by rw [HTf.out]; exact if_neg (by rintro (h | h | h); exact absurd h (by decide); exact g1 h; exact g3 h.2))
      clear g1 g2 g3
      go_upto_region 3 with (fail)
      go_quiet (fail)
      have HFq := Lib.hid (HF.out.mono (below_drewN (.refl WF.heap.size WF) nq))
      have HTq : Hid (Touch (fun k => k = G ∨ k = S) w (WF.drewN nq)) := Lib.hid (.of_below (below_drewN HBF.out nq))
      go_wp2_with fail
      refine bodyPost_end (results_none rfl _ _ _) rfl ?_
      rw [HNo.out]
      exact ⟨rfl, HFq.out, HTq.out⟩
    ·have d2 : ((nc : Int) + (pr : Int) == (cc : Int)) = false := by simp; omega
     have HNo : Hid (tryF i l d b (true, best) = (true, best)) := Lib.hid (by rw [HTf.out]; exact if_neg (by rintro (h | h | h); exact absurd h (by decide); exact g1 h; exact g2 h.1))
     clear g1 g2
     go_upto_region 3 with (fail)
     go_quiet (fail)
     have HFq := Lib.hid (HF.out.mono (below_drewN (.refl WF.heap.size WF) nq))
     have HTq : Hid (Touch (fun k => k = G ∨ k = S) w (WF.drewN nq)) := Lib.hid (.of_below (below_drewN HBF.out nq))
     go_wp2_with fail
     refine bodyPost_end (results_none rfl _ _ _) rfl ?_
     rw [HNo.out]
     exact ⟨rfl, HFq.out, HTq.out⟩
  ·subst hs
   have HYes : Hid (tryF i l d b (false, best) = (true, best.set i ⟨nc + pr, np + 1, l, d, b⟩)) := Lib.hid (by rw [HTf.out]; exact if_pos (.inl rfl))
   go_upto_region 3 with (fail)
   go_quiet (fail)
   have HFq := Lib.hid (HF.out.mono (below_drewN (.refl WF.heap.size WF) nq))
   have HZq := Lib.hid (drew_block HZF.out nq)
   have HBq := Lib.hid (below_drewN HBF.out nq)
   obtain ⟨WQ, hWQ⟩ : ∃ W, WF.drewN nq = W := ⟨_, rfl⟩
   rw [hWQ] at HFq HZq HBq ⊢
   clear hWQ kt ki ks x0 x1 u0 u1
   have kt := HFq.out.ktl HNl.out
   have ki := (one_cell HFq.out.ci).1
   have ks := (one_cell HFq.out.cs)
   obtain ⟨x0, x1, x2, x3, x4⟩ := one_five HZq.out
   have gfr := HFq.out.row.fr
   have hSG := cells_ne HFq.out.cs HFq.out.row.to (by decide)
   have hGS := Ne.symm hSG
   obtain ⟨u0, u1, u2, u3, u4⟩ := HFq.out.row.five HIb.out
   have HFin := Lib.hid (HFq.out.put (pc := nc + pr) (pn := np + 1) (l := l) (d := d) (b := b) HIb.out HBq.out)
   go_wp2_with fail
   refine bodyPost_end (results_none rfl _ _ _) rfl ?_
   rw [HYes.out]
   exact ⟨rfl, HFin.out.1, HFin.out.2⟩
end Go.Proofs.YtlmjefjimoghcaaGreat
