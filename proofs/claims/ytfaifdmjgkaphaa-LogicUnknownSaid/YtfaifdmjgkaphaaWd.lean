import Derived.Test.YtfaifdmjgkaphaaWc
namespace Go.Proofs.Ytfaifdmjgkaphaa
open Go.RowKit

def pNot (c : Nat) : Nat := [49, 48, 120, 120].getD (kn c) 0
def pInv (c : Nat) : Nat := [49, 48, 120, 122].getD (kn c) 0
theorem idxNot (k : Nat) (hk : k < 4) (w : World) : (Instr.index 42 (.agg #[.int .u8 49, .int .u8 48, .int .u8 120, .int .u8 120]) (.int .i64 (k : Int))).run Try.prog w = .ok (.int .u8 (([49, 48, 120, 120].getD k 0 : Nat) : Int)) w := by
  rcases (by omega : k = 0 ∨ k = 1 ∨ k = 2 ∨ k = 3) with rfl | rfl | rfl | rfl <;> kernel_rfl
theorem idxInv (k : Nat) (hk : k < 4) (w : World) : (Instr.index 42 (.agg #[.int .u8 49, .int .u8 48, .int .u8 120, .int .u8 122]) (.int .i64 (k : Int))).run Try.prog w = .ok (.int .u8 (([49, 48, 120, 122].getD k 0 : Nat) : Int)) w := by
  rcases (by omega : k = 0 ∨ k = 1 ∨ k = 2 ∨ k = 3) with rfl | rfl | rfl | rfl <;> kernel_rfl
theorem not_walk (c : Nat) (hc : c < 256) (w : World) : Calls Try.prog 17 #[.int .u8 c] w fun e w' => e = .returned (.int .u8 (pNot c)) ∧ w = w' := by
  have hi : ∀ w, (Instr.index 42 (.agg #[.int .u8 49, .int .u8 48, .int .u8 120, .int .u8 120]) (.int .i64 (kn c : Int))).run Try.prog w = .ok (.int .u8 (pNot c)) w := idxNot (kn c) (kn_lt c)
  go_enter Try.func17, Try.ntmps17
  go_wp2_with (go_at_call 36; refine (known_walk c hc _).mono ?_; rintro e w' ⟨rfl, rfl⟩)
  go_ret
  exact ⟨rfl, rfl⟩
theorem inv_walk (c : Nat) (hc : c < 256) (w : World) : Calls Try.prog 22 #[.int .u8 c] w fun e w' => e = .returned (.int .u8 (pInv c)) ∧ w = w' := by
  have hi : ∀ w, (Instr.index 42 (.agg #[.int .u8 49, .int .u8 48, .int .u8 120, .int .u8 122]) (.int .i64 (kn c : Int))).run Try.prog w = .ok (.int .u8 (pInv c)) w := idxInv (kn c) (kn_lt c)
  go_enter Try.func22, Try.ntmps22
  go_wp2_with (go_at_call 36; refine (known_walk c hc _).mono ?_; rintro e w' ⟨rfl, rfl⟩)
  go_ret
  exact ⟨rfl, rfl⟩

def tv (n i j : Nat) : Nat := (tab n).getD (i * 4 + j) 0
theorem tab_len (n : Nat) : (tab n).length = 16 := by unfold tab; (repeat' split) <;> rfl
theorem cells8_cell (l : List Nat) (k : Nat) (hk : k < l.length) : (cellsOf8 l)[k]? = some (.int .u8 ((l.getD k 0 : Nat) : Int)) := by
  simp [cellsOf8, hk]
theorem tab_use (n : Nat) (hn : n < 4) (w : World) :
    Calls Try.prog 35 #[.int .i64 (n : Int)] w fun e w' => ∃ B, w.heap.size ≤ B ∧ e = .returned (.func (Fn.func 40) #[] #[.pointer (some ⟨B, 0, none⟩)]) ∧ Below w.heap.size w w' ∧ w'.heap[B]? = some (.cells (cellsOf8 (tab n)) 44 (0, 0)) := by
  refine use_walk n _ _ w ?_ ?_ ?_ tables_walk
  · rcases (by omega : n = 0 ∨ n = 1 ∨ n = 2 ∨ n = 3) with rfl | rfl | rfl | rfl
    · exact index45_0
    · exact index45_1
    · exact index45_2
    · exact index45_3
  · simp [cellsOf8, tab_len]
  · simp [cellsOf8]; intro x _; rfl
theorem tab_cells {w : World} {B n : Nat} (h : w.heap[B]? = some (.cells (cellsOf8 (tab n)) 44 (0, 0))) (i j : Nat) (hi : i < 4) (hj : j < 4) :
    w.cell? ⟨B, i * 4 + j, none⟩ = some (.int .u8 (tv n i j)) := by
  rw [cell_of_row w B _ _ _ _ h, cells8_cell _ _ (by rw [tab_len]; omega)]; rfl
theorem tab_apply (n a b B : Nat) (ha : a < 256) (hb : b < 256) (w : World) (h : w.heap[B]? = some (.cells (cellsOf8 (tab n)) 44 (0, 0))) :
    Calls Try.prog 40 #[.int .u8 a, .int .u8 b, .pointer (some ⟨B, 0, none⟩)] w fun e w' => e = .returned (.int .u8 (tv n (kn a) (kn b))) ∧ ∃ n, w' = w.drewN n :=
  use1_walk (tv n) a b B ha hb w (tab_cells h)
theorem below_drewN {B : Nat} {a w : World} (h : Below B a w) (n : Nat) : Below B a (w.drewN n) := ⟨h.os, h.tape, h.output, h.size, h.block⟩

/-- And, Or, Xor, Resolve. -/
def pOp (n a b : Nat) : Nat := tv n (kn a) (kn b)
theorem and_walk (a b : Nat) (ha : a < 256) (hb : b < 256) (w : World) : Calls Try.prog 11 #[.int .u8 a, .int .u8 b] w fun e w' => e = .returned (.int .u8 (pOp 0 a b)) ∧ Below w.heap.size w w' := by
  go_enter Try.func11, Try.ntmps11
  go_wp2_with (first | (go_at_call 35; refine (tab_use 0 (by omega) _).mono ?_; rintro e w1 ⟨B, hB, rfl, hb1, hT⟩) | (go_at_call 40; refine (tab_apply 0 a b B ha hb _ hT).mono ?_; rintro e w2 ⟨rfl, m, rfl⟩))
  go_ret
  exact ⟨rfl, below_drewN hb1 m⟩
theorem or_walk (a b : Nat) (ha : a < 256) (hb : b < 256) (w : World) : Calls Try.prog 12 #[.int .u8 a, .int .u8 b] w fun e w' => e = .returned (.int .u8 (pOp 1 a b)) ∧ Below w.heap.size w w' := by
  go_enter Try.func12, Try.ntmps12
  go_wp2_with (first | (go_at_call 35; refine (tab_use 1 (by omega) _).mono ?_; rintro e w1 ⟨B, hB, rfl, hb1, hT⟩) | (go_at_call 40; refine (tab_apply 1 a b B ha hb _ hT).mono ?_; rintro e w2 ⟨rfl, m, rfl⟩))
  go_ret
  exact ⟨rfl, below_drewN hb1 m⟩
theorem xor_walk (a b : Nat) (ha : a < 256) (hb : b < 256) (w : World) : Calls Try.prog 13 #[.int .u8 a, .int .u8 b] w fun e w' => e = .returned (.int .u8 (pOp 2 a b)) ∧ Below w.heap.size w w' := by
  go_enter Try.func13, Try.ntmps13
  go_wp2_with (first | (go_at_call 35; refine (tab_use 2 (by omega) _).mono ?_; rintro e w1 ⟨B, hB, rfl, hb1, hT⟩) | (go_at_call 40; refine (tab_apply 2 a b B ha hb _ hT).mono ?_; rintro e w2 ⟨rfl, m, rfl⟩))
  go_ret
  exact ⟨rfl, below_drewN hb1 m⟩
theorem res_walk (a b : Nat) (ha : a < 256) (hb : b < 256) (w : World) : Calls Try.prog 24 #[.int .u8 a, .int .u8 b] w fun e w' => e = .returned (.int .u8 (pOp 3 a b)) ∧ Below w.heap.size w w' := by
  go_enter Try.func24, Try.ntmps24
  go_wp2_with (first | (go_at_call 35; refine (tab_use 3 (by omega) _).mono ?_; rintro e w1 ⟨B, hB, rfl, hb1, hT⟩) | (go_at_call 40; refine (tab_apply 3 a b B ha hb _ hT).mono ?_; rintro e w2 ⟨rfl, m, rfl⟩))
  go_ret
  exact ⟨rfl, below_drewN hb1 m⟩
end Go.Proofs.Ytfaifdmjgkaphaa
