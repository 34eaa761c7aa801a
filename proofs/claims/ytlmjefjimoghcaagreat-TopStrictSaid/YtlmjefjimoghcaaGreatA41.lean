/- A part of the proofs of TopCounter and TopStrict: what the functions of the program do, each walked once, and plain laws about it. No condition. -/
import Derived.Test.YtlmjefjimoghcaaGreatA23
namespace Go.Proofs.YtlmjefjimoghcaaGreat
set_option linter.unusedSimpArgs false
set_option linter.unnecessarySimpa false
set_option linter.unusedVariables false
open Go.RowKit
attribute [local go_sem ↓] Go.wp_at_zero Go.wp_at_succ
def costV : Value := .agg #[.int .i64 9, .int .i64 12, .int .i64 1, .int .i64 1]
def pieceV (l d b : Nat) : Value := .agg #[.int .i64 (l : Int), .int .i64 (d : Int), .int .u8 (b : Int)]
def priceF (l d : Nat) : Nat := if d = 0 then 9 else 12 + Lib.bitLen d + Lib.bitLen l
theorem priceF_le {l d : Nat} (hl : l ≤ 10000) (hd : d ≤ 10000) : priceF l d ≤ 50 := by
 unfold priceF
 split
 ·omega
 ·have h1 := Lib.bitLen_le d 14 (by decide) (by omega)
  have h2 := Lib.bitLen_le l 14 (by decide) (by omega)
  omega
theorem qeq2 {P : Program} {f : FuncId} {args : Array Value} {w : World} {n : Nat} {v : Value}
  (h : Calls P f args (w.drewN n) fun e w' => e = .returned v ∧ w' = w.drewN n) : Calls P f args (w.drewN n) fun e w'' => e = .returned v ∧ ∃ m, w'' = w.drewN m :=
 h.mono fun _ _ ⟨he, hm⟩ => ⟨he, n, hm⟩
set_option maxRecDepth 100000 in
set_option maxHeartbeats 1000000 in
theorem price_walk (l d b : Nat) (hl : l ≤ 10000) (hd : d ≤ 10000) (w : World) : Calls Tryz.prog 132 #[costV, pieceV l d b] w fun e w' => e = .returned (.int .i64 (priceF l d : Int)) ∧ Below w.heap.size w w' := by
 unfold costV pieceV
 have hb : Below w.heap.size w ((w.alloc (.cells #[.int .i64 9, .int .i64 12, .int .i64 1, .int .i64 1] 152)).alloc (.cells #[.int .i64 (l : Int), .int .i64 (d : Int), .int .u8 (b : Int)] 97)) := ((Below.refl _ _).alloc (Nat.le_refl _) _).alloc (by simp) _
 have HB := Lib.hid hb
 clear hb
 have hdi : (d : Int) ≤ 10000 := by omega
 have hli : (l : Int) ≤ 10000 := by omega
 by_cases h0 : d = 0
 ·subst h0
  have HE : Hid (priceF l 0 = 9) := Lib.hid rfl
  go_enter Tryz.func132, Tryz.ntmps132
  go_wp2_with fail
  go_ret
  rw [HE.out]
  exact ⟨rfl, HB.out⟩
 ·have hdb : ((d : Int) == 0) = false := by simpa using h0
  have h1 := Lib.bitLen_le d 14 (by decide) (by omega)
  have h2 := Lib.bitLen_le l 14 (by decide) (by omega)
  obtain ⟨x, hx⟩ : ∃ x, Lib.bitLen d = x := ⟨_, rfl⟩
  obtain ⟨y, hy⟩ : ∃ y, Lib.bitLen l = y := ⟨_, rfl⟩
  rw [hx] at h1
  rw [hy] at h2
  have HE : Hid (priceF l d = 12 + x + y) := Lib.hid (by unfold priceF; rw [if_neg h0, hx, hy])
  have HLd : Hid (∀ w : World, Calls Tryz.prog 100 #[.int .u64 (d : Int)] w fun e w' => e = .returned (.int .i64 (x : Int)) ∧ w' = w) := Lib.hid fun w => by
   have := Tryz.bits_Len (d : Int) w (by omega) (by omega)
   rw [Int.toNat_natCast, hx] at this; exact this
  have HLl : Hid (∀ w : World, Calls Tryz.prog 100 #[.int .u64 (l : Int)] w fun e w' => e = .returned (.int .i64 (y : Int)) ∧ w' = w) := Lib.hid fun w => by
   have := Tryz.bits_Len (l : Int) w (by omega) (by omega)
   rw [Int.toNat_natCast, hy] at this; exact this
  have hw1 : IntKind.u64.wrap (d : Int) = (d : Int) := by simp [IntKind.wrap, IntKind.signed, IntKind.bits]; omega
  have hw2 : IntKind.u64.wrap (l : Int) = (l : Int) := by simp [IntKind.wrap, IntKind.signed, IntKind.bits]; omega
  have hw3 : IntKind.i64.wrap (x : Int) = (x : Int) := IntWalk.i64_in _ (by omega)
  have hw4 : IntKind.i64.wrap (y : Int) = (y : Int) := IntWalk.i64_in _ (by omega)
  have hw5 : IntKind.i64.wrap (12 + (x : Int)) = 12 + (x : Int) := IntWalk.i64_in _ (by omega)
  have hw6 : IntKind.i64.wrap (12 + (x : Int) + (y : Int)) = 12 + (x : Int) + (y : Int) := IntWalk.i64_in _ (by omega)
  clear h0 hx hy hl hd
  go_enter Tryz.func132, Tryz.ntmps132
  go_upto_region 3 with (fail)
  obtain ⟨W, hW⟩ : ∃ W, (w.alloc (.cells #[.int .i64 9, .int .i64 12, .int .i64 1, .int .i64 1] 152)).alloc (.cells #[.int .i64 (l : Int), .int .i64 (d : Int), .int .u8 (b : Int)] 97) = W := ⟨_, rfl⟩
  have hp : W.heap[w.heap.size + 1]? = some (.cells #[.int .i64 (l : Int), .int .i64 (d : Int), .int .u8 (b : Int)] 97 (0, 0)) := by
   rw [← hW]; have := heap_alloc_new (w.alloc (.cells #[.int .i64 9, .int .i64 12, .int .i64 1, .int .i64 1] 152)) (.cells #[.int .i64 (l : Int), .int .i64 (d : Int), .int .u8 (b : Int)] 97)
   rw [World.size_alloc] at this; exact this
  have hc : W.heap[w.heap.size]? = some (.cells #[.int .i64 9, .int .i64 12, .int .i64 1, .int .i64 1] 152 (0, 0)) := by
   rw [← hW]; exact (Below.heap_alloc _ _ _ (by rw [World.size_alloc]; omega)).trans (heap_alloc_new _ _)
  rw [hW] at HB ⊢
  have p0 : W.cell? ⟨w.heap.size + 1, 0, none⟩ = some (.int .i64 (l : Int)) := by rw [cell_of_row W _ 0 _ _ _ hp]; rfl
  have p1 : W.cell? ⟨w.heap.size + 1, 1, none⟩ = some (.int .i64 (d : Int)) := by rw [cell_of_row W _ 1 _ _ _ hp]; rfl
  have q1 : W.cell? ⟨w.heap.size, 1, none⟩ = some (.int .i64 12) := by rw [cell_of_row W _ 1 _ _ _ hc]; rfl
  have q2 : W.cell? ⟨w.heap.size, 2, none⟩ = some (.int .i64 1) := by rw [cell_of_row W _ 2 _ _ _ hc]; rfl
  have q3 : W.cell? ⟨w.heap.size, 3, none⟩ = some (.int .i64 1) := by rw [cell_of_row W _ 3 _ _ _ hc]; rfl
  clear hW hp hc
  go_quiet (first | (go_at_call 100; first | refine qeq2 (HLd.out _) | refine qeq2 (HLl.out _)))
  go_wp2_with fail
  go_ret
  rw [HE.out]
  exact ⟨by congr 2, below_drewN HB.out _⟩
theorem vwin_walk (w : World) : Calls Tryz.prog 130 #[.int .i64 4096] w fun e w' => e = .returned (.bool true) ∧ Below w.heap.size w w' := by
 go_enter Tryz.func130, Tryz.ntmps130
 go_wp2_with fail
 go_ret
 exact ⟨rfl, .refl _ _⟩
set_option maxRecDepth 100000 in
set_option maxHeartbeats 1000000 in
theorem vcost_walk (w : World) : Calls Tryz.prog 129 #[costV] w fun e w' => e = .returned (.bool true) ∧ Below w.heap.size w w' := by
 unfold costV
 have hb : Below w.heap.size w ((w.alloc (.cells #[.int .i64 9, .int .i64 12, .int .i64 1, .int .i64 1] 152)).alloc (.cells #[.int .i64 9, .int .i64 12, .int .i64 1, .int .i64 1] 3)) := ((Below.refl _ _).alloc (Nat.le_refl _) _).alloc (by simp) _
 have HB := Lib.hid hb
 clear hb
 go_enter Tryz.func129, Tryz.ntmps129
 go_wp2_with fail
 obtain ⟨W, hW⟩ : ∃ W, (w.alloc (.cells #[.int .i64 9, .int .i64 12, .int .i64 1, .int .i64 1] 152)).alloc (.cells #[.int .i64 9, .int .i64 12, .int .i64 1, .int .i64 1] 3) = W := ⟨_, rfl⟩
 have hp : W.heap[w.heap.size + 1]? = some (.cells #[.int .i64 9, .int .i64 12, .int .i64 1, .int .i64 1] 3 (0, 0)) := by
  rw [← hW]; have := heap_alloc_new (w.alloc (.cells #[.int .i64 9, .int .i64 12, .int .i64 1, .int .i64 1] 152)) (.cells #[.int .i64 9, .int .i64 12, .int .i64 1, .int .i64 1] 3)
  rw [World.size_alloc] at this; exact this
 rw [hW] at HB ⊢
 have p0 : W.cell? ⟨w.heap.size + 1, 0, none⟩ = some (.int .i64 9) := by rw [cell_of_row W _ 0 _ _ _ hp]; rfl
 have p1 : W.cell? ⟨w.heap.size + 1, 1, none⟩ = some (.int .i64 12) := by rw [cell_of_row W _ 1 _ _ _ hp]; rfl
 have p2 : W.cell? ⟨w.heap.size + 1, 2, none⟩ = some (.int .i64 1) := by rw [cell_of_row W _ 2 _ _ _ hp]; rfl
 have p3 : W.cell? ⟨w.heap.size + 1, 3, none⟩ = some (.int .i64 1) := by rw [cell_of_row W _ 3 _ _ _ hp]; rfl
 have HP0 := Lib.hid p0
 have HP1 := Lib.hid p1
 have HP2 := Lib.hid p2
 have HP3 := Lib.hid p3
 clear hW hp p0 p1 p2 p3
 go_loopw [15] (fun i wr => (∃ k : Nat, i = .int .i64 (k : Int) ∧ k ≤ 4) ∧ wr = W) (fun i _ => (4 - intOf i).toNat)
 case atStart => exact ⟨⟨0, rfl, by decide⟩, rfl⟩
 case round =>
  obtain ⟨⟨k, rfl, hk⟩, rfl⟩ := hrel
  by_cases hlt : k < 4
  ·have hki : (k : Int) < 4 := by omega
   obtain ⟨c, hc0, hc1, hck⟩ : ∃ c : Int, ¬ c < 0 ∧ ¬ 1000 < c ∧ wr.cell? ⟨w.heap.size + 1, k, none⟩ = some (.int .i64 c) := by
    rcases (by omega : k = 0 ∨ k = 1 ∨ k = 2 ∨ k = 3) with rfl | rfl | rfl | rfl
    ·exact ⟨9, by decide, by decide, HP0.out⟩
    ·exact ⟨12, by decide, by decide, HP1.out⟩
    ·exact ⟨1, by decide, by decide, HP2.out⟩
    ·exact ⟨1, by decide, by decide, HP3.out⟩
   go_wp2_with fail
   go_roundw
   case rel => exact ⟨⟨k + 1, by go_num, by omega⟩, by first | rfl | trivial⟩
   case measure => simp [intOf]; omega
  ·obtain rfl : k = 4 := by omega
   go_wp2_with fail
   go_ret
   exact ⟨rfl, HB.out⟩
end Go.Proofs.YtlmjefjimoghcaaGreat
