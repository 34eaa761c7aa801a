import Derived.Test.YtonkamdipalbpaaWa
import Derived.Test.YtonkamdipalbpaaPb
namespace Go.Proofs.Ytonkamdipalbpaa
open Go.RowKit
attribute [local go_sem ↓] Go.wp_at_zero Go.wp_at_succ

theorem quiet_eq {P : Program} {f : FuncId} {args : Array Value} {w : World} {n : Nat} {v : Value}
    (h : Calls P f args (w.drewN n) fun e w' => e = .returned v ∧ w.drewN n = w') : Calls P f args (w.drewN n) fun e w'' => e = .returned v ∧ ∃ m, w'' = w.drewN m :=
  h.mono fun _ _ ⟨he, hm⟩ => ⟨he, n, hm.symm⟩
theorem sectors_walk (l : Int) (h : 1 ≤ l) (h2 : l ≤ 16384) (w : World) : Calls Try.prog 29 #[.int .i64 l] w fun e w' => e = .returned (.int .i64 ((l - 1) / 64 + 1)) ∧ w = w' := by
  go_enter Try.func29, Try.ntmps29
  go_wp2_with fail
  go_ret
  exact ⟨rfl, rfl⟩
theorem rsectors_walk (l : Int) (h : 1 ≤ l) (h2 : l ≤ 16384) (w : World) : Calls Try.prog 33 #[.int .i64 l] w fun e w' => e = .returned (.int .i64 ((l - 1) / 64 + 1)) ∧ w = w' := by
  go_enter Try.func33, Try.ntmps33
  go_wp2_with fail
  go_ret
  exact ⟨rfl, rfl⟩
theorem places_lt (n : Int) (h : n < 1) (w : World) : Calls Try.prog 14 #[.int .i64 n] w fun e w' => e = .returned (.tuple #[.int .i64 0, .int .i64 0]) ∧ w = w' := by
  go_enter Try.func14, Try.ntmps14
  go_wp2_with fail
  go_ret2
  exact ⟨rfl, rfl⟩
theorem places_ge (n : Int) (h : 1 ≤ n) (w : World) : Calls Try.prog 14 #[.int .i64 n] w fun e w' => e = .returned (.tuple #[.int .i64 (n % 2), .int .i64 (2 + n % 2)]) ∧ w = w' := by
  go_enter Try.func14, Try.ntmps14
  go_wp2_with fail
  go_ret2
  exact ⟨rfl, rfl⟩
theorem below_drewN {B : Nat} {a w : World} (h : Below B a w) (n : Nat) : Below B a (w.drewN n) := ⟨h.os, h.tape, h.output, h.size, h.block⟩
set_option maxRecDepth 100000 in
set_option maxHeartbeats 1000000 in
theorem valid_0 (n s l c : Int) (h0 : decide (1 ≤ n) = false) (w : World) : Calls Try.prog 19 #[.agg #[.int .i64 n, .int .i64 s, .int .i64 l, .int .i64 c]] w fun e w' => e = .returned (.bool false) ∧ Below w.heap.size w w' := by
  go_enter Try.func19, Try.ntmps19
  go_wp2_with fail
  go_quiet (fail)
  go_wp2_with fail
  go_ret
  exact ⟨rfl, below_drewN (((Below.refl _ _).alloc (Nat.le_refl _) _).alloc (by simp) _) _⟩
set_option maxRecDepth 100000 in
set_option maxHeartbeats 1000000 in
theorem valid_1 (n s l c : Int) (h0 : decide (1 ≤ n) = true) (h1 : decide (n ≤ 1099511627776) = false) (w : World) : Calls Try.prog 19 #[.agg #[.int .i64 n, .int .i64 s, .int .i64 l, .int .i64 c]] w fun e w' => e = .returned (.bool false) ∧ Below w.heap.size w w' := by
  go_enter Try.func19, Try.ntmps19
  go_wp2_with fail
  go_quiet (fail)
  go_wp2_with fail
  go_ret
  exact ⟨rfl, below_drewN (((Below.refl _ _).alloc (Nat.le_refl _) _).alloc (by simp) _) _⟩
set_option maxRecDepth 100000 in
set_option maxHeartbeats 1000000 in
theorem valid_2 (n s l c : Int) (h0 : decide (1 ≤ n) = true) (h1 : decide (n ≤ 1099511627776) = true) (h2 : decide (1 ≤ l) = false) (w : World) : Calls Try.prog 19 #[.agg #[.int .i64 n, .int .i64 s, .int .i64 l, .int .i64 c]] w fun e w' => e = .returned (.bool false) ∧ Below w.heap.size w w' := by
  go_enter Try.func19, Try.ntmps19
  go_wp2_with fail
  go_quiet (fail)
  go_wp2_with fail
  go_ret
  exact ⟨rfl, below_drewN (((Below.refl _ _).alloc (Nat.le_refl _) _).alloc (by simp) _) _⟩
set_option maxRecDepth 100000 in
set_option maxHeartbeats 1000000 in
theorem valid_3 (n s l c : Int) (h0 : decide (1 ≤ n) = true) (h1 : decide (n ≤ 1099511627776) = true) (h2 : decide (1 ≤ l) = true) (h3 : decide (l ≤ 16384) = false) (w : World) : Calls Try.prog 19 #[.agg #[.int .i64 n, .int .i64 s, .int .i64 l, .int .i64 c]] w fun e w' => e = .returned (.bool false) ∧ Below w.heap.size w w' := by
  go_enter Try.func19, Try.ntmps19
  go_wp2_with fail
  go_quiet (fail)
  go_wp2_with fail
  go_ret
  exact ⟨rfl, below_drewN (((Below.refl _ _).alloc (Nat.le_refl _) _).alloc (by simp) _) _⟩
set_option maxRecDepth 100000 in
set_option maxHeartbeats 1000000 in
theorem valid_4 (n s l c : Int) (h0 : decide (1 ≤ n) = true) (h1 : decide (n ≤ 1099511627776) = true) (h2 : decide (1 ≤ l) = true) (h3 : decide (l ≤ 16384) = true) (h4 : decide (0 ≤ c) = false) (w : World) : Calls Try.prog 19 #[.agg #[.int .i64 n, .int .i64 s, .int .i64 l, .int .i64 c]] w fun e w' => e = .returned (.bool false) ∧ Below w.heap.size w w' := by
  go_enter Try.func19, Try.ntmps19
  go_wp2_with fail
  go_quiet (fail)
  go_wp2_with fail
  go_ret
  exact ⟨rfl, below_drewN (((Below.refl _ _).alloc (Nat.le_refl _) _).alloc (by simp) _) _⟩
set_option maxRecDepth 100000 in
set_option maxHeartbeats 1000000 in
theorem valid_5 (n s l c : Int) (h0 : decide (1 ≤ n) = true) (h1 : decide (n ≤ 1099511627776) = true) (h2 : decide (1 ≤ l) = true) (h3 : decide (l ≤ 16384) = true) (h4 : decide (0 ≤ c) = true) (h5 : decide (c < 4294967296) = false) (w : World) : Calls Try.prog 19 #[.agg #[.int .i64 n, .int .i64 s, .int .i64 l, .int .i64 c]] w fun e w' => e = .returned (.bool false) ∧ Below w.heap.size w w' := by
  go_enter Try.func19, Try.ntmps19
  go_wp2_with fail
  go_quiet (fail)
  go_wp2_with fail
  go_ret
  exact ⟨rfl, below_drewN (((Below.refl _ _).alloc (Nat.le_refl _) _).alloc (by simp) _) _⟩
set_option maxRecDepth 100000 in
set_option maxHeartbeats 1000000 in
theorem valid_6 (n s l c : Int) (h0 : decide (1 ≤ n) = true) (h1 : decide (n ≤ 1099511627776) = true) (h2 : decide (1 ≤ l) = true) (h3 : decide (l ≤ 16384) = true) (h4 : decide (0 ≤ c) = true) (h5 : decide (c < 4294967296) = true) (h6 : decide (4 ≤ s) = false) (w : World) : Calls Try.prog 19 #[.agg #[.int .i64 n, .int .i64 s, .int .i64 l, .int .i64 c]] w fun e w' => e = .returned (.bool false) ∧ Below w.heap.size w w' := by
  go_enter Try.func19, Try.ntmps19
  go_wp2_with fail
  go_quiet (fail)
  go_wp2_with fail
  go_ret
  exact ⟨rfl, below_drewN (((Below.refl _ _).alloc (Nat.le_refl _) _).alloc (by simp) _) _⟩
set_option maxRecDepth 100000 in
set_option maxHeartbeats 1000000 in
theorem valid_7 (n s l c : Int) (h0 : decide (1 ≤ n) = true) (h1 : decide (n ≤ 1099511627776) = true) (h2 : decide (1 ≤ l) = true) (h3 : decide (l ≤ 16384) = true) (h4 : decide (0 ≤ c) = true) (h5 : decide (c < 4294967296) = true) (h6 : decide (4 ≤ s) = true) (h7 : decide (s < 1024) = false) (w : World) : Calls Try.prog 19 #[.agg #[.int .i64 n, .int .i64 s, .int .i64 l, .int .i64 c]] w fun e w' => e = .returned (.bool false) ∧ Below w.heap.size w w' := by
  go_enter Try.func19, Try.ntmps19
  go_wp2_with fail
  go_quiet (fail)
  go_wp2_with fail
  go_ret
  exact ⟨rfl, below_drewN (((Below.refl _ _).alloc (Nat.le_refl _) _).alloc (by simp) _) _⟩
set_option maxRecDepth 100000 in
set_option maxHeartbeats 1000000 in
theorem valid_8 (n s l c : Int) (h0 : decide (1 ≤ n) = true) (h1 : decide (n ≤ 1099511627776) = true) (h2 : decide (1 ≤ l) = true) (h3 : decide (l ≤ 16384) = true) (h4 : decide (0 ≤ c) = true) (h5 : decide (c < 4294967296) = true) (h6 : decide (4 ≤ s) = true) (h7 : decide (s < 1024) = true) (h8 : decide ((l - 1) / 64 + 1 ≤ 1024 - s) = false) (w : World) : Calls Try.prog 19 #[.agg #[.int .i64 n, .int .i64 s, .int .i64 l, .int .i64 c]] w fun e w' => e = .returned (.bool false) ∧ Below w.heap.size w w' := by
  have HS : Hid (∀ w, Calls Try.prog 29 #[.int .i64 l] w fun e w' => e = .returned (.int .i64 ((l - 1) / 64 + 1)) ∧ w = w') := Lib.hid (sectors_walk l (of_decide_eq_true h2) (of_decide_eq_true h3))
  have hw1 : IntKind.i64.wrap (1024 - s) = 1024 - s := IntWalk.i64_in _ (by have := of_decide_eq_true h6; have := of_decide_eq_true h7; omega)
  go_enter Try.func19, Try.ntmps19
  go_wp2_with fail
  go_quiet ((go_at_call 29; exact quiet_eq (HS.out _)))
  go_wp2_with fail
  go_ret
  exact ⟨rfl, below_drewN (((Below.refl _ _).alloc (Nat.le_refl _) _).alloc (by simp) _) _⟩
set_option maxRecDepth 100000 in
set_option maxHeartbeats 1000000 in
theorem valid_9 (n s l c : Int) (h0 : decide (1 ≤ n) = true) (h1 : decide (n ≤ 1099511627776) = true) (h2 : decide (1 ≤ l) = true) (h3 : decide (l ≤ 16384) = true) (h4 : decide (0 ≤ c) = true) (h5 : decide (c < 4294967296) = true) (h6 : decide (4 ≤ s) = true) (h7 : decide (s < 1024) = true) (h8 : decide ((l - 1) / 64 + 1 ≤ 1024 - s) = true) (w : World) : Calls Try.prog 19 #[.agg #[.int .i64 n, .int .i64 s, .int .i64 l, .int .i64 c]] w fun e w' => e = .returned (.bool true) ∧ Below w.heap.size w w' := by
  have HS : Hid (∀ w, Calls Try.prog 29 #[.int .i64 l] w fun e w' => e = .returned (.int .i64 ((l - 1) / 64 + 1)) ∧ w = w') := Lib.hid (sectors_walk l (of_decide_eq_true h2) (of_decide_eq_true h3))
  have hw1 : IntKind.i64.wrap (1024 - s) = 1024 - s := IntWalk.i64_in _ (by have := of_decide_eq_true h6; have := of_decide_eq_true h7; omega)
  go_enter Try.func19, Try.ntmps19
  go_wp2_with fail
  go_quiet ((go_at_call 29; exact quiet_eq (HS.out _)))
  go_wp2_with fail
  go_ret
  exact ⟨rfl, below_drewN (((Below.refl _ _).alloc (Nat.le_refl _) _).alloc (by simp) _) _⟩
theorem valid_walk (n s l c : Int) (b : Bool) (hb : validI n s l c = b) (w : World) : Calls Try.prog 19 #[.agg #[.int .i64 n, .int .i64 s, .int .i64 l, .int .i64 c]] w fun e w' => e = .returned (.bool b) ∧ Below w.heap.size w w' := by
  rcases hd0 : decide (1 ≤ n) with _ | _
  · obtain rfl : b = false := by rw [← hb]; unfold validI; apply decide_eq_false; intro h; obtain ⟨h0, h1, h2, h3, h4, h5, h6, h7, h8⟩ := h; exact absurd h0 (of_decide_eq_false hd0)
    exact valid_0 n s l c hd0 w
  rcases hd1 : decide (n ≤ 1099511627776) with _ | _
  · obtain rfl : b = false := by rw [← hb]; unfold validI; apply decide_eq_false; intro h; obtain ⟨h0, h1, h2, h3, h4, h5, h6, h7, h8⟩ := h; exact absurd h1 (of_decide_eq_false hd1)
    exact valid_1 n s l c hd0 hd1 w
  rcases hd2 : decide (1 ≤ l) with _ | _
  · obtain rfl : b = false := by rw [← hb]; unfold validI; apply decide_eq_false; intro h; obtain ⟨h0, h1, h2, h3, h4, h5, h6, h7, h8⟩ := h; exact absurd h2 (of_decide_eq_false hd2)
    exact valid_2 n s l c hd0 hd1 hd2 w
  rcases hd3 : decide (l ≤ 16384) with _ | _
  · obtain rfl : b = false := by rw [← hb]; unfold validI; apply decide_eq_false; intro h; obtain ⟨h0, h1, h2, h3, h4, h5, h6, h7, h8⟩ := h; exact absurd h3 (of_decide_eq_false hd3)
    exact valid_3 n s l c hd0 hd1 hd2 hd3 w
  rcases hd4 : decide (0 ≤ c) with _ | _
  · obtain rfl : b = false := by rw [← hb]; unfold validI; apply decide_eq_false; intro h; obtain ⟨h0, h1, h2, h3, h4, h5, h6, h7, h8⟩ := h; exact absurd h4 (of_decide_eq_false hd4)
    exact valid_4 n s l c hd0 hd1 hd2 hd3 hd4 w
  rcases hd5 : decide (c < 4294967296) with _ | _
  · obtain rfl : b = false := by rw [← hb]; unfold validI; apply decide_eq_false; intro h; obtain ⟨h0, h1, h2, h3, h4, h5, h6, h7, h8⟩ := h; exact absurd h5 (of_decide_eq_false hd5)
    exact valid_5 n s l c hd0 hd1 hd2 hd3 hd4 hd5 w
  rcases hd6 : decide (4 ≤ s) with _ | _
  · obtain rfl : b = false := by rw [← hb]; unfold validI; apply decide_eq_false; intro h; obtain ⟨h0, h1, h2, h3, h4, h5, h6, h7, h8⟩ := h; exact absurd h6 (of_decide_eq_false hd6)
    exact valid_6 n s l c hd0 hd1 hd2 hd3 hd4 hd5 hd6 w
  rcases hd7 : decide (s < 1024) with _ | _
  · obtain rfl : b = false := by rw [← hb]; unfold validI; apply decide_eq_false; intro h; obtain ⟨h0, h1, h2, h3, h4, h5, h6, h7, h8⟩ := h; exact absurd h7 (of_decide_eq_false hd7)
    exact valid_7 n s l c hd0 hd1 hd2 hd3 hd4 hd5 hd6 hd7 w
  rcases hd8 : decide ((l - 1) / 64 + 1 ≤ 1024 - s) with _ | _
  · obtain rfl : b = false := by rw [← hb]; unfold validI; apply decide_eq_false; intro h; obtain ⟨h0, h1, h2, h3, h4, h5, h6, h7, h8⟩ := h; exact absurd h8 (of_decide_eq_false hd8)
    exact valid_8 n s l c hd0 hd1 hd2 hd3 hd4 hd5 hd6 hd7 hd8 w
  obtain rfl : b = true := by rw [← hb]; unfold validI; apply decide_eq_true; exact ⟨of_decide_eq_true hd0, of_decide_eq_true hd1, of_decide_eq_true hd2, of_decide_eq_true hd3, of_decide_eq_true hd4, of_decide_eq_true hd5, of_decide_eq_true hd6, of_decide_eq_true hd7, of_decide_eq_true hd8⟩
  exact valid_9 n s l c hd0 hd1 hd2 hd3 hd4 hd5 hd6 hd7 hd8 w
end Go.Proofs.Ytonkamdipalbpaa
