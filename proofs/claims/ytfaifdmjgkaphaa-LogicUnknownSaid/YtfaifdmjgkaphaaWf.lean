import Derived.Test.YtfaifdmjgkaphaaWe
import Derived.OpenShut
namespace Go.Proofs.Ytfaifdmjgkaphaa
open Go.RowKit

theorem kn_cases (c : Nat) : (c = 48 ∧ kn c = 0) ∨ (c = 49 ∧ kn c = 1) ∨ (c = 122 ∧ kn c = 3) ∨ (c ≠ 48 ∧ c ≠ 49 ∧ c ≠ 122 ∧ kn c = 2) := by
  unfold kn; (repeat' split) <;> omega
theorem pNot_eq (c : Nat) : pNot c = rNot c := by
  unfold pNot rNot
  rcases kn_cases c with ⟨h, hk⟩ | ⟨h, hk⟩ | ⟨h, hk⟩ | ⟨h1, h2, h3, hk⟩ <;> simp_all
theorem pInv_eq (c : Nat) : pInv c = rInv c := by
  unfold pInv rInv rNot
  rcases kn_cases c with ⟨h, hk⟩ | ⟨h, hk⟩ | ⟨h, hk⟩ | ⟨h1, h2, h3, hk⟩ <;> simp_all
theorem pAnd_eq (a b : Nat) : pOp 0 a b = rAnd a b := by
  unfold pOp tv tab rAnd
  rcases kn_cases a with ⟨h, hk⟩ | ⟨h, hk⟩ | ⟨h, hk⟩ | ⟨h1, h2, h3, hk⟩ <;> rcases kn_cases b with ⟨g, gk⟩ | ⟨g, gk⟩ | ⟨g, gk⟩ | ⟨g1, g2, g3, gk⟩ <;> simp_all [t0]
theorem pOr_eq (a b : Nat) : pOp 1 a b = rOr a b := by
  unfold pOp tv tab rOr
  rcases kn_cases a with ⟨h, hk⟩ | ⟨h, hk⟩ | ⟨h, hk⟩ | ⟨h1, h2, h3, hk⟩ <;> rcases kn_cases b with ⟨g, gk⟩ | ⟨g, gk⟩ | ⟨g, gk⟩ | ⟨g1, g2, g3, gk⟩ <;> simp_all [t1]
theorem pXor_eq (a b : Nat) : pOp 2 a b = rXor a b := by
  unfold pOp tv tab rXor
  rcases kn_cases a with ⟨h, hk⟩ | ⟨h, hk⟩ | ⟨h, hk⟩ | ⟨h1, h2, h3, hk⟩ <;> rcases kn_cases b with ⟨g, gk⟩ | ⟨g, gk⟩ | ⟨g, gk⟩ | ⟨g1, g2, g3, gk⟩ <;> simp_all [t2]
theorem kn_val (a : Nat) : rVal a = if kn a = 0 then 48 else if kn a = 1 then 49 else if kn a = 3 then 122 else 120 := by
  unfold rVal
  rcases kn_cases a with ⟨h, hk⟩ | ⟨h, hk⟩ | ⟨h, hk⟩ | ⟨h1, h2, h3, hk⟩
  · simp_all
  · simp_all
  · simp_all
  · rw [hk]; simp; omega
theorem pRes_eq (a b : Nat) : pOp 3 a b = rRes a b := by
  unfold pOp tv tab rRes
  rw [kn_val a, kn_val b]
  have ha := kn_lt a
  have hb := kn_lt b
  rcases (by omega : kn a = 0 ∨ kn a = 1 ∨ kn a = 2 ∨ kn a = 3) with h | h | h | h <;> rcases (by omega : kn b = 0 ∨ kn b = 1 ∨ kn b = 2 ∨ kn b = 3) with g | g | g | g <;> simp [h, g, t3]

theorem and_at (a b r : Nat) (ha : a < 256) (hb : b < 256) (hr : pOp 0 a b = r) (w : World) : Calls Try.prog 11 #[.int .u8 a, .int .u8 b] w fun e w' => e = .returned (.int .u8 r) ∧ Below w.heap.size w w' := by
  subst hr; exact and_walk a b ha hb w
theorem or_at (a b r : Nat) (ha : a < 256) (hb : b < 256) (hr : pOp 1 a b = r) (w : World) : Calls Try.prog 12 #[.int .u8 a, .int .u8 b] w fun e w' => e = .returned (.int .u8 r) ∧ Below w.heap.size w w' := by
  subst hr; exact or_walk a b ha hb w
theorem xor_at (a b r : Nat) (ha : a < 256) (hb : b < 256) (hr : pOp 2 a b = r) (w : World) : Calls Try.prog 13 #[.int .u8 a, .int .u8 b] w fun e w' => e = .returned (.int .u8 r) ∧ Below w.heap.size w w' := by
  subst hr; exact xor_walk a b ha hb w
theorem res_at (a b r : Nat) (ha : a < 256) (hb : b < 256) (hr : pOp 3 a b = r) (w : World) : Calls Try.prog 24 #[.int .u8 a, .int .u8 b] w fun e w' => e = .returned (.int .u8 r) ∧ Below w.heap.size w w' := by
  subst hr; exact res_walk a b ha hb w
theorem resAll_at (s : ByteArray) (r : Nat) (hs : s.size ≤ maxLen) (hr : resAll s.data.toList = r) (w : World) : Calls Try.prog 16 #[.string s] w fun e w' => e = .returned (.int .u8 r) ∧ Below w.heap.size w w' := by
  subst hr; exact resAll_walk s hs w

theorem awake_walk (w : World) : Calls Try.prog 10 #[] w fun e w' => e = .returned (.bool true) ∧ Below w.heap.size w w' := by
  go_enter Try.func10, Try.ntmps10
  go_wp2_with (go_at_call 11; refine (and_at 48 120 48 (by decide) (by decide) (by decide) _).mono ?_; rintro e w1 ⟨rfl, hb1⟩)
  go_wp2_with (go_at_call 12; refine (or_at 122 49 49 (by decide) (by decide) (by decide) _).mono ?_; rintro e w2 ⟨rfl, hb2⟩)
  go_wp2_with (go_at_call 13; refine (xor_at 49 120 120 (by decide) (by decide) (by decide) _).mono ?_; rintro e w3 ⟨rfl, hb3⟩)
  refine (resAll_at ⟨#[122, 49, 122]⟩ 49 (by decide) (by decide) _).mono ?_; rintro e w4 ⟨rfl, hb4⟩
  go_wp2_with fail
  refine (resAll_at ⟨#[48, 49, 122]⟩ 120 (by decide) (by decide) _).mono ?_; rintro e w5 ⟨rfl, hb5⟩
  go_wp2_with fail
  refine (resAll_at ⟨#[]⟩ 122 (by decide) (by decide) _).mono ?_; rintro e w6 ⟨rfl, hb6⟩
  go_wp2
  go_ret
  exact ⟨rfl, hb1.trans ((hb2.mono hb1.size).trans ((hb3.mono (Nat.le_trans hb1.size hb2.size)).trans ((hb4.mono (Nat.le_trans (Nat.le_trans hb1.size hb2.size) hb3.size)).trans
    ((hb5.mono (Nat.le_trans (Nat.le_trans (Nat.le_trans hb1.size hb2.size) hb3.size) hb4.size)).trans (hb6.mono (Nat.le_trans (Nat.le_trans (Nat.le_trans (Nat.le_trans hb1.size hb2.size) hb3.size) hb4.size) hb5.size))))))⟩

theorem bstep {B : Nat} {a b c : World} (h : Below B a b) (hB : B ≤ a.heap.size) (k : Below b.heap.size b c) : Below B a c := h.trans (k.mono (Nat.le_trans hB h.size))

theorem not_at (c : Nat) (hc : c < 256) (w : World) : Calls Try.prog 17 #[.int .u8 c] w fun e w' => e = .returned (.int .u8 (rNot c)) ∧ w = w' := by
  rw [← pNot_eq]; exact not_walk c hc w
theorem inv_at (c : Nat) (hc : c < 256) (w : World) : Calls Try.prog 22 #[.int .u8 c] w fun e w' => e = .returned (.int .u8 (rInv c)) ∧ w = w' := by
  rw [← pInv_eq]; exact inv_walk c hc w

/-- LogicTables. -/
theorem tables_law (a b : Nat) (ha : a < 256) (hb : b < 256) (w : World) : Calls Try.prog 5 #[.int .u8 a, .int .u8 b] w fun e w' => e = .returned (.bool true) ∧ Below w.heap.size w w' := by
  go_enter Try.func5, Try.ntmps5
  go_wp2_with (first
    | (go_at_call 10; refine (awake_walk _).mono ?_; rintro e w0 ⟨rfl, hb0⟩)
    | (go_at_call 17; refine (not_at _ ha _).mono ?_; rintro e _ ⟨rfl, rfl⟩)
    | (go_at_call 18; refine (rnot_walk _ _).mono ?_; rintro e _ ⟨rfl, rfl⟩)
    | (go_at_call 11; refine (and_at _ _ _ ha hb (pAnd_eq _ _) _).mono ?_; rintro e w1 ⟨rfl, hb1⟩)
    | (go_at_call 19; refine (rand_walk _ _ _).mono ?_; rintro e _ ⟨rfl, rfl⟩)
    | (go_at_call 12; refine (or_at _ _ _ ha hb (pOr_eq _ _) _).mono ?_; rintro e w2 ⟨rfl, hb2⟩)
    | (go_at_call 20; refine (ror_walk _ _ _).mono ?_; rintro e _ ⟨rfl, rfl⟩)
    | (go_at_call 13; refine (xor_at _ _ _ ha hb (pXor_eq _ _) _).mono ?_; rintro e w3 ⟨rfl, hb3⟩)
    | (go_at_call 21; refine (rxor_walk _ _ _).mono ?_; rintro e _ ⟨rfl, rfl⟩)
    | (go_at_call 22; refine (inv_at _ ha _).mono ?_; rintro e _ ⟨rfl, rfl⟩)
    | (go_at_call 23; refine (rinv_walk _ _).mono ?_; rintro e _ ⟨rfl, rfl⟩)
    | (go_at_call 24; refine (res_at _ _ _ ha hb (pRes_eq _ _) _).mono ?_; rintro e w4 ⟨rfl, hb4⟩)
    | (go_at_call 25; refine (rres_walk _ _ _).mono ?_; rintro e _ ⟨rfl, rfl⟩))
  go_ret
  refine ⟨rfl, ?_⟩
  exact bstep (bstep (bstep (bstep hb0 (Nat.le_refl _) hb1) (Nat.le_refl _) hb2) (Nat.le_refl _) hb3) (Nat.le_refl _) hb4
/-- a byte that came in -/
theorem u8_nat {a : Int} (h : (Lit.int .u8 a).wf = true) : ∃ n : Nat, a = n ∧ n < 256 := by
  have := bounds_u8 h
  exact ⟨a.toNat, by omega, by omega⟩
theorem tables_in (a : Int) (ha : (Lit.int .u8 a).wf = true) (b : Int) (hb : (Lit.int .u8 b).wf = true) (w : World) : Calls Try.prog 5 #[.int .u8 a, .int .u8 b] w fun e w' => e = .returned (.bool true) ∧ Below w.heap.size w w' := by
  obtain ⟨m, rfl, hm⟩ := u8_nat ha
  obtain ⟨n, rfl, hn⟩ := u8_nat hb
  exact tables_law m n hm hn w
end Go.Proofs.Ytfaifdmjgkaphaa
