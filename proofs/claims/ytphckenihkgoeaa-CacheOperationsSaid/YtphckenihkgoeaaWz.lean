import Derived.Test.YtphckenihkgoeaaWy
namespace Go.Proofs.Ytphckenihkgoeaa
set_option linter.unusedSimpArgs false
set_option linter.unnecessarySimpa false
set_option linter.unusedVariables false
open Go.RowKit Go.ChangeShapes Go.WideShapes Go.ChangeAt
attribute [local go_sem ↓] Go.wp_at_zero Go.wp_at_succ

theorem rs_new (w : World) (n : Int) : RS w (fun _ => False) ⟨n, [], 0, 0⟩ (rcv n (.slice none 0 0) 0 0) := ⟨none, 0, [], rfl, ⟨flat_nil _ _ _, fun r hr => by cases hr⟩, rfl⟩
theorem new_law (w : World) (n : Int) : Calls Try.prog 5 #[.int .i64 n] w fun e w' => e = .returned (.bool true) ∧ Below w.heap.size w w' := by
  by_cases h0 : n < 0
  · have HN := Lib.hid fun W => new_bad W n (.inl h0)
    go_enter Try.func5, Try.ntmps5
    go_wp2_with fail
    refine (awake_walk _).mono ?_; rintro e w1 ⟨rfl, hb1⟩
    go_wp2_with fail
    refine (HN.out _).mono ?_; rintro e _ ⟨rfl, rfl⟩
    go_wp2_with fail
    go_ret
    exact ⟨rfl, hb1⟩
  · by_cases h1 : 1073741824 < n
    · have HN := Lib.hid fun W => new_bad W n (.inr h1)
      go_enter Try.func5, Try.ntmps5
      go_wp2_with fail
      refine (awake_walk _).mono ?_; rintro e w1 ⟨rfl, hb1⟩
      go_wp2_with fail
      refine (HN.out _).mono ?_; rintro e _ ⟨rfl, rfl⟩
      go_wp2_with fail
      go_ret
      exact ⟨rfl, hb1⟩
    · go_enter Try.func5, Try.ntmps5
      go_wp2_with fail
      refine (awake_walk _).mono ?_; rintro e w1 ⟨rfl, hb1⟩
      have B1 := Lib.hid hb1
      clear hb1
      go_wp2_with fail
      refine (new_c w1 n (by omega) (by omega)).mono ?_
      rintro e w2 ⟨C, S0, rfl, hb2, hc2, hs2⟩
      have B2 := Lib.hid (bstep B1.out (Nat.le_refl _) hb2)
      have HS := Lib.hid (same_cache w2 hc2 (by decide) (rs_new w2 n))
      unfold rcv at HS
      clear hb2 hc2 hs2
      go_wp2_with fail
      refine (HS.out).mono ?_; rintro e w3 ⟨rfl, hb3⟩
      go_wp2_with fail
      go_ret
      exact ⟨rfl, bstep B2.out (Nat.le_refl _) hb3⟩
theorem new_in (a : Int) (_ : (Lit.int .i64 a).wf = true) (w : World) : Calls Try.prog 5 #[.int .i64 a] w fun e w' => e = .returned (.bool true) ∧ Below w.heap.size w w' := new_law w a
end Go.Proofs.Ytphckenihkgoeaa
