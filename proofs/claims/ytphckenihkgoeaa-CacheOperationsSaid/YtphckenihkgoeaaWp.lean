import Derived.Test.YtphckenihkgoeaaWo
namespace Go.Proofs.Ytphckenihkgoeaa
set_option linter.unusedSimpArgs false
set_option linter.unnecessarySimpa false
set_option linter.unusedVariables false
open Go.RowKit Go.ChangeShapes Go.WideShapes Go.ChangeAt
attribute [local go_sem ↓] Go.wp_at_zero Go.wp_at_succ

theorem weight_law (w : World) (A : Option Addr) (c : Nat) (l : List Chg) (hA : Chgs w (fun k => k < w.heap.size) A l) (hml : l.length ≤ maxLen) : Calls Try.prog 3 #[.slice A l.length c] w fun e w' => e = .returned (.bool true) ∧ Below w.heap.size w w' := by
  have hml' := hml
  unfold maxLen at hml'
  have HA := Lib.hid hA
  clear hA
  go_enter Try.func3, Try.ntmps3
  by_cases h50 : 50 < (l.length : Int)
  · go_wp2_with fail
    refine (awake_walk _).mono ?_; rintro e w1 ⟨rfl, hb1⟩
    go_wp2_with fail
    go_ret
    exact ⟨rfl, hb1⟩
  · go_wp2_with fail
    refine (awake_walk _).mono ?_; rintro e w1 ⟨rfl, hb1⟩
    have B1 := Lib.hid hb1
    have h1 := HA.out.frame (w' := w1) fun k hk _ => hb1.block k hk
    have HW := Lib.hid (weight_walk w1 _ A c l h1 hml fun k hk => Nat.lt_of_lt_of_le hk hb1.size)
    clear hb1 h1
    go_wp2_with fail
    refine (HW.out).mono ?_; rintro e w2 ⟨rfl, hb2⟩
    have h2 := (HA.out.frame (w' := w1) fun k hk _ => B1.out.block k hk).frame (w' := w2) fun k hk _ => hb2.block k (Nat.lt_of_lt_of_le hk B1.out.size)
    have HR := Lib.hid (rweight_walk w2 _ A c l h2 hml)
    have B2 := Lib.hid (B1.out.trans (hb2.mono B1.out.size))
    clear hb2 h2
    go_wp2_with fail
    refine (HR.out).mono ?_; rintro e _ ⟨rfl, rfl⟩
    go_wp2_with fail
    go_ret
    exact ⟨rfl, B2.out⟩
section
variable {H : Type} {enc : TypeId × Value → H} {w : World} {base b0 : Nat} {held : Bool}
theorem weight_in {d1 : DataW H} {p1 : List MemPlace} (v1 : Value) (h1 : DataW.Trod enc Try.prog w base (fun _ => true) held 22 v1 d1 p1) (hv1 : Value.okWide Try.prog w .any b0 22 v1) :
    Calls Try.prog 3 #[v1] w fun e w' => e = .returned (.bool true) ∧ Below w.heap.size w w' := by
  obtain ⟨A, c, l, rfl, hml, hA⟩ := open_chgs hv1 h1
  exact weight_law w A c l hA hml
end
end Go.Proofs.Ytphckenihkgoeaa
