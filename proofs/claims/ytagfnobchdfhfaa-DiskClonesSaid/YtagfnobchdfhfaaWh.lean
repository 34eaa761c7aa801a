import Derived.Test.YtagfnobchdfhfaaWg
namespace Go.Proofs.Ytagfnobchdfhfaa
set_option linter.unusedSimpArgs false
set_option linter.unnecessarySimpa false
set_option linter.unusedVariables false
open Go.RowKit
attribute [local go_sem ↓] Go.wp_at_zero Go.wp_at_succ

section
variable {S : Nat → Prop} {D : Nat} {d : DM} {w : World} {vd vb vp : Value} {dl : List Value}
/-- Sync, on its disk -/
def syncF (d : DM) : Int × DM := if (stepF d).1 = false then (11, (stepF d).2) else (0, endF { (stepF d).2 with sy := IntKind.i64.wrap ((stepF d).2.sy + 1) } fun _ => 64)
theorem sync_walk (h : DkO S D d w vd vb vp dl) (ha : d.after ≤ 9223372036854775807) (hp : d.pend.length ≤ 1000) (r : Int) (d' : DM) (hr : syncF d = (r, d')) : Calls Try.prog 15 #[.pointer (some ⟨D, 0, none⟩)] w fun e w' => e = .returned (.int .i64 r) ∧ Touch S w w' ∧ Dk S D d' w' := by
  obtain ⟨ok, d1, hst⟩ : ∃ ok d1, stepF d = (ok, d1) := ⟨_, _, rfl⟩
  obtain ⟨e1, e2, e3, e4, e5, e6⟩ := stepF_same d
  rw [hst] at e1 e2 e3 e4 e5 e6
  have H := Lib.hid h
  cases ok with
  | false =>
    have HR : Hid ((11, d1) = (r, d')) := Lib.hid (by rw [← hr]; unfold syncF; rw [hst]; rfl)
    have HE3 := Lib.hid e3
    clear h hr e1 e2 e3 e4 e5 e6
    go_enter Try.func15, Try.ntmps15
    go_wp2_with fail
    refine (step_walk H.out ha _ _ hst).mono ?_; rintro e w1 ⟨rfl, ht1, h1⟩
    go_wp2_with fail
    go_ret
    have e := HR.out
    injection e with e1 e2
    subst e1 e2
    exact ⟨rfl, ht1, _, _, _, _, h1⟩
  | true =>
    obtain ⟨x, hx⟩ : ∃ x, IntKind.i64.wrap (d1.sy + 1) = x := ⟨_, rfl⟩
    have HR : Hid ((0, endF { d1 with sy := x } fun _ => 64) = (r, d')) := Lib.hid (by rw [← hr, ← hx]; unfold syncF; rw [hst]; rfl)
    have HE3 := Lib.hid e3
    clear h hr e1 e2 e3 e4 e5 e6
    go_enter Try.func15, Try.ntmps15
    go_wp2_with fail
    refine (step_walk H.out ha _ _ hst).mono ?_; rintro e w1 ⟨rfl, ht1, h1⟩
    have x5 := h1.c5
    have xf := h1.fr
    have h2 := h1.set 5 (.int .i64 x) { d1 with sy := x } rfl rfl rfl rfl
    have H2 := Lib.hid h2
    have HT := Lib.hid ht1
    clear h1 h2 ht1
    go_wp2_with fail
    refine (end_sync H2.out (by show d1.pend.length ≤ 1000; rw [HE3.out]; exact hp)).mono ?_; rintro e w3 ⟨rfl, ht3, h3⟩
    go_wp2_with fail
    go_ret
    have e := HR.out
    injection e with e1 e2
    subst e1 e2
    exact ⟨rfl, (HT.out.setCell (.inl H.out.sD) _).trans ht3 (fun _ _ h => h), h3⟩
/-- what survives, by the numbers that came in -/
theorem survive_walk (X : Nat) (sv : List Int) (A : Option Addr) (c : Nat) (j : Nat) (h0 : w.cell? ⟨X, 0, none⟩ = some (.slice A sv.length c)) (hA : ∀ i, i < sv.length → ∃ a, A = some a ∧ w.cell? (a.add i) = some (.int .i64 (sv.getD i 0))) :
    Calls Try.prog 34 #[.int .i64 (j : Int), .pointer (some ⟨X, 0, none⟩)] w fun e w'' => e = .returned (.int .i64 (sv.getD j 0)) ∧ w = w'' := by
  by_cases hj : j < sv.length
  · obtain ⟨a, rfl, ha⟩ := hA j hj
    have hj' : (j : Int) < sv.length := by omega
    obtain ⟨x, hx⟩ : ∃ x, sv.getD j 0 = x := ⟨_, rfl⟩
    rw [hx] at ha ⊢
    clear hA hx
    go_enter Try.func34, Try.ntmps34
    go_wp2
    go_ret
    exact ⟨rfl, rfl⟩
  · have hj' : ¬ (j : Int) < sv.length := by omega
    have e : sv.getD j 0 = 0 := by rw [List.getD_eq_getElem?_getD, List.getElem?_eq_none (by omega)]; rfl
    rw [e]
    clear hA e
    go_enter Try.func34, Try.ntmps34
    go_wp2
    go_ret
    exact ⟨rfl, rfl⟩
/-- Crash, on its disk -/
def crashF (d : DM) (sv : List Int) : DM := { endF d (fun j => clampN (sv.getD j 0)) with failed := false, after := -1 }
theorem crash_walk (sv : List Int) (A : Option Addr) (c : Nat) (h : DkO S D d w vd vb vp dl) (hp : d.pend.length ≤ 1000) (hA : ∀ i, i < sv.length → ∃ a, A = some a ∧ ¬ S a.block ∧ w.cell? (a.add i) = some (.int .i64 (sv.getD i 0))) (hS : ∀ k, S k → k < w.heap.size) :
    Calls Try.prog 17 #[.pointer (some ⟨D, 0, none⟩), .slice A sv.length c] w fun e w' => e = .returned (.tuple #[]) ∧ Touch S w w' ∧ Dk S D (crashF d sv) w' := by
  have H := Lib.hid h
  have h1 : DkO S D d (w.alloc (.cells #[.slice A sv.length c] 23)) vd vb vp dl := h.frame fun k _ hlt => Below.heap_alloc _ _ k hlt
  have H1 := Lib.hid h1
  have HC : Hid (∀ w' : World, Touch S (w.alloc (.cells #[.slice A sv.length c] 23)) w' → ∀ j : Nat, Calls Try.prog 34 #[.int .i64 (j : Int), .pointer (some ⟨w.heap.size, 0, none⟩)] w' fun e w'' => e = .returned (.int .i64 (sv.getD j 0)) ∧ w' = w'') := Lib.hid (by
    intro w' ht j
    have key : ∀ p : Addr, p.block < w.heap.size + 1 → ¬ S p.block → w'.cell? p = (w.alloc (.cells #[.slice A sv.length c] 23)).cell? p := fun p hp hn =>
      World.cell?_of_block (ht.block p.block (by simpa using hp) hn)
    refine survive_walk w.heap.size sv A c j ?_ ?_
    · rw [key _ (by simp) (fun hs => absurd (hS _ hs) (by simp))]; exact World.cell?_alloc_mark ..
    · intro i hi
      obtain ⟨a, h1, h2, h3⟩ := hA i hi
      have hlt : (a.add i).block < w.heap.size := World.block_lt_of_cell? w _ h3
      have hb : (a.add i).block = a.block := by unfold Addr.add; split <;> rfl
      refine ⟨a, h1, ?_⟩
      rw [key _ (by omega) (by rw [hb]; exact h2)]
      rw [World.cell?_of_block (Below.heap_alloc w _ _ hlt)]
      exact h3)
  clear h h1 hA
  go_enter Try.func17, Try.ntmps17
  go_wp2_with fail
  refine (end_crash H1.out hp w.heap.size _ HC.out).mono ?_; rintro e w3 ⟨rfl, ht3, h3⟩
  obtain ⟨vd3, vb3, vp3, dl3, h3⟩ := h3
  have x6 := h3.c6
  have x7 := h3.c7
  have xf := h3.fr
  have H3 := Lib.hid ((h3.set 6 (.bool false) { endF d (fun j => clampN (sv.getD j 0)) with failed := false } rfl rfl rfl rfl).set 7 (.int .i64 (-1)) { endF d (fun j => clampN (sv.getD j 0)) with failed := false, after := -1 } rfl rfl rfl rfl)
  have HT3 := Lib.hid ht3
  clear h3 ht3
  go_wp2_with fail
  (refine bodyPost_end (results_none rfl _ _ _) rfl ?_)
  exact ⟨rfl, ((((Touch.refl S w).alloc _).trans HT3.out (fun _ _ h => h)).setCell (.inl H.out.sD) _).setCell (.inl H.out.sD) _, _, _, _, _, H3.out⟩
end
end Go.Proofs.Ytagfnobchdfhfaa
