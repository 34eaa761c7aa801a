import Derived.Test.YtphckenihkgoeaaWd
namespace Go.Proofs.Ytphckenihkgoeaa
set_option linter.unusedSimpArgs false
set_option linter.unnecessarySimpa false
set_option linter.unusedVariables false
open Go.RowKit
attribute [local go_sem ↓] Go.wp_at_zero Go.wp_at_succ

/-- the key in a box -/
def Box (w : World) (B : Nat) (k : K) : Prop := w.heap[B]? = some (.cells #[.int .i64 k.1, .int .i64 k.2.1, .int .i64 k.2.2] 33 (0, 0))
theorem Box.cells {w : World} {B : Nat} {k : K} (h : Box w B k) : w.cell? ⟨B, 0, none⟩ = some (.int .i64 k.1) ∧ w.cell? ⟨B, 1, none⟩ = some (.int .i64 k.2.1) ∧ w.cell? ⟨B, 2, none⟩ = some (.int .i64 k.2.2) := by
  refine ⟨?_, ?_, ?_⟩ <;> (rw [cell_of_row w B _ _ _ _ h]; rfl)
theorem clos27 (w : World) (B : Nat) (k x : K) (h : Box w B k) : Calls Try.prog 27 #[kv x, .pointer (some ⟨B, 0, none⟩)] w fun e w' => e = .returned (.bool (decide (x = k))) ∧ Below w.heap.size w w' := by
  obtain ⟨c0, c1, c2⟩ := h.cells
  clear h
  have d0 := Lib.cell?_alloc_some (.cells #[.int .i64 x.1, .int .i64 x.2.1, .int .i64 x.2.2] 33) c0
  have d1 := Lib.cell?_alloc_some (.cells #[.int .i64 x.1, .int .i64 x.2.1, .int .i64 x.2.2] 33) c1
  have d2 := Lib.cell?_alloc_some (.cells #[.int .i64 x.1, .int .i64 x.2.1, .int .i64 x.2.2] 33) c2
  have hq := fun W => eq33 x k W
  unfold kv at *
  go_enter Try.func27, Try.ntmps27
  go_wp2_with fail
  go_ret
  exact ⟨rfl, (Below.refl _ _).alloc (Nat.le_refl _) _⟩
theorem clos34 (w : World) (B : Nat) (k x : K) (h : Box w B k) : Calls Try.prog 34 #[kv x, .pointer (some ⟨B, 0, none⟩)] w fun e w' => e = .returned (.bool (decide (x = k))) ∧ Below w.heap.size w w' := by
  obtain ⟨c0, c1, c2⟩ := h.cells
  clear h
  have d0 := Lib.cell?_alloc_some (.cells #[.int .i64 x.1, .int .i64 x.2.1, .int .i64 x.2.2] 33) c0
  have d1 := Lib.cell?_alloc_some (.cells #[.int .i64 x.1, .int .i64 x.2.1, .int .i64 x.2.2] 33) c1
  have d2 := Lib.cell?_alloc_some (.cells #[.int .i64 x.1, .int .i64 x.2.1, .int .i64 x.2.2] 33) c2
  have hq := fun W => eq33 x k W
  unfold kv at *
  go_enter Try.func34, Try.ntmps34
  go_wp2_with fail
  go_ret
  exact ⟨rfl, (Below.refl _ _).alloc (Nat.le_refl _) _⟩
/-- the cells of one key -/
theorem keys_cells {w : World} {T : Nat → Prop} {A : Option Addr} {ks : List K} (h : Flat w T A (kscells ks)) {i : Nat} {x : K} (hi : ks[i]? = some x) : ∃ a, A = some a ∧ T a.block ∧ w.cell? (a.add (i * 3)) = some (.int .i64 x.1) ∧ w.cell? ⟨(a.add (i * 3)).block, (a.add (i * 3)).off + 1, none⟩ = some (.int .i64 x.2.1) ∧ w.cell? ⟨(a.add (i * 3)).block, (a.add (i * 3)).off + 2, none⟩ = some (.int .i64 x.2.2) := by
  obtain ⟨h1, h2, h3⟩ := kscells_get ks i x hi
  obtain ⟨a, rfl, h4, h5⟩ := h _ _ h1
  obtain ⟨a', e, _, h6⟩ := h _ _ h2
  cases e
  obtain ⟨a', e, _, h7⟩ := h _ _ h3
  cases e
  exact ⟨a, rfl, h4, h5, by rw [add_succ a _ 1 (by decide)]; exact h6, by rw [add_succ a _ 2 (by decide)]; exact h7⟩
theorem index27 (w : World) (T : Nat → Prop) (A : Option Addr) (c : Nat) (ks : List K) (h : Flat w T A (kscells ks)) (hn : ks.length ≤ 1000000) (B : Nat) (k : K) (hB : Box w B k) : Calls Try.prog 35 #[.slice A ks.length c, .func (.func 27) #[] #[.pointer (some ⟨B, 0, none⟩)]] w fun e w' => ((e = .returned (.int .i64 (-1)) ∧ k ∉ ks) ∨ ∃ i : Nat, e = .returned (.int .i64 (i : Int)) ∧ ks[i]? = some k ∧ ∀ j, j < i → ks[j]? ≠ some k) ∧ Below w.heap.size w w' := by
  have H := Lib.hid h
  have HX := Lib.hid hB
  have hlB : B < w.heap.size := (Array.getElem?_eq_some_iff.1 hB).1
  clear h hB
  go_enter Try.func35, Try.ntmps35
  go_wp2_with fail
  go_loopw [8] (fun i wr => ∃ j : Nat, j ≤ ks.length ∧ i = .int .i64 (j : Int) ∧ (∀ m, m < j → ks[m]? ≠ some k) ∧ Below w.heap.size w wr) (fun i _ => ks.length - (intOf i).toNat)
  case atStart => exact ⟨0, Nat.zero_le _, rfl, fun m hm => absurd hm (by omega), Below.refl _ _⟩
  case round =>
    obtain ⟨j, hj, rfl, hno, hb⟩ := hrel
    have HB := Lib.hid hb
    have HNo := Lib.hid hno
    clear hb hno
    by_cases hlt : j < ks.length
    · have hjl : (j : Int) < ks.length := by omega
      obtain ⟨x, hx⟩ : ∃ x, ks[j]? = some x := ⟨_, List.getElem?_eq_getElem hlt⟩
      have hf := H.out.frame (w' := wr) (fun k _ hl => HB.out.block k hl)
      obtain ⟨a, rfl, _, c0, c1, c2⟩ := keys_cells hf hx
      have hbx : Box wr B k := (HB.out.block B hlB).trans HX.out
      have HC := Lib.hid (clos27 wr B k x hbx)
      have HXX := Lib.hid hx
      clear hf hx hbx
      unfold kv at HC
      go_wp2_with fail
      refine (HC.out).mono ?_
      rintro e w2 ⟨rfl, hb2⟩
      have HB2 := Lib.hid (HB.out.trans (hb2.mono HB.out.size))
      clear hb2
      by_cases hxk : x = k
      · rw [decide_eq_true hxk]
        go_wp2_with fail
        go_ret
        exact ⟨.inr ⟨j, rfl, by rw [HXX.out, hxk], HNo.out⟩, HB2.out⟩
      · rw [decide_eq_false hxk]
        go_wp2_with fail
        go_roundw
        case rel =>
          refine ⟨j + 1, by omega, by go_num, fun m hm => ?_, HB2.out⟩
          by_cases hmj : m = j
          · subst hmj; rw [HXX.out]; simpa using hxk
          · exact HNo.out m (by omega)
        case measure => simp [intOf]; omega
    · obtain rfl : j = ks.length := by omega
      go_wp2_with fail
      go_ret
      refine ⟨.inl ⟨rfl, fun hm => ?_⟩, HB.out⟩
      obtain ⟨i, hi⟩ := List.getElem?_of_mem hm
      exact HNo.out i (List.getElem?_eq_some_iff.1 hi).1 hi
theorem index34 (w : World) (T : Nat → Prop) (A : Option Addr) (c : Nat) (ks : List K) (h : Flat w T A (kscells ks)) (hn : ks.length ≤ 1000000) (B : Nat) (k : K) (hB : Box w B k) : Calls Try.prog 35 #[.slice A ks.length c, .func (.func 34) #[] #[.pointer (some ⟨B, 0, none⟩)]] w fun e w' => ((e = .returned (.int .i64 (-1)) ∧ k ∉ ks) ∨ ∃ i : Nat, e = .returned (.int .i64 (i : Int)) ∧ ks[i]? = some k ∧ ∀ j, j < i → ks[j]? ≠ some k) ∧ Below w.heap.size w w' := by
  have H := Lib.hid h
  have HX := Lib.hid hB
  have hlB : B < w.heap.size := (Array.getElem?_eq_some_iff.1 hB).1
  clear h hB
  go_enter Try.func35, Try.ntmps35
  go_wp2_with fail
  go_loopw [8] (fun i wr => ∃ j : Nat, j ≤ ks.length ∧ i = .int .i64 (j : Int) ∧ (∀ m, m < j → ks[m]? ≠ some k) ∧ Below w.heap.size w wr) (fun i _ => ks.length - (intOf i).toNat)
  case atStart => exact ⟨0, Nat.zero_le _, rfl, fun m hm => absurd hm (by omega), Below.refl _ _⟩
  case round =>
    obtain ⟨j, hj, rfl, hno, hb⟩ := hrel
    have HB := Lib.hid hb
    have HNo := Lib.hid hno
    clear hb hno
    by_cases hlt : j < ks.length
    · have hjl : (j : Int) < ks.length := by omega
      obtain ⟨x, hx⟩ : ∃ x, ks[j]? = some x := ⟨_, List.getElem?_eq_getElem hlt⟩
      have hf := H.out.frame (w' := wr) (fun k _ hl => HB.out.block k hl)
      obtain ⟨a, rfl, _, c0, c1, c2⟩ := keys_cells hf hx
      have hbx : Box wr B k := (HB.out.block B hlB).trans HX.out
      have HC := Lib.hid (clos34 wr B k x hbx)
      have HXX := Lib.hid hx
      clear hf hx hbx
      unfold kv at HC
      go_wp2_with fail
      refine (HC.out).mono ?_
      rintro e w2 ⟨rfl, hb2⟩
      have HB2 := Lib.hid (HB.out.trans (hb2.mono HB.out.size))
      clear hb2
      by_cases hxk : x = k
      · rw [decide_eq_true hxk]
        go_wp2_with fail
        go_ret
        exact ⟨.inr ⟨j, rfl, by rw [HXX.out, hxk], HNo.out⟩, HB2.out⟩
      · rw [decide_eq_false hxk]
        go_wp2_with fail
        go_roundw
        case rel =>
          refine ⟨j + 1, by omega, by go_num, fun m hm => ?_, HB2.out⟩
          by_cases hmj : m = j
          · subst hmj; rw [HXX.out]; simpa using hxk
          · exact HNo.out m (by omega)
        case measure => simp [intOf]; omega
    · obtain rfl : j = ks.length := by omega
      go_wp2_with fail
      go_ret
      refine ⟨.inl ⟨rfl, fun hm => ?_⟩, HB.out⟩
      obtain ⟨i, hi⟩ := List.getElem?_of_mem hm
      exact HNo.out i (List.getElem?_eq_some_iff.1 hi).1 hi
end Go.Proofs.Ytphckenihkgoeaa
