import Derived.Test.YtphckenihkgoeaaWa
namespace Go.Proofs.Ytphckenihkgoeaa
set_option linter.unusedSimpArgs false
set_option linter.unnecessarySimpa false
set_option linter.unusedVariables false
open Go.RowKit
attribute [local go_sem ↓] Go.wp_at_zero Go.wp_at_succ

/-- a change -/
abbrev Chg := Int × ByteArray
/-- a list of changes, in blocks of T -/
structure ChgAt (w : World) (T : Nat → Prop) (a : Addr) (i : Nat) (x : Chg) : Prop where
  bl : T a.block
  c0 : w.cell? (a.add (i * 2)) = some (.int .i64 x.1)
  c1 : w.cell? ⟨(a.add (i * 2)).block, (a.add (i * 2)).off + 1, none⟩ = some (.string x.2)
def Chgs (w : World) (T : Nat → Prop) (A : Option Addr) (l : List Chg) : Prop := ∀ i, i < l.length → ∃ a, A = some a ∧ ChgAt w T a i (l.getD i default)
theorem add_block (a : Addr) (i : Nat) : (a.add i).block = a.block := by unfold Addr.add; split <;> rfl
theorem ChgAt.frame {w w' : World} {T : Nat → Prop} {a : Addr} {i : Nat} {x : Chg} (h : ChgAt w T a i x) (hf : ∀ k, T k → k < w.heap.size → w'.heap[k]? = w.heap[k]?) : ChgAt w' T a i x := by
  have hl := World.block_lt_of_cell? w _ h.c0
  rw [add_block] at hl
  have e := hf _ h.bl hl
  exact ⟨h.bl, (World.cell?_of_block (by rw [add_block]; exact e)).trans h.c0, (World.cell?_of_block (by show w'.heap[(a.add (i * 2)).block]? = _; rw [add_block]; exact e)).trans h.c1⟩
theorem Chgs.frame {w w' : World} {T : Nat → Prop} {A : Option Addr} {l : List Chg} (h : Chgs w T A l) (hf : ∀ k, T k → k < w.heap.size → w'.heap[k]? = w.heap[k]?) : Chgs w' T A l := fun i hi => by
  obtain ⟨a, h1, h2⟩ := h i hi
  exact ⟨a, h1, h2.frame hf⟩
theorem Chgs.mono {w : World} {T T' : Nat → Prop} {A : Option Addr} {l : List Chg} (h : Chgs w T A l) (hT : ∀ k, T k → T' k) : Chgs w T' A l := fun i hi => by
  obtain ⟨a, h1, h2⟩ := h i hi
  exact ⟨a, h1, hT _ h2.bl, h2.c0, h2.c1⟩
theorem Chgs.lt {w : World} {T : Nat → Prop} {A : Option Addr} {l : List Chg} (h : Chgs w T A l) : Chgs w (fun k => T k ∧ k < w.heap.size) A l := fun i hi => by
  obtain ⟨a, h1, h2⟩ := h i hi
  have hl := World.block_lt_of_cell? w _ h2.c0
  rw [add_block] at hl
  exact ⟨a, h1, ⟨h2.bl, hl⟩, h2.c0, h2.c1⟩
/-- the weight of the first changes, and of a list -/
def wtF (l : List Chg) : Nat → Int
  | 0 => 16
  | j + 1 => min (wrap64 (wrap64 (wtF l j + 16) + (l.getD j default).2.size)) 1073741824
def weight (l : List Chg) : Int := wtF l l.length
theorem weight_walk (w : World) (T : Nat → Prop) (A : Option Addr) (c : Nat) (l : List Chg) (h : Chgs w T A l) (hml : l.length ≤ maxLen) (hT : ∀ k, T k → k < w.heap.size) : Calls Try.prog 10 #[.slice A l.length c] w fun e w' => e = .returned (.int .i64 (weight l)) ∧ Below w.heap.size w w' := by
  unfold maxLen at hml
  have H := Lib.hid h
  clear h
  go_enter Try.func10, Try.ntmps10
  go_wp2_with fail
  go_loopw [8, 3] (fun i n wr => ∃ k : Nat, k ≤ l.length ∧ i = .int .i64 (k : Int) ∧ n = .int .i64 (wtF l k) ∧ Below w.heap.size w wr) (fun i _ _ => l.length - (intOf i).toNat)
  case atStart => exact ⟨0, Nat.zero_le _, rfl, rfl, Below.refl _ _⟩
  case round =>
    obtain ⟨k, hk, rfl, rfl, hb⟩ := hrel
    have HB := Lib.hid hb
    clear hb
    by_cases hlt : k < l.length
    · have hkl : (k : Int) < l.length := by omega
      obtain ⟨a, rfl, hc⟩ := H.out k hlt
      obtain ⟨x, hx⟩ : ∃ x, l.getD k default = x := ⟨_, rfl⟩
      obtain ⟨n, hn⟩ : ∃ n, wtF l k = n := ⟨_, rfl⟩
      have HW : Hid (wtF l (k + 1) = min (wrap64 (wrap64 (n + 16) + x.2.size)) 1073741824) := Lib.hid (by rw [← hn, ← hx]; rfl)
      rw [hx] at hc
      have hc := hc.frame (w' := wr) (fun k hk hl => HB.out.block k hl)
      have c0 := hc.c0
      have c1 := hc.c1
      rw [hn]
      clear hc hx hn
      go_wp2_with fail
      go_roundw
      case rel => exact ⟨k + 1, by omega, by go_num, val_int (by rw [HW.out]; generalize wrap64 (wrap64 (n + 16) + x.2.size) = t; split <;> omega), HB.out.alloc HB.out.size _⟩
      case measure => simp [intOf]; omega
    · obtain rfl : k = l.length := by omega
      go_wp2_with fail
      go_ret
      exact ⟨rfl, HB.out⟩
theorem rweight_walk (w : World) (T : Nat → Prop) (A : Option Addr) (c : Nat) (l : List Chg) (h : Chgs w T A l) (hml : l.length ≤ maxLen) : Calls Try.prog 11 #[.slice A l.length c] w fun e w' => e = .returned (.int .i64 (weight l)) ∧ w = w' := by
  unfold maxLen at hml
  have H := Lib.hid h
  clear h
  go_enter Try.func11, Try.ntmps11
  go_wp2_with fail
  go_loopw [4, 3] (fun i n wr => ∃ k : Nat, k ≤ l.length ∧ i = .int .i64 (k : Int) ∧ n = .int .i64 (wtF l k) ∧ w = wr) (fun i _ _ => l.length - (intOf i).toNat)
  case atStart => exact ⟨0, Nat.zero_le _, rfl, rfl, rfl⟩
  case round =>
    obtain ⟨k, hk, rfl, rfl, rfl⟩ := hrel
    by_cases hlt : k < l.length
    · have hkl : (k : Int) < l.length := by omega
      obtain ⟨a, rfl, hc⟩ := H.out k hlt
      obtain ⟨x, hx⟩ : ∃ x, l.getD k default = x := ⟨_, rfl⟩
      obtain ⟨n, hn⟩ : ∃ n, wtF l k = n := ⟨_, rfl⟩
      have HW : Hid (wtF l (k + 1) = min (wrap64 (wrap64 (n + 16) + x.2.size)) 1073741824) := Lib.hid (by rw [← hn, ← hx]; rfl)
      rw [hx] at hc
      have c0 := hc.c0
      have c1 := hc.c1
      rw [hn]
      clear hc hx hn
      go_wp2_with fail
      go_roundw
      case rel => exact ⟨k + 1, by omega, by go_num, val_int (by rw [HW.out]; generalize wrap64 (wrap64 (n + 16) + x.2.size) = t; split <;> omega), trivial⟩
      case measure => simp [intOf]; omega
    · obtain rfl : k = l.length := by omega
      go_wp2_with fail
      go_ret
      exact ⟨rfl, rfl⟩
/-- small changes -/
theorem wrap_small {n : Int} (h : -9223372036854775808 ≤ n) (h' : n ≤ 9223372036854775807) : wrap64 n = n := by
  unfold wrap64; omega
theorem wtF_bound (l : List Chg) (h : ∀ i, i < l.length → (l.getD i default).2.size ≤ 1000) : ∀ j, j ≤ l.length → 16 ≤ wtF l j ∧ wtF l j ≤ 1073741824
  | 0, _ => ⟨Int.le_refl 16, by show (16 : Int) ≤ _; decide⟩
  | j + 1, hj => by
    have ih := wtF_bound l h j (by omega)
    have hs := h j (by omega)
    have e : wtF l (j + 1) = min (wrap64 (wrap64 (wtF l j + 16) + (l.getD j default).2.size)) 1073741824 := rfl
    rw [e, wrap_small (n := wtF l j + 16) (by omega) (by omega), wrap_small (by omega) (by omega)]
    omega
end Go.Proofs.Ytphckenihkgoeaa
