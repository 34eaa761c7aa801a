import Derived.Test.YtphckenihkgoeaaWb
import Derived.Laws.StructEq
namespace Go.Proofs.Ytphckenihkgoeaa
set_option linter.unusedSimpArgs false
set_option linter.unnecessarySimpa false
set_option linter.unusedVariables false
open Go.RowKit
attribute [local go_sem ↓] Go.wp_at_zero Go.wp_at_succ

theorem eq33 (a b : K) (w : World) : (binOp .eql 33 (kv a) (kv b)).run Try.prog w = .ok (.bool (decide (a = b))) w := by
  have u3 := Try.underlying3
  have hS : Try.prog.underlying 33 = some (.struct (Try.prog.fieldsOf 33)) := by kernel_rfl
  have hp : Try.prog.stoodInHeld 33 = false := by kernel_rfl
  obtain ⟨a1, a2, a3'⟩ := a
  obtain ⟨b1, b2, b3⟩ := b
  simp only [kv]
  rw [run_eql_struct, show (10000 : Nat) = 9999 + 1 from rfl, run_equalIn_agg w 9999 33 _ _ hS hp]
  simp only [Program.fieldsOf, Try.underlying33]
  go_simp
  by_cases h1 : a1 = b1 <;> by_cases h2 : a2 = b2 <;> by_cases h3 : a3' = b3 <;> simp [h1, h2, h3]
theorem ne35 (a : Chg) (w : World) : (binOp .neq 35 (.agg #[.int .i64 a.1, .string a.2]) (.agg #[.int .i64 a.1, .string a.2])).run Try.prog w = .ok (.bool false) w := by
  have u3 := Try.underlying3
  have u9 := Try.underlying9
  have hS : Try.prog.underlying 35 = some (.struct (Try.prog.fieldsOf 35)) := by kernel_rfl
  have hp : Try.prog.stoodInHeld 35 = false := by kernel_rfl
  rw [run_neq_struct, show (10000 : Nat) = 9999 + 1 from rfl, run_equalIn_agg w 9999 35 _ _ hS hp]
  simp only [Program.fieldsOf, Try.underlying35]
  go_simp
/-- a list is the same as itself -/
theorem same_walk (w : World) (T T' : Nat → Prop) (A A' : Option Addr) (c c' : Nat) (l : List Chg) (h : Chgs w T A l) (h' : Chgs w T' A' l) (hml : l.length ≤ maxLen) : Calls Try.prog 16 #[.slice A l.length c, .slice A' l.length c'] w fun e w' => e = .returned (.bool true) ∧ Below w.heap.size w w' := by
  unfold maxLen at hml
  have H := Lib.hid h
  have H' := Lib.hid h'
  clear h h'
  go_enter Try.func16, Try.ntmps16
  go_wp2_with fail
  go_loopw [5] (fun i wr => ∃ k : Nat, k ≤ l.length ∧ i = .int .i64 (k : Int) ∧ Below w.heap.size w wr) (fun i _ => l.length - (intOf i).toNat)
  case atStart => exact ⟨0, Nat.zero_le _, rfl, Below.refl _ _⟩
  case round =>
    obtain ⟨k, hk, rfl, hb⟩ := hrel
    have HB := Lib.hid hb
    clear hb
    by_cases hlt : k < l.length
    · have hkl : (k : Int) < l.length := by omega
      obtain ⟨a, rfl, hc⟩ := H.out k hlt
      obtain ⟨a', rfl, hc'⟩ := H'.out k hlt
      obtain ⟨x, hx⟩ : ∃ x, l.getD k default = x := ⟨_, rfl⟩
      rw [hx] at hc hc'
      have hc := hc.frame (w' := wr) (fun k hk hl => HB.out.block k hl)
      have hc' := hc'.frame (w' := wr) (fun k hk hl => HB.out.block k hl)
      have c0 := hc.c0
      have c1 := hc.c1
      have d0 := hc'.c0
      have d1 := hc'.c1
      have hn := ne35 x
      clear hc hc' hx
      go_wp2_with fail
      go_quiet (fail)
      go_wp2_with fail
      go_roundw
      case rel => exact ⟨k + 1, by omega, by go_num, below_drewN HB.out _⟩
      case measure => simp [intOf]; omega
    · obtain rfl : k = l.length := by omega
      go_wp2_with fail
      go_ret
      exact ⟨rfl, HB.out⟩
/-- few and small changes -/
def smallC (m : Nat) (x : Chg) : Bool := decide (x.2.size ≤ m)
def few33 (l : List Chg) (n : Nat) : Bool := l.all (smallC 150) && decide (l.length ≤ n)
theorem all_get {α : Type} [Inhabited α] {p : α → Bool} {l : List α} {i : Nat} (h : l.all p = true) (hi : i < l.length) : p (l.getD i default) = true := by
  rw [List.getD_eq_getElem?_getD, List.getElem?_eq_getElem hi]
  exact List.all_eq_true.1 h _ (List.getElem_mem hi)
theorem get_of {α : Type} [Inhabited α] {l : List α} {i : Nat} {x : α} (hi : i < l.length) (h : l.getD i default = x) : l[i]? = some x := by
  rw [← h, List.getD_eq_getElem?_getD, List.getElem?_eq_getElem hi]; rfl
theorem few33_walk (w : World) (T : Nat → Prop) (A : Option Addr) (c : Nat) (l : List Chg) (n : Nat) (h : Chgs w T A l) (hml : l.length ≤ maxLen) : Calls Try.prog 12 #[.slice A l.length c, .int .i64 (n : Int)] w fun e w' => e = .returned (.bool (few33 l n)) ∧ w = w' := by
  unfold maxLen at hml
  have H := Lib.hid h
  clear h
  go_enter Try.func12, Try.ntmps12
  go_wp2_with fail
  go_loopw [5] (fun i wr => ∃ k : Nat, k ≤ l.length ∧ i = .int .i64 (k : Int) ∧ (l.take k).all (smallC 150) = true ∧ w = wr) (fun i _ => l.length - (intOf i).toNat)
  case atStart => exact ⟨0, Nat.zero_le _, rfl, by simp, rfl⟩
  case round =>
    obtain ⟨k, hk, rfl, hall, rfl⟩ := hrel
    have HA := Lib.hid hall
    clear hall
    by_cases hlt : k < l.length
    · have hkl : (k : Int) < l.length := by omega
      obtain ⟨a, rfl, ho⟩ := H.out k hlt
      obtain ⟨o, ho'⟩ : ∃ o, l.getD k default = o := ⟨_, rfl⟩
      have hg := get_of hlt ho'
      rw [ho'] at ho
      have c0 := ho.c0
      have c1 := ho.c1
      have HG := Lib.hid hg
      clear ho ho' hg
      have HT : Hid ((l.take (k + 1)).all (smallC 150) = ((l.take k).all (smallC 150) && smallC 150 o)) := Lib.hid (by
        rw [List.take_add_one, HG.out, List.all_append]; simp)
      have hbad : smallC 150 o = false → few33 l n = false := fun hf => by
        unfold few33
        have : l.all (smallC 150) = false := by
          rw [Bool.eq_false_iff]
          intro h
          rw [List.all_eq_true.1 h o (List.mem_of_getElem? HG.out)] at hf
          cases hf
        rw [this]; rfl
      have HBad := Lib.hid hbad
      clear hbad
      by_cases h1 : o.2.size ≤ 150
      · have h1' : ¬ (150 : Int) < o.2.size := by omega
        go_wp2_with fail
        go_roundw
        case rel => exact ⟨k + 1, by omega, by go_num, by rw [HT.out, HA.out]; simp [smallC, h1], trivial⟩
        case measure => simp [intOf]; omega
      · have h1' : (150 : Int) < o.2.size := by omega
        go_wp2_with fail
        go_ret
        exact ⟨by rw [HBad.out (by simp [smallC, h1])]; rfl, rfl⟩
    · obtain rfl : k = l.length := by omega
      rw [List.take_length] at HA
      go_wp2_with fail
      go_ret
      exact ⟨by unfold few33; rw [HA.out]; simp, rfl⟩
end Go.Proofs.Ytphckenihkgoeaa
