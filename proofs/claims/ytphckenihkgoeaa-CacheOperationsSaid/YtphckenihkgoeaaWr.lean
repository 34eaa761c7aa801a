import Derived.Test.YtphckenihkgoeaaWq
namespace Go.Proofs.Ytphckenihkgoeaa
set_option linter.unusedSimpArgs false
set_option linter.unnecessarySimpa false
set_option linter.unusedVariables false
open Go.RowKit
attribute [local go_sem ↓] Go.wp_at_zero Go.wp_at_succ

/-- the key of the package -/
theorem key_walk (w : World) (k : K) : Calls Try.prog 19 #[kv k] w fun e w' => e = .returned (kv k) ∧ Below w.heap.size w w' := by
  unfold kv
  go_enter Try.func19, Try.ntmps19
  go_wp2_with fail
  refine bodyPost_ret (v := .agg #[.int .i64 k.1, .int .i64 k.2.1, .int .i64 k.2.2]) (by simp [results, Try.results19, go_sem]) rfl ⟨rfl, ?_⟩
  exact ((Below.refl _ _).alloc (Nat.le_refl _) _).alloc (by simp) _
/-- few and small operations -/
def fewO (o : OpC) : Bool := decide (o.list.length ≤ 20) && o.list.all (smallC 100)
def fewB (l : List OpC) (n : Nat) : Bool := l.all fewO && decide (l.length ≤ n)
theorem fewB_iff {l : List OpC} {n : Nat} (h : fewB l n = true) : l.length ≤ n ∧ ∀ i, i < l.length → SmallP ((l.getD i default).key, (l.getD i default).list) := by
  unfold fewB at h
  have h' : l.all fewO = true ∧ l.length ≤ n := by simpa using h
  refine ⟨h'.2, fun i hi => ?_⟩
  have := all_get h'.1 hi
  unfold fewO at this
  have h2 : (l.getD i default).list.length ≤ 20 ∧ (l.getD i default).list.all (smallC 100) = true := by simpa using this
  refine ⟨by show (l.getD i default).list.length ≤ 1000; omega, fun j hj => ?_⟩
  have h3 := all_get h2.2 hj
  have h4 : ((l.getD i default).list.getD j default).2.size ≤ 100 := by simpa [smallC] using h3
  exact Nat.le_trans h4 (by decide)
theorem few41_walk (w : World) (T : Nat → Prop) (A : Option Addr) (c : Nat) (l : List OpC) (n : Nat) (h : Ops w T A l) (hml : l.length ≤ maxLen) : Calls Try.prog 18 #[.slice A l.length c, .int .i64 (n : Int)] w fun e w' => e = .returned (.bool (fewB l n)) ∧ w = w' := by
  unfold maxLen at hml
  have H := Lib.hid h
  clear h
  go_enter Try.func18, Try.ntmps18
  go_wp2_with fail
  go_loopw [5, 6] (fun i _ wr => ∃ k : Nat, k ≤ l.length ∧ i = .int .i64 (k : Int) ∧ (l.take k).all fewO = true ∧ w = wr) (fun i _ _ => l.length - (intOf i).toNat)
  case atStart => exact ⟨0, Nat.zero_le _, rfl, by simp, rfl⟩
  case round =>
    obtain ⟨k, hk, rfl, hall, rfl⟩ := hrel
    have HA := Lib.hid hall
    clear hall
    by_cases hlt : k < l.length
    · have hkl : (k : Int) < l.length := by omega
      obtain ⟨a, rfl, ho⟩ := H.out k hlt
      obtain ⟨o, ho'⟩ : ∃ o, l.getD k default = o := ⟨_, rfl⟩
      have hg := get_of hlt ho'
      rw [ho'] at ho
      have c4 := ho.c4
      have hll := ho.ll
      unfold maxLen at hll
      have HC := Lib.hid ho.ls
      have HG := Lib.hid hg
      clear ho ho' hg
      have HT : Hid ((l.take (k + 1)).all fewO = ((l.take k).all fewO && fewO o)) := Lib.hid (by
        rw [List.take_add_one, HG.out, List.all_append]; simp)
      have hbad : fewO o = false → fewB l n = false := fun hf => by
        unfold fewB
        have : l.all fewO = false := by
          rw [Bool.eq_false_iff]
          intro h
          rw [List.all_eq_true.1 h o (List.mem_of_getElem? HG.out)] at hf
          cases hf
        rw [this]; rfl
      have HBad := Lib.hid hbad
      clear hbad
      by_cases h1 : o.list.length ≤ 20
      · have h1' : ¬ (20 : Int) < o.list.length := by omega
        go_wp2_with fail
        go_loopw [6] (fun i wr => ∃ j : Nat, j ≤ o.list.length ∧ i = .int .i64 (j : Int) ∧ (o.list.take j).all (smallC 100) = true ∧ w = wr) (fun i _ => o.list.length - (intOf i).toNat)
        case atStart => exact ⟨0, Nat.zero_le _, rfl, by simp, rfl⟩
        case round =>
          obtain ⟨j, hj, rfl, hall, rfl⟩ := hrel
          have HA2 := Lib.hid hall
          clear hall
          by_cases hlt2 : j < o.list.length
          · have hjl : (j : Int) < o.list.length := by omega
            obtain ⟨b, hb, hc⟩ := HC.out j hlt2
            rw [hb] at c4
            obtain ⟨x, hx⟩ : ∃ x, o.list.getD j default = x := ⟨_, rfl⟩
            have hg := get_of hlt2 hx
            rw [hx] at hc
            have d1 := hc.c1
            have HG2 := Lib.hid hg
            clear hc hx hg
            have HT2 : Hid ((o.list.take (j + 1)).all (smallC 100) = ((o.list.take j).all (smallC 100) && smallC 100 x)) := Lib.hid (by
              rw [List.take_add_one, HG2.out, List.all_append]; simp)
            by_cases h2 : x.2.size ≤ 100
            · have h2' : ¬ (100 : Int) < x.2.size := by omega
              go_wp2_with fail
              go_roundw
              case rel => exact ⟨j + 1, by omega, by go_num, by rw [HT2.out, HA2.out]; simp [smallC, h2], trivial⟩
              case measure => simp [intOf]; omega
            · have h2' : (100 : Int) < x.2.size := by omega
              have hx : fewO o = false := by
                unfold fewO
                have : o.list.all (smallC 100) = false := by
                  rw [Bool.eq_false_iff]
                  intro h
                  have := List.all_eq_true.1 h x (List.mem_of_getElem? HG2.out)
                  simp [smallC] at this
                  omega
                rw [this]; simp
              go_wp2_with fail
              go_ret
              exact ⟨by rw [HBad.out hx]; rfl, rfl⟩
          · obtain rfl : j = o.list.length := by omega
            rw [List.take_length] at HA2
            go_wp2_with fail
            go_roundw
            case rel => exact ⟨k + 1, by omega, by go_num, by rw [HT.out, HA.out]; unfold fewO; rw [HA2.out]; simp [h1], trivial⟩
            case measure => simp [intOf]; omega
      · have h1' : (20 : Int) < o.list.length := by omega
        go_wp2_with fail
        go_ret
        exact ⟨by rw [HBad.out (by simp [fewO, h1])]; rfl, rfl⟩
    · obtain rfl : k = l.length := by omega
      rw [List.take_length] at HA
      go_wp2_with fail
      go_ret
      exact ⟨by unfold fewB; rw [HA.out]; simp, rfl⟩
end Go.Proofs.Ytphckenihkgoeaa
