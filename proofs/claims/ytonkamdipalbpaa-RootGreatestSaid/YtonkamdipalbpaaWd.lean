import Derived.Test.YtonkamdipalbpaaWb
import Derived.Test.YtonkamdipalbpaaWc
import Derived.RegionTactic
namespace Go.Proofs.Ytonkamdipalbpaa
open Go.RowKit

def regOK (s l c : Int) : Prop := 1 ≤ l ∧ l ≤ 16384 ∧ 0 ≤ c ∧ c < 4294967296 ∧ 4 ≤ s ∧ s ≤ 1024
instance (s l c : Int) : Decidable (regOK s l c) := by unfold regOK; infer_instance
set_option maxRecDepth 100000 in
set_option maxHeartbeats 1000000 in
theorem region_bad (s l c : Int) (h : ¬ regOK s l c) (w : World) : Calls Try.prog 31 #[.agg #[.int .i64 s, .int .i64 l, .int .i64 c]] w fun e w' => e = .returned (.tuple #[.agg #[.int .i64 0, .int .i64 0], .bool false]) ∧ Below w.heap.size w w' := by
  unfold regOK at h
  by_cases h1 : l < 1
  · clear h
    go_enter Try.func31, Try.ntmps31
    go_wp2_with fail
    exact bodyPost_ret (v := .tuple #[.agg #[.int .i64 0, .int .i64 0], .bool false]) (by simp [results, Try.results31, go_sem]) rfl ⟨rfl, ((Below.refl _ _).alloc (Nat.le_refl _) _).alloc (by simp) _⟩
  by_cases h2 : 16384 < l
  · clear h
    go_enter Try.func31, Try.ntmps31
    go_wp2_with fail
    exact bodyPost_ret (v := .tuple #[.agg #[.int .i64 0, .int .i64 0], .bool false]) (by simp [results, Try.results31, go_sem]) rfl ⟨rfl, ((Below.refl _ _).alloc (Nat.le_refl _) _).alloc (by simp) _⟩
  by_cases h3 : c < 0
  · clear h
    go_enter Try.func31, Try.ntmps31
    go_wp2_with fail
    exact bodyPost_ret (v := .tuple #[.agg #[.int .i64 0, .int .i64 0], .bool false]) (by simp [results, Try.results31, go_sem]) rfl ⟨rfl, ((Below.refl _ _).alloc (Nat.le_refl _) _).alloc (by simp) _⟩
  by_cases h4 : 4294967296 ≤ c
  · clear h
    go_enter Try.func31, Try.ntmps31
    go_wp2_with fail
    exact bodyPost_ret (v := .tuple #[.agg #[.int .i64 0, .int .i64 0], .bool false]) (by simp [results, Try.results31, go_sem]) rfl ⟨rfl, ((Below.refl _ _).alloc (Nat.le_refl _) _).alloc (by simp) _⟩
  by_cases h5 : s < 4
  · clear h
    go_enter Try.func31, Try.ntmps31
    go_wp2_with fail
    exact bodyPost_ret (v := .tuple #[.agg #[.int .i64 0, .int .i64 0], .bool false]) (by simp [results, Try.results31, go_sem]) rfl ⟨rfl, ((Below.refl _ _).alloc (Nat.le_refl _) _).alloc (by simp) _⟩
  have h6 : 1024 < s := by omega
  clear h
  go_enter Try.func31, Try.ntmps31
  go_wp2_with fail
  exact bodyPost_ret (v := .tuple #[.agg #[.int .i64 0, .int .i64 0], .bool false]) (by simp [results, Try.results31, go_sem]) rfl ⟨rfl, ((Below.refl _ _).alloc (Nat.le_refl _) _).alloc (by simp) _⟩
set_option maxRecDepth 100000 in
set_option maxHeartbeats 1000000 in
theorem region_ok (s l c : Int) (h : regOK s l c) (w : World) : Calls Try.prog 31 #[.agg #[.int .i64 s, .int .i64 l, .int .i64 c]] w fun e w' => e = .returned (.tuple #[.agg #[.int .i64 s, .int .i64 ((l - 1) / 64 + 1)], .bool (decide (s + ((l - 1) / 64 + 1) ≤ 1024))]) ∧ Below w.heap.size w w' := by
  obtain ⟨h1, h2, h3, h4, h5, h6⟩ := h
  have HS : Hid (∀ w, Calls Try.prog 33 #[.int .i64 l] w fun e w' => e = .returned (.int .i64 ((l - 1) / 64 + 1)) ∧ w = w') := Lib.hid (rsectors_walk l h1 h2)
  have hw1 : IntKind.i64.wrap (s + ((l - 1) / 64 + 1)) = s + ((l - 1) / 64 + 1) := IntWalk.i64_in _ (by omega)
  have HW := Lib.hid hw1
  clear hw1
  go_enter Try.func31, Try.ntmps31
  go_wp2_with fail
  refine (HS.out _).mono ?_; rintro e _ ⟨rfl, rfl⟩
  go_wp2_with fail
  have hw1 := HW.out
  go_region
  go_wp2_with fail
  refine bodyPost_ret (v := .tuple #[.agg #[.int .i64 s, .int .i64 ((l - 1) / 64 + 1)], .bool (decide (s + ((l - 1) / 64 + 1) ≤ 1024))]) (by simp [results, Try.results31, go_sem]) rfl ⟨rfl, (((Below.refl _ _).alloc (Nat.le_refl _) _).alloc (by simp) _).drew⟩
theorem region_any (s l c a b : Int) (d : Bool) (h : (a, b, d) = if regOK s l c then (s, (l - 1) / 64 + 1, decide (s + ((l - 1) / 64 + 1) ≤ 1024)) else (0, 0, false)) (w : World) : Calls Try.prog 31 #[.agg #[.int .i64 s, .int .i64 l, .int .i64 c]] w fun e w' => e = .returned (.tuple #[.agg #[.int .i64 a, .int .i64 b], .bool d]) ∧ Below w.heap.size w w' := by
  by_cases hr : regOK s l c
  · rw [if_pos hr] at h; cases h; exact region_ok s l c hr w
  · rw [if_neg hr] at h; cases h; exact region_bad s l c hr w
theorem step_b {w b c : World} (h : Below w.heap.size w b) (k : Below b.heap.size b c) : Below w.heap.size w c := h.trans (k.mono h.size)
theorem bcell {W w1 : World} (hb : Below W.heap.size W w1) : (∀ b o, b < W.heap.size → w1.cell? ⟨b, o, none⟩ = W.cell? ⟨b, o, none⟩) ∧ (∀ b o, b < W.heap.size → w1.frozen? ⟨b, o, none⟩ = W.frozen? ⟨b, o, none⟩) :=
  ⟨fun b o h => hb.cell (p := ⟨b, o, none⟩) h, fun b o h => hb.frozen (p := ⟨b, o, none⟩) h⟩
set_option maxRecDepth 100000 in
set_option maxHeartbeats 1000000 in
theorem rvalid_no (n s l c a b : Int) (h : (a, b, false) = if regOK s l c then (s, (l - 1) / 64 + 1, decide (s + ((l - 1) / 64 + 1) ≤ 1024)) else (0, 0, false)) (w : World) : Calls Try.prog 22 #[.agg #[.int .i64 n, .int .i64 s, .int .i64 l, .int .i64 c]] w fun e w' => e = .returned (.bool false) ∧ Below w.heap.size w w' := by
  have HR := Lib.hid h
  clear h
  go_enter Try.func22, Try.ntmps22
  go_wp2_with fail
  refine (region_any s l c _ _ _ HR.out _).mono ?_; rintro e w1 ⟨rfl, hb⟩
  have hcl : ∀ o, w1.cell? ⟨w.heap.size, o, none⟩ = (w.alloc (.cells #[.int .i64 n, .int .i64 s, .int .i64 l, .int .i64 c] 25)).cell? ⟨w.heap.size, o, none⟩ := fun o => hb.cell (p := ⟨w.heap.size, o, none⟩) (by simp)
  have hlt : w.heap.size < w1.heap.size := by have := hb.size; simp at this; omega
  have HB := Lib.hid (hb.mono (by simp) : Below w.heap.size _ _)
  clear hb
  go_wp2_with fail
  go_ret
  exact ⟨rfl, (((Below.refl _ _).alloc (Nat.le_refl _) _).trans HB.out).alloc (by omega) _⟩
set_option maxRecDepth 100000 in
set_option maxHeartbeats 1000000 in
theorem rvalid_lo (n s l c a b : Int) (h : (a, b, true) = if regOK s l c then (s, (l - 1) / 64 + 1, decide (s + ((l - 1) / 64 + 1) ≤ 1024)) else (0, 0, false)) (hn : n < 1) (w : World) : Calls Try.prog 22 #[.agg #[.int .i64 n, .int .i64 s, .int .i64 l, .int .i64 c]] w fun e w' => e = .returned (.bool false) ∧ Below w.heap.size w w' := by
  have HR := Lib.hid h
  clear h
  go_enter Try.func22, Try.ntmps22
  go_wp2_with fail
  refine (region_any s l c _ _ _ HR.out _).mono ?_; rintro e w1 ⟨rfl, hb⟩
  have hcl : ∀ o, w1.cell? ⟨w.heap.size, o, none⟩ = (w.alloc (.cells #[.int .i64 n, .int .i64 s, .int .i64 l, .int .i64 c] 25)).cell? ⟨w.heap.size, o, none⟩ := fun o => hb.cell (p := ⟨w.heap.size, o, none⟩) (by simp)
  have hlt : w.heap.size < w1.heap.size := by have := hb.size; simp at this; omega
  have HB := Lib.hid (hb.mono (by simp) : Below w.heap.size _ _)
  clear hb
  go_wp2_with fail
  go_ret
  exact ⟨rfl, (((Below.refl _ _).alloc (Nat.le_refl _) _).trans HB.out).alloc (by omega) _⟩
set_option maxRecDepth 100000 in
set_option maxHeartbeats 1000000 in
theorem rvalid_hi (n s l c a b : Int) (h : (a, b, true) = if regOK s l c then (s, (l - 1) / 64 + 1, decide (s + ((l - 1) / 64 + 1) ≤ 1024)) else (0, 0, false)) (hn : 1099511627776 < n) (w : World) : Calls Try.prog 22 #[.agg #[.int .i64 n, .int .i64 s, .int .i64 l, .int .i64 c]] w fun e w' => e = .returned (.bool false) ∧ Below w.heap.size w w' := by
  have HR := Lib.hid h
  have hn1 : 1 ≤ n := by omega
  have hn2 : decide (n ≤ 1099511627776) = false := by simp; omega
  clear h
  go_enter Try.func22, Try.ntmps22
  go_wp2_with fail
  refine (region_any s l c _ _ _ HR.out _).mono ?_; rintro e w1 ⟨rfl, hb⟩
  have hcl : ∀ o, w1.cell? ⟨w.heap.size, o, none⟩ = (w.alloc (.cells #[.int .i64 n, .int .i64 s, .int .i64 l, .int .i64 c] 25)).cell? ⟨w.heap.size, o, none⟩ := fun o => hb.cell (p := ⟨w.heap.size, o, none⟩) (by simp)
  have hlt : w.heap.size < w1.heap.size := by have := hb.size; simp at this; omega
  have HB := Lib.hid (hb.mono (by simp) : Below w.heap.size _ _)
  clear hb
  go_wp2_with fail
  go_ret
  exact ⟨rfl, (((Below.refl _ _).alloc (Nat.le_refl _) _).trans HB.out).alloc (by omega) _⟩
set_option maxRecDepth 100000 in
set_option maxHeartbeats 1000000 in
theorem rvalid_ok (n s l c a b : Int) (h : (a, b, true) = if regOK s l c then (s, (l - 1) / 64 + 1, decide (s + ((l - 1) / 64 + 1) ≤ 1024)) else (0, 0, false)) (hn : 1 ≤ n) (hn2 : n ≤ 1099511627776) (w : World) : Calls Try.prog 22 #[.agg #[.int .i64 n, .int .i64 s, .int .i64 l, .int .i64 c]] w fun e w' => e = .returned (.bool true) ∧ Below w.heap.size w w' := by
  have HR := Lib.hid h
  clear h
  go_enter Try.func22, Try.ntmps22
  go_wp2_with fail
  refine (region_any s l c _ _ _ HR.out _).mono ?_; rintro e w1 ⟨rfl, hb⟩
  have hcl : ∀ o, w1.cell? ⟨w.heap.size, o, none⟩ = (w.alloc (.cells #[.int .i64 n, .int .i64 s, .int .i64 l, .int .i64 c] 25)).cell? ⟨w.heap.size, o, none⟩ := fun o => hb.cell (p := ⟨w.heap.size, o, none⟩) (by simp)
  have hlt : w.heap.size < w1.heap.size := by have := hb.size; simp at this; omega
  have HB := Lib.hid (hb.mono (by simp) : Below w.heap.size _ _)
  clear hb
  go_wp2_with fail
  go_ret
  exact ⟨rfl, (((Below.refl _ _).alloc (Nat.le_refl _) _).trans HB.out).alloc (by omega) _⟩
theorem rvalid_walk (n s l c : Int) (b : Bool) (hb : validI n s l c = b) (w : World) : Calls Try.prog 22 #[.agg #[.int .i64 n, .int .i64 s, .int .i64 l, .int .i64 c]] w fun e w' => e = .returned (.bool b) ∧ Below w.heap.size w w' := by
  by_cases hr : regOK s l c
  · by_cases hs : s + ((l - 1) / 64 + 1) ≤ 1024
    · have h : (s, (l - 1) / 64 + 1, true) = if regOK s l c then (s, (l - 1) / 64 + 1, decide (s + ((l - 1) / 64 + 1) ≤ 1024)) else (0, 0, false) := by rw [if_pos hr, decide_eq_true hs]
      unfold regOK at hr
      by_cases h1 : n < 1
      · obtain rfl : b = false := by rw [← hb]; unfold validI; apply decide_eq_false; omega
        exact rvalid_lo n s l c _ _ h h1 w
      · by_cases h2 : 1099511627776 < n
        · obtain rfl : b = false := by rw [← hb]; unfold validI; apply decide_eq_false; omega
          exact rvalid_hi n s l c _ _ h h2 w
        · obtain rfl : b = true := by rw [← hb]; unfold validI; apply decide_eq_true; omega
          exact rvalid_ok n s l c _ _ h (by omega) (by omega) w
    · have h : (s, (l - 1) / 64 + 1, false) = if regOK s l c then (s, (l - 1) / 64 + 1, decide (s + ((l - 1) / 64 + 1) ≤ 1024)) else (0, 0, false) := by rw [if_pos hr, decide_eq_false hs]
      obtain rfl : b = false := by rw [← hb]; unfold validI; apply decide_eq_false; omega
      exact rvalid_no n s l c _ _ h w
  · have h : ((0 : Int), (0 : Int), false) = if regOK s l c then (s, (l - 1) / 64 + 1, decide (s + ((l - 1) / 64 + 1) ≤ 1024)) else (0, 0, false) := by rw [if_neg hr]
    unfold regOK at hr
    obtain rfl : b = false := by rw [← hb]; unfold validI; apply decide_eq_false; omega
    exact rvalid_no n s l c _ _ h w
end Go.Proofs.Ytonkamdipalbpaa
