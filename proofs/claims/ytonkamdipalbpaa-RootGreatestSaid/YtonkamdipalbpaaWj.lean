import Derived.Test.YtonkamdipalbpaaWi
namespace Go.Proofs.Ytonkamdipalbpaa
open Go.RowKit
attribute [local go_sem ↓] Go.wp_at_zero Go.wp_at_succ

set_option maxRecDepth 100000 in
set_option maxHeartbeats 1000000 in
theorem rdec_range (s : ByteArray) (p : Int) (h : p < 0 ∨ 3 < p) (w : World) : Calls Try.prog 16 #[.string s, .int .i64 p] w fun e w' => e = .returned (.tuple #[.agg #[.int .i64 0, .int .i64 0, .int .i64 0, .int .i64 0], .int .i64 2]) ∧ Below w.heap.size w w' := by
  rcases h with h | h
  all_goals
    go_enter Try.func16, Try.ntmps16
    go_wp2_with fail
    exact bodyPost_ret (v := .tuple #[.agg #[.int .i64 0, .int .i64 0, .int .i64 0, .int .i64 0], .int .i64 2]) (by simp [results, Try.results16, go_sem]) rfl ⟨rfl, (Below.refl _ _).alloc (Nat.le_refl _) _⟩
set_option maxRecDepth 100000 in
set_option maxHeartbeats 1000000 in
theorem rdec_len (s : ByteArray) (p : Int) (h : ¬ p < 0) (h3 : ¬ 3 < p) (hs : s.size ≠ 64) (w : World) : Calls Try.prog 16 #[.string s, .int .i64 p] w fun e w' => e = .returned (.tuple #[.agg #[.int .i64 0, .int .i64 0, .int .i64 0, .int .i64 0], .int .i64 12]) ∧ Below w.heap.size w w' := by
  have hne : ((s.size : Int) != 64) = true := by simp; omega
  have hne2 : ((s.size : Int) == 64) = false := by simp; omega
  clear hs
  go_enter Try.func16, Try.ntmps16
  go_wp2_with fail
  exact bodyPost_ret (v := .tuple #[.agg #[.int .i64 0, .int .i64 0, .int .i64 0, .int .i64 0], .int .i64 12]) (by simp [results, Try.results16, go_sem]) rfl ⟨rfl, (Below.refl _ _).alloc (Nat.le_refl _) _⟩
theorem extract_mid (s : ByteArray) (a k : Nat) : (s.extract a (a + k)).data.toList = mid s.data.toList a k := by
  unfold mid
  simp only [ByteArray.data_extract, Array.toList_extract, List.extract_eq_take_drop]
  congr 1; omega
theorem read_at (s : ByteArray) (a k : Nat) (hk : k ≤ 64) (y : ByteArray) (hy : s.extract a (a + k) = y) (n : Nat) (hn : satV (beV (mid s.data.toList a k)) = n) (v : Int) (hv : (n : Int) = v) (w : World) : Calls Try.prog 28 #[.string y] w fun e w' => e = .returned (.int .i64 v) ∧ w = w' := by
  subst hy hn hv
  have := read_walk (s.extract a (a + k)) (by rw [ByteArray.size_extract]; omega) w
  rw [extract_mid] at this
  exact this
set_option maxRecDepth 100000 in
set_option maxHeartbeats 1000000 in
theorem rdec_inv (s : ByteArray) (p : Int) (h : ¬ p < 0) (h3 : ¬ 3 < p) (hs : s.size = 64) (n1 n2 n3 n4 : Nat) (hv1 : satV (beV (mid s.data.toList 0 8)) = n1) (hv2 : satV (beV (mid s.data.toList 8 4)) = n2) (hv3 : satV (beV (mid s.data.toList 12 4)) = n3) (hv4 : satV (beV (mid s.data.toList 16 4)) = n4)
    (hval : validI n1 n2 n3 n4 = false) (w : World) : Calls Try.prog 16 #[.string s, .int .i64 p] w fun e w' => e = .returned (.tuple #[.agg #[.int .i64 0, .int .i64 0, .int .i64 0, .int .i64 0], .int .i64 12]) ∧ Below w.heap.size w w' := by
  obtain ⟨v1, hw1⟩ : ∃ v : Int, (n1 : Int) = v := ⟨_, rfl⟩
  obtain ⟨v2, hw2⟩ : ∃ v : Int, (n2 : Int) = v := ⟨_, rfl⟩
  obtain ⟨v3, hw3⟩ : ∃ v : Int, (n3 : Int) = v := ⟨_, rfl⟩
  obtain ⟨v4, hw4⟩ : ∃ v : Int, (n4 : Int) = v := ⟨_, rfl⟩
  have hv0 : 0 ≤ v1 := by omega
  rw [hw1, hw2, hw3, hw4] at hval
  have HVAL := Lib.hid hval
  clear hval
  have hsl1 : ∀ W, (Instr.slice 9 (.string s) none (some (.int .i64 8)) none).run Try.prog W = .ok (.string (s.extract 0 8)) W := fun W => by
    have := run_slice_string_h (P := Try.prog) (w := W) 9 s Try.underlying9 .i64 8 (by omega) (by omega)
    exact this
  have hsl2 : ∀ W, (Instr.slice 9 (.string s) (some (.int .i64 8)) (some (.int .i64 12)) none).run Try.prog W = .ok (.string (s.extract 8 12)) W := fun W => run_slice_string (P := Try.prog) (w := W) 9 s .i64 .i64 8 12 Try.underlying9 (by omega) (by omega) (by omega)
  have hsl3 : ∀ W, (Instr.slice 9 (.string s) (some (.int .i64 12)) (some (.int .i64 16)) none).run Try.prog W = .ok (.string (s.extract 12 16)) W := fun W => run_slice_string (P := Try.prog) (w := W) 9 s .i64 .i64 12 16 Try.underlying9 (by omega) (by omega) (by omega)
  have hsl4 : ∀ W, (Instr.slice 9 (.string s) (some (.int .i64 16)) (some (.int .i64 20)) none).run Try.prog W = .ok (.string (s.extract 16 20)) W := fun W => run_slice_string (P := Try.prog) (w := W) 9 s .i64 .i64 16 20 Try.underlying9 (by omega) (by omega) (by omega)
  obtain ⟨y1, hy1⟩ : ∃ y, s.extract 0 8 = y := ⟨_, rfl⟩
  obtain ⟨y2, hy2⟩ : ∃ y, s.extract 8 12 = y := ⟨_, rfl⟩
  obtain ⟨y3, hy3⟩ : ∃ y, s.extract 12 16 = y := ⟨_, rfl⟩
  obtain ⟨y4, hy4⟩ : ∃ y, s.extract 16 20 = y := ⟨_, rfl⟩
  rw [hy1] at hsl1
  rw [hy2] at hsl2
  rw [hy3] at hsl3
  rw [hy4] at hsl4
  have R1 := Lib.hid (read_at s 0 8 (by decide) y1 hy1 n1 hv1 v1 hw1)
  have R2 := Lib.hid (read_at s 8 4 (by decide) y2 hy2 n2 hv2 v2 hw2)
  have R3 := Lib.hid (read_at s 12 4 (by decide) y3 hy3 n3 hv3 v3 hw3)
  have R4 := Lib.hid (read_at s 16 4 (by decide) y4 hy4 n4 hv4 v4 hw4)
  have hs' : (s.size : Int) = 64 := by omega
  have HW : Hid ((n1 : Int) = v1 ∧ (n2 : Int) = v2 ∧ (n3 : Int) = v3 ∧ (n4 : Int) = v4) := Lib.hid ⟨hw1, hw2, hw3, hw4⟩
  clear hv1 hv2 hv3 hv4 hs hw1 hw2 hw3 hw4 hy1 hy2 hy3 hy4
  go_enter Try.func16, Try.ntmps16
  go_wp2_with fail
  go_region_held3 (fun _ => True) (exact True.intro) (first | (go_at_call 28; (with_reducible refine (R1.out _).mono ?_); rintro e _ ⟨rfl, rfl⟩) | (go_at_call 28; (with_reducible refine (R2.out _).mono ?_); rintro e _ ⟨rfl, rfl⟩) | (go_at_call 28; (with_reducible refine (R3.out _).mono ?_); rintro e _ ⟨rfl, rfl⟩) | (go_at_call 28; (with_reducible refine (R4.out _).mono ?_); rintro e _ ⟨rfl, rfl⟩))
  all_goals
    clear hsl1 hsl2 hsl3 hsl4
    go_wp2_with fail
    refine (renc_bad v1 v2 v3 v4 (by exact HVAL.out) _).mono ?_; rintro e w2 ⟨rfl, hb⟩
    have hR : Box w2 w.heap.size 0 0 0 0 := (hb.block w.heap.size (by simp; omega)).trans (by
      show ((w.alloc (.cells #[.int .i64 0, .int .i64 0, .int .i64 0, .int .i64 0] 25)).alloc (.cells #[.int .i64 v1, .int .i64 v2, .int .i64 v3, .int .i64 v4] 25)).heap[w.heap.size]? = _
      rw [Below.heap_alloc _ _ _ (by simp)]; exact heap_alloc_new _ _)
    have hX : Box w2 (w.heap.size + 1) v1 v2 v3 v4 := (hb.block (w.heap.size + 1) (by simp)).trans (by
      rw [show w.heap.size + 1 = (w.alloc (.cells #[.int .i64 0, .int .i64 0, .int .i64 0, .int .i64 0] 25)).heap.size by simp]; exact heap_alloc_new _ _)
    have r0 := hR.c0
    have r1 := hR.c1
    have r2 := hR.c2
    have r3 := hR.c3
    have rf := hR.fr
    have x0 := hX.c0
    have x1 := hX.c1
    have x2 := hX.c2
    have x3 := hX.c3
    have HB := Lib.hid ((((Below.refl w.heap.size w).alloc (Nat.le_refl _) _).alloc (by simp) _).drew.trans (hb.mono (by simp; omega) : Below w.heap.size _ _))
    clear hb hR hX
    go_wp2_with fail
    obtain ⟨rfl, rfl, rfl, rfl⟩ := HW.out
    exact bodyPost_ret (v := .tuple #[.agg #[.int .i64 0, .int .i64 0, .int .i64 0, .int .i64 0], .int .i64 12]) (by simp [results, Try.results16, go_sem, r0, r1, r2, r3]) rfl ⟨rfl, (((HB.out.setCell (by simp) _).setCell (by simp) _).setCell (by simp) _).setCell (by simp) _⟩
set_option maxRecDepth 100000 in
set_option maxHeartbeats 1000000 in
theorem rdec_enc (s : ByteArray) (p : Int) (h : ¬ p < 0) (h3 : ¬ 3 < p) (hs : s.size = 64) (n1 n2 n3 n4 : Nat) (hv1 : satV (beV (mid s.data.toList 0 8)) = n1) (hv2 : satV (beV (mid s.data.toList 8 4)) = n2) (hv3 : satV (beV (mid s.data.toList 12 4)) = n3) (hv4 : satV (beV (mid s.data.toList 16 4)) = n4)
    (hval : validI n1 n2 n3 n4 = true) (he : ((bA (encL n1 n2 n3 n4)).toList == s.toList) = false) (w : World) : Calls Try.prog 16 #[.string s, .int .i64 p] w fun e w' => e = .returned (.tuple #[.agg #[.int .i64 0, .int .i64 0, .int .i64 0, .int .i64 0], .int .i64 12]) ∧ Below w.heap.size w w' := by
  obtain ⟨v1, hw1⟩ : ∃ v : Int, (n1 : Int) = v := ⟨_, rfl⟩
  obtain ⟨v2, hw2⟩ : ∃ v : Int, (n2 : Int) = v := ⟨_, rfl⟩
  obtain ⟨v3, hw3⟩ : ∃ v : Int, (n3 : Int) = v := ⟨_, rfl⟩
  obtain ⟨v4, hw4⟩ : ∃ v : Int, (n4 : Int) = v := ⟨_, rfl⟩
  have hv0 : 0 ≤ v1 := by omega
  obtain ⟨x, hx⟩ : ∃ x, bA (encL n1 n2 n3 n4) = x := ⟨_, rfl⟩
  rw [hx] at he
  have henc := renc_ok n1 n2 n3 n4 hval
  rw [hx, hw1, hw2, hw3, hw4] at henc
  have HENC := Lib.hid henc
  clear hx hval henc
  have hsl1 : ∀ W, (Instr.slice 9 (.string s) none (some (.int .i64 8)) none).run Try.prog W = .ok (.string (s.extract 0 8)) W := fun W => by
    have := run_slice_string_h (P := Try.prog) (w := W) 9 s Try.underlying9 .i64 8 (by omega) (by omega)
    exact this
  have hsl2 : ∀ W, (Instr.slice 9 (.string s) (some (.int .i64 8)) (some (.int .i64 12)) none).run Try.prog W = .ok (.string (s.extract 8 12)) W := fun W => run_slice_string (P := Try.prog) (w := W) 9 s .i64 .i64 8 12 Try.underlying9 (by omega) (by omega) (by omega)
  have hsl3 : ∀ W, (Instr.slice 9 (.string s) (some (.int .i64 12)) (some (.int .i64 16)) none).run Try.prog W = .ok (.string (s.extract 12 16)) W := fun W => run_slice_string (P := Try.prog) (w := W) 9 s .i64 .i64 12 16 Try.underlying9 (by omega) (by omega) (by omega)
  have hsl4 : ∀ W, (Instr.slice 9 (.string s) (some (.int .i64 16)) (some (.int .i64 20)) none).run Try.prog W = .ok (.string (s.extract 16 20)) W := fun W => run_slice_string (P := Try.prog) (w := W) 9 s .i64 .i64 16 20 Try.underlying9 (by omega) (by omega) (by omega)
  obtain ⟨y1, hy1⟩ : ∃ y, s.extract 0 8 = y := ⟨_, rfl⟩
  obtain ⟨y2, hy2⟩ : ∃ y, s.extract 8 12 = y := ⟨_, rfl⟩
  obtain ⟨y3, hy3⟩ : ∃ y, s.extract 12 16 = y := ⟨_, rfl⟩
  obtain ⟨y4, hy4⟩ : ∃ y, s.extract 16 20 = y := ⟨_, rfl⟩
  rw [hy1] at hsl1
  rw [hy2] at hsl2
  rw [hy3] at hsl3
  rw [hy4] at hsl4
  have R1 := Lib.hid (read_at s 0 8 (by decide) y1 hy1 n1 hv1 v1 hw1)
  have R2 := Lib.hid (read_at s 8 4 (by decide) y2 hy2 n2 hv2 v2 hw2)
  have R3 := Lib.hid (read_at s 12 4 (by decide) y3 hy3 n3 hv3 v3 hw3)
  have R4 := Lib.hid (read_at s 16 4 (by decide) y4 hy4 n4 hv4 v4 hw4)
  have hs' : (s.size : Int) = 64 := by omega
  have HW : Hid ((n1 : Int) = v1 ∧ (n2 : Int) = v2 ∧ (n3 : Int) = v3 ∧ (n4 : Int) = v4) := Lib.hid ⟨hw1, hw2, hw3, hw4⟩
  clear hv1 hv2 hv3 hv4 hs hw1 hw2 hw3 hw4 hy1 hy2 hy3 hy4
  go_enter Try.func16, Try.ntmps16
  go_wp2_with fail
  go_region_held3 (fun _ => True) (exact True.intro) (first | (go_at_call 28; (with_reducible refine (R1.out _).mono ?_); rintro e _ ⟨rfl, rfl⟩) | (go_at_call 28; (with_reducible refine (R2.out _).mono ?_); rintro e _ ⟨rfl, rfl⟩) | (go_at_call 28; (with_reducible refine (R3.out _).mono ?_); rintro e _ ⟨rfl, rfl⟩) | (go_at_call 28; (with_reducible refine (R4.out _).mono ?_); rintro e _ ⟨rfl, rfl⟩))
  all_goals
    clear hsl1 hsl2 hsl3 hsl4
    go_wp2_with fail
    refine (HENC.out _).mono ?_; rintro e w2 ⟨rfl, hb⟩
    have hR : Box w2 w.heap.size 0 0 0 0 := (hb.block w.heap.size (by simp; omega)).trans (by
      show ((w.alloc (.cells #[.int .i64 0, .int .i64 0, .int .i64 0, .int .i64 0] 25)).alloc (.cells #[.int .i64 v1, .int .i64 v2, .int .i64 v3, .int .i64 v4] 25)).heap[w.heap.size]? = _
      rw [Below.heap_alloc _ _ _ (by simp)]; exact heap_alloc_new _ _)
    have hX : Box w2 (w.heap.size + 1) v1 v2 v3 v4 := (hb.block (w.heap.size + 1) (by simp)).trans (by
      rw [show w.heap.size + 1 = (w.alloc (.cells #[.int .i64 0, .int .i64 0, .int .i64 0, .int .i64 0] 25)).heap.size by simp]; exact heap_alloc_new _ _)
    have r0 := hR.c0
    have r1 := hR.c1
    have r2 := hR.c2
    have r3 := hR.c3
    have rf := hR.fr
    have x0 := hX.c0
    have x1 := hX.c1
    have x2 := hX.c2
    have x3 := hX.c3
    have HB := Lib.hid ((((Below.refl w.heap.size w).alloc (Nat.le_refl _) _).alloc (by simp) _).drew.trans (hb.mono (by simp; omega) : Below w.heap.size _ _))
    clear hb hR hX
    go_wp2_with fail
    obtain ⟨rfl, rfl, rfl, rfl⟩ := HW.out
    exact bodyPost_ret (v := .tuple #[.agg #[.int .i64 0, .int .i64 0, .int .i64 0, .int .i64 0], .int .i64 12]) (by simp [results, Try.results16, go_sem, r0, r1, r2, r3]) rfl ⟨rfl, (((HB.out.setCell (by simp) _).setCell (by simp) _).setCell (by simp) _).setCell (by simp) _⟩
set_option maxRecDepth 100000 in
set_option maxHeartbeats 1000000 in
theorem rdec_par (s : ByteArray) (p : Int) (h : ¬ p < 0) (h3 : ¬ 3 < p) (hs : s.size = 64) (n1 n2 n3 n4 : Nat) (hv1 : satV (beV (mid s.data.toList 0 8)) = n1) (hv2 : satV (beV (mid s.data.toList 8 4)) = n2) (hv3 : satV (beV (mid s.data.toList 12 4)) = n3) (hv4 : satV (beV (mid s.data.toList 16 4)) = n4)
    (hval : validI n1 n2 n3 n4 = true) (he : ((bA (encL n1 n2 n3 n4)).toList == s.toList) = true) (hp : ((n1 : Int) % 2 == p % 2) = false) (w : World) : Calls Try.prog 16 #[.string s, .int .i64 p] w fun e w' => e = .returned (.tuple #[.agg #[.int .i64 0, .int .i64 0, .int .i64 0, .int .i64 0], .int .i64 12]) ∧ Below w.heap.size w w' := by
  obtain ⟨v1, hw1⟩ : ∃ v : Int, (n1 : Int) = v := ⟨_, rfl⟩
  obtain ⟨v2, hw2⟩ : ∃ v : Int, (n2 : Int) = v := ⟨_, rfl⟩
  obtain ⟨v3, hw3⟩ : ∃ v : Int, (n3 : Int) = v := ⟨_, rfl⟩
  obtain ⟨v4, hw4⟩ : ∃ v : Int, (n4 : Int) = v := ⟨_, rfl⟩
  have hv0 : 0 ≤ v1 := by omega
  obtain ⟨x, hx⟩ : ∃ x, bA (encL n1 n2 n3 n4) = x := ⟨_, rfl⟩
  rw [hx] at he
  have henc := renc_ok n1 n2 n3 n4 hval
  rw [hx, hw1, hw2, hw3, hw4] at henc
  have HENC := Lib.hid henc
  clear hx hval henc
  rw [hw1] at hp
  have hp' : ((v1 % 2 : Int) != p % 2) = true := by simp [bne, hp]
  have hsl1 : ∀ W, (Instr.slice 9 (.string s) none (some (.int .i64 8)) none).run Try.prog W = .ok (.string (s.extract 0 8)) W := fun W => by
    have := run_slice_string_h (P := Try.prog) (w := W) 9 s Try.underlying9 .i64 8 (by omega) (by omega)
    exact this
  have hsl2 : ∀ W, (Instr.slice 9 (.string s) (some (.int .i64 8)) (some (.int .i64 12)) none).run Try.prog W = .ok (.string (s.extract 8 12)) W := fun W => run_slice_string (P := Try.prog) (w := W) 9 s .i64 .i64 8 12 Try.underlying9 (by omega) (by omega) (by omega)
  have hsl3 : ∀ W, (Instr.slice 9 (.string s) (some (.int .i64 12)) (some (.int .i64 16)) none).run Try.prog W = .ok (.string (s.extract 12 16)) W := fun W => run_slice_string (P := Try.prog) (w := W) 9 s .i64 .i64 12 16 Try.underlying9 (by omega) (by omega) (by omega)
  have hsl4 : ∀ W, (Instr.slice 9 (.string s) (some (.int .i64 16)) (some (.int .i64 20)) none).run Try.prog W = .ok (.string (s.extract 16 20)) W := fun W => run_slice_string (P := Try.prog) (w := W) 9 s .i64 .i64 16 20 Try.underlying9 (by omega) (by omega) (by omega)
  obtain ⟨y1, hy1⟩ : ∃ y, s.extract 0 8 = y := ⟨_, rfl⟩
  obtain ⟨y2, hy2⟩ : ∃ y, s.extract 8 12 = y := ⟨_, rfl⟩
  obtain ⟨y3, hy3⟩ : ∃ y, s.extract 12 16 = y := ⟨_, rfl⟩
  obtain ⟨y4, hy4⟩ : ∃ y, s.extract 16 20 = y := ⟨_, rfl⟩
  rw [hy1] at hsl1
  rw [hy2] at hsl2
  rw [hy3] at hsl3
  rw [hy4] at hsl4
  have R1 := Lib.hid (read_at s 0 8 (by decide) y1 hy1 n1 hv1 v1 hw1)
  have R2 := Lib.hid (read_at s 8 4 (by decide) y2 hy2 n2 hv2 v2 hw2)
  have R3 := Lib.hid (read_at s 12 4 (by decide) y3 hy3 n3 hv3 v3 hw3)
  have R4 := Lib.hid (read_at s 16 4 (by decide) y4 hy4 n4 hv4 v4 hw4)
  have hs' : (s.size : Int) = 64 := by omega
  have HW : Hid ((n1 : Int) = v1 ∧ (n2 : Int) = v2 ∧ (n3 : Int) = v3 ∧ (n4 : Int) = v4) := Lib.hid ⟨hw1, hw2, hw3, hw4⟩
  clear hv1 hv2 hv3 hv4 hs hw1 hw2 hw3 hw4 hy1 hy2 hy3 hy4
  go_enter Try.func16, Try.ntmps16
  go_wp2_with fail
  go_region_held3 (fun _ => True) (exact True.intro) (first | (go_at_call 28; (with_reducible refine (R1.out _).mono ?_); rintro e _ ⟨rfl, rfl⟩) | (go_at_call 28; (with_reducible refine (R2.out _).mono ?_); rintro e _ ⟨rfl, rfl⟩) | (go_at_call 28; (with_reducible refine (R3.out _).mono ?_); rintro e _ ⟨rfl, rfl⟩) | (go_at_call 28; (with_reducible refine (R4.out _).mono ?_); rintro e _ ⟨rfl, rfl⟩))
  all_goals
    clear hsl1 hsl2 hsl3 hsl4
    go_wp2_with fail
    refine (HENC.out _).mono ?_; rintro e w2 ⟨rfl, hb⟩
    have hR : Box w2 w.heap.size 0 0 0 0 := (hb.block w.heap.size (by simp; omega)).trans (by
      show ((w.alloc (.cells #[.int .i64 0, .int .i64 0, .int .i64 0, .int .i64 0] 25)).alloc (.cells #[.int .i64 v1, .int .i64 v2, .int .i64 v3, .int .i64 v4] 25)).heap[w.heap.size]? = _
      rw [Below.heap_alloc _ _ _ (by simp)]; exact heap_alloc_new _ _)
    have hX : Box w2 (w.heap.size + 1) v1 v2 v3 v4 := (hb.block (w.heap.size + 1) (by simp)).trans (by
      rw [show w.heap.size + 1 = (w.alloc (.cells #[.int .i64 0, .int .i64 0, .int .i64 0, .int .i64 0] 25)).heap.size by simp]; exact heap_alloc_new _ _)
    have r0 := hR.c0
    have r1 := hR.c1
    have r2 := hR.c2
    have r3 := hR.c3
    have rf := hR.fr
    have x0 := hX.c0
    have x1 := hX.c1
    have x2 := hX.c2
    have x3 := hX.c3
    have HB := Lib.hid ((((Below.refl w.heap.size w).alloc (Nat.le_refl _) _).alloc (by simp) _).drew.trans (hb.mono (by simp; omega) : Below w.heap.size _ _))
    clear hb hR hX
    go_wp2_with fail
    obtain ⟨rfl, rfl, rfl, rfl⟩ := HW.out
    exact bodyPost_ret (v := .tuple #[.agg #[.int .i64 0, .int .i64 0, .int .i64 0, .int .i64 0], .int .i64 12]) (by simp [results, Try.results16, go_sem, r0, r1, r2, r3]) rfl ⟨rfl, (((HB.out.setCell (by simp) _).setCell (by simp) _).setCell (by simp) _).setCell (by simp) _⟩
set_option maxRecDepth 100000 in
set_option maxHeartbeats 1000000 in
theorem rdec_ok (s : ByteArray) (p : Int) (h : ¬ p < 0) (h3 : ¬ 3 < p) (hs : s.size = 64) (n1 n2 n3 n4 : Nat) (hv1 : satV (beV (mid s.data.toList 0 8)) = n1) (hv2 : satV (beV (mid s.data.toList 8 4)) = n2) (hv3 : satV (beV (mid s.data.toList 12 4)) = n3) (hv4 : satV (beV (mid s.data.toList 16 4)) = n4)
    (hval : validI n1 n2 n3 n4 = true) (he : ((bA (encL n1 n2 n3 n4)).toList == s.toList) = true) (hp : ((n1 : Int) % 2 == p % 2) = true) (w : World) : Calls Try.prog 16 #[.string s, .int .i64 p] w fun e w' => e = .returned (.tuple #[.agg #[.int .i64 n1, .int .i64 n2, .int .i64 n3, .int .i64 n4], .int .i64 0]) ∧ Below w.heap.size w w' := by
  obtain ⟨v1, hw1⟩ : ∃ v : Int, (n1 : Int) = v := ⟨_, rfl⟩
  obtain ⟨v2, hw2⟩ : ∃ v : Int, (n2 : Int) = v := ⟨_, rfl⟩
  obtain ⟨v3, hw3⟩ : ∃ v : Int, (n3 : Int) = v := ⟨_, rfl⟩
  obtain ⟨v4, hw4⟩ : ∃ v : Int, (n4 : Int) = v := ⟨_, rfl⟩
  have hv0 : 0 ≤ v1 := by omega
  obtain ⟨x, hx⟩ : ∃ x, bA (encL n1 n2 n3 n4) = x := ⟨_, rfl⟩
  rw [hx] at he
  have henc := renc_ok n1 n2 n3 n4 hval
  rw [hx, hw1, hw2, hw3, hw4] at henc
  have HENC := Lib.hid henc
  clear hx hval henc
  rw [hw1] at hp
  have hp' : ((v1 % 2 : Int) != p % 2) = false := by simp [bne, hp]
  have hsl1 : ∀ W, (Instr.slice 9 (.string s) none (some (.int .i64 8)) none).run Try.prog W = .ok (.string (s.extract 0 8)) W := fun W => by
    have := run_slice_string_h (P := Try.prog) (w := W) 9 s Try.underlying9 .i64 8 (by omega) (by omega)
    exact this
  have hsl2 : ∀ W, (Instr.slice 9 (.string s) (some (.int .i64 8)) (some (.int .i64 12)) none).run Try.prog W = .ok (.string (s.extract 8 12)) W := fun W => run_slice_string (P := Try.prog) (w := W) 9 s .i64 .i64 8 12 Try.underlying9 (by omega) (by omega) (by omega)
  have hsl3 : ∀ W, (Instr.slice 9 (.string s) (some (.int .i64 12)) (some (.int .i64 16)) none).run Try.prog W = .ok (.string (s.extract 12 16)) W := fun W => run_slice_string (P := Try.prog) (w := W) 9 s .i64 .i64 12 16 Try.underlying9 (by omega) (by omega) (by omega)
  have hsl4 : ∀ W, (Instr.slice 9 (.string s) (some (.int .i64 16)) (some (.int .i64 20)) none).run Try.prog W = .ok (.string (s.extract 16 20)) W := fun W => run_slice_string (P := Try.prog) (w := W) 9 s .i64 .i64 16 20 Try.underlying9 (by omega) (by omega) (by omega)
  obtain ⟨y1, hy1⟩ : ∃ y, s.extract 0 8 = y := ⟨_, rfl⟩
  obtain ⟨y2, hy2⟩ : ∃ y, s.extract 8 12 = y := ⟨_, rfl⟩
  obtain ⟨y3, hy3⟩ : ∃ y, s.extract 12 16 = y := ⟨_, rfl⟩
  obtain ⟨y4, hy4⟩ : ∃ y, s.extract 16 20 = y := ⟨_, rfl⟩
  rw [hy1] at hsl1
  rw [hy2] at hsl2
  rw [hy3] at hsl3
  rw [hy4] at hsl4
  have R1 := Lib.hid (read_at s 0 8 (by decide) y1 hy1 n1 hv1 v1 hw1)
  have R2 := Lib.hid (read_at s 8 4 (by decide) y2 hy2 n2 hv2 v2 hw2)
  have R3 := Lib.hid (read_at s 12 4 (by decide) y3 hy3 n3 hv3 v3 hw3)
  have R4 := Lib.hid (read_at s 16 4 (by decide) y4 hy4 n4 hv4 v4 hw4)
  have hs' : (s.size : Int) = 64 := by omega
  have HW : Hid ((n1 : Int) = v1 ∧ (n2 : Int) = v2 ∧ (n3 : Int) = v3 ∧ (n4 : Int) = v4) := Lib.hid ⟨hw1, hw2, hw3, hw4⟩
  clear hv1 hv2 hv3 hv4 hs hw1 hw2 hw3 hw4 hy1 hy2 hy3 hy4
  go_enter Try.func16, Try.ntmps16
  go_wp2_with fail
  go_region_held3 (fun _ => True) (exact True.intro) (first | (go_at_call 28; (with_reducible refine (R1.out _).mono ?_); rintro e _ ⟨rfl, rfl⟩) | (go_at_call 28; (with_reducible refine (R2.out _).mono ?_); rintro e _ ⟨rfl, rfl⟩) | (go_at_call 28; (with_reducible refine (R3.out _).mono ?_); rintro e _ ⟨rfl, rfl⟩) | (go_at_call 28; (with_reducible refine (R4.out _).mono ?_); rintro e _ ⟨rfl, rfl⟩))
  all_goals
    clear hsl1 hsl2 hsl3 hsl4
    go_wp2_with fail
    refine (HENC.out _).mono ?_; rintro e w2 ⟨rfl, hb⟩
    have hR : Box w2 w.heap.size 0 0 0 0 := (hb.block w.heap.size (by simp; omega)).trans (by
      show ((w.alloc (.cells #[.int .i64 0, .int .i64 0, .int .i64 0, .int .i64 0] 25)).alloc (.cells #[.int .i64 v1, .int .i64 v2, .int .i64 v3, .int .i64 v4] 25)).heap[w.heap.size]? = _
      rw [Below.heap_alloc _ _ _ (by simp)]; exact heap_alloc_new _ _)
    have hX : Box w2 (w.heap.size + 1) v1 v2 v3 v4 := (hb.block (w.heap.size + 1) (by simp)).trans (by
      rw [show w.heap.size + 1 = (w.alloc (.cells #[.int .i64 0, .int .i64 0, .int .i64 0, .int .i64 0] 25)).heap.size by simp]; exact heap_alloc_new _ _)
    have r0 := hR.c0
    have r1 := hR.c1
    have r2 := hR.c2
    have r3 := hR.c3
    have rf := hR.fr
    have x0 := hX.c0
    have x1 := hX.c1
    have x2 := hX.c2
    have x3 := hX.c3
    have HB := Lib.hid ((((Below.refl w.heap.size w).alloc (Nat.le_refl _) _).alloc (by simp) _).drew.trans (hb.mono (by simp; omega) : Below w.heap.size _ _))
    clear hb hR hX
    go_wp2_with fail
    obtain ⟨rfl, rfl, rfl, rfl⟩ := HW.out
    exact bodyPost_ret (v := .tuple #[.agg #[.int .i64 n1, .int .i64 n2, .int .i64 n3, .int .i64 n4], .int .i64 0]) (by simp [results, Try.results16, go_sem, r0, r1, r2, r3]) rfl ⟨rfl, (((HB.out.setCell (by simp) _).setCell (by simp) _).setCell (by simp) _).setCell (by simp) _⟩
/-- what is decoded -/
def decV (D : List UInt8) (p : Int) : (Int × Int × Int × Int) × Int :=
  if p < 0 ∨ 3 < p then ((0, 0, 0, 0), 2) else if D.length ≠ 64 then ((0, 0, 0, 0), 12) else if decOK D p = true then (((fN D : Nat), (fS D : Nat), (fL D : Nat), (fC D : Nat)), 0) else ((0, 0, 0, 0), 12)
theorem f4_lt (D : List UInt8) (h : D.length = 64) : fS D < 2 ^ 32 ∧ fL D < 2 ^ 32 ∧ fC D < 2 ^ 32 := by
  have k : ∀ a, a + 4 ≤ 64 → beV (mid D a 4) < 2 ^ 32 := fun a ha => by
    have := beV_lt (mid D a 4)
    rw [mid_length D a 4 (by omega)] at this
    exact Nat.lt_of_lt_of_le this (by decide)
  exact ⟨k 8 (by decide), k 12 (by decide), k 16 (by decide)⟩
theorem enc_eq (n s l c : Nat) (b : ByteArray) (D : List UInt8) (hD : b.data.toList = D) : ((bA (encL n s l c)).toList == b.toList) = decide (encL n s l c = D) := by
  rw [ByteArray.toList_eq, ByteArray.toList_eq, bA_list, hD]
  rw [Bool.eq_iff_iff]; simp
theorem decode_walk (b : ByteArray) (p : Int) (n s l c e : Int) (hr : decV b.data.toList p = ((n, s, l, c), e)) (w : World) : Calls Try.prog 15 #[.string b, .int .i64 p] w fun x w' => x = .returned (.tuple #[.agg #[.int .i64 n, .int .i64 s, .int .i64 l, .int .i64 c], .int .i64 e]) ∧ Below w.heap.size w w' := by
  obtain ⟨D, hD⟩ : ∃ D, b.data.toList = D := ⟨_, rfl⟩
  have hlen : D.length = b.size := by rw [← hD]; rfl
  unfold decV at hr
  rw [hD] at hr
  by_cases h1 : p < 0 ∨ 3 < p
  · rw [if_pos h1] at hr; cases hr; exact dec_range b p h1 w
  · rw [if_neg h1] at hr
    by_cases h2 : D.length ≠ 64
    · rw [if_pos h2] at hr; cases hr; exact dec_len b p (by omega) (by omega) (by omega) w
    · rw [if_neg h2] at hr
      have h64 : D.length = 64 := by omega
      have p0 : ¬ p < 0 := by omega
      have p3 : ¬ 3 < p := by omega
      have b64 : b.size = 64 := by omega
      clear h1 h2 hlen
      obtain ⟨fs, fl, fc⟩ := f4_lt D h64
      have fn := fN_lt D (by omega)
      have e2 : wrap64 (beV (mid b.data.toList 8 4) : Nat) = (fS D : Nat) := by rw [hD]; exact wrap_small _ (mid4_lt D 8 (by omega))
      have e3 : wrap64 (beV (mid b.data.toList 12 4) : Nat) = (fL D : Nat) := by rw [hD]; exact wrap_small _ (mid4_lt D 12 (by omega))
      have e4 : wrap64 (beV (mid b.data.toList 16 4) : Nat) = (fC D : Nat) := by rw [hD]; exact wrap_small _ (mid4_lt D 16 (by omega))
      have e1 : wrap64 (beV (mid b.data.toList 0 8) : Nat) = wrap64 (fN D : Nat) := by rw [hD]; rfl
      cases hv : validI (wrap64 (fN D : Nat)) (fS D : Nat) (fL D : Nat) (fC D : Nat)
      · have hno : ¬ decOK D p = true := by
          intro h
          obtain ⟨k1, k2, k3⟩ := decOK_iff.1 h
          have k4 := validI_iff.1 k1
          rw [show wrap64 (fN D : Nat) = (fN D : Nat) by unfold wrap64; omega, k1] at hv
          cases hv
        rw [if_neg hno] at hr; cases hr
        exact dec_inv b p p0 p3 b64 _ _ _ _ e1 e2 e3 e4 hv w
      · have k4 := validI_iff.1 hv
        have e1' : wrap64 (fN D : Nat) = (fN D : Nat) := by unfold wrap64 at k4 ⊢; omega
        rw [e1'] at e1 hv
        by_cases h3 : encL (fN D) (fS D) (fL D) (fC D) = D
        · by_cases h4 : ((fN D : Nat) : Int) % 2 = p % 2
          · rw [if_pos (decOK_iff.2 ⟨hv, h3, h4⟩)] at hr; cases hr
            exact dec_ok b p p0 p3 b64 _ _ _ _ e1 e2 e3 e4 hv (by rw [enc_eq _ _ _ _ b D hD]; exact decide_eq_true h3) (by simpa using h4) w
          · rw [if_neg (fun h => h4 (decOK_iff.1 h).2.2)] at hr; cases hr
            exact dec_par b p p0 p3 b64 _ _ _ _ e1 e2 e3 e4 hv (by rw [enc_eq _ _ _ _ b D hD]; exact decide_eq_true h3) (by simpa using h4) w
        · rw [if_neg (fun h => h3 (decOK_iff.1 h).2.1)] at hr; cases hr
          exact dec_enc b p p0 p3 b64 _ _ _ _ e1 e2 e3 e4 hv (by rw [enc_eq _ _ _ _ b D hD]; exact decide_eq_false h3) w
theorem rdecode_walk (b : ByteArray) (p : Int) (n s l c e : Int) (hr : decV b.data.toList p = ((n, s, l, c), e)) (w : World) : Calls Try.prog 16 #[.string b, .int .i64 p] w fun x w' => x = .returned (.tuple #[.agg #[.int .i64 n, .int .i64 s, .int .i64 l, .int .i64 c], .int .i64 e]) ∧ Below w.heap.size w w' := by
  obtain ⟨D, hD⟩ : ∃ D, b.data.toList = D := ⟨_, rfl⟩
  have hlen : D.length = b.size := by rw [← hD]; rfl
  unfold decV at hr
  rw [hD] at hr
  by_cases h1 : p < 0 ∨ 3 < p
  · rw [if_pos h1] at hr; cases hr; exact rdec_range b p h1 w
  · rw [if_neg h1] at hr
    by_cases h2 : D.length ≠ 64
    · rw [if_pos h2] at hr; cases hr; exact rdec_len b p (by omega) (by omega) (by omega) w
    · rw [if_neg h2] at hr
      have h64 : D.length = 64 := by omega
      have p0 : ¬ p < 0 := by omega
      have p3 : ¬ 3 < p := by omega
      have b64 : b.size = 64 := by omega
      clear h1 h2 hlen
      obtain ⟨fs, fl, fc⟩ := f4_lt D h64
      have sat : ∀ x, x < 2 ^ 32 → satV x = x := fun x h => by unfold satV; omega
      have e2 : satV (beV (mid b.data.toList 8 4)) = fS D := by rw [hD]; exact sat _ fs
      have e3 : satV (beV (mid b.data.toList 12 4)) = fL D := by rw [hD]; exact sat _ fl
      have e4 : satV (beV (mid b.data.toList 16 4)) = fC D := by rw [hD]; exact sat _ fc
      have e1 : satV (beV (mid b.data.toList 0 8)) = satV (fN D) := by rw [hD]; rfl
      cases hv : validI (satV (fN D) : Nat) (fS D : Nat) (fL D : Nat) (fC D : Nat)
      · have hno : ¬ decOK D p = true := by
          intro h
          obtain ⟨k1, k2, k3⟩ := decOK_iff.1 h
          have k4 := validI_iff.1 k1
          rw [show satV (fN D) = fN D by unfold satV; omega, k1] at hv
          cases hv
        rw [if_neg hno] at hr; cases hr
        exact rdec_inv b p p0 p3 b64 _ _ _ _ e1 e2 e3 e4 hv w
      · have k4 := validI_iff.1 hv
        have e1' : satV (fN D) = fN D := by unfold satV at k4 ⊢; omega
        rw [e1'] at e1 hv
        by_cases h3 : encL (fN D) (fS D) (fL D) (fC D) = D
        · by_cases h4 : ((fN D : Nat) : Int) % 2 = p % 2
          · rw [if_pos (decOK_iff.2 ⟨hv, h3, h4⟩)] at hr; cases hr
            exact rdec_ok b p p0 p3 b64 _ _ _ _ e1 e2 e3 e4 hv (by rw [enc_eq _ _ _ _ b D hD]; exact decide_eq_true h3) (by simpa using h4) w
          · rw [if_neg (fun h => h4 (decOK_iff.1 h).2.2)] at hr; cases hr
            exact rdec_par b p p0 p3 b64 _ _ _ _ e1 e2 e3 e4 hv (by rw [enc_eq _ _ _ _ b D hD]; exact decide_eq_true h3) (by simpa using h4) w
        · rw [if_neg (fun h => h3 (decOK_iff.1 h).2.1)] at hr; cases hr
          exact rdec_enc b p p0 p3 b64 _ _ _ _ e1 e2 e3 e4 hv (by rw [enc_eq _ _ _ _ b D hD]; exact decide_eq_false h3) w
end Go.Proofs.Ytonkamdipalbpaa
