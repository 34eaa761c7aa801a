import Derived.Test.YtonkamdipalbpaaWh
namespace Go.Proofs.Ytonkamdipalbpaa
open Go.RowKit
attribute [local go_sem ↓] Go.wp_at_zero Go.wp_at_succ

theorem setRow_alloc (w : World) (old cs : Array Value) (t : TypeId) (fr : Nat × Nat) : (w.alloc (.cells old t fr)).setRow w.heap.size cs = w.alloc (.cells cs t fr) := by
  unfold World.setRow World.alloc
  congr 1
  apply Array.ext
  · simp
  · intro i h1 h2
    simp only [Array.getElem_modify, Array.getElem_push]
    split
    · rename_i h; subst h; simp
    · rename_i h
      have h3 : i < w.heap.size := by simp [Array.size_push] at h2; omega
      simp [h3]
theorem copy_in (w : World) (s : ByteArray) (hs : s.size = 64) : (Builtin.copy_ #[37, 9] 3 #[.slice (some ⟨w.heap.size, 0, none⟩) 64 64, .string s]).run Try.prog (w.alloc (.cells #[.int .u8 0, .int .u8 0, .int .u8 0, .int .u8 0, .int .u8 0, .int .u8 0, .int .u8 0, .int .u8 0, .int .u8 0, .int .u8 0, .int .u8 0, .int .u8 0, .int .u8 0, .int .u8 0, .int .u8 0, .int .u8 0, .int .u8 0, .int .u8 0, .int .u8 0, .int .u8 0, .int .u8 0, .int .u8 0, .int .u8 0, .int .u8 0, .int .u8 0, .int .u8 0, .int .u8 0, .int .u8 0, .int .u8 0, .int .u8 0, .int .u8 0, .int .u8 0, .int .u8 0, .int .u8 0, .int .u8 0, .int .u8 0, .int .u8 0, .int .u8 0, .int .u8 0, .int .u8 0, .int .u8 0, .int .u8 0, .int .u8 0, .int .u8 0, .int .u8 0, .int .u8 0, .int .u8 0, .int .u8 0, .int .u8 0, .int .u8 0, .int .u8 0, .int .u8 0, .int .u8 0, .int .u8 0, .int .u8 0, .int .u8 0, .int .u8 0, .int .u8 0, .int .u8 0, .int .u8 0, .int .u8 0, .int .u8 0, .int .u8 0, .int .u8 0] 46)) = .ok (.int .i64 64) (w.alloc (.cells (rowC s.data.toList) 46)) := by
  have h := Lib.run_copy_row_string (P := Try.prog) (w.alloc (.cells #[.int .u8 0, .int .u8 0, .int .u8 0, .int .u8 0, .int .u8 0, .int .u8 0, .int .u8 0, .int .u8 0, .int .u8 0, .int .u8 0, .int .u8 0, .int .u8 0, .int .u8 0, .int .u8 0, .int .u8 0, .int .u8 0, .int .u8 0, .int .u8 0, .int .u8 0, .int .u8 0, .int .u8 0, .int .u8 0, .int .u8 0, .int .u8 0, .int .u8 0, .int .u8 0, .int .u8 0, .int .u8 0, .int .u8 0, .int .u8 0, .int .u8 0, .int .u8 0, .int .u8 0, .int .u8 0, .int .u8 0, .int .u8 0, .int .u8 0, .int .u8 0, .int .u8 0, .int .u8 0, .int .u8 0, .int .u8 0, .int .u8 0, .int .u8 0, .int .u8 0, .int .u8 0, .int .u8 0, .int .u8 0, .int .u8 0, .int .u8 0, .int .u8 0, .int .u8 0, .int .u8 0, .int .u8 0, .int .u8 0, .int .u8 0, .int .u8 0, .int .u8 0, .int .u8 0, .int .u8 0, .int .u8 0, .int .u8 0, .int .u8 0, .int .u8 0] 46)) 37 9 3 5 w.heap.size 0 64 64 s #[.int .u8 0, .int .u8 0, .int .u8 0, .int .u8 0, .int .u8 0, .int .u8 0, .int .u8 0, .int .u8 0, .int .u8 0, .int .u8 0, .int .u8 0, .int .u8 0, .int .u8 0, .int .u8 0, .int .u8 0, .int .u8 0, .int .u8 0, .int .u8 0, .int .u8 0, .int .u8 0, .int .u8 0, .int .u8 0, .int .u8 0, .int .u8 0, .int .u8 0, .int .u8 0, .int .u8 0, .int .u8 0, .int .u8 0, .int .u8 0, .int .u8 0, .int .u8 0, .int .u8 0, .int .u8 0, .int .u8 0, .int .u8 0, .int .u8 0, .int .u8 0, .int .u8 0, .int .u8 0, .int .u8 0, .int .u8 0, .int .u8 0, .int .u8 0, .int .u8 0, .int .u8 0, .int .u8 0, .int .u8 0, .int .u8 0, .int .u8 0, .int .u8 0, .int .u8 0, .int .u8 0, .int .u8 0, .int .u8 0, .int .u8 0, .int .u8 0, .int .u8 0, .int .u8 0, .int .u8 0, .int .u8 0, .int .u8 0, .int .u8 0, .int .u8 0] 46 Try.underlying37 (by kernel_rfl) (heap_alloc_new _ _) (by omega) (by simp; omega)
  rw [h, setRow_alloc, hs]
  congr 3
  rw [List.take_zero, List.nil_append, List.drop_of_length_le (by simp), List.append_nil]
  congr 1
theorem split3 (D : List UInt8) (a k : Nat) : D = D.take a ++ (mid D a k ++ D.drop (a + k)) := by
  unfold mid
  rw [← List.drop_drop, List.take_append_drop, List.take_append_drop]
theorem wrap_small (x : Nat) (h : x < 2 ^ 63) : wrap64 ((x : Nat) : Int) = x := by unfold wrap64; omega
theorem mid_length (D : List UInt8) (a k : Nat) (h : a + k ≤ D.length) : (mid D a k).length = k := by
  unfold mid; rw [List.length_take, List.length_drop]; omega
theorem mid4_lt (D : List UInt8) (a : Nat) (h : a + 4 ≤ D.length) : beV (mid D a 4) < 2 ^ 63 := by
  have := beV_lt (mid D a 4)
  rw [mid_length D a 4 h] at this
  exact Nat.lt_of_lt_of_le this (by decide)
theorem fN_lt (D : List UInt8) (h : 8 ≤ D.length) : fN D < 18446744073709551616 := by
  have := beV_lt (mid D 0 8)
  rw [mid_length D 0 8 (by omega)] at this
  exact Nat.lt_of_lt_of_le this (by decide)
theorem get_at (B : Nat) (D : List UInt8) (a k : Nat) (hD : D.length = 64) (hak : a + k ≤ 64) (hk8 : k ≤ 8) (hk1 : 1 ≤ k) (v : Int) (hv : wrap64 (beV (mid D a k) : Nat) = v) (w : World) (h : BRow w B 46 D) :
    Calls Try.prog 27 #[.pointer (some ⟨B, 0, none⟩), .int .i64 a, .int .i64 k] w fun e w' => e = .returned (.int .i64 v) ∧ w = w' := by
  rw [split3 D a k] at h
  exact get_walk B _ _ _ a k (by rw [List.length_take]; omega) (mid_length D a k (by omega)) (by rw [List.length_drop]; omega) hk8 hk1 v hv w h
set_option maxRecDepth 100000 in
set_option maxHeartbeats 1000000 in
theorem dec_range (s : ByteArray) (p : Int) (h : p < 0 ∨ 3 < p) (w : World) : Calls Try.prog 15 #[.string s, .int .i64 p] w fun e w' => e = .returned (.tuple #[.agg #[.int .i64 0, .int .i64 0, .int .i64 0, .int .i64 0], .int .i64 2]) ∧ Below w.heap.size w w' := by
  rcases h with h | h
  all_goals
    go_enter Try.func15, Try.ntmps15
    go_wp2_with fail
    exact bodyPost_ret (v := .tuple #[.agg #[.int .i64 0, .int .i64 0, .int .i64 0, .int .i64 0], .int .i64 2]) (by simp [results, Try.results15, go_sem]) rfl ⟨rfl, (Below.refl _ _).alloc (Nat.le_refl _) _⟩
set_option maxRecDepth 100000 in
set_option maxHeartbeats 1000000 in
theorem dec_len (s : ByteArray) (p : Int) (h : ¬ p < 0) (h3 : ¬ 3 < p) (hs : s.size ≠ 64) (w : World) : Calls Try.prog 15 #[.string s, .int .i64 p] w fun e w' => e = .returned (.tuple #[.agg #[.int .i64 0, .int .i64 0, .int .i64 0, .int .i64 0], .int .i64 12]) ∧ Below w.heap.size w w' := by
  have hne : ((s.size : Int) != 64) = true := by simp; omega
  have hne2 : ((s.size : Int) == 64) = false := by simp; omega
  clear hs
  go_enter Try.func15, Try.ntmps15
  go_wp2_with fail
  exact bodyPost_ret (v := .tuple #[.agg #[.int .i64 0, .int .i64 0, .int .i64 0, .int .i64 0], .int .i64 12]) (by simp [results, Try.results15, go_sem]) rfl ⟨rfl, (Below.refl _ _).alloc (Nat.le_refl _) _⟩
theorem Box.fr {w b n s l c} (h : Box w b n s l c) (i : Nat) : w.frozen? ⟨b, i, none⟩ = false := by
  have h' : w.heap[b]? = some (.cells #[.int .i64 n, .int .i64 s, .int .i64 l, .int .i64 c] 25 (0, 0)) := h
  simp [World.frozen?, h']
set_option maxRecDepth 100000 in
set_option maxHeartbeats 1000000 in
theorem dec_inv (s : ByteArray) (p : Int) (h : ¬ p < 0) (h3 : ¬ 3 < p) (hs : s.size = 64) (v1 v2 v3 v4 : Int) (hv1 : wrap64 (beV (mid s.data.toList 0 8) : Nat) = v1) (hv2 : wrap64 (beV (mid s.data.toList 8 4) : Nat) = v2) (hv3 : wrap64 (beV (mid s.data.toList 12 4) : Nat) = v3) (hv4 : wrap64 (beV (mid s.data.toList 16 4) : Nat) = v4)
    (hval : validI v1 v2 v3 v4 = false) (w : World) : Calls Try.prog 15 #[.string s, .int .i64 p] w fun e w' => e = .returned (.tuple #[.agg #[.int .i64 0, .int .i64 0, .int .i64 0, .int .i64 0], .int .i64 12]) ∧ Below w.heap.size w w' := by
  have HVAL := Lib.hid hval
  clear hval
  have hDl : s.data.toList.length = 64 := hs
  obtain ⟨D, hD⟩ : ∃ D, s.data.toList = D := ⟨_, rfl⟩
  rw [hD] at hDl hv1 hv2 hv3 hv4
  have hcp := copy_in (w.alloc (.cells #[.int .i64 0, .int .i64 0, .int .i64 0, .int .i64 0] 25)) s hs
  rw [hD] at hcp
  rw [show (w.alloc (.cells #[.int .i64 0, .int .i64 0, .int .i64 0, .int .i64 0] 25)).heap.size = w.heap.size + 1 by simp] at hcp
  have hs' : (s.size : Int) = 64 := by omega
  have HD := Lib.hid hD
  have HDL := Lib.hid hDl
  have HV1 := Lib.hid hv1
  have HV2 := Lib.hid hv2
  have HV3 := Lib.hid hv3
  have HV4 := Lib.hid hv4
  have HROW : Hid (BRow ((w.alloc (.cells #[.int .i64 0, .int .i64 0, .int .i64 0, .int .i64 0] 25)).alloc (.cells (rowC D) 46)) (w.heap.size + 1) 46 D) := Lib.hid (by
    have := heap_alloc_new (w.alloc (.cells #[.int .i64 0, .int .i64 0, .int .i64 0, .int .i64 0] 25)) (.cells (rowC D) 46)
    rw [show (w.alloc (.cells #[.int .i64 0, .int .i64 0, .int .i64 0, .int .i64 0] 25)).heap.size = w.heap.size + 1 by simp] at this
    exact this)
  clear hD hDl hv1 hv2 hv3 hv4 hs
  go_enter Try.func15, Try.ntmps15
  go_wp2_with fail
  refine (get_at (w.heap.size + 1) D 0 8 HDL.out (by decide) (by decide) (by decide) v1 HV1.out _ (by exact HROW.out)).mono ?_; rintro e _ ⟨rfl, rfl⟩
  go_wp2_with fail
  refine (get_at (w.heap.size + 1) D 8 4 HDL.out (by decide) (by decide) (by decide) v2 HV2.out _ (by exact HROW.out)).mono ?_; rintro e _ ⟨rfl, rfl⟩
  go_wp2_with fail
  refine (get_at (w.heap.size + 1) D 12 4 HDL.out (by decide) (by decide) (by decide) v3 HV3.out _ (by exact HROW.out)).mono ?_; rintro e _ ⟨rfl, rfl⟩
  go_wp2_with fail
  refine (get_at (w.heap.size + 1) D 16 4 HDL.out (by decide) (by decide) (by decide) v4 HV4.out _ (by exact HROW.out)).mono ?_; rintro e _ ⟨rfl, rfl⟩
  go_wp2_with fail
  refine (enc_bad v1 v2 v3 v4 (by exact HVAL.out) _).mono ?_; rintro e w2 ⟨rfl, hb⟩
  have hR : Box w2 w.heap.size 0 0 0 0 := (hb.block w.heap.size (by simp; omega)).trans (by
    rw [Below.heap_alloc _ _ _ (by simp; omega), Below.heap_alloc _ _ _ (by simp)]; exact heap_alloc_new _ _)
  have hX : Box w2 (w.heap.size + 2) v1 v2 v3 v4 := (hb.block (w.heap.size + 2) (by simp)).trans (by
    rw [show w.heap.size + 2 = ((w.alloc (.cells #[.int .i64 0, .int .i64 0, .int .i64 0, .int .i64 0] 25)).alloc (.cells (rowC D) 46)).heap.size by simp]; exact heap_alloc_new _ _)
  have r0 := hR.c0
  have r1 := hR.c1
  have r2 := hR.c2
  have r3 := hR.c3
  have rf := hR.fr
  have x0 := hX.c0
  have x1 := hX.c1
  have x2 := hX.c2
  have x3 := hX.c3
  have HB := Lib.hid ((((Below.refl w.heap.size w).alloc (Nat.le_refl _) _).alloc (by simp) _).alloc (by simp; omega) _ |>.trans (hb.mono (by simp; omega) : Below w.heap.size _ _))
  clear hb hR hX
  go_wp2_with fail
  exact bodyPost_ret (v := .tuple #[.agg #[.int .i64 0, .int .i64 0, .int .i64 0, .int .i64 0], .int .i64 12]) (by simp [results, Try.results15, go_sem, r0, r1, r2, r3]) rfl ⟨rfl, (((HB.out.setCell (by simp) _).setCell (by simp) _).setCell (by simp) _).setCell (by simp) _⟩
set_option maxRecDepth 100000 in
set_option maxHeartbeats 1000000 in
theorem dec_enc (s : ByteArray) (p : Int) (h : ¬ p < 0) (h3 : ¬ 3 < p) (hs : s.size = 64) (n1 n2 n3 n4 : Nat) (hv1 : wrap64 (beV (mid s.data.toList 0 8) : Nat) = (n1 : Int)) (hv2 : wrap64 (beV (mid s.data.toList 8 4) : Nat) = (n2 : Int)) (hv3 : wrap64 (beV (mid s.data.toList 12 4) : Nat) = (n3 : Int)) (hv4 : wrap64 (beV (mid s.data.toList 16 4) : Nat) = (n4 : Int))
    (hval : validI n1 n2 n3 n4 = true) (he : ((bA (encL n1 n2 n3 n4)).toList == s.toList) = false) (w : World) : Calls Try.prog 15 #[.string s, .int .i64 p] w fun e w' => e = .returned (.tuple #[.agg #[.int .i64 0, .int .i64 0, .int .i64 0, .int .i64 0], .int .i64 12]) ∧ Below w.heap.size w w' := by
  obtain ⟨x, hx⟩ : ∃ x, bA (encL n1 n2 n3 n4) = x := ⟨_, rfl⟩
  rw [hx] at he
  obtain ⟨v1, hw1⟩ : ∃ v : Int, (n1 : Int) = v := ⟨_, rfl⟩
  obtain ⟨v2, hw2⟩ : ∃ v : Int, (n2 : Int) = v := ⟨_, rfl⟩
  obtain ⟨v3, hw3⟩ : ∃ v : Int, (n3 : Int) = v := ⟨_, rfl⟩
  obtain ⟨v4, hw4⟩ : ∃ v : Int, (n4 : Int) = v := ⟨_, rfl⟩
  have henc := enc_ok n1 n2 n3 n4 hval
  have hv0 : 0 ≤ v1 := by omega
  rw [hx, hw1, hw2, hw3, hw4] at henc
  rw [hw1] at hv1
  rw [hw2] at hv2
  rw [hw3] at hv3
  rw [hw4] at hv4
  have HENC := Lib.hid henc
  try rw [hw1, hw2, hw3, hw4]
  clear hx hval henc hw1 hw2 hw3 hw4
  have hDl : s.data.toList.length = 64 := hs
  obtain ⟨D, hD⟩ : ∃ D, s.data.toList = D := ⟨_, rfl⟩
  rw [hD] at hDl hv1 hv2 hv3 hv4
  have hcp := copy_in (w.alloc (.cells #[.int .i64 0, .int .i64 0, .int .i64 0, .int .i64 0] 25)) s hs
  rw [hD] at hcp
  rw [show (w.alloc (.cells #[.int .i64 0, .int .i64 0, .int .i64 0, .int .i64 0] 25)).heap.size = w.heap.size + 1 by simp] at hcp
  have hs' : (s.size : Int) = 64 := by omega
  have HD := Lib.hid hD
  have HDL := Lib.hid hDl
  have HV1 := Lib.hid hv1
  have HV2 := Lib.hid hv2
  have HV3 := Lib.hid hv3
  have HV4 := Lib.hid hv4
  have HROW : Hid (BRow ((w.alloc (.cells #[.int .i64 0, .int .i64 0, .int .i64 0, .int .i64 0] 25)).alloc (.cells (rowC D) 46)) (w.heap.size + 1) 46 D) := Lib.hid (by
    have := heap_alloc_new (w.alloc (.cells #[.int .i64 0, .int .i64 0, .int .i64 0, .int .i64 0] 25)) (.cells (rowC D) 46)
    rw [show (w.alloc (.cells #[.int .i64 0, .int .i64 0, .int .i64 0, .int .i64 0] 25)).heap.size = w.heap.size + 1 by simp] at this
    exact this)
  clear hD hDl hv1 hv2 hv3 hv4 hs
  go_enter Try.func15, Try.ntmps15
  go_wp2_with fail
  refine (get_at (w.heap.size + 1) D 0 8 HDL.out (by decide) (by decide) (by decide) v1 HV1.out _ (by exact HROW.out)).mono ?_; rintro e _ ⟨rfl, rfl⟩
  go_wp2_with fail
  refine (get_at (w.heap.size + 1) D 8 4 HDL.out (by decide) (by decide) (by decide) v2 HV2.out _ (by exact HROW.out)).mono ?_; rintro e _ ⟨rfl, rfl⟩
  go_wp2_with fail
  refine (get_at (w.heap.size + 1) D 12 4 HDL.out (by decide) (by decide) (by decide) v3 HV3.out _ (by exact HROW.out)).mono ?_; rintro e _ ⟨rfl, rfl⟩
  go_wp2_with fail
  refine (get_at (w.heap.size + 1) D 16 4 HDL.out (by decide) (by decide) (by decide) v4 HV4.out _ (by exact HROW.out)).mono ?_; rintro e _ ⟨rfl, rfl⟩
  go_wp2_with fail
  refine (HENC.out _).mono ?_; rintro e w2 ⟨rfl, hb⟩
  have hR : Box w2 w.heap.size 0 0 0 0 := (hb.block w.heap.size (by simp; omega)).trans (by
    rw [Below.heap_alloc _ _ _ (by simp; omega), Below.heap_alloc _ _ _ (by simp)]; exact heap_alloc_new _ _)
  have hX : Box w2 (w.heap.size + 2) v1 v2 v3 v4 := (hb.block (w.heap.size + 2) (by simp)).trans (by
    rw [show w.heap.size + 2 = ((w.alloc (.cells #[.int .i64 0, .int .i64 0, .int .i64 0, .int .i64 0] 25)).alloc (.cells (rowC D) 46)).heap.size by simp]; exact heap_alloc_new _ _)
  have r0 := hR.c0
  have r1 := hR.c1
  have r2 := hR.c2
  have r3 := hR.c3
  have rf := hR.fr
  have x0 := hX.c0
  have x1 := hX.c1
  have x2 := hX.c2
  have x3 := hX.c3
  have HB := Lib.hid ((((Below.refl w.heap.size w).alloc (Nat.le_refl _) _).alloc (by simp) _).alloc (by simp; omega) _ |>.trans (hb.mono (by simp; omega) : Below w.heap.size _ _))
  clear hb hR hX
  go_wp2_with fail
  exact bodyPost_ret (v := .tuple #[.agg #[.int .i64 0, .int .i64 0, .int .i64 0, .int .i64 0], .int .i64 12]) (by simp [results, Try.results15, go_sem, r0, r1, r2, r3]) rfl ⟨rfl, (((HB.out.setCell (by simp) _).setCell (by simp) _).setCell (by simp) _).setCell (by simp) _⟩
set_option maxRecDepth 100000 in
set_option maxHeartbeats 1000000 in
theorem dec_par (s : ByteArray) (p : Int) (h : ¬ p < 0) (h3 : ¬ 3 < p) (hs : s.size = 64) (n1 n2 n3 n4 : Nat) (hv1 : wrap64 (beV (mid s.data.toList 0 8) : Nat) = (n1 : Int)) (hv2 : wrap64 (beV (mid s.data.toList 8 4) : Nat) = (n2 : Int)) (hv3 : wrap64 (beV (mid s.data.toList 12 4) : Nat) = (n3 : Int)) (hv4 : wrap64 (beV (mid s.data.toList 16 4) : Nat) = (n4 : Int))
    (hval : validI n1 n2 n3 n4 = true) (he : ((bA (encL n1 n2 n3 n4)).toList == s.toList) = true) (hp : ((n1 : Int) % 2 == p % 2) = false) (w : World) : Calls Try.prog 15 #[.string s, .int .i64 p] w fun e w' => e = .returned (.tuple #[.agg #[.int .i64 0, .int .i64 0, .int .i64 0, .int .i64 0], .int .i64 12]) ∧ Below w.heap.size w w' := by
  obtain ⟨x, hx⟩ : ∃ x, bA (encL n1 n2 n3 n4) = x := ⟨_, rfl⟩
  rw [hx] at he
  obtain ⟨v1, hw1⟩ : ∃ v : Int, (n1 : Int) = v := ⟨_, rfl⟩
  obtain ⟨v2, hw2⟩ : ∃ v : Int, (n2 : Int) = v := ⟨_, rfl⟩
  obtain ⟨v3, hw3⟩ : ∃ v : Int, (n3 : Int) = v := ⟨_, rfl⟩
  obtain ⟨v4, hw4⟩ : ∃ v : Int, (n4 : Int) = v := ⟨_, rfl⟩
  have henc := enc_ok n1 n2 n3 n4 hval
  have hv0 : 0 ≤ v1 := by omega
  rw [hx, hw1, hw2, hw3, hw4] at henc
  rw [hw1] at hv1 hp
  rw [hw2] at hv2
  rw [hw3] at hv3
  rw [hw4] at hv4
  have HENC := Lib.hid henc
  have hp' : ((v1 % 2 : Int) != p % 2) = true := by simp [bne, hp]
  try rw [hw1, hw2, hw3, hw4]
  clear hx hval henc hw1 hw2 hw3 hw4
  have hDl : s.data.toList.length = 64 := hs
  obtain ⟨D, hD⟩ : ∃ D, s.data.toList = D := ⟨_, rfl⟩
  rw [hD] at hDl hv1 hv2 hv3 hv4
  have hcp := copy_in (w.alloc (.cells #[.int .i64 0, .int .i64 0, .int .i64 0, .int .i64 0] 25)) s hs
  rw [hD] at hcp
  rw [show (w.alloc (.cells #[.int .i64 0, .int .i64 0, .int .i64 0, .int .i64 0] 25)).heap.size = w.heap.size + 1 by simp] at hcp
  have hs' : (s.size : Int) = 64 := by omega
  have HD := Lib.hid hD
  have HDL := Lib.hid hDl
  have HV1 := Lib.hid hv1
  have HV2 := Lib.hid hv2
  have HV3 := Lib.hid hv3
  have HV4 := Lib.hid hv4
  have HROW : Hid (BRow ((w.alloc (.cells #[.int .i64 0, .int .i64 0, .int .i64 0, .int .i64 0] 25)).alloc (.cells (rowC D) 46)) (w.heap.size + 1) 46 D) := Lib.hid (by
    have := heap_alloc_new (w.alloc (.cells #[.int .i64 0, .int .i64 0, .int .i64 0, .int .i64 0] 25)) (.cells (rowC D) 46)
    rw [show (w.alloc (.cells #[.int .i64 0, .int .i64 0, .int .i64 0, .int .i64 0] 25)).heap.size = w.heap.size + 1 by simp] at this
    exact this)
  clear hD hDl hv1 hv2 hv3 hv4 hs
  go_enter Try.func15, Try.ntmps15
  go_wp2_with fail
  refine (get_at (w.heap.size + 1) D 0 8 HDL.out (by decide) (by decide) (by decide) v1 HV1.out _ (by exact HROW.out)).mono ?_; rintro e _ ⟨rfl, rfl⟩
  go_wp2_with fail
  refine (get_at (w.heap.size + 1) D 8 4 HDL.out (by decide) (by decide) (by decide) v2 HV2.out _ (by exact HROW.out)).mono ?_; rintro e _ ⟨rfl, rfl⟩
  go_wp2_with fail
  refine (get_at (w.heap.size + 1) D 12 4 HDL.out (by decide) (by decide) (by decide) v3 HV3.out _ (by exact HROW.out)).mono ?_; rintro e _ ⟨rfl, rfl⟩
  go_wp2_with fail
  refine (get_at (w.heap.size + 1) D 16 4 HDL.out (by decide) (by decide) (by decide) v4 HV4.out _ (by exact HROW.out)).mono ?_; rintro e _ ⟨rfl, rfl⟩
  go_wp2_with fail
  refine (HENC.out _).mono ?_; rintro e w2 ⟨rfl, hb⟩
  have hR : Box w2 w.heap.size 0 0 0 0 := (hb.block w.heap.size (by simp; omega)).trans (by
    rw [Below.heap_alloc _ _ _ (by simp; omega), Below.heap_alloc _ _ _ (by simp)]; exact heap_alloc_new _ _)
  have hX : Box w2 (w.heap.size + 2) v1 v2 v3 v4 := (hb.block (w.heap.size + 2) (by simp)).trans (by
    rw [show w.heap.size + 2 = ((w.alloc (.cells #[.int .i64 0, .int .i64 0, .int .i64 0, .int .i64 0] 25)).alloc (.cells (rowC D) 46)).heap.size by simp]; exact heap_alloc_new _ _)
  have r0 := hR.c0
  have r1 := hR.c1
  have r2 := hR.c2
  have r3 := hR.c3
  have rf := hR.fr
  have x0 := hX.c0
  have x1 := hX.c1
  have x2 := hX.c2
  have x3 := hX.c3
  have HB := Lib.hid ((((Below.refl w.heap.size w).alloc (Nat.le_refl _) _).alloc (by simp) _).alloc (by simp; omega) _ |>.trans (hb.mono (by simp; omega) : Below w.heap.size _ _))
  clear hb hR hX
  go_wp2_with fail
  exact bodyPost_ret (v := .tuple #[.agg #[.int .i64 0, .int .i64 0, .int .i64 0, .int .i64 0], .int .i64 12]) (by simp [results, Try.results15, go_sem, r0, r1, r2, r3]) rfl ⟨rfl, (((HB.out.setCell (by simp) _).setCell (by simp) _).setCell (by simp) _).setCell (by simp) _⟩
set_option maxRecDepth 100000 in
set_option maxHeartbeats 1000000 in
theorem dec_ok (s : ByteArray) (p : Int) (h : ¬ p < 0) (h3 : ¬ 3 < p) (hs : s.size = 64) (n1 n2 n3 n4 : Nat) (hv1 : wrap64 (beV (mid s.data.toList 0 8) : Nat) = (n1 : Int)) (hv2 : wrap64 (beV (mid s.data.toList 8 4) : Nat) = (n2 : Int)) (hv3 : wrap64 (beV (mid s.data.toList 12 4) : Nat) = (n3 : Int)) (hv4 : wrap64 (beV (mid s.data.toList 16 4) : Nat) = (n4 : Int))
    (hval : validI n1 n2 n3 n4 = true) (he : ((bA (encL n1 n2 n3 n4)).toList == s.toList) = true) (hp : ((n1 : Int) % 2 == p % 2) = true) (w : World) : Calls Try.prog 15 #[.string s, .int .i64 p] w fun e w' => e = .returned (.tuple #[.agg #[.int .i64 n1, .int .i64 n2, .int .i64 n3, .int .i64 n4], .int .i64 0]) ∧ Below w.heap.size w w' := by
  obtain ⟨x, hx⟩ : ∃ x, bA (encL n1 n2 n3 n4) = x := ⟨_, rfl⟩
  rw [hx] at he
  obtain ⟨v1, hw1⟩ : ∃ v : Int, (n1 : Int) = v := ⟨_, rfl⟩
  obtain ⟨v2, hw2⟩ : ∃ v : Int, (n2 : Int) = v := ⟨_, rfl⟩
  obtain ⟨v3, hw3⟩ : ∃ v : Int, (n3 : Int) = v := ⟨_, rfl⟩
  obtain ⟨v4, hw4⟩ : ∃ v : Int, (n4 : Int) = v := ⟨_, rfl⟩
  have henc := enc_ok n1 n2 n3 n4 hval
  have hv0 : 0 ≤ v1 := by omega
  rw [hx, hw1, hw2, hw3, hw4] at henc
  rw [hw1] at hv1 hp
  rw [hw2] at hv2
  rw [hw3] at hv3
  rw [hw4] at hv4
  have HENC := Lib.hid henc
  have hp' : ((v1 % 2 : Int) != p % 2) = false := by simp [bne, hp]
  try rw [hw1, hw2, hw3, hw4]
  clear hx hval henc hw1 hw2 hw3 hw4
  have hDl : s.data.toList.length = 64 := hs
  obtain ⟨D, hD⟩ : ∃ D, s.data.toList = D := ⟨_, rfl⟩
  rw [hD] at hDl hv1 hv2 hv3 hv4
  have hcp := copy_in (w.alloc (.cells #[.int .i64 0, .int .i64 0, .int .i64 0, .int .i64 0] 25)) s hs
  rw [hD] at hcp
  rw [show (w.alloc (.cells #[.int .i64 0, .int .i64 0, .int .i64 0, .int .i64 0] 25)).heap.size = w.heap.size + 1 by simp] at hcp
  have hs' : (s.size : Int) = 64 := by omega
  have HD := Lib.hid hD
  have HDL := Lib.hid hDl
  have HV1 := Lib.hid hv1
  have HV2 := Lib.hid hv2
  have HV3 := Lib.hid hv3
  have HV4 := Lib.hid hv4
  have HROW : Hid (BRow ((w.alloc (.cells #[.int .i64 0, .int .i64 0, .int .i64 0, .int .i64 0] 25)).alloc (.cells (rowC D) 46)) (w.heap.size + 1) 46 D) := Lib.hid (by
    have := heap_alloc_new (w.alloc (.cells #[.int .i64 0, .int .i64 0, .int .i64 0, .int .i64 0] 25)) (.cells (rowC D) 46)
    rw [show (w.alloc (.cells #[.int .i64 0, .int .i64 0, .int .i64 0, .int .i64 0] 25)).heap.size = w.heap.size + 1 by simp] at this
    exact this)
  clear hD hDl hv1 hv2 hv3 hv4 hs
  go_enter Try.func15, Try.ntmps15
  go_wp2_with fail
  refine (get_at (w.heap.size + 1) D 0 8 HDL.out (by decide) (by decide) (by decide) v1 HV1.out _ (by exact HROW.out)).mono ?_; rintro e _ ⟨rfl, rfl⟩
  go_wp2_with fail
  refine (get_at (w.heap.size + 1) D 8 4 HDL.out (by decide) (by decide) (by decide) v2 HV2.out _ (by exact HROW.out)).mono ?_; rintro e _ ⟨rfl, rfl⟩
  go_wp2_with fail
  refine (get_at (w.heap.size + 1) D 12 4 HDL.out (by decide) (by decide) (by decide) v3 HV3.out _ (by exact HROW.out)).mono ?_; rintro e _ ⟨rfl, rfl⟩
  go_wp2_with fail
  refine (get_at (w.heap.size + 1) D 16 4 HDL.out (by decide) (by decide) (by decide) v4 HV4.out _ (by exact HROW.out)).mono ?_; rintro e _ ⟨rfl, rfl⟩
  go_wp2_with fail
  refine (HENC.out _).mono ?_; rintro e w2 ⟨rfl, hb⟩
  have hR : Box w2 w.heap.size 0 0 0 0 := (hb.block w.heap.size (by simp; omega)).trans (by
    rw [Below.heap_alloc _ _ _ (by simp; omega), Below.heap_alloc _ _ _ (by simp)]; exact heap_alloc_new _ _)
  have hX : Box w2 (w.heap.size + 2) v1 v2 v3 v4 := (hb.block (w.heap.size + 2) (by simp)).trans (by
    rw [show w.heap.size + 2 = ((w.alloc (.cells #[.int .i64 0, .int .i64 0, .int .i64 0, .int .i64 0] 25)).alloc (.cells (rowC D) 46)).heap.size by simp]; exact heap_alloc_new _ _)
  have r0 := hR.c0
  have r1 := hR.c1
  have r2 := hR.c2
  have r3 := hR.c3
  have rf := hR.fr
  have x0 := hX.c0
  have x1 := hX.c1
  have x2 := hX.c2
  have x3 := hX.c3
  have HB := Lib.hid ((((Below.refl w.heap.size w).alloc (Nat.le_refl _) _).alloc (by simp) _).alloc (by simp; omega) _ |>.trans (hb.mono (by simp; omega) : Below w.heap.size _ _))
  clear hb hR hX
  go_wp2_with fail
  exact bodyPost_ret (v := .tuple #[.agg #[.int .i64 v1, .int .i64 v2, .int .i64 v3, .int .i64 v4], .int .i64 0]) (by simp [results, Try.results15, go_sem, r0, r1, r2, r3]) rfl ⟨rfl, (((HB.out.setCell (by simp) _).setCell (by simp) _).setCell (by simp) _).setCell (by simp) _⟩
end Go.Proofs.Ytonkamdipalbpaa
