import Derived.Test.YtonkamdipalbpaaWm
namespace Go.Proofs.Ytonkamdipalbpaa
open Go.RowKit
attribute [local go_sem ↓] Go.wp_at_zero Go.wp_at_succ

theorem info5 : (Try.prog.info? 5).map (fun i => (i.zero, i.size, i.bytes)) = some (some (.int .u8 0), 1, 1) := by kernel_rfl
theorem make64 (w : World) : (Instr.makeSlice 37 (.int .i64 64) (.int .i64 64)).run Try.prog w = .ok (.slice (some ⟨w.heap.size, 0, none⟩) 64 64) (w.alloc (.cells (rowC (List.replicate 64 0)) 5)) := by
  obtain ⟨i, hi, hz, hs, hb⟩ := info_parts info5
  have := run_make (P := Try.prog) w 37 5 i (.int .u8 0) Try.underlying37 hi hz .i64 .i64 64 64 (by omega) (by omega) (by rw [hb]; omega) (by omega)
  rw [hs, show madeCells (Value.int IntKind.u8 0).cells (Int.toNat 64 * 1) = rowC (List.replicate 64 0) by kernel_rfl] at this
  exact this
theorem str64 (w : World) : (convert 37 9 (.slice (some ⟨w.heap.size, 0, none⟩) 64 64)).run Try.prog (w.alloc (.cells (rowC (List.replicate 64 0)) 5)) = .ok (.string (bA (List.replicate 64 0))) (w.alloc (.cells (rowC (List.replicate 64 0)) 5)) := by
  have := BRow.str (w := w.alloc (.cells (rowC (List.replicate 64 0)) 5)) (B := w.heap.size) (t := 5) (l := List.replicate 64 0) (heap_alloc_new _ _) 64 64 (by simp)
  exact this
/-- the first k bytes of one text, then the others of another one -/
def mixB (t s : ByteArray) (k : Nat) : ByteArray := t.extract 0 k ++ s.extract k s.size
theorem mixB_list (t s : ByteArray) (k : Nat) : (mixB t s k).data.toList = t.data.toList.take k ++ s.data.toList.drop k := by
  unfold mixB
  simp only [ByteArray.data_append, Array.toList_append, ByteArray.data_extract, Array.toList_extract, List.extract_eq_take_drop, Nat.sub_zero, List.drop_zero]
  congr 1
  have : s.size = s.data.toList.length := rfl
  rw [List.take_of_length_le]
  rw [List.length_drop]; omega
set_option maxRecDepth 100000 in
set_option maxHeartbeats 1000000 in
theorem torn_skip (n0 s0 l0 c0 n s l c k : Int) (f : Bool) (b0 b : ByteArray) (e0 e : Int) (h0 : encV n0 s0 l0 c0 = (b0, e0)) (h1 : encV n s l c = (b, e)) (h : (e0 != 0) = true ∨ ((e0 != 0) = false ∧ (e != 0) = true) ∨ ((e0 != 0) = false ∧ (e != 0) = false ∧ n ≤ n0) ∨ ((e0 != 0) = false ∧ (e != 0) = false ∧ n0 < n ∧ 1 ≤ n0 ∧ n0 % 2 ≠ n % 2)) (w : World) : Calls Try.prog 7 #[.agg #[.int .i64 n0, .int .i64 s0, .int .i64 l0, .int .i64 c0], .agg #[.int .i64 n, .int .i64 s, .int .i64 l, .int .i64 c], .int .u8 k, .bool f] w fun e w' => e = .returned (.bool true) ∧ Below w.heap.size w w' := by
  have H0 := Lib.hid h0
  have H1 := Lib.hid h1
  clear h0 h1
  rcases h with h | ⟨g, h⟩ | ⟨g, g', h⟩ | ⟨g, g', h, h1, h2⟩
  · go_enter Try.func7, Try.ntmps7
    go_wp2_with fail
    refine (awake_walk _).mono ?_; rintro e w0 ⟨rfl, hb⟩
    have hA : Box w0 w.heap.size n0 s0 l0 c0 := (hb.block _ (by simp; omega)).trans ((Below.heap_alloc _ _ _ (by simp)).trans (heap_alloc_new _ _))
    have hX : Box w0 (w.heap.size + 1) n s l c := (hb.block _ (by simp)).trans (by
      rw [show w.heap.size + 1 = (w.alloc (.cells #[.int .i64 n0, .int .i64 s0, .int .i64 l0, .int .i64 c0] 25)).heap.size by simp]; exact heap_alloc_new _ _)
    have HB0 := Lib.hid ((((Below.refl w.heap.size w).alloc (Nat.le_refl _) _).alloc (by simp) _).trans (hb.mono (by simp; omega) : Below w.heap.size _ _))
    have a0 := hA.c0
    have a1 := hA.c1
    have a2 := hA.c2
    have a3 := hA.c3
    have x0 := hX.c0
    have x1 := hX.c1
    have x2 := hX.c2
    have x3 := hX.c3
    have HX0 := Lib.hid hX
    have HA0 := Lib.hid hA
    clear hb hX hA
    go_wp2_with fail
    refine (enc_any n0 s0 l0 c0 b0 e0 H0.out _).mono ?_; rintro e w1 ⟨rfl, hb⟩
    have hA := HA0.out.below hb HA0.out.lt
    have hX := HX0.out.below hb HX0.out.lt
    clear a0 a1 a2 a3 x0 x1 x2 x3
    have a0 := hA.c0
    have a1 := hA.c1
    have a2 := hA.c2
    have a3 := hA.c3
    have al := hA.lt
    have x0 := hX.c0
    have x1 := hX.c1
    have x2 := hX.c2
    have x3 := hX.c3
    have xl := hX.lt
    have HX1 := Lib.hid hX
    have HA1 := Lib.hid hA
    clear hA hX
    have HB1 := Lib.hid (step_b HB0.out hb)
    clear hb
    go_wp2_with fail
    refine (enc_any n s l c b e H1.out _).mono ?_; rintro e w2 ⟨rfl, hb⟩
    have hA := HA1.out.below hb HA1.out.lt
    have hX := HX1.out.below hb HX1.out.lt
    clear a0 a1 a2 a3 x0 x1 x2 x3
    have a0 := hA.c0
    have a1 := hA.c1
    have a2 := hA.c2
    have a3 := hA.c3
    have al := hA.lt
    have x0 := hX.c0
    have x1 := hX.c1
    have x2 := hX.c2
    have x3 := hX.c3
    have xl := hX.lt
    have HX2 := Lib.hid hX
    have HA2 := Lib.hid hA
    clear hA hX
    have HB2 := Lib.hid (step_b HB1.out hb)
    clear hb
    go_wp2_with fail
    go_ret
    exact ⟨rfl, HB2.out⟩
  · go_enter Try.func7, Try.ntmps7
    go_wp2_with fail
    refine (awake_walk _).mono ?_; rintro e w0 ⟨rfl, hb⟩
    have hA : Box w0 w.heap.size n0 s0 l0 c0 := (hb.block _ (by simp; omega)).trans ((Below.heap_alloc _ _ _ (by simp)).trans (heap_alloc_new _ _))
    have hX : Box w0 (w.heap.size + 1) n s l c := (hb.block _ (by simp)).trans (by
      rw [show w.heap.size + 1 = (w.alloc (.cells #[.int .i64 n0, .int .i64 s0, .int .i64 l0, .int .i64 c0] 25)).heap.size by simp]; exact heap_alloc_new _ _)
    have HB0 := Lib.hid ((((Below.refl w.heap.size w).alloc (Nat.le_refl _) _).alloc (by simp) _).trans (hb.mono (by simp; omega) : Below w.heap.size _ _))
    have a0 := hA.c0
    have a1 := hA.c1
    have a2 := hA.c2
    have a3 := hA.c3
    have x0 := hX.c0
    have x1 := hX.c1
    have x2 := hX.c2
    have x3 := hX.c3
    have HX0 := Lib.hid hX
    have HA0 := Lib.hid hA
    clear hb hX hA
    go_wp2_with fail
    refine (enc_any n0 s0 l0 c0 b0 e0 H0.out _).mono ?_; rintro e w1 ⟨rfl, hb⟩
    have hA := HA0.out.below hb HA0.out.lt
    have hX := HX0.out.below hb HX0.out.lt
    clear a0 a1 a2 a3 x0 x1 x2 x3
    have a0 := hA.c0
    have a1 := hA.c1
    have a2 := hA.c2
    have a3 := hA.c3
    have al := hA.lt
    have x0 := hX.c0
    have x1 := hX.c1
    have x2 := hX.c2
    have x3 := hX.c3
    have xl := hX.lt
    have HX1 := Lib.hid hX
    have HA1 := Lib.hid hA
    clear hA hX
    have HB1 := Lib.hid (step_b HB0.out hb)
    clear hb
    go_wp2_with fail
    refine (enc_any n s l c b e H1.out _).mono ?_; rintro e w2 ⟨rfl, hb⟩
    have hA := HA1.out.below hb HA1.out.lt
    have hX := HX1.out.below hb HX1.out.lt
    clear a0 a1 a2 a3 x0 x1 x2 x3
    have a0 := hA.c0
    have a1 := hA.c1
    have a2 := hA.c2
    have a3 := hA.c3
    have al := hA.lt
    have x0 := hX.c0
    have x1 := hX.c1
    have x2 := hX.c2
    have x3 := hX.c3
    have xl := hX.lt
    have HX2 := Lib.hid hX
    have HA2 := Lib.hid hA
    clear hA hX
    have HB2 := Lib.hid (step_b HB1.out hb)
    clear hb
    go_wp2_with fail
    go_ret
    exact ⟨rfl, HB2.out⟩
  · have hd : decide (n ≤ n0) = true := by simpa using h
    clear h
    go_enter Try.func7, Try.ntmps7
    go_wp2_with fail
    refine (awake_walk _).mono ?_; rintro e w0 ⟨rfl, hb⟩
    have hA : Box w0 w.heap.size n0 s0 l0 c0 := (hb.block _ (by simp; omega)).trans ((Below.heap_alloc _ _ _ (by simp)).trans (heap_alloc_new _ _))
    have hX : Box w0 (w.heap.size + 1) n s l c := (hb.block _ (by simp)).trans (by
      rw [show w.heap.size + 1 = (w.alloc (.cells #[.int .i64 n0, .int .i64 s0, .int .i64 l0, .int .i64 c0] 25)).heap.size by simp]; exact heap_alloc_new _ _)
    have HB0 := Lib.hid ((((Below.refl w.heap.size w).alloc (Nat.le_refl _) _).alloc (by simp) _).trans (hb.mono (by simp; omega) : Below w.heap.size _ _))
    have a0 := hA.c0
    have a1 := hA.c1
    have a2 := hA.c2
    have a3 := hA.c3
    have x0 := hX.c0
    have x1 := hX.c1
    have x2 := hX.c2
    have x3 := hX.c3
    have HX0 := Lib.hid hX
    have HA0 := Lib.hid hA
    clear hb hX hA
    go_wp2_with fail
    refine (enc_any n0 s0 l0 c0 b0 e0 H0.out _).mono ?_; rintro e w1 ⟨rfl, hb⟩
    have hA := HA0.out.below hb HA0.out.lt
    have hX := HX0.out.below hb HX0.out.lt
    clear a0 a1 a2 a3 x0 x1 x2 x3
    have a0 := hA.c0
    have a1 := hA.c1
    have a2 := hA.c2
    have a3 := hA.c3
    have al := hA.lt
    have x0 := hX.c0
    have x1 := hX.c1
    have x2 := hX.c2
    have x3 := hX.c3
    have xl := hX.lt
    have HX1 := Lib.hid hX
    have HA1 := Lib.hid hA
    clear hA hX
    have HB1 := Lib.hid (step_b HB0.out hb)
    clear hb
    go_wp2_with fail
    refine (enc_any n s l c b e H1.out _).mono ?_; rintro e w2 ⟨rfl, hb⟩
    have hA := HA1.out.below hb HA1.out.lt
    have hX := HX1.out.below hb HX1.out.lt
    clear a0 a1 a2 a3 x0 x1 x2 x3
    have a0 := hA.c0
    have a1 := hA.c1
    have a2 := hA.c2
    have a3 := hA.c3
    have al := hA.lt
    have x0 := hX.c0
    have x1 := hX.c1
    have x2 := hX.c2
    have x3 := hX.c3
    have xl := hX.lt
    have HX2 := Lib.hid hX
    have HA2 := Lib.hid hA
    clear hA hX
    have HB2 := Lib.hid (step_b HB1.out hb)
    clear hb
    go_wp2_with fail
    go_ret
    exact ⟨rfl, HB2.out⟩
  · have hd : decide (n ≤ n0) = false := by simp; omega
    have hp : (n0 % 2 != n % 2) = true := by simpa using h2
    have hq : (n0 % 2 == n % 2) = false := by simpa using h2
    have h3 : 0 ≤ n := by omega
    clear h2
    go_enter Try.func7, Try.ntmps7
    go_wp2_with fail
    refine (awake_walk _).mono ?_; rintro e w0 ⟨rfl, hb⟩
    have hA : Box w0 w.heap.size n0 s0 l0 c0 := (hb.block _ (by simp; omega)).trans ((Below.heap_alloc _ _ _ (by simp)).trans (heap_alloc_new _ _))
    have hX : Box w0 (w.heap.size + 1) n s l c := (hb.block _ (by simp)).trans (by
      rw [show w.heap.size + 1 = (w.alloc (.cells #[.int .i64 n0, .int .i64 s0, .int .i64 l0, .int .i64 c0] 25)).heap.size by simp]; exact heap_alloc_new _ _)
    have HB0 := Lib.hid ((((Below.refl w.heap.size w).alloc (Nat.le_refl _) _).alloc (by simp) _).trans (hb.mono (by simp; omega) : Below w.heap.size _ _))
    have a0 := hA.c0
    have a1 := hA.c1
    have a2 := hA.c2
    have a3 := hA.c3
    have x0 := hX.c0
    have x1 := hX.c1
    have x2 := hX.c2
    have x3 := hX.c3
    have HX0 := Lib.hid hX
    have HA0 := Lib.hid hA
    clear hb hX hA
    go_wp2_with fail
    refine (enc_any n0 s0 l0 c0 b0 e0 H0.out _).mono ?_; rintro e w1 ⟨rfl, hb⟩
    have hA := HA0.out.below hb HA0.out.lt
    have hX := HX0.out.below hb HX0.out.lt
    clear a0 a1 a2 a3 x0 x1 x2 x3
    have a0 := hA.c0
    have a1 := hA.c1
    have a2 := hA.c2
    have a3 := hA.c3
    have al := hA.lt
    have x0 := hX.c0
    have x1 := hX.c1
    have x2 := hX.c2
    have x3 := hX.c3
    have xl := hX.lt
    have HX1 := Lib.hid hX
    have HA1 := Lib.hid hA
    clear hA hX
    have HB1 := Lib.hid (step_b HB0.out hb)
    clear hb
    go_wp2_with fail
    refine (enc_any n s l c b e H1.out _).mono ?_; rintro e w2 ⟨rfl, hb⟩
    have hA := HA1.out.below hb HA1.out.lt
    have hX := HX1.out.below hb HX1.out.lt
    clear a0 a1 a2 a3 x0 x1 x2 x3
    have a0 := hA.c0
    have a1 := hA.c1
    have a2 := hA.c2
    have a3 := hA.c3
    have al := hA.lt
    have x0 := hX.c0
    have x1 := hX.c1
    have x2 := hX.c2
    have x3 := hX.c3
    have xl := hX.lt
    have HX2 := Lib.hid hX
    have HA2 := Lib.hid hA
    clear hA hX
    have HB2 := Lib.hid (step_b HB1.out hb)
    clear hb
    go_wp2_with fail
    go_ret
    exact ⟨rfl, HB2.out⟩
set_option maxRecDepth 100000 in
set_option maxHeartbeats 2000000 in
theorem torn_t (n0 s0 l0 c0 n s l c : Int) (k8 k : Nat) (hk : k8 % 65 = k) (hk8 : k8 < 256) (b0 t m : ByteArray) (h0 : encV n0 s0 l0 c0 = (b0, 0)) (h1 : encV n s l c = (t, 0)) (hn0 : 1 ≤ n0) (hlt : n0 < n) (h2 : n0 % 2 = n % 2) (hts : t.size = 64) (hbs : b0.size = 64) (hm : mixB t b0 k = m) (hq1 : (m.toList == t.toList) = true) (hdec : decV m.data.toList (n % 2) = ((n, s, l, c), 0)) (w : World) : Calls Try.prog 7 #[.agg #[.int .i64 n0, .int .i64 s0, .int .i64 l0, .int .i64 c0], .agg #[.int .i64 n, .int .i64 s, .int .i64 l, .int .i64 c], .int .u8 k8, .bool false] w fun e w' => e = .returned (.bool true) ∧ Below w.heap.size w w' := by
  have hd : decide (n ≤ n0) = false := by simp; omega
  have hp : (n0 % 2 != n % 2) = false := by simpa using h2
  have h3 : 0 ≤ n := by omega
  have hn1 : 1 ≤ n := by omega
  have hkk : ((k8 : Int) % 65) = (k : Int) := by omega
  have hk64 : k ≤ 64 := by omega
  have hsl1 : ∀ W, (Instr.slice 9 (.string t) none (some (.int .i64 (k : Int))) none).run Try.prog W = .ok (.string (t.extract 0 k)) W := fun W => by
    have := run_slice_string_h (P := Try.prog) (w := W) 9 t Try.underlying9 .i64 (k : Int) (by omega) (by omega)
    rw [this]; simp
  have hsl2 : ∀ W, (Instr.slice 9 (.string b0) (some (.int .i64 (k : Int))) none none).run Try.prog W = .ok (.string ((b0).extract k (b0).size)) W := fun W => by
    have := run_slice_string_l (P := Try.prog) (w := W) 9 b0 Try.underlying9 .i64 (k : Int) (by omega) (by omega)
    rw [this]; simp
  have hadd : ∀ W, (Op.stringOp .add (t.extract 0 k) ((b0).extract k (b0).size)).run Try.prog W = .ok (.string m) W := fun W => by
    rw [run_string_add_sum W _ _ (by rw [ByteArray.size_extract, ByteArray.size_extract]; omega), ← hm]; rfl
  obtain ⟨p1, hp1⟩ : ∃ x, t.extract 0 k = x := ⟨_, rfl⟩
  obtain ⟨p2, hp2⟩ : ∃ x, (b0).extract k (b0).size = x := ⟨_, rfl⟩
  rw [hp1] at hsl1 hadd
  rw [hp2] at hsl2 hadd
  have H0 := Lib.hid h0
  have H1 := Lib.hid h1
  have HD := Lib.hid hdec
  have HKK := Lib.hid hkk
  have HN1 := Lib.hid hn1
  clear h0 h1 hdec h2 hp1 hp2 hm hts hbs hkk hk
  go_enter Try.func7, Try.ntmps7
  go_wp2_with fail
  refine (awake_walk _).mono ?_; rintro e w0 ⟨rfl, hb⟩
  have hA : Box w0 w.heap.size n0 s0 l0 c0 := (hb.block _ (by simp; omega)).trans ((Below.heap_alloc _ _ _ (by simp)).trans (heap_alloc_new _ _))
  have hX : Box w0 (w.heap.size + 1) n s l c := (hb.block _ (by simp)).trans (by
    rw [show w.heap.size + 1 = (w.alloc (.cells #[.int .i64 n0, .int .i64 s0, .int .i64 l0, .int .i64 c0] 25)).heap.size by simp]; exact heap_alloc_new _ _)
  have HB0 := Lib.hid ((((Below.refl w.heap.size w).alloc (Nat.le_refl _) _).alloc (by simp) _).trans (hb.mono (by simp; omega) : Below w.heap.size _ _))
  have a0 := hA.c0
  have a1 := hA.c1
  have a2 := hA.c2
  have a3 := hA.c3
  have x0 := hX.c0
  have x1 := hX.c1
  have x2 := hX.c2
  have x3 := hX.c3
  have HX0 := Lib.hid hX
  have HA0 := Lib.hid hA
  clear hb hX hA
  go_wp2_with fail
  refine (enc_any n0 s0 l0 c0 _ _ H0.out _).mono ?_; rintro e w1 ⟨rfl, hb⟩
  have hA := HA0.out.below hb HA0.out.lt
  have hX := HX0.out.below hb HX0.out.lt
  clear a0 a1 a2 a3 x0 x1 x2 x3
  have a0 := hA.c0
  have a1 := hA.c1
  have a2 := hA.c2
  have a3 := hA.c3
  have al := hA.lt
  have x0 := hX.c0
  have x1 := hX.c1
  have x2 := hX.c2
  have x3 := hX.c3
  have xl := hX.lt
  have HX1 := Lib.hid hX
  have HA1 := Lib.hid hA
  clear hA hX
  have HB1 := Lib.hid (step_b HB0.out hb)
  clear hb
  go_wp2_with fail
  refine (enc_any n s l c _ _ H1.out _).mono ?_; rintro e w2 ⟨rfl, hb⟩
  have hA := HA1.out.below hb HA1.out.lt
  have hX := HX1.out.below hb HX1.out.lt
  clear a0 a1 a2 a3 x0 x1 x2 x3
  have a0 := hA.c0
  have a1 := hA.c1
  have a2 := hA.c2
  have a3 := hA.c3
  have al := hA.lt
  have x0 := hX.c0
  have x1 := hX.c1
  have x2 := hX.c2
  have x3 := hX.c3
  have xl := hX.lt
  have HX2 := Lib.hid hX
  have HA2 := Lib.hid hA
  clear hA hX
  have HB2 := Lib.hid (step_b HB1.out hb)
  clear hb
  go_wp2_with fail
  have HXX : Hid (Box w2.drew (w.heap.size + 1) n s l c) := Lib.hid HX2.out
  have HAA : Hid (Box w2.drew w.heap.size n0 s0 l0 c0) := Lib.hid HA2.out
  have HBB : Hid (Below w.heap.size w w2.drew) := Lib.hid HB2.out.drew
  rw [HKK.out]
  go_region_held3 (fun _ => True) (exact True.intro) (first | fail)
  clear hsl1 hsl2 hadd
  go_wp2_with fail
  refine (places_ge n HN1.out _).mono ?_; rintro e _ ⟨rfl, rfl⟩
  go_wp2_with fail
  refine (decode_walk m (n % 2) _ _ _ _ _ HD.out _).mono ?_; rintro e w3 ⟨rfl, hb⟩
  have hA := HAA.out.below hb HAA.out.lt
  have hX := HXX.out.below hb HXX.out.lt
  clear a0 a1 a2 a3 x0 x1 x2 x3
  have a0 := hA.c0
  have a1 := hA.c1
  have a2 := hA.c2
  have a3 := hA.c3
  have al := hA.lt
  have x0 := hX.c0
  have x1 := hX.c1
  have x2 := hX.c2
  have x3 := hX.c3
  have xl := hX.lt
  have HB3 := Lib.hid (step_b HBB.out hb)
  clear hb hA hX
  go_wp2_with fail
  go_ret
  exact ⟨rfl, HB3.out.alloc HB3.out.size _⟩
set_option maxRecDepth 100000 in
set_option maxHeartbeats 2000000 in
theorem torn_s (n0 s0 l0 c0 n s l c : Int) (k8 k : Nat) (hk : k8 % 65 = k) (hk8 : k8 < 256) (b0 t m : ByteArray) (h0 : encV n0 s0 l0 c0 = (b0, 0)) (h1 : encV n s l c = (t, 0)) (hn0 : 1 ≤ n0) (hlt : n0 < n) (h2 : n0 % 2 = n % 2) (hts : t.size = 64) (hbs : b0.size = 64) (hm : mixB t b0 k = m) (hq1 : (m.toList == t.toList) = false) (hq2 : (m.toList == b0.toList) = true) (hdec : decV m.data.toList (n % 2) = ((n0, s0, l0, c0), 0)) (w : World) : Calls Try.prog 7 #[.agg #[.int .i64 n0, .int .i64 s0, .int .i64 l0, .int .i64 c0], .agg #[.int .i64 n, .int .i64 s, .int .i64 l, .int .i64 c], .int .u8 k8, .bool false] w fun e w' => e = .returned (.bool true) ∧ Below w.heap.size w w' := by
  have hd : decide (n ≤ n0) = false := by simp; omega
  have hp : (n0 % 2 != n % 2) = false := by simpa using h2
  have h3 : 0 ≤ n := by omega
  have hn1 : 1 ≤ n := by omega
  have hkk : ((k8 : Int) % 65) = (k : Int) := by omega
  have hk64 : k ≤ 64 := by omega
  have hsl1 : ∀ W, (Instr.slice 9 (.string t) none (some (.int .i64 (k : Int))) none).run Try.prog W = .ok (.string (t.extract 0 k)) W := fun W => by
    have := run_slice_string_h (P := Try.prog) (w := W) 9 t Try.underlying9 .i64 (k : Int) (by omega) (by omega)
    rw [this]; simp
  have hsl2 : ∀ W, (Instr.slice 9 (.string b0) (some (.int .i64 (k : Int))) none none).run Try.prog W = .ok (.string ((b0).extract k (b0).size)) W := fun W => by
    have := run_slice_string_l (P := Try.prog) (w := W) 9 b0 Try.underlying9 .i64 (k : Int) (by omega) (by omega)
    rw [this]; simp
  have hadd : ∀ W, (Op.stringOp .add (t.extract 0 k) ((b0).extract k (b0).size)).run Try.prog W = .ok (.string m) W := fun W => by
    rw [run_string_add_sum W _ _ (by rw [ByteArray.size_extract, ByteArray.size_extract]; omega), ← hm]; rfl
  obtain ⟨p1, hp1⟩ : ∃ x, t.extract 0 k = x := ⟨_, rfl⟩
  obtain ⟨p2, hp2⟩ : ∃ x, (b0).extract k (b0).size = x := ⟨_, rfl⟩
  rw [hp1] at hsl1 hadd
  rw [hp2] at hsl2 hadd
  have H0 := Lib.hid h0
  have H1 := Lib.hid h1
  have HD := Lib.hid hdec
  have HKK := Lib.hid hkk
  have HN1 := Lib.hid hn1
  clear h0 h1 hdec h2 hp1 hp2 hm hts hbs hkk hk
  go_enter Try.func7, Try.ntmps7
  go_wp2_with fail
  refine (awake_walk _).mono ?_; rintro e w0 ⟨rfl, hb⟩
  have hA : Box w0 w.heap.size n0 s0 l0 c0 := (hb.block _ (by simp; omega)).trans ((Below.heap_alloc _ _ _ (by simp)).trans (heap_alloc_new _ _))
  have hX : Box w0 (w.heap.size + 1) n s l c := (hb.block _ (by simp)).trans (by
    rw [show w.heap.size + 1 = (w.alloc (.cells #[.int .i64 n0, .int .i64 s0, .int .i64 l0, .int .i64 c0] 25)).heap.size by simp]; exact heap_alloc_new _ _)
  have HB0 := Lib.hid ((((Below.refl w.heap.size w).alloc (Nat.le_refl _) _).alloc (by simp) _).trans (hb.mono (by simp; omega) : Below w.heap.size _ _))
  have a0 := hA.c0
  have a1 := hA.c1
  have a2 := hA.c2
  have a3 := hA.c3
  have x0 := hX.c0
  have x1 := hX.c1
  have x2 := hX.c2
  have x3 := hX.c3
  have HX0 := Lib.hid hX
  have HA0 := Lib.hid hA
  clear hb hX hA
  go_wp2_with fail
  refine (enc_any n0 s0 l0 c0 _ _ H0.out _).mono ?_; rintro e w1 ⟨rfl, hb⟩
  have hA := HA0.out.below hb HA0.out.lt
  have hX := HX0.out.below hb HX0.out.lt
  clear a0 a1 a2 a3 x0 x1 x2 x3
  have a0 := hA.c0
  have a1 := hA.c1
  have a2 := hA.c2
  have a3 := hA.c3
  have al := hA.lt
  have x0 := hX.c0
  have x1 := hX.c1
  have x2 := hX.c2
  have x3 := hX.c3
  have xl := hX.lt
  have HX1 := Lib.hid hX
  have HA1 := Lib.hid hA
  clear hA hX
  have HB1 := Lib.hid (step_b HB0.out hb)
  clear hb
  go_wp2_with fail
  refine (enc_any n s l c _ _ H1.out _).mono ?_; rintro e w2 ⟨rfl, hb⟩
  have hA := HA1.out.below hb HA1.out.lt
  have hX := HX1.out.below hb HX1.out.lt
  clear a0 a1 a2 a3 x0 x1 x2 x3
  have a0 := hA.c0
  have a1 := hA.c1
  have a2 := hA.c2
  have a3 := hA.c3
  have al := hA.lt
  have x0 := hX.c0
  have x1 := hX.c1
  have x2 := hX.c2
  have x3 := hX.c3
  have xl := hX.lt
  have HX2 := Lib.hid hX
  have HA2 := Lib.hid hA
  clear hA hX
  have HB2 := Lib.hid (step_b HB1.out hb)
  clear hb
  go_wp2_with fail
  have HXX : Hid (Box w2.drew (w.heap.size + 1) n s l c) := Lib.hid HX2.out
  have HAA : Hid (Box w2.drew w.heap.size n0 s0 l0 c0) := Lib.hid HA2.out
  have HBB : Hid (Below w.heap.size w w2.drew) := Lib.hid HB2.out.drew
  rw [HKK.out]
  go_region_held3 (fun _ => True) (exact True.intro) (first | fail)
  clear hsl1 hsl2 hadd
  go_wp2_with fail
  refine (places_ge n HN1.out _).mono ?_; rintro e _ ⟨rfl, rfl⟩
  go_wp2_with fail
  refine (decode_walk m (n % 2) _ _ _ _ _ HD.out _).mono ?_; rintro e w3 ⟨rfl, hb⟩
  have hA := HAA.out.below hb HAA.out.lt
  have hX := HXX.out.below hb HXX.out.lt
  clear a0 a1 a2 a3 x0 x1 x2 x3
  have a0 := hA.c0
  have a1 := hA.c1
  have a2 := hA.c2
  have a3 := hA.c3
  have al := hA.lt
  have x0 := hX.c0
  have x1 := hX.c1
  have x2 := hX.c2
  have x3 := hX.c3
  have xl := hX.lt
  have HB3 := Lib.hid (step_b HBB.out hb)
  clear hb hA hX
  go_wp2_with fail
  go_ret
  exact ⟨rfl, HB3.out.alloc HB3.out.size _⟩
set_option maxRecDepth 100000 in
set_option maxHeartbeats 2000000 in
theorem torn_n (n0 s0 l0 c0 n s l c : Int) (k8 k : Nat) (hk : k8 % 65 = k) (hk8 : k8 < 256) (b0 t m : ByteArray) (h0 : encV n0 s0 l0 c0 = (b0, 0)) (h1 : encV n s l c = (t, 0)) (hn0 : 1 ≤ n0) (hlt : n0 < n) (h2 : n0 % 2 = n % 2) (hts : t.size = 64) (hbs : b0.size = 64) (hm : mixB t b0 k = m) (hq1 : (m.toList == t.toList) = false) (hq2 : (m.toList == b0.toList) = false) (hdec : decV m.data.toList (n % 2) = ((0, 0, 0, 0), 12)) (w : World) : Calls Try.prog 7 #[.agg #[.int .i64 n0, .int .i64 s0, .int .i64 l0, .int .i64 c0], .agg #[.int .i64 n, .int .i64 s, .int .i64 l, .int .i64 c], .int .u8 k8, .bool false] w fun e w' => e = .returned (.bool true) ∧ Below w.heap.size w w' := by
  have hd : decide (n ≤ n0) = false := by simp; omega
  have hp : (n0 % 2 != n % 2) = false := by simpa using h2
  have h3 : 0 ≤ n := by omega
  have hn1 : 1 ≤ n := by omega
  have hkk : ((k8 : Int) % 65) = (k : Int) := by omega
  have hk64 : k ≤ 64 := by omega
  have hsl1 : ∀ W, (Instr.slice 9 (.string t) none (some (.int .i64 (k : Int))) none).run Try.prog W = .ok (.string (t.extract 0 k)) W := fun W => by
    have := run_slice_string_h (P := Try.prog) (w := W) 9 t Try.underlying9 .i64 (k : Int) (by omega) (by omega)
    rw [this]; simp
  have hsl2 : ∀ W, (Instr.slice 9 (.string b0) (some (.int .i64 (k : Int))) none none).run Try.prog W = .ok (.string ((b0).extract k (b0).size)) W := fun W => by
    have := run_slice_string_l (P := Try.prog) (w := W) 9 b0 Try.underlying9 .i64 (k : Int) (by omega) (by omega)
    rw [this]; simp
  have hadd : ∀ W, (Op.stringOp .add (t.extract 0 k) ((b0).extract k (b0).size)).run Try.prog W = .ok (.string m) W := fun W => by
    rw [run_string_add_sum W _ _ (by rw [ByteArray.size_extract, ByteArray.size_extract]; omega), ← hm]; rfl
  obtain ⟨p1, hp1⟩ : ∃ x, t.extract 0 k = x := ⟨_, rfl⟩
  obtain ⟨p2, hp2⟩ : ∃ x, (b0).extract k (b0).size = x := ⟨_, rfl⟩
  rw [hp1] at hsl1 hadd
  rw [hp2] at hsl2 hadd
  have H0 := Lib.hid h0
  have H1 := Lib.hid h1
  have HD := Lib.hid hdec
  have HKK := Lib.hid hkk
  have HN1 := Lib.hid hn1
  clear h0 h1 hdec h2 hp1 hp2 hm hts hbs hkk hk
  go_enter Try.func7, Try.ntmps7
  go_wp2_with fail
  refine (awake_walk _).mono ?_; rintro e w0 ⟨rfl, hb⟩
  have hA : Box w0 w.heap.size n0 s0 l0 c0 := (hb.block _ (by simp; omega)).trans ((Below.heap_alloc _ _ _ (by simp)).trans (heap_alloc_new _ _))
  have hX : Box w0 (w.heap.size + 1) n s l c := (hb.block _ (by simp)).trans (by
    rw [show w.heap.size + 1 = (w.alloc (.cells #[.int .i64 n0, .int .i64 s0, .int .i64 l0, .int .i64 c0] 25)).heap.size by simp]; exact heap_alloc_new _ _)
  have HB0 := Lib.hid ((((Below.refl w.heap.size w).alloc (Nat.le_refl _) _).alloc (by simp) _).trans (hb.mono (by simp; omega) : Below w.heap.size _ _))
  have a0 := hA.c0
  have a1 := hA.c1
  have a2 := hA.c2
  have a3 := hA.c3
  have x0 := hX.c0
  have x1 := hX.c1
  have x2 := hX.c2
  have x3 := hX.c3
  have HX0 := Lib.hid hX
  have HA0 := Lib.hid hA
  clear hb hX hA
  go_wp2_with fail
  refine (enc_any n0 s0 l0 c0 _ _ H0.out _).mono ?_; rintro e w1 ⟨rfl, hb⟩
  have hA := HA0.out.below hb HA0.out.lt
  have hX := HX0.out.below hb HX0.out.lt
  clear a0 a1 a2 a3 x0 x1 x2 x3
  have a0 := hA.c0
  have a1 := hA.c1
  have a2 := hA.c2
  have a3 := hA.c3
  have al := hA.lt
  have x0 := hX.c0
  have x1 := hX.c1
  have x2 := hX.c2
  have x3 := hX.c3
  have xl := hX.lt
  have HX1 := Lib.hid hX
  have HA1 := Lib.hid hA
  clear hA hX
  have HB1 := Lib.hid (step_b HB0.out hb)
  clear hb
  go_wp2_with fail
  refine (enc_any n s l c _ _ H1.out _).mono ?_; rintro e w2 ⟨rfl, hb⟩
  have hA := HA1.out.below hb HA1.out.lt
  have hX := HX1.out.below hb HX1.out.lt
  clear a0 a1 a2 a3 x0 x1 x2 x3
  have a0 := hA.c0
  have a1 := hA.c1
  have a2 := hA.c2
  have a3 := hA.c3
  have al := hA.lt
  have x0 := hX.c0
  have x1 := hX.c1
  have x2 := hX.c2
  have x3 := hX.c3
  have xl := hX.lt
  have HX2 := Lib.hid hX
  have HA2 := Lib.hid hA
  clear hA hX
  have HB2 := Lib.hid (step_b HB1.out hb)
  clear hb
  go_wp2_with fail
  have HXX : Hid (Box w2.drew (w.heap.size + 1) n s l c) := Lib.hid HX2.out
  have HAA : Hid (Box w2.drew w.heap.size n0 s0 l0 c0) := Lib.hid HA2.out
  have HBB : Hid (Below w.heap.size w w2.drew) := Lib.hid HB2.out.drew
  rw [HKK.out]
  go_region_held3 (fun _ => True) (exact True.intro) (first | fail)
  clear hsl1 hsl2 hadd
  go_wp2_with fail
  refine (places_ge n HN1.out _).mono ?_; rintro e _ ⟨rfl, rfl⟩
  go_wp2_with fail
  refine (decode_walk m (n % 2) _ _ _ _ _ HD.out _).mono ?_; rintro e w3 ⟨rfl, hb⟩
  have hA := HAA.out.below hb HAA.out.lt
  have hX := HXX.out.below hb HXX.out.lt
  clear a0 a1 a2 a3 x0 x1 x2 x3
  have a0 := hA.c0
  have a1 := hA.c1
  have a2 := hA.c2
  have a3 := hA.c3
  have al := hA.lt
  have x0 := hX.c0
  have x1 := hX.c1
  have x2 := hX.c2
  have x3 := hX.c3
  have xl := hX.lt
  have HB3 := Lib.hid (step_b HBB.out hb)
  clear hb hA hX
  go_wp2_with fail
  go_ret
  exact ⟨rfl, HB3.out.alloc HB3.out.size _⟩
set_option maxRecDepth 100000 in
set_option maxHeartbeats 2000000 in
theorem torn_ft (n0 s0 l0 c0 n s l c : Int) (k8 k : Nat) (hk : k8 % 65 = k) (hk8 : k8 < 256) (b0 t m : ByteArray) (h0 : encV n0 s0 l0 c0 = (b0, 0)) (h1 : encV n s l c = (t, 0)) (hn0 : 1 ≤ n0) (hlt : n0 < n) (h2 : n0 % 2 = n % 2) (hts : t.size = 64) (zz : ByteArray) (hz : bA (List.replicate 64 0) = zz) (hbs : zz.size = 64) (hm : mixB t zz k = m) (hq1 : (m.toList == t.toList) = true) (hdec : decV m.data.toList (n % 2) = ((n, s, l, c), 0)) (w : World) : Calls Try.prog 7 #[.agg #[.int .i64 n0, .int .i64 s0, .int .i64 l0, .int .i64 c0], .agg #[.int .i64 n, .int .i64 s, .int .i64 l, .int .i64 c], .int .u8 k8, .bool true] w fun e w' => e = .returned (.bool true) ∧ Below w.heap.size w w' := by
  have hd : decide (n ≤ n0) = false := by simp; omega
  have hp : (n0 % 2 != n % 2) = false := by simpa using h2
  have h3 : 0 ≤ n := by omega
  have hn1 : 1 ≤ n := by omega
  have hkk : ((k8 : Int) % 65) = (k : Int) := by omega
  have hk64 : k ≤ 64 := by omega
  have hsl1 : ∀ W, (Instr.slice 9 (.string t) none (some (.int .i64 (k : Int))) none).run Try.prog W = .ok (.string (t.extract 0 k)) W := fun W => by
    have := run_slice_string_h (P := Try.prog) (w := W) 9 t Try.underlying9 .i64 (k : Int) (by omega) (by omega)
    rw [this]; simp
  have hsl2 : ∀ W, (Instr.slice 9 (.string zz) (some (.int .i64 (k : Int))) none none).run Try.prog W = .ok (.string ((zz).extract k (zz).size)) W := fun W => by
    have := run_slice_string_l (P := Try.prog) (w := W) 9 zz Try.underlying9 .i64 (k : Int) (by omega) (by omega)
    rw [this]; simp
  have hadd : ∀ W, (Op.stringOp .add (t.extract 0 k) ((zz).extract k (zz).size)).run Try.prog W = .ok (.string m) W := fun W => by
    rw [run_string_add_sum W _ _ (by rw [ByteArray.size_extract, ByteArray.size_extract]; omega), ← hm]; rfl
  obtain ⟨p1, hp1⟩ : ∃ x, t.extract 0 k = x := ⟨_, rfl⟩
  obtain ⟨p2, hp2⟩ : ∃ x, (zz).extract k (zz).size = x := ⟨_, rfl⟩
  rw [hp1] at hsl1 hadd
  rw [hp2] at hsl2 hadd
  have H0 := Lib.hid h0
  have H1 := Lib.hid h1
  have HD := Lib.hid hdec
  have HKK := Lib.hid hkk
  have HN1 := Lib.hid hn1
  clear h0 h1 hdec h2 hp1 hp2 hm hts hbs hkk hk
  go_enter Try.func7, Try.ntmps7
  go_wp2_with fail
  refine (awake_walk _).mono ?_; rintro e w0 ⟨rfl, hb⟩
  have hA : Box w0 w.heap.size n0 s0 l0 c0 := (hb.block _ (by simp; omega)).trans ((Below.heap_alloc _ _ _ (by simp)).trans (heap_alloc_new _ _))
  have hX : Box w0 (w.heap.size + 1) n s l c := (hb.block _ (by simp)).trans (by
    rw [show w.heap.size + 1 = (w.alloc (.cells #[.int .i64 n0, .int .i64 s0, .int .i64 l0, .int .i64 c0] 25)).heap.size by simp]; exact heap_alloc_new _ _)
  have HB0 := Lib.hid ((((Below.refl w.heap.size w).alloc (Nat.le_refl _) _).alloc (by simp) _).trans (hb.mono (by simp; omega) : Below w.heap.size _ _))
  have a0 := hA.c0
  have a1 := hA.c1
  have a2 := hA.c2
  have a3 := hA.c3
  have x0 := hX.c0
  have x1 := hX.c1
  have x2 := hX.c2
  have x3 := hX.c3
  have HX0 := Lib.hid hX
  have HA0 := Lib.hid hA
  clear hb hX hA
  go_wp2_with fail
  refine (enc_any n0 s0 l0 c0 _ _ H0.out _).mono ?_; rintro e w1 ⟨rfl, hb⟩
  have hA := HA0.out.below hb HA0.out.lt
  have hX := HX0.out.below hb HX0.out.lt
  clear a0 a1 a2 a3 x0 x1 x2 x3
  have a0 := hA.c0
  have a1 := hA.c1
  have a2 := hA.c2
  have a3 := hA.c3
  have al := hA.lt
  have x0 := hX.c0
  have x1 := hX.c1
  have x2 := hX.c2
  have x3 := hX.c3
  have xl := hX.lt
  have HX1 := Lib.hid hX
  have HA1 := Lib.hid hA
  clear hA hX
  have HB1 := Lib.hid (step_b HB0.out hb)
  clear hb
  go_wp2_with fail
  refine (enc_any n s l c _ _ H1.out _).mono ?_; rintro e w2 ⟨rfl, hb⟩
  have hA := HA1.out.below hb HA1.out.lt
  have hX := HX1.out.below hb HX1.out.lt
  clear a0 a1 a2 a3 x0 x1 x2 x3
  have a0 := hA.c0
  have a1 := hA.c1
  have a2 := hA.c2
  have a3 := hA.c3
  have al := hA.lt
  have x0 := hX.c0
  have x1 := hX.c1
  have x2 := hX.c2
  have x3 := hX.c3
  have xl := hX.lt
  have HX2 := Lib.hid hX
  have HA2 := Lib.hid hA
  clear hA hX
  have HB2 := Lib.hid (step_b HB1.out hb)
  clear hb
  have hmk := make64 w2
  have hcv := str64 w2
  rw [hz] at hcv
  obtain ⟨O, hO⟩ : ∃ O, (Obj.cells (rowC (List.replicate 64 0)) 5 (0, 0)) = O := ⟨_, rfl⟩
  rw [hO] at hmk hcv
  clear hO
  go_wp2_with fail
  have HXX : Hid (Box (w2.alloc O).drew (w.heap.size + 1) n s l c) := Lib.hid (HX2.out.alloc O)
  have HAA : Hid (Box (w2.alloc O).drew w.heap.size n0 s0 l0 c0) := Lib.hid (HA2.out.alloc O)
  have HBB : Hid (Below w.heap.size w (w2.alloc O).drew) := Lib.hid (HB2.out.alloc HB2.out.size O).drew
  rw [HKK.out]
  go_region_held3 (fun _ => True) (exact True.intro) (first | fail)
  clear hsl1 hsl2 hadd
  go_wp2_with fail
  refine (places_ge n HN1.out _).mono ?_; rintro e _ ⟨rfl, rfl⟩
  go_wp2_with fail
  refine (decode_walk m (n % 2) _ _ _ _ _ HD.out _).mono ?_; rintro e w3 ⟨rfl, hb⟩
  have hA := HAA.out.below hb HAA.out.lt
  have hX := HXX.out.below hb HXX.out.lt
  clear a0 a1 a2 a3 x0 x1 x2 x3
  have a0 := hA.c0
  have a1 := hA.c1
  have a2 := hA.c2
  have a3 := hA.c3
  have al := hA.lt
  have x0 := hX.c0
  have x1 := hX.c1
  have x2 := hX.c2
  have x3 := hX.c3
  have xl := hX.lt
  have HB3 := Lib.hid (step_b HBB.out hb)
  clear hb hA hX
  go_wp2_with fail
  go_ret
  exact ⟨rfl, HB3.out.alloc HB3.out.size _⟩
set_option maxRecDepth 100000 in
set_option maxHeartbeats 2000000 in
theorem torn_fs (n0 s0 l0 c0 n s l c : Int) (k8 k : Nat) (hk : k8 % 65 = k) (hk8 : k8 < 256) (b0 t m : ByteArray) (h0 : encV n0 s0 l0 c0 = (b0, 0)) (h1 : encV n s l c = (t, 0)) (hn0 : 1 ≤ n0) (hlt : n0 < n) (h2 : n0 % 2 = n % 2) (hts : t.size = 64) (zz : ByteArray) (hz : bA (List.replicate 64 0) = zz) (hbs : zz.size = 64) (hm : mixB t zz k = m) (hq1 : (m.toList == t.toList) = false) (hq2 : (m.toList == zz.toList) = true) (hdec : decV m.data.toList (n % 2) = ((0, 0, 0, 0), 12)) (w : World) : Calls Try.prog 7 #[.agg #[.int .i64 n0, .int .i64 s0, .int .i64 l0, .int .i64 c0], .agg #[.int .i64 n, .int .i64 s, .int .i64 l, .int .i64 c], .int .u8 k8, .bool true] w fun e w' => e = .returned (.bool true) ∧ Below w.heap.size w w' := by
  have hd : decide (n ≤ n0) = false := by simp; omega
  have hp : (n0 % 2 != n % 2) = false := by simpa using h2
  have h3 : 0 ≤ n := by omega
  have hn1 : 1 ≤ n := by omega
  have hkk : ((k8 : Int) % 65) = (k : Int) := by omega
  have hk64 : k ≤ 64 := by omega
  have hsl1 : ∀ W, (Instr.slice 9 (.string t) none (some (.int .i64 (k : Int))) none).run Try.prog W = .ok (.string (t.extract 0 k)) W := fun W => by
    have := run_slice_string_h (P := Try.prog) (w := W) 9 t Try.underlying9 .i64 (k : Int) (by omega) (by omega)
    rw [this]; simp
  have hsl2 : ∀ W, (Instr.slice 9 (.string zz) (some (.int .i64 (k : Int))) none none).run Try.prog W = .ok (.string ((zz).extract k (zz).size)) W := fun W => by
    have := run_slice_string_l (P := Try.prog) (w := W) 9 zz Try.underlying9 .i64 (k : Int) (by omega) (by omega)
    rw [this]; simp
  have hadd : ∀ W, (Op.stringOp .add (t.extract 0 k) ((zz).extract k (zz).size)).run Try.prog W = .ok (.string m) W := fun W => by
    rw [run_string_add_sum W _ _ (by rw [ByteArray.size_extract, ByteArray.size_extract]; omega), ← hm]; rfl
  obtain ⟨p1, hp1⟩ : ∃ x, t.extract 0 k = x := ⟨_, rfl⟩
  obtain ⟨p2, hp2⟩ : ∃ x, (zz).extract k (zz).size = x := ⟨_, rfl⟩
  rw [hp1] at hsl1 hadd
  rw [hp2] at hsl2 hadd
  have H0 := Lib.hid h0
  have H1 := Lib.hid h1
  have HD := Lib.hid hdec
  have HKK := Lib.hid hkk
  have HN1 := Lib.hid hn1
  clear h0 h1 hdec h2 hp1 hp2 hm hts hbs hkk hk
  go_enter Try.func7, Try.ntmps7
  go_wp2_with fail
  refine (awake_walk _).mono ?_; rintro e w0 ⟨rfl, hb⟩
  have hA : Box w0 w.heap.size n0 s0 l0 c0 := (hb.block _ (by simp; omega)).trans ((Below.heap_alloc _ _ _ (by simp)).trans (heap_alloc_new _ _))
  have hX : Box w0 (w.heap.size + 1) n s l c := (hb.block _ (by simp)).trans (by
    rw [show w.heap.size + 1 = (w.alloc (.cells #[.int .i64 n0, .int .i64 s0, .int .i64 l0, .int .i64 c0] 25)).heap.size by simp]; exact heap_alloc_new _ _)
  have HB0 := Lib.hid ((((Below.refl w.heap.size w).alloc (Nat.le_refl _) _).alloc (by simp) _).trans (hb.mono (by simp; omega) : Below w.heap.size _ _))
  have a0 := hA.c0
  have a1 := hA.c1
  have a2 := hA.c2
  have a3 := hA.c3
  have x0 := hX.c0
  have x1 := hX.c1
  have x2 := hX.c2
  have x3 := hX.c3
  have HX0 := Lib.hid hX
  have HA0 := Lib.hid hA
  clear hb hX hA
  go_wp2_with fail
  refine (enc_any n0 s0 l0 c0 _ _ H0.out _).mono ?_; rintro e w1 ⟨rfl, hb⟩
  have hA := HA0.out.below hb HA0.out.lt
  have hX := HX0.out.below hb HX0.out.lt
  clear a0 a1 a2 a3 x0 x1 x2 x3
  have a0 := hA.c0
  have a1 := hA.c1
  have a2 := hA.c2
  have a3 := hA.c3
  have al := hA.lt
  have x0 := hX.c0
  have x1 := hX.c1
  have x2 := hX.c2
  have x3 := hX.c3
  have xl := hX.lt
  have HX1 := Lib.hid hX
  have HA1 := Lib.hid hA
  clear hA hX
  have HB1 := Lib.hid (step_b HB0.out hb)
  clear hb
  go_wp2_with fail
  refine (enc_any n s l c _ _ H1.out _).mono ?_; rintro e w2 ⟨rfl, hb⟩
  have hA := HA1.out.below hb HA1.out.lt
  have hX := HX1.out.below hb HX1.out.lt
  clear a0 a1 a2 a3 x0 x1 x2 x3
  have a0 := hA.c0
  have a1 := hA.c1
  have a2 := hA.c2
  have a3 := hA.c3
  have al := hA.lt
  have x0 := hX.c0
  have x1 := hX.c1
  have x2 := hX.c2
  have x3 := hX.c3
  have xl := hX.lt
  have HX2 := Lib.hid hX
  have HA2 := Lib.hid hA
  clear hA hX
  have HB2 := Lib.hid (step_b HB1.out hb)
  clear hb
  have hmk := make64 w2
  have hcv := str64 w2
  rw [hz] at hcv
  obtain ⟨O, hO⟩ : ∃ O, (Obj.cells (rowC (List.replicate 64 0)) 5 (0, 0)) = O := ⟨_, rfl⟩
  rw [hO] at hmk hcv
  clear hO
  go_wp2_with fail
  have HXX : Hid (Box (w2.alloc O).drew (w.heap.size + 1) n s l c) := Lib.hid (HX2.out.alloc O)
  have HAA : Hid (Box (w2.alloc O).drew w.heap.size n0 s0 l0 c0) := Lib.hid (HA2.out.alloc O)
  have HBB : Hid (Below w.heap.size w (w2.alloc O).drew) := Lib.hid (HB2.out.alloc HB2.out.size O).drew
  rw [HKK.out]
  go_region_held3 (fun _ => True) (exact True.intro) (first | fail)
  clear hsl1 hsl2 hadd
  go_wp2_with fail
  refine (places_ge n HN1.out _).mono ?_; rintro e _ ⟨rfl, rfl⟩
  go_wp2_with fail
  refine (decode_walk m (n % 2) _ _ _ _ _ HD.out _).mono ?_; rintro e w3 ⟨rfl, hb⟩
  have hA := HAA.out.below hb HAA.out.lt
  have hX := HXX.out.below hb HXX.out.lt
  clear a0 a1 a2 a3 x0 x1 x2 x3
  have a0 := hA.c0
  have a1 := hA.c1
  have a2 := hA.c2
  have a3 := hA.c3
  have al := hA.lt
  have x0 := hX.c0
  have x1 := hX.c1
  have x2 := hX.c2
  have x3 := hX.c3
  have xl := hX.lt
  have HB3 := Lib.hid (step_b HBB.out hb)
  clear hb hA hX
  go_wp2_with fail
  go_ret
  exact ⟨rfl, HB3.out.alloc HB3.out.size _⟩
set_option maxRecDepth 100000 in
set_option maxHeartbeats 2000000 in
theorem torn_fn (n0 s0 l0 c0 n s l c : Int) (k8 k : Nat) (hk : k8 % 65 = k) (hk8 : k8 < 256) (b0 t m : ByteArray) (h0 : encV n0 s0 l0 c0 = (b0, 0)) (h1 : encV n s l c = (t, 0)) (hn0 : 1 ≤ n0) (hlt : n0 < n) (h2 : n0 % 2 = n % 2) (hts : t.size = 64) (zz : ByteArray) (hz : bA (List.replicate 64 0) = zz) (hbs : zz.size = 64) (hm : mixB t zz k = m) (hq1 : (m.toList == t.toList) = false) (hq2 : (m.toList == zz.toList) = false) (hdec : decV m.data.toList (n % 2) = ((0, 0, 0, 0), 12)) (w : World) : Calls Try.prog 7 #[.agg #[.int .i64 n0, .int .i64 s0, .int .i64 l0, .int .i64 c0], .agg #[.int .i64 n, .int .i64 s, .int .i64 l, .int .i64 c], .int .u8 k8, .bool true] w fun e w' => e = .returned (.bool true) ∧ Below w.heap.size w w' := by
  have hd : decide (n ≤ n0) = false := by simp; omega
  have hp : (n0 % 2 != n % 2) = false := by simpa using h2
  have h3 : 0 ≤ n := by omega
  have hn1 : 1 ≤ n := by omega
  have hkk : ((k8 : Int) % 65) = (k : Int) := by omega
  have hk64 : k ≤ 64 := by omega
  have hsl1 : ∀ W, (Instr.slice 9 (.string t) none (some (.int .i64 (k : Int))) none).run Try.prog W = .ok (.string (t.extract 0 k)) W := fun W => by
    have := run_slice_string_h (P := Try.prog) (w := W) 9 t Try.underlying9 .i64 (k : Int) (by omega) (by omega)
    rw [this]; simp
  have hsl2 : ∀ W, (Instr.slice 9 (.string zz) (some (.int .i64 (k : Int))) none none).run Try.prog W = .ok (.string ((zz).extract k (zz).size)) W := fun W => by
    have := run_slice_string_l (P := Try.prog) (w := W) 9 zz Try.underlying9 .i64 (k : Int) (by omega) (by omega)
    rw [this]; simp
  have hadd : ∀ W, (Op.stringOp .add (t.extract 0 k) ((zz).extract k (zz).size)).run Try.prog W = .ok (.string m) W := fun W => by
    rw [run_string_add_sum W _ _ (by rw [ByteArray.size_extract, ByteArray.size_extract]; omega), ← hm]; rfl
  obtain ⟨p1, hp1⟩ : ∃ x, t.extract 0 k = x := ⟨_, rfl⟩
  obtain ⟨p2, hp2⟩ : ∃ x, (zz).extract k (zz).size = x := ⟨_, rfl⟩
  rw [hp1] at hsl1 hadd
  rw [hp2] at hsl2 hadd
  have H0 := Lib.hid h0
  have H1 := Lib.hid h1
  have HD := Lib.hid hdec
  have HKK := Lib.hid hkk
  have HN1 := Lib.hid hn1
  clear h0 h1 hdec h2 hp1 hp2 hm hts hbs hkk hk
  go_enter Try.func7, Try.ntmps7
  go_wp2_with fail
  refine (awake_walk _).mono ?_; rintro e w0 ⟨rfl, hb⟩
  have hA : Box w0 w.heap.size n0 s0 l0 c0 := (hb.block _ (by simp; omega)).trans ((Below.heap_alloc _ _ _ (by simp)).trans (heap_alloc_new _ _))
  have hX : Box w0 (w.heap.size + 1) n s l c := (hb.block _ (by simp)).trans (by
    rw [show w.heap.size + 1 = (w.alloc (.cells #[.int .i64 n0, .int .i64 s0, .int .i64 l0, .int .i64 c0] 25)).heap.size by simp]; exact heap_alloc_new _ _)
  have HB0 := Lib.hid ((((Below.refl w.heap.size w).alloc (Nat.le_refl _) _).alloc (by simp) _).trans (hb.mono (by simp; omega) : Below w.heap.size _ _))
  have a0 := hA.c0
  have a1 := hA.c1
  have a2 := hA.c2
  have a3 := hA.c3
  have x0 := hX.c0
  have x1 := hX.c1
  have x2 := hX.c2
  have x3 := hX.c3
  have HX0 := Lib.hid hX
  have HA0 := Lib.hid hA
  clear hb hX hA
  go_wp2_with fail
  refine (enc_any n0 s0 l0 c0 _ _ H0.out _).mono ?_; rintro e w1 ⟨rfl, hb⟩
  have hA := HA0.out.below hb HA0.out.lt
  have hX := HX0.out.below hb HX0.out.lt
  clear a0 a1 a2 a3 x0 x1 x2 x3
  have a0 := hA.c0
  have a1 := hA.c1
  have a2 := hA.c2
  have a3 := hA.c3
  have al := hA.lt
  have x0 := hX.c0
  have x1 := hX.c1
  have x2 := hX.c2
  have x3 := hX.c3
  have xl := hX.lt
  have HX1 := Lib.hid hX
  have HA1 := Lib.hid hA
  clear hA hX
  have HB1 := Lib.hid (step_b HB0.out hb)
  clear hb
  go_wp2_with fail
  refine (enc_any n s l c _ _ H1.out _).mono ?_; rintro e w2 ⟨rfl, hb⟩
  have hA := HA1.out.below hb HA1.out.lt
  have hX := HX1.out.below hb HX1.out.lt
  clear a0 a1 a2 a3 x0 x1 x2 x3
  have a0 := hA.c0
  have a1 := hA.c1
  have a2 := hA.c2
  have a3 := hA.c3
  have al := hA.lt
  have x0 := hX.c0
  have x1 := hX.c1
  have x2 := hX.c2
  have x3 := hX.c3
  have xl := hX.lt
  have HX2 := Lib.hid hX
  have HA2 := Lib.hid hA
  clear hA hX
  have HB2 := Lib.hid (step_b HB1.out hb)
  clear hb
  have hmk := make64 w2
  have hcv := str64 w2
  rw [hz] at hcv
  obtain ⟨O, hO⟩ : ∃ O, (Obj.cells (rowC (List.replicate 64 0)) 5 (0, 0)) = O := ⟨_, rfl⟩
  rw [hO] at hmk hcv
  clear hO
  go_wp2_with fail
  have HXX : Hid (Box (w2.alloc O).drew (w.heap.size + 1) n s l c) := Lib.hid (HX2.out.alloc O)
  have HAA : Hid (Box (w2.alloc O).drew w.heap.size n0 s0 l0 c0) := Lib.hid (HA2.out.alloc O)
  have HBB : Hid (Below w.heap.size w (w2.alloc O).drew) := Lib.hid (HB2.out.alloc HB2.out.size O).drew
  rw [HKK.out]
  go_region_held3 (fun _ => True) (exact True.intro) (first | fail)
  clear hsl1 hsl2 hadd
  go_wp2_with fail
  refine (places_ge n HN1.out _).mono ?_; rintro e _ ⟨rfl, rfl⟩
  go_wp2_with fail
  refine (decode_walk m (n % 2) _ _ _ _ _ HD.out _).mono ?_; rintro e w3 ⟨rfl, hb⟩
  have hA := HAA.out.below hb HAA.out.lt
  have hX := HXX.out.below hb HXX.out.lt
  clear a0 a1 a2 a3 x0 x1 x2 x3
  have a0 := hA.c0
  have a1 := hA.c1
  have a2 := hA.c2
  have a3 := hA.c3
  have al := hA.lt
  have x0 := hX.c0
  have x1 := hX.c1
  have x2 := hX.c2
  have x3 := hX.c3
  have xl := hX.lt
  have HB3 := Lib.hid (step_b HBB.out hb)
  clear hb hA hX
  go_wp2_with fail
  go_ret
  exact ⟨rfl, HB3.out.alloc HB3.out.size _⟩
end Go.Proofs.Ytonkamdipalbpaa
