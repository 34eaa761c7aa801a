import Derived.Test.YtonkamdipalbpaaWk
namespace Go.Proofs.Ytonkamdipalbpaa
open Go.RowKit

set_option maxRecDepth 100000 in
set_option maxHeartbeats 1000000 in
theorem form_law (n s l c : Int) (w : World) : Calls Try.prog 3 #[.agg #[.int .i64 n, .int .i64 s, .int .i64 l, .int .i64 c]] w fun e w' => e = .returned (.bool true) ∧ Below w.heap.size w w' := by
  obtain ⟨b, e, he⟩ : ∃ b e, encV n s l c = (b, e) := ⟨_, _, rfl⟩
  have HE := Lib.hid he
  clear he
  by_cases h : n < 1
  · go_enter Try.func3, Try.ntmps3
    go_wp2_with fail
    refine (awake_walk _).mono ?_; rintro e w0 ⟨rfl, hb⟩
    have hX : Box w0 w.heap.size n s l c := (hb.block _ (by simp)).trans (heap_alloc_new _ _)
    have x0 := hX.c0
    have x1 := hX.c1
    have x2 := hX.c2
    have x3 := hX.c3
    have HB0 := Lib.hid (((Below.refl w.heap.size w).alloc (Nat.le_refl _) _).trans (hb.mono (by simp) : Below w.heap.size _ _))
    have HX0 := Lib.hid hX
    clear hb hX
    go_wp2_with fail
    refine (enc_any n s l c b e HE.out _).mono ?_; rintro e w1 ⟨rfl, hb⟩
    have hX := HX0.out.below hb HX0.out.lt
    clear x0 x1 x2 x3
    have x0 := hX.c0
    have x1 := hX.c1
    have x2 := hX.c2
    have x3 := hX.c3
    have xl := hX.lt
    have HX1 := Lib.hid hX
    have HB1 := Lib.hid (step_b HB0.out hb)
    clear hb hX
    go_wp2_with fail
    refine (renc_any n s l c b e HE.out _).mono ?_; rintro e w2 ⟨rfl, hb⟩
    have hX := HX1.out.below hb HX1.out.lt
    clear x0 x1 x2 x3
    have x0 := hX.c0
    have x1 := hX.c1
    have x2 := hX.c2
    have x3 := hX.c3
    have xl := hX.lt
    have HX2 := Lib.hid hX
    have HB2 := Lib.hid (step_b HB1.out hb)
    clear hb hX
    go_wp2_with fail
    refine (places_lt n h _).mono ?_; rintro e _ ⟨rfl, rfl⟩
    go_wp2_with fail
    go_ret
    exact ⟨rfl, HB2.out⟩
  · have h' : 1 ≤ n := by omega
    go_enter Try.func3, Try.ntmps3
    go_wp2_with fail
    refine (awake_walk _).mono ?_; rintro e w0 ⟨rfl, hb⟩
    have hX : Box w0 w.heap.size n s l c := (hb.block _ (by simp)).trans (heap_alloc_new _ _)
    have x0 := hX.c0
    have x1 := hX.c1
    have x2 := hX.c2
    have x3 := hX.c3
    have HB0 := Lib.hid (((Below.refl w.heap.size w).alloc (Nat.le_refl _) _).trans (hb.mono (by simp) : Below w.heap.size _ _))
    have HX0 := Lib.hid hX
    clear hb hX
    go_wp2_with fail
    refine (enc_any n s l c b e HE.out _).mono ?_; rintro e w1 ⟨rfl, hb⟩
    have hX := HX0.out.below hb HX0.out.lt
    clear x0 x1 x2 x3
    have x0 := hX.c0
    have x1 := hX.c1
    have x2 := hX.c2
    have x3 := hX.c3
    have xl := hX.lt
    have HX1 := Lib.hid hX
    have HB1 := Lib.hid (step_b HB0.out hb)
    clear hb hX
    go_wp2_with fail
    refine (renc_any n s l c b e HE.out _).mono ?_; rintro e w2 ⟨rfl, hb⟩
    have hX := HX1.out.below hb HX1.out.lt
    clear x0 x1 x2 x3
    have x0 := hX.c0
    have x1 := hX.c1
    have x2 := hX.c2
    have x3 := hX.c3
    have xl := hX.lt
    have HX2 := Lib.hid hX
    have HB2 := Lib.hid (step_b HB1.out hb)
    clear hb hX
    go_wp2_with fail
    refine (places_ge n h' _).mono ?_; rintro e _ ⟨rfl, rfl⟩
    go_wp2_with fail
    go_ret
    exact ⟨rfl, HB2.out⟩
set_option maxRecDepth 100000 in
set_option maxHeartbeats 1000000 in
theorem decodes_law (s : ByteArray) (p : Int) (w : World) : Calls Try.prog 4 #[.string s, .int .i64 p] w fun e w' => e = .returned (.bool true) ∧ Below w.heap.size w w' := by
  by_cases hs : 200 < s.size
  · have hs' : (200 : Int) < s.size := by omega
    go_enter Try.func4, Try.ntmps4
    go_wp2_with fail
    refine (awake_walk _).mono ?_; rintro e w0 ⟨rfl, hb⟩
    have HB0 := Lib.hid hb
    clear hb
    go_wp2_with fail
    go_ret
    exact ⟨rfl, HB0.out⟩
  · have hs' : ¬ (200 : Int) < s.size := by omega
    obtain ⟨n, sc, l, c, e, hd⟩ : ∃ n sc l c e, decV s.data.toList p = ((n, sc, l, c), e) := ⟨_, _, _, _, _, rfl⟩
    have HD := Lib.hid hd
    clear hd hs
    go_enter Try.func4, Try.ntmps4
    go_wp2_with fail
    refine (awake_walk _).mono ?_; rintro e w0 ⟨rfl, hb⟩
    have HB0 := Lib.hid hb
    clear hb
    go_wp2_with fail
    refine (decode_walk s p n sc l c e HD.out _).mono ?_; rintro e w1 ⟨rfl, hb⟩
    have HB1 := Lib.hid (step_b HB0.out hb)
    clear hb
    go_wp2_with fail
    refine (rdecode_walk s p n sc l c e HD.out _).mono ?_; rintro e w2 ⟨rfl, hb⟩
    have hX : Box w2 w1.heap.size n sc l c := (hb.block _ (by simp)).trans (heap_alloc_new _ _)
    have x0 := hX.c0
    have x1 := hX.c1
    have x2 := hX.c2
    have x3 := hX.c3
    have xl := hX.lt
    have HB2 := Lib.hid (step_b (HB1.out.alloc HB1.out.size _) hb)
    clear hb hX
    go_wp2_with fail
    go_ret
    exact ⟨rfl, HB2.out.alloc HB2.out.size _⟩
theorem decV_enc {n s l c : Nat} (p : Int) (h : validI n s l c = true) : decV (bA (encL n s l c)).data.toList p = if p < 0 ∨ 3 < p then ((0, 0, 0, 0), 2) else if (n : Int) % 2 = p % 2 then (((n : Int), (s : Int), (l : Int), (c : Int)), 0) else ((0, 0, 0, 0), 12) := by
  obtain ⟨h1, h2, h3, h4⟩ := valid_bounds h
  rw [bA_list]
  unfold decV
  by_cases hp : p < 0 ∨ 3 < p
  · rw [if_pos hp, if_pos hp]
  · rw [if_neg hp, if_neg hp, if_neg (by rw [encL_length]; decide), decOK_enc h, fN_enc _ _ _ _ h1, fS_enc _ _ _ _ h2, fL_enc _ _ _ _ h3, fC_enc _ _ _ _ h4]
    simp
theorem encV_ok {n s l c : Nat} (h : validI n s l c = true) : encV n s l c = (bA (encL n s l c), 0) := by unfold encV; rw [if_pos h]; simp
set_option maxRecDepth 100000 in
set_option maxHeartbeats 1000000 in
theorem returns_bad (n s l c p : Int) (h : validI n s l c = false) (w : World) : Calls Try.prog 5 #[.agg #[.int .i64 n, .int .i64 s, .int .i64 l, .int .i64 c], .int .i64 p] w fun e w' => e = .returned (.bool true) ∧ Below w.heap.size w w' := by
  have HE : Hid (encV n s l c = (⟨#[]⟩, 1)) := Lib.hid (by unfold encV; rw [h]; rfl)
  clear h
  go_enter Try.func5, Try.ntmps5
  go_wp2_with fail
  refine (awake_walk _).mono ?_; rintro e w0 ⟨rfl, hb⟩
  have hX : Box w0 w.heap.size n s l c := (hb.block _ (by simp)).trans (heap_alloc_new _ _)
  have x0 := hX.c0
  have x1 := hX.c1
  have x2 := hX.c2
  have x3 := hX.c3
  have HB0 := Lib.hid (((Below.refl w.heap.size w).alloc (Nat.le_refl _) _).trans (hb.mono (by simp) : Below w.heap.size _ _))
  have HX0 := Lib.hid hX
  clear hb hX
  go_wp2_with fail
  refine (enc_any n s l c _ _ HE.out _).mono ?_; rintro e w1 ⟨rfl, hb⟩
  have hX := HX0.out.below hb HX0.out.lt
  clear x0 x1 x2 x3
  have x0 := hX.c0
  have x1 := hX.c1
  have x2 := hX.c2
  have x3 := hX.c3
  have xl := hX.lt
  have HX1 := Lib.hid hX
  have HB1 := Lib.hid (step_b HB0.out hb)
  clear hb hX
  go_wp2_with fail
  go_ret
  exact ⟨rfl, HB1.out⟩
set_option maxRecDepth 100000 in
set_option maxHeartbeats 1000000 in
theorem returns_yes (n s l c p : Int) (b : ByteArray) (he : encV n s l c = (b, 0)) (hn : 1 ≤ n) (hp : p = n % 2 ∨ p = 2 + n % 2) (hd : decV b.data.toList p = ((n, s, l, c), 0)) (w : World) : Calls Try.prog 5 #[.agg #[.int .i64 n, .int .i64 s, .int .i64 l, .int .i64 c], .int .i64 p] w fun e w' => e = .returned (.bool true) ∧ Below w.heap.size w w' := by
  have HE := Lib.hid he
  have HD := Lib.hid hd
  clear he hd
  by_cases h1 : p = n % 2
  · have t1 : (p == n % 2) = true := by simpa using h1
    clear h1 hp
    go_enter Try.func5, Try.ntmps5
    go_wp2_with fail
    refine (awake_walk _).mono ?_; rintro e w0 ⟨rfl, hb⟩
    have hX : Box w0 w.heap.size n s l c := (hb.block _ (by simp)).trans (heap_alloc_new _ _)
    have x0 := hX.c0
    have x1 := hX.c1
    have x2 := hX.c2
    have x3 := hX.c3
    have HB0 := Lib.hid (((Below.refl w.heap.size w).alloc (Nat.le_refl _) _).trans (hb.mono (by simp) : Below w.heap.size _ _))
    have HX0 := Lib.hid hX
    clear hb hX
    go_wp2_with fail
    refine (enc_any n s l c _ _ HE.out _).mono ?_; rintro e w1 ⟨rfl, hb⟩
    have hX := HX0.out.below hb HX0.out.lt
    clear x0 x1 x2 x3
    have x0 := hX.c0
    have x1 := hX.c1
    have x2 := hX.c2
    have x3 := hX.c3
    have xl := hX.lt
    have HX1 := Lib.hid hX
    have HB1 := Lib.hid (step_b HB0.out hb)
    clear hb hX
    go_wp2_with fail
    refine (places_ge n hn _).mono ?_; rintro e _ ⟨rfl, rfl⟩
    go_wp2_with fail
    refine (decode_walk b p _ _ _ _ _ HD.out _).mono ?_; rintro e w2 ⟨rfl, hb⟩
    have hX := HX1.out.below hb HX1.out.lt
    clear x0 x1 x2 x3
    have x0 := hX.c0
    have x1 := hX.c1
    have x2 := hX.c2
    have x3 := hX.c3
    have xl := hX.lt
    have HX2 := Lib.hid hX
    have HB2 := Lib.hid (step_b HB1.out hb)
    clear hb hX
    go_wp2_with fail
    go_ret
    exact ⟨rfl, HB2.out.alloc HB2.out.size _⟩
  · have t1 : (p == n % 2) = false := by simpa using h1
    have t2 : (p == 2 + n % 2) = true := by simp; omega
    clear h1 hp
    go_enter Try.func5, Try.ntmps5
    go_wp2_with fail
    refine (awake_walk _).mono ?_; rintro e w0 ⟨rfl, hb⟩
    have hX : Box w0 w.heap.size n s l c := (hb.block _ (by simp)).trans (heap_alloc_new _ _)
    have x0 := hX.c0
    have x1 := hX.c1
    have x2 := hX.c2
    have x3 := hX.c3
    have HB0 := Lib.hid (((Below.refl w.heap.size w).alloc (Nat.le_refl _) _).trans (hb.mono (by simp) : Below w.heap.size _ _))
    have HX0 := Lib.hid hX
    clear hb hX
    go_wp2_with fail
    refine (enc_any n s l c _ _ HE.out _).mono ?_; rintro e w1 ⟨rfl, hb⟩
    have hX := HX0.out.below hb HX0.out.lt
    clear x0 x1 x2 x3
    have x0 := hX.c0
    have x1 := hX.c1
    have x2 := hX.c2
    have x3 := hX.c3
    have xl := hX.lt
    have HX1 := Lib.hid hX
    have HB1 := Lib.hid (step_b HB0.out hb)
    clear hb hX
    go_wp2_with fail
    refine (places_ge n hn _).mono ?_; rintro e _ ⟨rfl, rfl⟩
    go_wp2_with fail
    refine (decode_walk b p _ _ _ _ _ HD.out _).mono ?_; rintro e w2 ⟨rfl, hb⟩
    have hX := HX1.out.below hb HX1.out.lt
    clear x0 x1 x2 x3
    have x0 := hX.c0
    have x1 := hX.c1
    have x2 := hX.c2
    have x3 := hX.c3
    have xl := hX.lt
    have HX2 := Lib.hid hX
    have HB2 := Lib.hid (step_b HB1.out hb)
    clear hb hX
    go_wp2_with fail
    go_ret
    exact ⟨rfl, HB2.out.alloc HB2.out.size _⟩
set_option maxRecDepth 100000 in
set_option maxHeartbeats 1000000 in
theorem returns_range (n s l c p : Int) (b : ByteArray) (he : encV n s l c = (b, 0)) (hn : 1 ≤ n) (hp : p < 0 ∨ 3 < p) (hd : decV b.data.toList p = ((0, 0, 0, 0), 2)) (w : World) : Calls Try.prog 5 #[.agg #[.int .i64 n, .int .i64 s, .int .i64 l, .int .i64 c], .int .i64 p] w fun e w' => e = .returned (.bool true) ∧ Below w.heap.size w w' := by
  have HE := Lib.hid he
  have HD := Lib.hid hd
  have t1 : (p == n % 2) = false := by simp; omega
  have t2 : (p == 2 + n % 2) = false := by simp; omega
  clear he hd
  rcases hp with hp | hp
  · go_enter Try.func5, Try.ntmps5
    go_wp2_with fail
    refine (awake_walk _).mono ?_; rintro e w0 ⟨rfl, hb⟩
    have hX : Box w0 w.heap.size n s l c := (hb.block _ (by simp)).trans (heap_alloc_new _ _)
    have x0 := hX.c0
    have x1 := hX.c1
    have x2 := hX.c2
    have x3 := hX.c3
    have HB0 := Lib.hid (((Below.refl w.heap.size w).alloc (Nat.le_refl _) _).trans (hb.mono (by simp) : Below w.heap.size _ _))
    have HX0 := Lib.hid hX
    clear hb hX
    go_wp2_with fail
    refine (enc_any n s l c _ _ HE.out _).mono ?_; rintro e w1 ⟨rfl, hb⟩
    have hX := HX0.out.below hb HX0.out.lt
    clear x0 x1 x2 x3
    have x0 := hX.c0
    have x1 := hX.c1
    have x2 := hX.c2
    have x3 := hX.c3
    have xl := hX.lt
    have HX1 := Lib.hid hX
    have HB1 := Lib.hid (step_b HB0.out hb)
    clear hb hX
    go_wp2_with fail
    refine (places_ge n hn _).mono ?_; rintro e _ ⟨rfl, rfl⟩
    go_wp2_with fail
    refine (decode_walk b p _ _ _ _ _ HD.out _).mono ?_; rintro e w2 ⟨rfl, hb⟩
    have hX := HX1.out.below hb HX1.out.lt
    clear x0 x1 x2 x3
    have x0 := hX.c0
    have x1 := hX.c1
    have x2 := hX.c2
    have x3 := hX.c3
    have xl := hX.lt
    have HX2 := Lib.hid hX
    have HB2 := Lib.hid (step_b HB1.out hb)
    clear hb hX
    go_wp2_with fail
    go_ret
    exact ⟨rfl, HB2.out.alloc HB2.out.size _⟩
  · have hp0 : ¬ p < 0 := by omega
    go_enter Try.func5, Try.ntmps5
    go_wp2_with fail
    refine (awake_walk _).mono ?_; rintro e w0 ⟨rfl, hb⟩
    have hX : Box w0 w.heap.size n s l c := (hb.block _ (by simp)).trans (heap_alloc_new _ _)
    have x0 := hX.c0
    have x1 := hX.c1
    have x2 := hX.c2
    have x3 := hX.c3
    have HB0 := Lib.hid (((Below.refl w.heap.size w).alloc (Nat.le_refl _) _).trans (hb.mono (by simp) : Below w.heap.size _ _))
    have HX0 := Lib.hid hX
    clear hb hX
    go_wp2_with fail
    refine (enc_any n s l c _ _ HE.out _).mono ?_; rintro e w1 ⟨rfl, hb⟩
    have hX := HX0.out.below hb HX0.out.lt
    clear x0 x1 x2 x3
    have x0 := hX.c0
    have x1 := hX.c1
    have x2 := hX.c2
    have x3 := hX.c3
    have xl := hX.lt
    have HX1 := Lib.hid hX
    have HB1 := Lib.hid (step_b HB0.out hb)
    clear hb hX
    go_wp2_with fail
    refine (places_ge n hn _).mono ?_; rintro e _ ⟨rfl, rfl⟩
    go_wp2_with fail
    refine (decode_walk b p _ _ _ _ _ HD.out _).mono ?_; rintro e w2 ⟨rfl, hb⟩
    have hX := HX1.out.below hb HX1.out.lt
    clear x0 x1 x2 x3
    have x0 := hX.c0
    have x1 := hX.c1
    have x2 := hX.c2
    have x3 := hX.c3
    have xl := hX.lt
    have HX2 := Lib.hid hX
    have HB2 := Lib.hid (step_b HB1.out hb)
    clear hb hX
    go_wp2_with fail
    go_ret
    exact ⟨rfl, HB2.out.alloc HB2.out.size _⟩
set_option maxRecDepth 100000 in
set_option maxHeartbeats 1000000 in
theorem returns_no (n s l c p : Int) (b : ByteArray) (he : encV n s l c = (b, 0)) (hn : 1 ≤ n) (hp0 : ¬ p < 0) (hp3 : ¬ 3 < p) (hp : n % 2 ≠ p % 2) (hd : decV b.data.toList p = ((0, 0, 0, 0), 12)) (w : World) : Calls Try.prog 5 #[.agg #[.int .i64 n, .int .i64 s, .int .i64 l, .int .i64 c], .int .i64 p] w fun e w' => e = .returned (.bool true) ∧ Below w.heap.size w w' := by
  have HE := Lib.hid he
  have HD := Lib.hid hd
  have t1 : (p == n % 2) = false := by simp; omega
  have t2 : (p == 2 + n % 2) = false := by simp; omega
  have d1 : decide (p < 0) = false := by simp; omega
  have d2 : decide (3 < p) = false := by simp; omega
  clear he hd hp
  go_enter Try.func5, Try.ntmps5
  go_wp2_with fail
  refine (awake_walk _).mono ?_; rintro e w0 ⟨rfl, hb⟩
  have hX : Box w0 w.heap.size n s l c := (hb.block _ (by simp)).trans (heap_alloc_new _ _)
  have x0 := hX.c0
  have x1 := hX.c1
  have x2 := hX.c2
  have x3 := hX.c3
  have HB0 := Lib.hid (((Below.refl w.heap.size w).alloc (Nat.le_refl _) _).trans (hb.mono (by simp) : Below w.heap.size _ _))
  have HX0 := Lib.hid hX
  clear hb hX
  go_wp2_with fail
  refine (enc_any n s l c _ _ HE.out _).mono ?_; rintro e w1 ⟨rfl, hb⟩
  have hX := HX0.out.below hb HX0.out.lt
  clear x0 x1 x2 x3
  have x0 := hX.c0
  have x1 := hX.c1
  have x2 := hX.c2
  have x3 := hX.c3
  have xl := hX.lt
  have HX1 := Lib.hid hX
  have HB1 := Lib.hid (step_b HB0.out hb)
  clear hb hX
  go_wp2_with fail
  refine (places_ge n hn _).mono ?_; rintro e _ ⟨rfl, rfl⟩
  go_wp2_with fail
  refine (decode_walk b p _ _ _ _ _ HD.out _).mono ?_; rintro e w2 ⟨rfl, hb⟩
  have hX := HX1.out.below hb HX1.out.lt
  clear x0 x1 x2 x3
  have x0 := hX.c0
  have x1 := hX.c1
  have x2 := hX.c2
  have x3 := hX.c3
  have xl := hX.lt
  have HX2 := Lib.hid hX
  have HB2 := Lib.hid (step_b HB1.out hb)
  clear hb hX
  go_wp2_with fail
  go_ret
  exact ⟨rfl, HB2.out.alloc HB2.out.size _⟩
theorem returns_law (n s l c p : Int) (w : World) : Calls Try.prog 5 #[.agg #[.int .i64 n, .int .i64 s, .int .i64 l, .int .i64 c], .int .i64 p] w fun e w' => e = .returned (.bool true) ∧ Below w.heap.size w w' := by
  cases h : validI n s l c
  · exact returns_bad n s l c p h w
  · have k := validI_iff.1 h
    obtain ⟨a1, rfl⟩ : ∃ m : Nat, n = m := ⟨n.toNat, by omega⟩
    obtain ⟨a2, rfl⟩ : ∃ m : Nat, s = m := ⟨s.toNat, by omega⟩
    obtain ⟨a3, rfl⟩ : ∃ m : Nat, l = m := ⟨l.toNat, by omega⟩
    obtain ⟨a4, rfl⟩ : ∃ m : Nat, c = m := ⟨c.toNat, by omega⟩
    have hd := decV_enc p h
    have he := encV_ok h
    by_cases hp : p < 0 ∨ 3 < p
    · rw [if_pos hp] at hd
      exact returns_range _ _ _ _ p _ he (by omega) hp hd w
    · rw [if_neg hp] at hd
      by_cases hq : (a1 : Int) % 2 = p % 2
      · rw [if_pos hq] at hd
        exact returns_yes _ _ _ _ p _ he (by omega) (by omega) hd w
      · rw [if_neg hq] at hd
        exact returns_no _ _ _ _ p _ he (by omega) (by omega) (by omega) hq hd w
set_option maxRecDepth 100000 in
set_option maxHeartbeats 1000000 in
theorem strict_no (x : ByteArray) (p e : Int) (hs : ¬ (200 : Int) < x.size) (he : (e != 0) = true) (hd : decV x.data.toList p = ((0, 0, 0, 0), e)) (w : World) : Calls Try.prog 6 #[.string x, .int .i64 p] w fun e w' => e = .returned (.bool true) ∧ Below w.heap.size w w' := by
  have HD := Lib.hid hd
  clear hd
  go_enter Try.func6, Try.ntmps6
  go_wp2_with fail
  refine (awake_walk _).mono ?_; rintro e w0 ⟨rfl, hb⟩
  have HB0 := Lib.hid hb
  clear hb
  go_wp2_with fail
  refine (decode_walk x p _ _ _ _ _ HD.out _).mono ?_; rintro e w1 ⟨rfl, hb⟩
  have HB1 := Lib.hid (step_b HB0.out hb)
  clear hb
  go_wp2_with fail
  go_ret
  exact ⟨rfl, HB1.out.alloc HB1.out.size _⟩
set_option maxRecDepth 100000 in
set_option maxHeartbeats 1000000 in
theorem strict_yes (x : ByteArray) (p n s l c : Int) (hs : ¬ (200 : Int) < x.size) (hd : decV x.data.toList p = ((n, s, l, c), 0)) (he : encV n s l c = (x, 0)) (hn : 1 ≤ n) (hp : p = n % 2 ∨ p = 2 + n % 2) (w : World) : Calls Try.prog 6 #[.string x, .int .i64 p] w fun e w' => e = .returned (.bool true) ∧ Below w.heap.size w w' := by
  have HD := Lib.hid hd
  have HE := Lib.hid he
  clear hd he
  by_cases h1 : p = n % 2
  · have t1 : (p == n % 2) = true := by simpa using h1
    clear h1 hp
    go_enter Try.func6, Try.ntmps6
    go_wp2_with fail
    refine (awake_walk _).mono ?_; rintro e w0 ⟨rfl, hb⟩
    have HB0 := Lib.hid hb
    clear hb
    go_wp2_with fail
    refine (decode_walk x p _ _ _ _ _ HD.out _).mono ?_; rintro e w1 ⟨rfl, hb⟩
    have HB1 := Lib.hid (step_b HB0.out hb)
    clear hb
    go_wp2_with fail
    refine (enc_any n s l c _ _ HE.out _).mono ?_; rintro e w2 ⟨rfl, hb⟩
    have hX : Box w2 w1.heap.size n s l c := (hb.block _ (by simp)).trans (heap_alloc_new _ _)
    have x0 := hX.c0
    have HB2 := Lib.hid (step_b (HB1.out.alloc HB1.out.size _) hb)
    clear hb hX
    go_wp2_with fail
    refine (places_ge n hn _).mono ?_; rintro e _ ⟨rfl, rfl⟩
    go_wp2_with fail
    go_ret
    exact ⟨rfl, HB2.out⟩
  · have t1 : (p == n % 2) = false := by simpa using h1
    have t2 : (p == 2 + n % 2) = true := by simp; omega
    clear h1 hp
    go_enter Try.func6, Try.ntmps6
    go_wp2_with fail
    refine (awake_walk _).mono ?_; rintro e w0 ⟨rfl, hb⟩
    have HB0 := Lib.hid hb
    clear hb
    go_wp2_with fail
    refine (decode_walk x p _ _ _ _ _ HD.out _).mono ?_; rintro e w1 ⟨rfl, hb⟩
    have HB1 := Lib.hid (step_b HB0.out hb)
    clear hb
    go_wp2_with fail
    refine (enc_any n s l c _ _ HE.out _).mono ?_; rintro e w2 ⟨rfl, hb⟩
    have hX : Box w2 w1.heap.size n s l c := (hb.block _ (by simp)).trans (heap_alloc_new _ _)
    have x0 := hX.c0
    have HB2 := Lib.hid (step_b (HB1.out.alloc HB1.out.size _) hb)
    clear hb hX
    go_wp2_with fail
    refine (places_ge n hn _).mono ?_; rintro e _ ⟨rfl, rfl⟩
    go_wp2_with fail
    go_ret
    exact ⟨rfl, HB2.out⟩
theorem decV_cases (D : List UInt8) (p : Int) : (decV D p = ((0, 0, 0, 0), 2) ∨ decV D p = ((0, 0, 0, 0), 12)) ∨ (¬ p < 0 ∧ ¬ 3 < p ∧ decOK D p = true ∧ decV D p = ((((fN D : Nat) : Int), ((fS D : Nat) : Int), ((fL D : Nat) : Int), ((fC D : Nat) : Int)), 0)) := by
  unfold decV
  by_cases h1 : p < 0 ∨ 3 < p
  · rw [if_pos h1]; exact .inl (.inl rfl)
  · rw [if_neg h1]
    by_cases h2 : D.length ≠ 64
    · rw [if_pos h2]; exact .inl (.inr rfl)
    · rw [if_neg h2]
      by_cases h3 : decOK D p = true
      · rw [if_pos h3]; exact .inr ⟨by omega, by omega, h3, rfl⟩
      · rw [if_neg h3]; exact .inl (.inr rfl)
theorem bA_self (b : ByteArray) : bA b.data.toList = b := by apply ByteArray.ext; simp [bA]
theorem strict_law (x : ByteArray) (p : Int) (w : World) : Calls Try.prog 6 #[.string x, .int .i64 p] w fun e w' => e = .returned (.bool true) ∧ Below w.heap.size w w' := by
  by_cases hs : 200 < x.size
  · have hs' : (200 : Int) < x.size := by omega
    go_enter Try.func6, Try.ntmps6
    go_wp2_with fail
    refine (awake_walk _).mono ?_; rintro e w0 ⟨rfl, hb⟩
    have HB0 := Lib.hid hb
    clear hb
    go_wp2_with fail
    go_ret
    exact ⟨rfl, HB0.out⟩
  · rcases decV_cases x.data.toList p with (h | h) | ⟨h1, h2, h3, h4⟩
    · exact strict_no x p 2 (by omega) (by decide) h w
    · exact strict_no x p 12 (by omega) (by decide) h w
    · obtain ⟨k1, k2, k3⟩ := decOK_iff.1 h3
      have k4 := validI_iff.1 k1
      refine strict_yes x p _ _ _ _ (by omega) h4 ?_ (by omega) (by omega) w
      rw [encV_ok k1, k2, bA_self]
end Go.Proofs.Ytonkamdipalbpaa
