import Derived.Test.YtonkamdipalbpaaWf
namespace Go.Proofs.Ytonkamdipalbpaa
open Go.RowKit
attribute [local go_sem ↓] Go.wp_at_zero Go.wp_at_succ

/-- what the reference's Encode keeps -/
def Inv (w0 : World) (b : Nat) (n s l c : Int) (W : World) : Prop := Below w0.heap.size w0 W ∧ Box W b n s l c
theorem Inv.drew {w0 b n s l c W} (h : Inv w0 b n s l c W) : Inv w0 b n s l c W.drew := ⟨h.1.drew, h.2⟩
theorem Inv.step {w0 b n s l c W W'} (h : Inv w0 b n s l c W) (hb : Below W.heap.size W W') : Inv w0 b n s l c W' := ⟨step_b h.1 hb, h.2.below hb h.2.lt⟩
theorem Inv.cells {w0 b n s l c W} (h : Inv w0 b n s l c W) : W.cell? ⟨b, 0, none⟩ = some (.int .i64 n) ∧ W.cell? ⟨b, 1, none⟩ = some (.int .i64 s) ∧ W.cell? ⟨b, 2, none⟩ = some (.int .i64 l) ∧ W.cell? ⟨b, 3, none⟩ = some (.int .i64 c) := ⟨h.2.c0, h.2.c1, h.2.c2, h.2.c3⟩
theorem big_inv {w0 b} {n s l c : Int} (v k : Nat) (ki : Int) (x : ByteArray) (H : Hid (v < 2 ^ 63 ∧ k ≤ 64 ∧ bA (beN v k) = x ∧ ki = k)) (W : World) (hI : Inv w0 b n s l c W) : Calls Try.prog 23 #[.int .i64 v, .int .i64 ki] W fun e w' => e = .returned (.string x) ∧ Inv w0 b n s l c w' := by
  obtain ⟨h1, h2, rfl, rfl⟩ := H.out
  exact (big_walk v k h1 h2 W).mono fun e w' ⟨he, hb⟩ => ⟨he, hI.step hb⟩
theorem zeros_inv {w0 b} {n s l c : Int} (x : ByteArray) (H : Hid (bA (List.replicate 32 0) = x)) (W : World) (hI : Inv w0 b n s l c W) : Calls Try.prog 24 #[.int .i64 32] W fun e w' => e = .returned (.string x) ∧ Inv w0 b n s l c w' := by
  have := H.out; subst this
  exact (zeros_walk W).mono fun e w' ⟨he, hb⟩ => ⟨he, hI.step hb⟩
theorem rsum_inv {w0 b} {n s l c : Int} (x : ByteArray) (m : Nat) (H : Hid (x.size ≤ 52 ∧ sum x.data.toList = m)) (W : World) (hI : Inv w0 b n s l c W) : Calls Try.prog 26 #[.string x] W fun e w' => e = .returned (.int .i64 (m : Nat)) ∧ Inv w0 b n s l c w' := by
  obtain ⟨h1, rfl⟩ := H.out
  exact (rsum_walk x (by unfold maxLen; omega) W).mono fun e w' ⟨he, hb⟩ => ⟨he, by subst hb; exact hI⟩
theorem little_inv {w0 b} {n s l c : Int} (v : Nat) (x : ByteArray) (H : Hid (v < 2 ^ 32 ∧ bA (le4 v) = x)) (W : World) (hI : Inv w0 b n s l c W) : Calls Try.prog 25 #[.int .i64 v] W fun e w' => e = .returned (.string x) ∧ Inv w0 b n s l c w' := by
  obtain ⟨h1, rfl⟩ := H.out
  exact (little_walk v h1 W).mono fun e w' ⟨he, hb⟩ => ⟨he, hI.step hb⟩
set_option maxRecDepth 100000 in
set_option maxHeartbeats 1000000 in
theorem renc_bad (n s l c : Int) (h : validI n s l c = false) (w : World) : Calls Try.prog 13 #[.agg #[.int .i64 n, .int .i64 s, .int .i64 l, .int .i64 c]] w fun e w' => e = .returned (.tuple #[.string ⟨#[]⟩, .int .i64 1]) ∧ Below w.heap.size w w' := by
  have HV := Lib.hid h
  clear h
  go_enter Try.func13, Try.ntmps13
  go_wp2_with fail
  refine (rvalid_walk n s l c _ HV.out _).mono ?_; rintro e w1 ⟨rfl, hb⟩
  have hI : Inv w w.heap.size n s l c w1 := ⟨((Below.refl _ _).alloc (Nat.le_refl _) _).trans (hb.mono (by simp) : Below w.heap.size _ _), (hb.block w.heap.size (by simp)).trans (heap_alloc_new _ _)⟩
  have HI := Lib.hid hI
  clear hb hI
  go_wp2_with fail
  go_ret2
  exact ⟨rfl, HI.out.1⟩
set_option maxRecDepth 100000 in
set_option maxHeartbeats 4000000 in
theorem renc_ok (n s l c : Nat) (h : validI n s l c = true) (w : World) : Calls Try.prog 13 #[.agg #[.int .i64 n, .int .i64 s, .int .i64 l, .int .i64 c]] w fun e w' => e = .returned (.tuple #[.string (bA (encL n s l c)), .int .i64 0]) ∧ Below w.heap.size w w' := by
  have hb9 := validI_iff.1 h
  obtain ⟨xn, hxn⟩ : ∃ x, bA (beN n 8) = x := ⟨_, rfl⟩
  obtain ⟨xs, hxs⟩ : ∃ x, bA (beN s 4) = x := ⟨_, rfl⟩
  obtain ⟨xl, hxl⟩ : ∃ x, bA (beN l 4) = x := ⟨_, rfl⟩
  obtain ⟨xc, hxc⟩ : ∃ x, bA (beN c 4) = x := ⟨_, rfl⟩
  obtain ⟨xz, hxz⟩ : ∃ x, bA (List.replicate 32 0) = x := ⟨_, rfl⟩
  obtain ⟨m, hm⟩ : ∃ m, sum (bodyL n s l c) = m := ⟨_, rfl⟩
  obtain ⟨xm, hxm⟩ : ∃ x, bA (le4 m) = x := ⟨_, rfl⟩
  have z1 : xn.size ≤ 8 := by rw [← hxn, bA_size, beN_length]; exact Nat.le_refl _
  have z2 : xs.size ≤ 4 := by rw [← hxs, bA_size, beN_length]; exact Nat.le_refl _
  have z3 : xl.size ≤ 4 := by rw [← hxl, bA_size, beN_length]; exact Nat.le_refl _
  have z4 : xc.size ≤ 4 := by rw [← hxc, bA_size, beN_length]; exact Nat.le_refl _
  have z5 : xz.size ≤ 32 := by rw [← hxz, bA_size]; simp
  have z6 : xm.size ≤ 4 := by rw [← hxm, bA_size, le4_length]; exact Nat.le_refl _
  have hbody : xn ++ xs ++ xl ++ xc ++ xz = bA (bodyL n s l c) := by
    rw [← hxn, ← hxs, ← hxl, ← hxc, ← hxz, bA_app, bA_app, bA_app, bA_app]; simp [bodyL]
  have henc : xn ++ xs ++ xl ++ xc ++ xz ++ xm ++ xn = bA (encL n s l c) := by
    rw [hbody, ← hxm, ← hxn, bA_app, bA_app, ← hm]; simp [encL]
  have HN := Lib.hid (⟨by omega, by decide, hxn, rfl⟩ : n < 2 ^ 63 ∧ 8 ≤ 64 ∧ bA (beN n 8) = xn ∧ (8 : Int) = ((8 : Nat) : Int))
  have HS := Lib.hid (⟨by omega, by decide, hxs, rfl⟩ : s < 2 ^ 63 ∧ 4 ≤ 64 ∧ bA (beN s 4) = xs ∧ (4 : Int) = ((4 : Nat) : Int))
  have HL := Lib.hid (⟨by omega, by decide, hxl, rfl⟩ : l < 2 ^ 63 ∧ 4 ≤ 64 ∧ bA (beN l 4) = xl ∧ (4 : Int) = ((4 : Nat) : Int))
  have HC := Lib.hid (⟨by omega, by decide, hxc, rfl⟩ : c < 2 ^ 63 ∧ 4 ≤ 64 ∧ bA (beN c 4) = xc ∧ (4 : Int) = ((4 : Nat) : Int))
  have HZ := Lib.hid hxz
  have HM := Lib.hid (⟨by rw [← hm]; exact sum_lt _, hxm⟩ : m < 2 ^ 32 ∧ bA (le4 m) = xm)
  have hq : ∀ (a b : ByteArray), a.size + b.size ≤ 200 → ∀ W, (Op.stringOp .add a b).run Try.prog W = .ok (.string (a ++ b)) W := fun a b h W => run_string_add_sum W a b (by omega)
  obtain ⟨y1, hy1⟩ : ∃ x, xn ++ xs = x := ⟨_, rfl⟩
  obtain ⟨y2, hy2⟩ : ∃ x, y1 ++ xl = x := ⟨_, rfl⟩
  obtain ⟨y3, hy3⟩ : ∃ x, y2 ++ xc = x := ⟨_, rfl⟩
  obtain ⟨body, hbo⟩ : ∃ x, y3 ++ xz = x := ⟨_, rfl⟩
  have s1 : y1.size ≤ 12 := by rw [← hy1, ByteArray.size_append]; omega
  have s2 : y2.size ≤ 16 := by rw [← hy2, ByteArray.size_append]; omega
  have s3 : y3.size ≤ 20 := by rw [← hy3, ByteArray.size_append]; omega
  have q1 := hq xn xs (by omega)
  have q2 := hq y1 xl (by omega)
  have q3 := hq y2 xc (by omega)
  have q4 := hq y3 xz (by omega)
  rw [hy1] at q1 hbody henc
  rw [hy2] at q2 hbody henc
  rw [hy3] at q3 hbody henc
  rw [hbo] at q4
  have z7 : body.size ≤ 52 := by rw [← hbo, hbody, bA_size, bodyL_length]; exact Nat.le_refl _
  obtain ⟨y5, hy5⟩ : ∃ x, body ++ xm = x := ⟨_, rfl⟩
  have s5 : y5.size ≤ 60 := by rw [← hy5, ByteArray.size_append]; omega
  have q5 := hq body xm (by omega)
  have q6 := hq y5 xn (by omega)
  rw [hy5] at q5
  have HSUM := Lib.hid (⟨z7, by rw [← hbo, hbody, bA_list, hm]⟩ : body.size ≤ 52 ∧ sum body.data.toList = m)
  rw [hbo, hy5] at henc
  rw [henc] at q6
  obtain ⟨en, hen⟩ : ∃ x, bA (encL n s l c) = x := ⟨_, rfl⟩
  rw [hen] at q6
  have HEN := Lib.hid hen
  have HV := Lib.hid h
  clear h hb9 hxn hxs hxl hxc hxz hm hxm hbody henc hbo hq hy1 hy2 hy3 hy5 hen s1 s2 s3 s5 z1 z2 z3 z4 z5 z6 z7
  go_enter Try.func13, Try.ntmps13
  go_wp2_with fail
  refine (rvalid_walk n s l c _ HV.out _).mono ?_; rintro e w1 ⟨rfl, hb⟩
  have hI : Inv w w.heap.size n s l c w1 := ⟨((Below.refl _ _).alloc (Nat.le_refl _) _).trans (hb.mono (by simp) : Below w.heap.size _ _), (hb.block w.heap.size (by simp)).trans (heap_alloc_new _ _)⟩
  have HI := Lib.hid hI
  clear hb hI
  go_wp2_with fail
  have hId := HI.out.drew
  go_region_held3 (fun w' => w'.cell? ⟨w.heap.size, 0, none⟩ = some (.int .i64 n) ∧ w'.cell? ⟨w.heap.size, 1, none⟩ = some (.int .i64 s) ∧ w'.cell? ⟨w.heap.size, 2, none⟩ = some (.int .i64 l) ∧ w'.cell? ⟨w.heap.size, 3, none⟩ = some (.int .i64 c)) (first | exact Inv.cells (by assumption)) (first | (go_at_call 23; (with_reducible refine (big_inv (w0 := w) (b := w.heap.size) (n := n) (s := s) (l := l) (c := c) n 8 8 xn HN _ ?_).mono ?_); assumption; rintro e w2 ⟨rfl, hI2⟩) | (go_at_call 23; (with_reducible refine (big_inv (w0 := w) (b := w.heap.size) (n := n) (s := s) (l := l) (c := c) s 4 4 xs HS _ ?_).mono ?_); assumption; rintro e w3 ⟨rfl, hI3⟩) | (go_at_call 23; (with_reducible refine (big_inv (w0 := w) (b := w.heap.size) (n := n) (s := s) (l := l) (c := c) l 4 4 xl HL _ ?_).mono ?_); assumption; rintro e w4 ⟨rfl, hI4⟩) | (go_at_call 23; (with_reducible refine (big_inv (w0 := w) (b := w.heap.size) (n := n) (s := s) (l := l) (c := c) c 4 4 xc HC _ ?_).mono ?_); assumption; rintro e w5 ⟨rfl, hI5⟩) | (go_at_call 24; (with_reducible refine (zeros_inv (w0 := w) (b := w.heap.size) (n := n) (s := s) (l := l) (c := c) xz HZ _ ?_).mono ?_); assumption; rintro e w6 ⟨rfl, hI6⟩))
  have HI6 := Lib.hid hI6
  clear hI2 hI3 hI4 hI5 hI6 hId q1 q2 q3 q4
  go_wp2_with fail
  have hId := HI6.out.drew
  go_region_held3 (fun w' => w'.cell? ⟨w.heap.size, 0, none⟩ = some (.int .i64 n) ∧ w'.cell? ⟨w.heap.size, 1, none⟩ = some (.int .i64 s) ∧ w'.cell? ⟨w.heap.size, 2, none⟩ = some (.int .i64 l) ∧ w'.cell? ⟨w.heap.size, 3, none⟩ = some (.int .i64 c)) (first | exact Inv.cells (by assumption)) (first | (go_at_call 26; (with_reducible refine (rsum_inv (w0 := w) (b := w.heap.size) (n := n) (s := s) (l := l) (c := c) body m HSUM _ ?_).mono ?_); assumption; rintro e w7 ⟨rfl, hI7⟩) | (go_at_call 25; (with_reducible refine (little_inv (w0 := w) (b := w.heap.size) (n := n) (s := s) (l := l) (c := c) m xm HM _ ?_).mono ?_); assumption; rintro e w8 ⟨rfl, hI8⟩) | (go_at_call 23; (with_reducible refine (big_inv (w0 := w) (b := w.heap.size) (n := n) (s := s) (l := l) (c := c) n 8 8 xn HN _ ?_).mono ?_); assumption; rintro e w9 ⟨rfl, hI9⟩))
  have HI9 := Lib.hid hI9
  clear hI7 hI8 hI9 hId q5 q6
  go_wp2_with fail
  go_ret2
  exact ⟨by have e := HEN.out; subst e; rfl, HI9.out.1⟩
end Go.Proofs.Ytonkamdipalbpaa
