import Derived.Test.YtkogechopdfleaaWy
namespace Go.Proofs.Ytkogechopdfleaa
open Go.RowKit
attribute [local go_sem ↓] Go.wp_at_zero Go.wp_at_succ

set_option maxRecDepth 100000 in
set_option maxHeartbeats 1000000 in
theorem rdo_2neg (b) (k lo hi : Int) (hk : k % 8 = 2) (hh : hi < 0) (w : World) : Calls Try.prog 27 #[.agg #[.string b, .int .i64 0], .agg #[.int .i64 k, .int .i64 lo, .int .i64 hi]] w fun e w' => e = .returned (.tuple #[.agg #[.string b, .int .i64 2], .int .i64 0, .string ⟨#[]⟩]) ∧ Below w.heap.size w w' := by
  have hk7 := i64_and7 k
  rw [hk] at hk7
  clear hk
  go_enter Try.func27, Try.ntmps27
  go_wp2_with fail
  refine (rfail_walk b 0 2 _).mono ?_; rintro e w1 ⟨rfl, hb⟩
  have hX : SB w1 w.heap.size b 0 := (hb.block _ (by simp <;> omega)).trans ((Below.heap_alloc _ _ _ (by simp <;> omega)).trans ((Below.heap_alloc _ _ _ (by simp)).trans (heap_alloc_new _ _)))
  have hR : SB w1 (w.heap.size + 1 + 1) ⟨#[]⟩ 0 := (hb.block _ (by simp <;> omega)).trans (by
    rw [show w.heap.size + 1 + 1 = ((w.alloc (.cells #[.string b, .int .i64 0] 40)).alloc (.cells #[.int .i64 k, .int .i64 lo, .int .i64 hi] 42)).heap.size by simp]; exact heap_alloc_new _ _)
  have z0 := hR.c0
  have z1 := hR.c1
  have zf := hR.fr
  have zl := hR.lt
  have HR1 := Lib.hid hR
  have HB := Lib.hid (((((Below.refl w.heap.size w).alloc (Nat.le_refl _) _).alloc (by simp) _).alloc (by simp <;> omega) _).trans (hb.mono (by simp <;> omega) : Below w.heap.size _ _))
  clear hb hX hR
  go_wp2_with fail
  have y0 := (HR1.out.set b 2).c0
  have y1 := (HR1.out.set b 2).c1
  refine bodyPost_ret (v := .tuple #[.agg #[.string b, .int .i64 2], .int .i64 0, .string ⟨#[]⟩]) (by simp [results, Try.results27, go_sem, z0, z1, y0, y1]) rfl ⟨rfl, ?_⟩
  (repeat (first | exact HB.out | refine Below.setCell ?_ (by first | omega | (simp <;> omega)) _ | refine Below.alloc ?_ (by first | omega | (simp <;> omega)) _ | refine Below.drew ?_))
set_option maxRecDepth 100000 in
set_option maxHeartbeats 1000000 in
theorem rdo_2big (b) (k lo hi : Int) (hk : k % 8 = 2) (hn : ¬ hi < 0) (hh : (b.size : Int) < hi) (w : World) : Calls Try.prog 27 #[.agg #[.string b, .int .i64 0], .agg #[.int .i64 k, .int .i64 lo, .int .i64 hi]] w fun e w' => e = .returned (.tuple #[.agg #[.string b, .int .i64 12], .int .i64 0, .string ⟨#[]⟩]) ∧ Below w.heap.size w w' := by
  have hk7 := i64_and7 k
  rw [hk] at hk7
  clear hk
  go_enter Try.func27, Try.ntmps27
  go_wp2_with fail
  refine (rfail_walk b 0 12 _).mono ?_; rintro e w1 ⟨rfl, hb⟩
  have hX : SB w1 w.heap.size b 0 := (hb.block _ (by simp <;> omega)).trans ((Below.heap_alloc _ _ _ (by simp <;> omega)).trans ((Below.heap_alloc _ _ _ (by simp)).trans (heap_alloc_new _ _)))
  have hR : SB w1 (w.heap.size + 1 + 1) ⟨#[]⟩ 0 := (hb.block _ (by simp <;> omega)).trans (by
    rw [show w.heap.size + 1 + 1 = ((w.alloc (.cells #[.string b, .int .i64 0] 40)).alloc (.cells #[.int .i64 k, .int .i64 lo, .int .i64 hi] 42)).heap.size by simp]; exact heap_alloc_new _ _)
  have z0 := hR.c0
  have z1 := hR.c1
  have zf := hR.fr
  have zl := hR.lt
  have HR1 := Lib.hid hR
  have HB := Lib.hid (((((Below.refl w.heap.size w).alloc (Nat.le_refl _) _).alloc (by simp) _).alloc (by simp <;> omega) _).trans (hb.mono (by simp <;> omega) : Below w.heap.size _ _))
  clear hb hX hR
  go_wp2_with fail
  have y0 := (HR1.out.set b 12).c0
  have y1 := (HR1.out.set b 12).c1
  refine bodyPost_ret (v := .tuple #[.agg #[.string b, .int .i64 12], .int .i64 0, .string ⟨#[]⟩]) (by simp [results, Try.results27, go_sem, z0, z1, y0, y1]) rfl ⟨rfl, ?_⟩
  (repeat (first | exact HB.out | refine Below.setCell ?_ (by first | omega | (simp <;> omega)) _ | refine Below.alloc ?_ (by first | omega | (simp <;> omega)) _ | refine Below.drew ?_))
set_option maxRecDepth 100000 in
set_option maxHeartbeats 1000000 in
theorem rdo_2ok (b c d) (k lo hi : Int) (h : Nat) (hh : hi = h) (hk : k % 8 = 2) (hb : h ≤ b.size) (hc : b.extract h b.size = c) (hd : b.extract 0 h = d) (w : World) : Calls Try.prog 27 #[.agg #[.string b, .int .i64 0], .agg #[.int .i64 k, .int .i64 lo, .int .i64 hi]] w fun e w' => e = .returned (.tuple #[.agg #[.string c, .int .i64 0], .int .i64 0, .string d]) ∧ Below w.heap.size w w' := by
  have hk7 := i64_and7 k
  rw [hk] at hk7
  clear hk
  subst hh
  have hsl1 : ∀ W, (Instr.slice 9 (.string b) (some (.int .i64 (h : Int))) none none).run Try.prog W = .ok (.string c) W := fun W => by
    have := run_slice_string_l (P := Try.prog) (w := W) 9 b Try.underlying9 .i64 (h : Int) (by omega) (by omega)
    rw [this, ← hc]; simp
  have hsl2 : ∀ W, (Instr.slice 9 (.string b) none (some (.int .i64 (h : Int))) none).run Try.prog W = .ok (.string d) W := fun W => by
    have := run_slice_string_h (P := Try.prog) (w := W) 9 b Try.underlying9 .i64 (h : Int) (by omega) (by omega)
    rw [this, ← hd]; simp
  have h1 : ¬ (h : Int) < 0 := by omega
  have h2 : ¬ (b.size : Int) < h := by omega
  have HBI : Hid (Below w.heap.size w w) := Lib.hid (Below.refl _ _)
  clear hc hd hb
  go_enter Try.func27, Try.ntmps27
  go_wp2_with fail
  go_region
  all_goals
    go_wp2_with fail
    refine bodyPost_ret (v := .tuple #[.agg #[.string c, .int .i64 0], .int .i64 0, .string d]) (by simp [results, Try.results27, go_sem]) rfl ⟨rfl, ?_⟩
    (repeat (first | exact HBI.out | refine Below.setCell ?_ (by first | omega | (simp <;> omega)) _ | refine Below.alloc ?_ (by first | omega | (simp <;> omega)) _ | refine Below.drew ?_))
set_option maxRecDepth 100000 in
set_option maxHeartbeats 1000000 in
theorem rdo_3err (b b1) (k lo hi e1 n1 : Int) (hsz : b.size ≤ 400) (hk : k % 8 = 3) (he : e1 ≠ 0) (hr : readS decN 0 hi b 0 = (b1, e1, n1)) (w : World) : Calls Try.prog 27 #[.agg #[.string b, .int .i64 0], .agg #[.int .i64 k, .int .i64 lo, .int .i64 hi]] w fun e w' => e = .returned (.tuple #[.agg #[.string b1, .int .i64 e1], .int .i64 0, .string ⟨#[]⟩]) ∧ Below w.heap.size w w' := by
  have HR := Lib.hid hr
  have hk7 := i64_and7 k
  rw [hk] at hk7
  clear hk hr
  have he1 : (e1 != 0) = true := by simpa using he
  have he2 : (e1 == 0) = false := by simpa using he
  clear he
  go_enter Try.func27, Try.ntmps27
  go_wp2_with fail
  refine (number_any b 0 hi b1 e1 n1 hsz HR.out _).mono ?_; rintro e w1 ⟨rfl, hb⟩
  have hX : SB w1 w.heap.size b 0 := (hb.block _ (by simp <;> omega)).trans ((Below.heap_alloc _ _ _ (by simp <;> omega)).trans ((Below.heap_alloc _ _ _ (by simp)).trans (heap_alloc_new _ _)))
  have hO : OB w1 (w.heap.size + 1) k lo hi := (hb.block _ (by simp <;> omega)).trans ((Below.heap_alloc _ _ _ (by simp)).trans (by
    rw [show w.heap.size + 1 = (w.alloc (.cells #[.string b, .int .i64 0] 40)).heap.size by simp]; exact heap_alloc_new _ _))
  have hR : SB w1 (w.heap.size + 1 + 1) ⟨#[]⟩ 0 := (hb.block _ (by simp <;> omega)).trans (by
    rw [show w.heap.size + 1 + 1 = ((w.alloc (.cells #[.string b, .int .i64 0] 40)).alloc (.cells #[.int .i64 k, .int .i64 lo, .int .i64 hi] 42)).heap.size by simp]; exact heap_alloc_new _ _)
  have c0 := hX.c0
  have c1 := hX.c1
  have cf := hX.fr
  have o0 := hO.c0
  have o1 := hO.c1
  have o2 := hO.c2
  have z0 := hR.c0
  have z1 := hR.c1
  have zf := hR.fr
  have zl := hR.lt
  have zl1 := hO.lt
  have zl0 := hX.lt
  have HX1 := Lib.hid hX
  have HR1 := Lib.hid hR
  have HB := Lib.hid (((((Below.refl w.heap.size w).alloc (Nat.le_refl _) _).alloc (by simp) _).alloc (by simp <;> omega) _).trans (hb.mono (by simp <;> omega) : Below w.heap.size _ _))
  clear hb hX hO hR
  go_wp2_with fail
  have y0 := ((HR1.out.set b1 e1).alloc (.cells #[.string b1, .int .i64 e1] 40)).c0
  have y1 := ((HR1.out.set b1 e1).alloc (.cells #[.string b1, .int .i64 e1] 40)).c1
  refine bodyPost_ret (v := .tuple #[.agg #[.string b1, .int .i64 e1], .int .i64 0, .string ⟨#[]⟩]) (by simp [results, Try.results27, go_sem, z0, z1, y0, y1]) rfl ⟨rfl, ?_⟩
  (repeat (first | exact HB.out | refine Below.setCell ?_ (by first | omega | (simp <;> omega)) _ | refine Below.alloc ?_ (by first | omega | (simp <;> omega)) _ | refine Below.drew ?_))
set_option maxRecDepth 100000 in
set_option maxHeartbeats 1000000 in
theorem rdo_3big (b c) (k lo hi : Int) (u : Nat) (hsz : b.size ≤ 400) (hk : k % 8 = 3) (hu : c.size < u) (hr : readS decN 0 hi b 0 = (c, 0, (u : Int))) (w : World) : Calls Try.prog 27 #[.agg #[.string b, .int .i64 0], .agg #[.int .i64 k, .int .i64 lo, .int .i64 hi]] w fun e w' => e = .returned (.tuple #[.agg #[.string b, .int .i64 12], .int .i64 0, .string ⟨#[]⟩]) ∧ Below w.heap.size w w' := by
  have HR := Lib.hid hr
  have hk7 := i64_and7 k
  rw [hk] at hk7
  clear hk hr
  have hu1 : (c.size : Int) < u := by omega
  clear hu
  go_enter Try.func27, Try.ntmps27
  go_wp2_with fail
  refine (number_any b 0 hi c 0 u hsz HR.out _).mono ?_; rintro e w1 ⟨rfl, hb⟩
  have hX : SB w1 w.heap.size b 0 := (hb.block _ (by simp <;> omega)).trans ((Below.heap_alloc _ _ _ (by simp <;> omega)).trans ((Below.heap_alloc _ _ _ (by simp)).trans (heap_alloc_new _ _)))
  have hO : OB w1 (w.heap.size + 1) k lo hi := (hb.block _ (by simp <;> omega)).trans ((Below.heap_alloc _ _ _ (by simp)).trans (by
    rw [show w.heap.size + 1 = (w.alloc (.cells #[.string b, .int .i64 0] 40)).heap.size by simp]; exact heap_alloc_new _ _))
  have hR : SB w1 (w.heap.size + 1 + 1) ⟨#[]⟩ 0 := (hb.block _ (by simp <;> omega)).trans (by
    rw [show w.heap.size + 1 + 1 = ((w.alloc (.cells #[.string b, .int .i64 0] 40)).alloc (.cells #[.int .i64 k, .int .i64 lo, .int .i64 hi] 42)).heap.size by simp]; exact heap_alloc_new _ _)
  have c0 := hX.c0
  have c1 := hX.c1
  have cf := hX.fr
  have o0 := hO.c0
  have o1 := hO.c1
  have o2 := hO.c2
  have z0 := hR.c0
  have z1 := hR.c1
  have zf := hR.fr
  have zl := hR.lt
  have zl1 := hO.lt
  have zl0 := hX.lt
  have HX1 := Lib.hid hX
  have HR1 := Lib.hid hR
  have HB := Lib.hid (((((Below.refl w.heap.size w).alloc (Nat.le_refl _) _).alloc (by simp) _).alloc (by simp <;> omega) _).trans (hb.mono (by simp <;> omega) : Below w.heap.size _ _))
  clear hb hX hO hR
  go_wp2_with fail
  clear z0 z1 zf
  refine (rfail_walk b 0 12 _).mono ?_; rintro e w2 ⟨rfl, hb⟩
  have hX : SB w2 w.heap.size b 0 := (HX1.out.alloc _).below hb (by simp; have := HX1.out.lt; omega)
  have hR : SB w2 (w.heap.size + 1 + 1) ⟨#[]⟩ 0 := (HR1.out.alloc _).below hb (by simp <;> omega)
  have z0 := hR.c0
  have z1 := hR.c1
  have zf := hR.fr
  have zl := hR.lt
  have HR2 := Lib.hid hR
  have HB2 := Lib.hid (step_b (HB.out.alloc HB.out.size _) hb)
  clear hb hX hR
  go_wp2_with fail
  have y0 := (HR2.out.set b 12).c0
  have y1 := (HR2.out.set b 12).c1
  refine bodyPost_ret (v := .tuple #[.agg #[.string b, .int .i64 12], .int .i64 0, .string ⟨#[]⟩]) (by simp [results, Try.results27, go_sem, z0, z1, y0, y1]) rfl ⟨rfl, ?_⟩
  (repeat (first | exact HB2.out | refine Below.setCell ?_ (by first | omega | (simp <;> omega)) _ | refine Below.alloc ?_ (by first | omega | (simp <;> omega)) _ | refine Below.drew ?_))
set_option maxRecDepth 100000 in
set_option maxHeartbeats 1000000 in
theorem rdo_3ok (b c d g) (k lo hi : Int) (u : Nat) (hsz : b.size ≤ 400) (hk : k % 8 = 3) (hu : u ≤ c.size) (hd : c.extract u c.size = d) (hg : c.extract 0 u = g) (hr : readS decN 0 hi b 0 = (c, 0, (u : Int))) (w : World) : Calls Try.prog 27 #[.agg #[.string b, .int .i64 0], .agg #[.int .i64 k, .int .i64 lo, .int .i64 hi]] w fun e w' => e = .returned (.tuple #[.agg #[.string d, .int .i64 0], .int .i64 0, .string g]) ∧ Below w.heap.size w w' := by
  have HR := Lib.hid hr
  have hk7 := i64_and7 k
  rw [hk] at hk7
  clear hk hr
  have hsl1 : ∀ W, (Instr.slice 9 (.string c) (some (.int .i64 (u : Int))) none none).run Try.prog W = .ok (.string d) W := fun W => by
    have := run_slice_string_l (P := Try.prog) (w := W) 9 c Try.underlying9 .i64 (u : Int) (by omega) (by omega)
    rw [this, ← hd]; simp
  have hsl2 : ∀ W, (Instr.slice 9 (.string c) none (some (.int .i64 (u : Int))) none).run Try.prog W = .ok (.string g) W := fun W => by
    have := run_slice_string_h (P := Try.prog) (w := W) 9 c Try.underlying9 .i64 (u : Int) (by omega) (by omega)
    rw [this, ← hg]; simp
  have hu1 : ¬ (c.size : Int) < u := by omega
  clear hu hd hg
  go_enter Try.func27, Try.ntmps27
  go_wp2_with fail
  refine (number_any b 0 hi c 0 u hsz HR.out _).mono ?_; rintro e w1 ⟨rfl, hb⟩
  have hX : SB w1 w.heap.size b 0 := (hb.block _ (by simp <;> omega)).trans ((Below.heap_alloc _ _ _ (by simp <;> omega)).trans ((Below.heap_alloc _ _ _ (by simp)).trans (heap_alloc_new _ _)))
  have hO : OB w1 (w.heap.size + 1) k lo hi := (hb.block _ (by simp <;> omega)).trans ((Below.heap_alloc _ _ _ (by simp)).trans (by
    rw [show w.heap.size + 1 = (w.alloc (.cells #[.string b, .int .i64 0] 40)).heap.size by simp]; exact heap_alloc_new _ _))
  have hR : SB w1 (w.heap.size + 1 + 1) ⟨#[]⟩ 0 := (hb.block _ (by simp <;> omega)).trans (by
    rw [show w.heap.size + 1 + 1 = ((w.alloc (.cells #[.string b, .int .i64 0] 40)).alloc (.cells #[.int .i64 k, .int .i64 lo, .int .i64 hi] 42)).heap.size by simp]; exact heap_alloc_new _ _)
  have c0 := hX.c0
  have c1 := hX.c1
  have cf := hX.fr
  have o0 := hO.c0
  have o1 := hO.c1
  have o2 := hO.c2
  have z0 := hR.c0
  have z1 := hR.c1
  have zf := hR.fr
  have zl := hR.lt
  have zl1 := hO.lt
  have zl0 := hX.lt
  have HX1 := Lib.hid hX
  have HR1 := Lib.hid hR
  have HB := Lib.hid (((((Below.refl w.heap.size w).alloc (Nat.le_refl _) _).alloc (by simp) _).alloc (by simp <;> omega) _).trans (hb.mono (by simp <;> omega) : Below w.heap.size _ _))
  clear hb hX hO hR
  go_wp2_with fail
  go_region
  all_goals
    go_wp2_with fail
    have y0 := ((HR1.out.set d 0).alloc (.cells #[.string c, .int .i64 0] 40)).c0
    have y1 := ((HR1.out.set d 0).alloc (.cells #[.string c, .int .i64 0] 40)).c1
    refine bodyPost_ret (v := .tuple #[.agg #[.string d, .int .i64 0], .int .i64 0, .string g]) (by simp [results, Try.results27, go_sem, z0, z1, y0, y1]) rfl ⟨rfl, ?_⟩
    (repeat (first | exact HB.out | refine Below.setCell ?_ (by first | omega | (simp <;> omega)) _ | refine Below.alloc ?_ (by first | omega | (simp <;> omega)) _ | refine Below.drew ?_))
/-- the same calls at a reader without an error -/
theorem rdo_walk (b er) (k lo hi : Int) (b' er' n s) (hsz : b.size ≤ 400) (hr : doS k lo hi b er = (b', er', n, s)) (w : World) : Calls Try.prog 27 #[.agg #[.string b, .int .i64 er], .agg #[.int .i64 k, .int .i64 lo, .int .i64 hi]] w fun e w' => e = .returned (.tuple #[.agg #[.string b', .int .i64 er'], .int .i64 n, .string s]) ∧ Below w.heap.size w w' := by
  by_cases he : er = 0
  · subst he
    unfold doS at hr
    by_cases h0 : k % 8 = 0
    · rw [if_pos h0] at hr; cases hr
      exact rdo_0 b k lo hi _ _ _ hsz h0 rfl w
    rw [if_neg h0] at hr
    by_cases h1 : k % 8 = 1
    · rw [if_pos h1] at hr; cases hr
      rcases hp : peekF b.data.toList with _ | ⟨u, m⟩
      · have e1 : readS decI lo hi b 0 = (b, 12, 0) := by unfold readS; rw [hp]; rfl
        rw [e1]
        exact rdo_1none b k lo hi hsz h1 (readN_none b hp) w
      · obtain ⟨k1, k2, k3, k4, k5⟩ := num_peek _ _ _ hp
        have hN := readN_some b _ u m hp k1 rfl
        have e1 : readS decI lo hi b 0 = if decI u < lo then (b, 2, 0) else if hi < decI u then (b, 2, 0) else (b.extract m b.size, 0, decI u) := by unfold readS; rw [hp]; rfl
        rw [e1]
        by_cases hpar : u % 2 = 1
        · have hd : decI u = -((u : Int) / 2) - 1 := by unfold decI; rw [if_pos hpar]; omega
          rw [hd]
          by_cases hl : -((u : Int) / 2) - 1 < lo
          · rw [if_pos hl]; exact rdo_1oddlo b _ k lo hi u k1 hpar hl hsz h1 hN w
          · rw [if_neg hl]
            by_cases hh : hi < -((u : Int) / 2) - 1
            · rw [if_pos hh]; exact rdo_1oddhi b _ k lo hi u k1 hpar hl hh hsz h1 hN w
            · rw [if_neg hh]; exact rdo_1oddok b _ k lo hi u k1 hpar hl hh hsz h1 hN w
        · have hd : decI u = (u : Int) / 2 := by unfold decI; rw [if_neg hpar]; omega
          have hpar' : u % 2 = 0 := by omega
          rw [hd]
          by_cases hl : (u : Int) / 2 < lo
          · rw [if_pos hl]; exact rdo_1evenlo b _ k lo hi u k1 hpar' hl hsz h1 hN w
          · rw [if_neg hl]
            by_cases hh : hi < (u : Int) / 2
            · rw [if_pos hh]; exact rdo_1evenhi b _ k lo hi u k1 hpar' hl hh hsz h1 hN w
            · rw [if_neg hh]; exact rdo_1evenok b _ k lo hi u k1 hpar' hl hh hsz h1 hN w
    rw [if_neg h1] at hr
    by_cases h2 : k % 8 = 2
    · rw [if_pos h2] at hr; cases hr
      by_cases hn : hi < 0
      · have e1 : takeS hi b 0 = (b, 2, noB) := by unfold takeS; simp only [if_pos hn]; rfl
        rw [e1]; exact rdo_2neg b k lo hi h2 hn w
      · by_cases hb : (b.size : Int) < hi
        · have e1 : takeS hi b 0 = (b, 12, noB) := by unfold takeS; simp only [if_neg hn, if_pos hb]; rfl
          rw [e1]; exact rdo_2big b k lo hi h2 hn hb w
        · have e1 : takeS hi b 0 = (b.extract hi.toNat b.size, 0, b.extract 0 hi.toNat) := by unfold takeS; simp only [if_neg hn, if_neg hb]; rfl
          rw [e1]; exact rdo_2ok b _ _ k lo hi hi.toNat (by omega) h2 (by omega) rfl rfl w
    rw [if_neg h2] at hr
    by_cases h3 : k % 8 = 3
    · rw [if_pos h3] at hr; cases hr
      obtain ⟨⟨b1, e1, n1⟩, hq⟩ : ∃ q, readS decN 0 hi b 0 = q := ⟨_, rfl⟩
      by_cases he : e1 = 0
      · subst he
        have hn1 : ∃ u : Nat, n1 = u := by
          unfold readS at hq
          rw [if_neg (by simp)] at hq
          rcases hp : peekF b.data.toList with _ | ⟨u, m⟩
          · rw [hp] at hq; cases hq
          · rw [hp] at hq
            simp only at hq
            split at hq
            · cases hq
            · split at hq
              · cases hq
              · cases hq; exact ⟨u, rfl⟩
        obtain ⟨u, rfl⟩ := hn1
        by_cases hu : b1.size < u
        · have e2 : textS hi b 0 = (b, 12, noB) := by
            unfold textS; rw [hq]; simp only [takeS, show ¬ ((u : Int) < 0) by omega, show (b1.size : Int) < (u : Int) by omega, if_false, if_true]; rfl
          rw [e2]; exact rdo_3big b b1 k lo hi u hsz h3 hu hq w
        · have e2 : textS hi b 0 = (b1.extract u b1.size, 0, b1.extract 0 u) := by
            unfold textS; rw [hq]; simp only [takeS, show ¬ ((u : Int) < 0) by omega, show ¬ (b1.size : Int) < (u : Int) by omega, if_false]; simp
          rw [e2]; exact rdo_3ok b b1 _ _ k lo hi u hsz h3 (by omega) rfl rfl hq w
      · have hbb : b1 = b ∧ n1 = 0 := by
          unfold readS at hq
          rw [if_neg (by simp)] at hq
          rcases hp : peekF b.data.toList with _ | ⟨u, m⟩
          · rw [hp] at hq; cases hq; exact ⟨rfl, rfl⟩
          · rw [hp] at hq
            simp only at hq
            split at hq
            · cases hq; exact ⟨rfl, rfl⟩
            · split at hq
              · cases hq; exact ⟨rfl, rfl⟩
              · cases hq; exact absurd rfl he
        obtain ⟨rfl, rfl⟩ := hbb
        have e2 : textS hi b1 0 = (b1, e1, noB) := by
          unfold textS; rw [hq]; simp only [takeS_err _ _ _ he]; rw [if_pos he]
        rw [e2]; exact rdo_3err b1 b1 k lo hi e1 0 hsz h3 he hq w
    rw [if_neg h3] at hr; cases hr
    exact rdo_end b k lo hi _ hsz rfl h0 h1 h2 h3 w
  · have e1 : doS k lo hi b er = (b, er, 0, noB) := by
      unfold doS
      rw [readS_err _ _ _ _ _ he, readS_err _ _ _ _ _ he, takeS_err _ _ _ he, textS_err _ _ _ he, endS_err _ _ he]
      (repeat' split) <;> rfl
    rw [e1] at hr; cases hr
    exact rdo_err b er k lo hi he w
end Go.Proofs.Ytkogechopdfleaa
