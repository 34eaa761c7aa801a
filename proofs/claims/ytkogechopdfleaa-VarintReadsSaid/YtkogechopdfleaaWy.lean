import Derived.Test.YtkogechopdfleaaWx
namespace Go.Proofs.Ytkogechopdfleaa
open Go.RowKit
attribute [local go_sem ↓] Go.wp_at_zero Go.wp_at_succ

theorem SB.set {w B b er} (h : SB w B b er) (b' : ByteArray) (er' : Int) : SB ((w.setCell ⟨B, 0, none⟩ (.string b')).setCell ⟨B, 1, none⟩ (.int .i64 er')) B b' er' :=
  heap_setCell_any _ B 1 _ _ _ (.int .i64 er') (heap_setCell_any w B 0 _ _ _ (.string b') h)
set_option maxRecDepth 100000 in
set_option maxHeartbeats 1000000 in
theorem rdo_err (b er) (k lo hi : Int) (h : er ≠ 0) (w : World) : Calls Try.prog 27 #[.agg #[.string b, .int .i64 er], .agg #[.int .i64 k, .int .i64 lo, .int .i64 hi]] w fun e w' => e = .returned (.tuple #[.agg #[.string b, .int .i64 er], .int .i64 0, .string ⟨#[]⟩]) ∧ Below w.heap.size w w' := by
  have he : (er != 0) = true := by simpa using h
  have he2 : (er == 0) = false := by simpa using h
  have HBI : Hid (Below w.heap.size w w) := Lib.hid (Below.refl _ _)
  clear h
  go_enter Try.func27, Try.ntmps27
  go_wp2_with fail
  refine bodyPost_ret (v := .tuple #[.agg #[.string b, .int .i64 er], .int .i64 0, .string ⟨#[]⟩]) (by simp [results, Try.results27, go_sem]) rfl ⟨rfl, ?_⟩
  (repeat (first | exact HBI.out | refine Below.setCell ?_ (by first | omega | (simp <;> omega)) _ | refine Below.alloc ?_ (by first | omega | (simp <;> omega)) _ | refine Below.drew ?_))
set_option maxRecDepth 100000 in
set_option maxHeartbeats 1000000 in
theorem rdo_0 (b) (k lo hi : Int) (b' : ByteArray) (er' n : Int) (hsz : b.size ≤ 400) (hk : k % 8 = 0) (hr : readS decN 0 hi b 0 = (b', er', n)) (w : World) : Calls Try.prog 27 #[.agg #[.string b, .int .i64 0], .agg #[.int .i64 k, .int .i64 lo, .int .i64 hi]] w fun e w' => e = .returned (.tuple #[.agg #[.string b', .int .i64 er'], .int .i64 n, .string ⟨#[]⟩]) ∧ Below w.heap.size w w' := by
  have HR := Lib.hid hr
  have hk7 := i64_and7 k
  rw [hk] at hk7
  clear hk hr
  go_enter Try.func27, Try.ntmps27
  go_wp2_with fail
  refine (number_any b 0 hi b' er' n hsz HR.out _).mono ?_; rintro e w1 ⟨rfl, hb⟩
  have hX : SB w1 w.heap.size b 0 := (hb.block _ (by simp <;> omega)).trans ((Below.heap_alloc _ _ _ (by simp <;> omega)).trans ((Below.heap_alloc _ _ _ (by simp)).trans (heap_alloc_new _ _)))
  have hO : OB w1 (w.heap.size + 1) k lo hi := (hb.block _ (by simp <;> omega)).trans ((Below.heap_alloc _ _ _ (by simp)).trans (by
    rw [show w.heap.size + 1 = (w.alloc (.cells #[.string b, .int .i64 0] 40)).heap.size by simp]; exact heap_alloc_new _ _))
  have hR : SB w1 (w.heap.size + 1 + 1) ⟨#[]⟩ 0 := (hb.block _ (by simp <;> omega)).trans (by
    rw [show w.heap.size + 1 + 1 = ((w.alloc (.cells #[.string b, .int .i64 0] 40)).alloc (.cells #[.int .i64 k, .int .i64 lo, .int .i64 hi] 42)).heap.size by simp]; exact heap_alloc_new _ _)
  have c0 := hX.c0
  have c1 := hX.c1
  have cf := hX.fr
  have o0 := hO.c0
  have o1 := hO.c1
  have o2 := hO.c2
  have z0 := hR.c0
  have z1 := hR.c1
  have zf := hR.fr
  have zl := hR.lt
  have zl1 := hO.lt
  have zl0 := hX.lt
  have HX1 := Lib.hid hX
  have HR1 := Lib.hid hR
  have HB := Lib.hid (((((Below.refl w.heap.size w).alloc (Nat.le_refl _) _).alloc (by simp) _).alloc (by simp <;> omega) _).trans (hb.mono (by simp <;> omega) : Below w.heap.size _ _))
  clear hb hX hO hR
  go_wp2_with fail
  have hz : w.heap.size ≤ w1.heap.size := HB.out.size
  have y0 := ((HR1.out.set b' er').alloc (.cells #[.string b', .int .i64 er'] 40)).c0
  have y1 := ((HR1.out.set b' er').alloc (.cells #[.string b', .int .i64 er'] 40)).c1
  refine bodyPost_ret (v := .tuple #[.agg #[.string b', .int .i64 er'], .int .i64 n, .string ⟨#[]⟩]) (by simp [results, Try.results27, go_sem, z0, z1, y0, y1]) rfl ⟨rfl, ?_⟩
  (repeat (first | exact HB.out | refine Below.setCell ?_ (by first | omega | (simp <;> omega)) _ | refine Below.alloc ?_ (by first | omega | (simp <;> omega)) _ | refine Below.drew ?_))
set_option maxRecDepth 100000 in
set_option maxHeartbeats 1000000 in
theorem rdo_end (b) (k lo hi j : Int) (hsz : b.size ≤ 400) (hk : k % 8 = j) (h0 : j ≠ 0) (h1 : j ≠ 1) (h2 : j ≠ 2) (h3 : j ≠ 3) (w : World) : Calls Try.prog 27 #[.agg #[.string b, .int .i64 0], .agg #[.int .i64 k, .int .i64 lo, .int .i64 hi]] w fun e w' => e = .returned (.tuple #[.agg #[.string b, .int .i64 (endS b 0)], .int .i64 0, .string ⟨#[]⟩]) ∧ Below w.heap.size w w' := by
  have j0 : (j == 0) = false := by simpa using h0
  have j1 : (j == 1) = false := by simpa using h1
  have j2 : (j == 2) = false := by simpa using h2
  have j3 : (j == 3) = false := by simpa using h3
  have hk7 := i64_and7 k
  rw [hk] at hk7
  have HBI : Hid (Below w.heap.size w w) := Lib.hid (Below.refl _ _)
  clear hk h0 h1 h2 h3
  by_cases hb : b.data.toList = []
  · have hz : endS b 0 = 0 := by unfold endS; rw [if_neg (by simp [hb])]
    rw [hz]
    have hs : ¬ (0 : Int) < b.size := by have : b.data.toList.length = b.size := rfl; rw [hb] at this; simp at this; omega
    clear hb hz
    go_enter Try.func27, Try.ntmps27
    go_wp2_with fail
    refine bodyPost_ret (v := .tuple #[.agg #[.string b, .int .i64 0], .int .i64 0, .string ⟨#[]⟩]) (by simp [results, Try.results27, go_sem]) rfl ⟨rfl, ?_⟩
    (repeat (first | exact HBI.out | refine Below.setCell ?_ (by first | omega | (simp <;> omega)) _ | refine Below.alloc ?_ (by first | omega | (simp <;> omega)) _ | refine Below.drew ?_))
  · have hz : endS b 0 = 12 := by unfold endS; rw [if_pos ⟨rfl, hb⟩]
    rw [hz]
    have hs : (0 : Int) < b.size := by
      have : b.data.toList.length = b.size := rfl
      rcases Nat.eq_zero_or_pos b.size with h | h
      · rw [h] at this; exact absurd (List.length_eq_zero_iff.1 this) hb
      · omega
    clear hb hz
    go_enter Try.func27, Try.ntmps27
    go_wp2_with fail
    refine bodyPost_ret (v := .tuple #[.agg #[.string b, .int .i64 12], .int .i64 0, .string ⟨#[]⟩]) (by simp [results, Try.results27, go_sem]) rfl ⟨rfl, ?_⟩
    (repeat (first | exact HBI.out | refine Below.setCell ?_ (by first | omega | (simp <;> omega)) _ | refine Below.alloc ?_ (by first | omega | (simp <;> omega)) _ | refine Below.drew ?_))
set_option maxRecDepth 100000 in
set_option maxHeartbeats 1000000 in
theorem rdo_1none (b) (k lo hi : Int) (hsz : b.size ≤ 400) (hk : k % 8 = 1) (hr : readS decN 0 9223372036854775807 b 0 = (b, 12, 0)) (w : World) : Calls Try.prog 27 #[.agg #[.string b, .int .i64 0], .agg #[.int .i64 k, .int .i64 lo, .int .i64 hi]] w fun e w' => e = .returned (.tuple #[.agg #[.string b, .int .i64 12], .int .i64 0, .string ⟨#[]⟩]) ∧ Below w.heap.size w w' := by
  have HR := Lib.hid hr
  have hk7 := i64_and7 k
  rw [hk] at hk7
  clear hk hr
  go_enter Try.func27, Try.ntmps27
  go_wp2_with fail
  refine (number_any b 0 9223372036854775807 b 12 0 hsz HR.out _).mono ?_; rintro e w1 ⟨rfl, hb⟩
  have hX : SB w1 w.heap.size b 0 := (hb.block _ (by simp <;> omega)).trans ((Below.heap_alloc _ _ _ (by simp <;> omega)).trans ((Below.heap_alloc _ _ _ (by simp)).trans (heap_alloc_new _ _)))
  have hO : OB w1 (w.heap.size + 1) k lo hi := (hb.block _ (by simp <;> omega)).trans ((Below.heap_alloc _ _ _ (by simp)).trans (by
    rw [show w.heap.size + 1 = (w.alloc (.cells #[.string b, .int .i64 0] 40)).heap.size by simp]; exact heap_alloc_new _ _))
  have hR : SB w1 (w.heap.size + 1 + 1) ⟨#[]⟩ 0 := (hb.block _ (by simp <;> omega)).trans (by
    rw [show w.heap.size + 1 + 1 = ((w.alloc (.cells #[.string b, .int .i64 0] 40)).alloc (.cells #[.int .i64 k, .int .i64 lo, .int .i64 hi] 42)).heap.size by simp]; exact heap_alloc_new _ _)
  have c0 := hX.c0
  have c1 := hX.c1
  have cf := hX.fr
  have o0 := hO.c0
  have o1 := hO.c1
  have o2 := hO.c2
  have z0 := hR.c0
  have z1 := hR.c1
  have zf := hR.fr
  have zl := hR.lt
  have zl1 := hO.lt
  have zl0 := hX.lt
  have HX1 := Lib.hid hX
  have HR1 := Lib.hid hR
  have HB := Lib.hid (((((Below.refl w.heap.size w).alloc (Nat.le_refl _) _).alloc (by simp) _).alloc (by simp <;> omega) _).trans (hb.mono (by simp <;> omega) : Below w.heap.size _ _))
  clear hb hX hO hR
  go_wp2_with fail
  have y0 := ((HR1.out.set b 12).alloc (.cells #[.string b, .int .i64 12] 40)).c0
  have y1 := ((HR1.out.set b 12).alloc (.cells #[.string b, .int .i64 12] 40)).c1
  refine bodyPost_ret (v := .tuple #[.agg #[.string b, .int .i64 12], .int .i64 0, .string ⟨#[]⟩]) (by simp [results, Try.results27, go_sem, z0, z1, y0, y1]) rfl ⟨rfl, ?_⟩
  (repeat (first | exact HB.out | refine Below.setCell ?_ (by first | omega | (simp <;> omega)) _ | refine Below.alloc ?_ (by first | omega | (simp <;> omega)) _ | refine Below.drew ?_))
set_option maxRecDepth 100000 in
set_option maxHeartbeats 1000000 in
theorem rdo_1oddlo (b c) (k lo hi : Int) (u : Nat) (hu : u < 2 ^ 63) (hp : u % 2 = 1) (hl : (-((u : Int) / 2) - 1) < lo) (hsz : b.size ≤ 400) (hk : k % 8 = 1) (hr : readS decN 0 9223372036854775807 b 0 = (c, 0, (u : Int))) (w : World) : Calls Try.prog 27 #[.agg #[.string b, .int .i64 0], .agg #[.int .i64 k, .int .i64 lo, .int .i64 hi]] w fun e w' => e = .returned (.tuple #[.agg #[.string b, .int .i64 2], .int .i64 0, .string ⟨#[]⟩]) ∧ Below w.heap.size w w' := by
  have HR := Lib.hid hr
  have hk7 := i64_and7 k
  rw [hk] at hk7
  have hq : ((u : Int) % 2 == 1) = true := by simp; omega
  clear hk hr hp
  go_enter Try.func27, Try.ntmps27
  go_wp2_with fail
  refine (number_any b 0 9223372036854775807 c 0 u hsz HR.out _).mono ?_; rintro e w1 ⟨rfl, hb⟩
  have hX : SB w1 w.heap.size b 0 := (hb.block _ (by simp <;> omega)).trans ((Below.heap_alloc _ _ _ (by simp <;> omega)).trans ((Below.heap_alloc _ _ _ (by simp)).trans (heap_alloc_new _ _)))
  have hO : OB w1 (w.heap.size + 1) k lo hi := (hb.block _ (by simp <;> omega)).trans ((Below.heap_alloc _ _ _ (by simp)).trans (by
    rw [show w.heap.size + 1 = (w.alloc (.cells #[.string b, .int .i64 0] 40)).heap.size by simp]; exact heap_alloc_new _ _))
  have hR : SB w1 (w.heap.size + 1 + 1) ⟨#[]⟩ 0 := (hb.block _ (by simp <;> omega)).trans (by
    rw [show w.heap.size + 1 + 1 = ((w.alloc (.cells #[.string b, .int .i64 0] 40)).alloc (.cells #[.int .i64 k, .int .i64 lo, .int .i64 hi] 42)).heap.size by simp]; exact heap_alloc_new _ _)
  have c0 := hX.c0
  have c1 := hX.c1
  have cf := hX.fr
  have o0 := hO.c0
  have o1 := hO.c1
  have o2 := hO.c2
  have z0 := hR.c0
  have z1 := hR.c1
  have zf := hR.fr
  have zl := hR.lt
  have zl1 := hO.lt
  have zl0 := hX.lt
  have HX1 := Lib.hid hX
  have HR1 := Lib.hid hR
  have HB := Lib.hid (((((Below.refl w.heap.size w).alloc (Nat.le_refl _) _).alloc (by simp) _).alloc (by simp <;> omega) _).trans (hb.mono (by simp <;> omega) : Below w.heap.size _ _))
  clear hb hX hO hR
  go_wp2_with fail
  clear z0 z1 zf
  refine (rfail_walk b 0 2 _).mono ?_; rintro e w2 ⟨rfl, hb⟩
  have hX : SB w2 w.heap.size b 0 := (HX1.out.alloc _).below hb (by simp; have := HX1.out.lt; omega)
  have hR : SB w2 (w.heap.size + 1 + 1) ⟨#[]⟩ 0 := (HR1.out.alloc _).below hb (by simp <;> omega)
  have z0 := hR.c0
  have z1 := hR.c1
  have zf := hR.fr
  have zl := hR.lt
  have HR2 := Lib.hid hR
  have HB2 := Lib.hid (step_b (HB.out.alloc HB.out.size _) hb)
  clear hb hX hR
  go_wp2_with fail
  have y0 := (HR2.out.set b 2).c0
  have y1 := (HR2.out.set b 2).c1
  refine bodyPost_ret (v := .tuple #[.agg #[.string b, .int .i64 2], .int .i64 0, .string ⟨#[]⟩]) (by simp [results, Try.results27, go_sem, z0, z1, y0, y1]) rfl ⟨rfl, ?_⟩
  (repeat (first | exact HB2.out | refine Below.setCell ?_ (by first | omega | (simp <;> omega)) _ | refine Below.alloc ?_ (by first | omega | (simp <;> omega)) _ | refine Below.drew ?_))
set_option maxRecDepth 100000 in
set_option maxHeartbeats 1000000 in
theorem rdo_1oddhi (b c) (k lo hi : Int) (u : Nat) (hu : u < 2 ^ 63) (hp : u % 2 = 1) (hl : ¬ (-((u : Int) / 2) - 1) < lo) (hh : hi < (-((u : Int) / 2) - 1)) (hsz : b.size ≤ 400) (hk : k % 8 = 1) (hr : readS decN 0 9223372036854775807 b 0 = (c, 0, (u : Int))) (w : World) : Calls Try.prog 27 #[.agg #[.string b, .int .i64 0], .agg #[.int .i64 k, .int .i64 lo, .int .i64 hi]] w fun e w' => e = .returned (.tuple #[.agg #[.string b, .int .i64 2], .int .i64 0, .string ⟨#[]⟩]) ∧ Below w.heap.size w w' := by
  have HR := Lib.hid hr
  have hk7 := i64_and7 k
  rw [hk] at hk7
  have hq : ((u : Int) % 2 == 1) = true := by simp; omega
  clear hk hr hp
  go_enter Try.func27, Try.ntmps27
  go_wp2_with fail
  refine (number_any b 0 9223372036854775807 c 0 u hsz HR.out _).mono ?_; rintro e w1 ⟨rfl, hb⟩
  have hX : SB w1 w.heap.size b 0 := (hb.block _ (by simp <;> omega)).trans ((Below.heap_alloc _ _ _ (by simp <;> omega)).trans ((Below.heap_alloc _ _ _ (by simp)).trans (heap_alloc_new _ _)))
  have hO : OB w1 (w.heap.size + 1) k lo hi := (hb.block _ (by simp <;> omega)).trans ((Below.heap_alloc _ _ _ (by simp)).trans (by
    rw [show w.heap.size + 1 = (w.alloc (.cells #[.string b, .int .i64 0] 40)).heap.size by simp]; exact heap_alloc_new _ _))
  have hR : SB w1 (w.heap.size + 1 + 1) ⟨#[]⟩ 0 := (hb.block _ (by simp <;> omega)).trans (by
    rw [show w.heap.size + 1 + 1 = ((w.alloc (.cells #[.string b, .int .i64 0] 40)).alloc (.cells #[.int .i64 k, .int .i64 lo, .int .i64 hi] 42)).heap.size by simp]; exact heap_alloc_new _ _)
  have c0 := hX.c0
  have c1 := hX.c1
  have cf := hX.fr
  have o0 := hO.c0
  have o1 := hO.c1
  have o2 := hO.c2
  have z0 := hR.c0
  have z1 := hR.c1
  have zf := hR.fr
  have zl := hR.lt
  have zl1 := hO.lt
  have zl0 := hX.lt
  have HX1 := Lib.hid hX
  have HR1 := Lib.hid hR
  have HB := Lib.hid (((((Below.refl w.heap.size w).alloc (Nat.le_refl _) _).alloc (by simp) _).alloc (by simp <;> omega) _).trans (hb.mono (by simp <;> omega) : Below w.heap.size _ _))
  clear hb hX hO hR
  go_wp2_with fail
  clear z0 z1 zf
  refine (rfail_walk b 0 2 _).mono ?_; rintro e w2 ⟨rfl, hb⟩
  have hX : SB w2 w.heap.size b 0 := (HX1.out.alloc _).below hb (by simp; have := HX1.out.lt; omega)
  have hR : SB w2 (w.heap.size + 1 + 1) ⟨#[]⟩ 0 := (HR1.out.alloc _).below hb (by simp <;> omega)
  have z0 := hR.c0
  have z1 := hR.c1
  have zf := hR.fr
  have zl := hR.lt
  have HR2 := Lib.hid hR
  have HB2 := Lib.hid (step_b (HB.out.alloc HB.out.size _) hb)
  clear hb hX hR
  go_wp2_with fail
  have y0 := (HR2.out.set b 2).c0
  have y1 := (HR2.out.set b 2).c1
  refine bodyPost_ret (v := .tuple #[.agg #[.string b, .int .i64 2], .int .i64 0, .string ⟨#[]⟩]) (by simp [results, Try.results27, go_sem, z0, z1, y0, y1]) rfl ⟨rfl, ?_⟩
  (repeat (first | exact HB2.out | refine Below.setCell ?_ (by first | omega | (simp <;> omega)) _ | refine Below.alloc ?_ (by first | omega | (simp <;> omega)) _ | refine Below.drew ?_))
set_option maxRecDepth 100000 in
set_option maxHeartbeats 1000000 in
theorem rdo_1oddok (b c) (k lo hi : Int) (u : Nat) (hu : u < 2 ^ 63) (hp : u % 2 = 1) (hl : ¬ (-((u : Int) / 2) - 1) < lo) (hh : ¬ hi < (-((u : Int) / 2) - 1)) (hsz : b.size ≤ 400) (hk : k % 8 = 1) (hr : readS decN 0 9223372036854775807 b 0 = (c, 0, (u : Int))) (w : World) : Calls Try.prog 27 #[.agg #[.string b, .int .i64 0], .agg #[.int .i64 k, .int .i64 lo, .int .i64 hi]] w fun e w' => e = .returned (.tuple #[.agg #[.string c, .int .i64 0], .int .i64 (-((u : Int) / 2) - 1), .string ⟨#[]⟩]) ∧ Below w.heap.size w w' := by
  have HR := Lib.hid hr
  have hk7 := i64_and7 k
  rw [hk] at hk7
  have hq : ((u : Int) % 2 == 1) = true := by simp; omega
  clear hk hr hp
  go_enter Try.func27, Try.ntmps27
  go_wp2_with fail
  refine (number_any b 0 9223372036854775807 c 0 u hsz HR.out _).mono ?_; rintro e w1 ⟨rfl, hb⟩
  have hX : SB w1 w.heap.size b 0 := (hb.block _ (by simp <;> omega)).trans ((Below.heap_alloc _ _ _ (by simp <;> omega)).trans ((Below.heap_alloc _ _ _ (by simp)).trans (heap_alloc_new _ _)))
  have hO : OB w1 (w.heap.size + 1) k lo hi := (hb.block _ (by simp <;> omega)).trans ((Below.heap_alloc _ _ _ (by simp)).trans (by
    rw [show w.heap.size + 1 = (w.alloc (.cells #[.string b, .int .i64 0] 40)).heap.size by simp]; exact heap_alloc_new _ _))
  have hR : SB w1 (w.heap.size + 1 + 1) ⟨#[]⟩ 0 := (hb.block _ (by simp <;> omega)).trans (by
    rw [show w.heap.size + 1 + 1 = ((w.alloc (.cells #[.string b, .int .i64 0] 40)).alloc (.cells #[.int .i64 k, .int .i64 lo, .int .i64 hi] 42)).heap.size by simp]; exact heap_alloc_new _ _)
  have c0 := hX.c0
  have c1 := hX.c1
  have cf := hX.fr
  have o0 := hO.c0
  have o1 := hO.c1
  have o2 := hO.c2
  have z0 := hR.c0
  have z1 := hR.c1
  have zf := hR.fr
  have zl := hR.lt
  have zl1 := hO.lt
  have zl0 := hX.lt
  have HX1 := Lib.hid hX
  have HR1 := Lib.hid hR
  have HB := Lib.hid (((((Below.refl w.heap.size w).alloc (Nat.le_refl _) _).alloc (by simp) _).alloc (by simp <;> omega) _).trans (hb.mono (by simp <;> omega) : Below w.heap.size _ _))
  clear hb hX hO hR
  go_wp2_with fail
  have y0 := ((HR1.out.set c 0).alloc (.cells #[.string c, .int .i64 0] 40)).c0
  have y1 := ((HR1.out.set c 0).alloc (.cells #[.string c, .int .i64 0] 40)).c1
  refine bodyPost_ret (v := .tuple #[.agg #[.string c, .int .i64 0], .int .i64 (-((u : Int) / 2) - 1), .string ⟨#[]⟩]) (by simp [results, Try.results27, go_sem, z0, z1, y0, y1]) rfl ⟨rfl, ?_⟩
  (repeat (first | exact HB.out | refine Below.setCell ?_ (by first | omega | (simp <;> omega)) _ | refine Below.alloc ?_ (by first | omega | (simp <;> omega)) _ | refine Below.drew ?_))
set_option maxRecDepth 100000 in
set_option maxHeartbeats 1000000 in
theorem rdo_1evenlo (b c) (k lo hi : Int) (u : Nat) (hu : u < 2 ^ 63) (hp : u % 2 = 0) (hl : ((u : Int) / 2) < lo) (hsz : b.size ≤ 400) (hk : k % 8 = 1) (hr : readS decN 0 9223372036854775807 b 0 = (c, 0, (u : Int))) (w : World) : Calls Try.prog 27 #[.agg #[.string b, .int .i64 0], .agg #[.int .i64 k, .int .i64 lo, .int .i64 hi]] w fun e w' => e = .returned (.tuple #[.agg #[.string b, .int .i64 2], .int .i64 0, .string ⟨#[]⟩]) ∧ Below w.heap.size w w' := by
  have HR := Lib.hid hr
  have hk7 := i64_and7 k
  rw [hk] at hk7
  have hq : ((u : Int) % 2 == 1) = false := by simp; omega
  clear hk hr hp
  go_enter Try.func27, Try.ntmps27
  go_wp2_with fail
  refine (number_any b 0 9223372036854775807 c 0 u hsz HR.out _).mono ?_; rintro e w1 ⟨rfl, hb⟩
  have hX : SB w1 w.heap.size b 0 := (hb.block _ (by simp <;> omega)).trans ((Below.heap_alloc _ _ _ (by simp <;> omega)).trans ((Below.heap_alloc _ _ _ (by simp)).trans (heap_alloc_new _ _)))
  have hO : OB w1 (w.heap.size + 1) k lo hi := (hb.block _ (by simp <;> omega)).trans ((Below.heap_alloc _ _ _ (by simp)).trans (by
    rw [show w.heap.size + 1 = (w.alloc (.cells #[.string b, .int .i64 0] 40)).heap.size by simp]; exact heap_alloc_new _ _))
  have hR : SB w1 (w.heap.size + 1 + 1) ⟨#[]⟩ 0 := (hb.block _ (by simp <;> omega)).trans (by
    rw [show w.heap.size + 1 + 1 = ((w.alloc (.cells #[.string b, .int .i64 0] 40)).alloc (.cells #[.int .i64 k, .int .i64 lo, .int .i64 hi] 42)).heap.size by simp]; exact heap_alloc_new _ _)
  have c0 := hX.c0
  have c1 := hX.c1
  have cf := hX.fr
  have o0 := hO.c0
  have o1 := hO.c1
  have o2 := hO.c2
  have z0 := hR.c0
  have z1 := hR.c1
  have zf := hR.fr
  have zl := hR.lt
  have zl1 := hO.lt
  have zl0 := hX.lt
  have HX1 := Lib.hid hX
  have HR1 := Lib.hid hR
  have HB := Lib.hid (((((Below.refl w.heap.size w).alloc (Nat.le_refl _) _).alloc (by simp) _).alloc (by simp <;> omega) _).trans (hb.mono (by simp <;> omega) : Below w.heap.size _ _))
  clear hb hX hO hR
  go_wp2_with fail
  clear z0 z1 zf
  refine (rfail_walk b 0 2 _).mono ?_; rintro e w2 ⟨rfl, hb⟩
  have hX : SB w2 w.heap.size b 0 := (HX1.out.alloc _).below hb (by simp; have := HX1.out.lt; omega)
  have hR : SB w2 (w.heap.size + 1 + 1) ⟨#[]⟩ 0 := (HR1.out.alloc _).below hb (by simp <;> omega)
  have z0 := hR.c0
  have z1 := hR.c1
  have zf := hR.fr
  have zl := hR.lt
  have HR2 := Lib.hid hR
  have HB2 := Lib.hid (step_b (HB.out.alloc HB.out.size _) hb)
  clear hb hX hR
  go_wp2_with fail
  have y0 := (HR2.out.set b 2).c0
  have y1 := (HR2.out.set b 2).c1
  refine bodyPost_ret (v := .tuple #[.agg #[.string b, .int .i64 2], .int .i64 0, .string ⟨#[]⟩]) (by simp [results, Try.results27, go_sem, z0, z1, y0, y1]) rfl ⟨rfl, ?_⟩
  (repeat (first | exact HB2.out | refine Below.setCell ?_ (by first | omega | (simp <;> omega)) _ | refine Below.alloc ?_ (by first | omega | (simp <;> omega)) _ | refine Below.drew ?_))
set_option maxRecDepth 100000 in
set_option maxHeartbeats 1000000 in
theorem rdo_1evenhi (b c) (k lo hi : Int) (u : Nat) (hu : u < 2 ^ 63) (hp : u % 2 = 0) (hl : ¬ ((u : Int) / 2) < lo) (hh : hi < ((u : Int) / 2)) (hsz : b.size ≤ 400) (hk : k % 8 = 1) (hr : readS decN 0 9223372036854775807 b 0 = (c, 0, (u : Int))) (w : World) : Calls Try.prog 27 #[.agg #[.string b, .int .i64 0], .agg #[.int .i64 k, .int .i64 lo, .int .i64 hi]] w fun e w' => e = .returned (.tuple #[.agg #[.string b, .int .i64 2], .int .i64 0, .string ⟨#[]⟩]) ∧ Below w.heap.size w w' := by
  have HR := Lib.hid hr
  have hk7 := i64_and7 k
  rw [hk] at hk7
  have hq : ((u : Int) % 2 == 1) = false := by simp; omega
  clear hk hr hp
  go_enter Try.func27, Try.ntmps27
  go_wp2_with fail
  refine (number_any b 0 9223372036854775807 c 0 u hsz HR.out _).mono ?_; rintro e w1 ⟨rfl, hb⟩
  have hX : SB w1 w.heap.size b 0 := (hb.block _ (by simp <;> omega)).trans ((Below.heap_alloc _ _ _ (by simp <;> omega)).trans ((Below.heap_alloc _ _ _ (by simp)).trans (heap_alloc_new _ _)))
  have hO : OB w1 (w.heap.size + 1) k lo hi := (hb.block _ (by simp <;> omega)).trans ((Below.heap_alloc _ _ _ (by simp)).trans (by
    rw [show w.heap.size + 1 = (w.alloc (.cells #[.string b, .int .i64 0] 40)).heap.size by simp]; exact heap_alloc_new _ _))
  have hR : SB w1 (w.heap.size + 1 + 1) ⟨#[]⟩ 0 := (hb.block _ (by simp <;> omega)).trans (by
    rw [show w.heap.size + 1 + 1 = ((w.alloc (.cells #[.string b, .int .i64 0] 40)).alloc (.cells #[.int .i64 k, .int .i64 lo, .int .i64 hi] 42)).heap.size by simp]; exact heap_alloc_new _ _)
  have c0 := hX.c0
  have c1 := hX.c1
  have cf := hX.fr
  have o0 := hO.c0
  have o1 := hO.c1
  have o2 := hO.c2
  have z0 := hR.c0
  have z1 := hR.c1
  have zf := hR.fr
  have zl := hR.lt
  have zl1 := hO.lt
  have zl0 := hX.lt
  have HX1 := Lib.hid hX
  have HR1 := Lib.hid hR
  have HB := Lib.hid (((((Below.refl w.heap.size w).alloc (Nat.le_refl _) _).alloc (by simp) _).alloc (by simp <;> omega) _).trans (hb.mono (by simp <;> omega) : Below w.heap.size _ _))
  clear hb hX hO hR
  go_wp2_with fail
  clear z0 z1 zf
  refine (rfail_walk b 0 2 _).mono ?_; rintro e w2 ⟨rfl, hb⟩
  have hX : SB w2 w.heap.size b 0 := (HX1.out.alloc _).below hb (by simp; have := HX1.out.lt; omega)
  have hR : SB w2 (w.heap.size + 1 + 1) ⟨#[]⟩ 0 := (HR1.out.alloc _).below hb (by simp <;> omega)
  have z0 := hR.c0
  have z1 := hR.c1
  have zf := hR.fr
  have zl := hR.lt
  have HR2 := Lib.hid hR
  have HB2 := Lib.hid (step_b (HB.out.alloc HB.out.size _) hb)
  clear hb hX hR
  go_wp2_with fail
  have y0 := (HR2.out.set b 2).c0
  have y1 := (HR2.out.set b 2).c1
  refine bodyPost_ret (v := .tuple #[.agg #[.string b, .int .i64 2], .int .i64 0, .string ⟨#[]⟩]) (by simp [results, Try.results27, go_sem, z0, z1, y0, y1]) rfl ⟨rfl, ?_⟩
  (repeat (first | exact HB2.out | refine Below.setCell ?_ (by first | omega | (simp <;> omega)) _ | refine Below.alloc ?_ (by first | omega | (simp <;> omega)) _ | refine Below.drew ?_))
set_option maxRecDepth 100000 in
set_option maxHeartbeats 1000000 in
theorem rdo_1evenok (b c) (k lo hi : Int) (u : Nat) (hu : u < 2 ^ 63) (hp : u % 2 = 0) (hl : ¬ ((u : Int) / 2) < lo) (hh : ¬ hi < ((u : Int) / 2)) (hsz : b.size ≤ 400) (hk : k % 8 = 1) (hr : readS decN 0 9223372036854775807 b 0 = (c, 0, (u : Int))) (w : World) : Calls Try.prog 27 #[.agg #[.string b, .int .i64 0], .agg #[.int .i64 k, .int .i64 lo, .int .i64 hi]] w fun e w' => e = .returned (.tuple #[.agg #[.string c, .int .i64 0], .int .i64 ((u : Int) / 2), .string ⟨#[]⟩]) ∧ Below w.heap.size w w' := by
  have HR := Lib.hid hr
  have hk7 := i64_and7 k
  rw [hk] at hk7
  have hq : ((u : Int) % 2 == 1) = false := by simp; omega
  clear hk hr hp
  go_enter Try.func27, Try.ntmps27
  go_wp2_with fail
  refine (number_any b 0 9223372036854775807 c 0 u hsz HR.out _).mono ?_; rintro e w1 ⟨rfl, hb⟩
  have hX : SB w1 w.heap.size b 0 := (hb.block _ (by simp <;> omega)).trans ((Below.heap_alloc _ _ _ (by simp <;> omega)).trans ((Below.heap_alloc _ _ _ (by simp)).trans (heap_alloc_new _ _)))
  have hO : OB w1 (w.heap.size + 1) k lo hi := (hb.block _ (by simp <;> omega)).trans ((Below.heap_alloc _ _ _ (by simp)).trans (by
    rw [show w.heap.size + 1 = (w.alloc (.cells #[.string b, .int .i64 0] 40)).heap.size by simp]; exact heap_alloc_new _ _))
  have hR : SB w1 (w.heap.size + 1 + 1) ⟨#[]⟩ 0 := (hb.block _ (by simp <;> omega)).trans (by
    rw [show w.heap.size + 1 + 1 = ((w.alloc (.cells #[.string b, .int .i64 0] 40)).alloc (.cells #[.int .i64 k, .int .i64 lo, .int .i64 hi] 42)).heap.size by simp]; exact heap_alloc_new _ _)
  have c0 := hX.c0
  have c1 := hX.c1
  have cf := hX.fr
  have o0 := hO.c0
  have o1 := hO.c1
  have o2 := hO.c2
  have z0 := hR.c0
  have z1 := hR.c1
  have zf := hR.fr
  have zl := hR.lt
  have zl1 := hO.lt
  have zl0 := hX.lt
  have HX1 := Lib.hid hX
  have HR1 := Lib.hid hR
  have HB := Lib.hid (((((Below.refl w.heap.size w).alloc (Nat.le_refl _) _).alloc (by simp) _).alloc (by simp <;> omega) _).trans (hb.mono (by simp <;> omega) : Below w.heap.size _ _))
  clear hb hX hO hR
  go_wp2_with fail
  have y0 := ((HR1.out.set c 0).alloc (.cells #[.string c, .int .i64 0] 40)).c0
  have y1 := ((HR1.out.set c 0).alloc (.cells #[.string c, .int .i64 0] 40)).c1
  refine bodyPost_ret (v := .tuple #[.agg #[.string c, .int .i64 0], .int .i64 ((u : Int) / 2), .string ⟨#[]⟩]) (by simp [results, Try.results27, go_sem, z0, z1, y0, y1]) rfl ⟨rfl, ?_⟩
  (repeat (first | exact HB.out | refine Below.setCell ?_ (by first | omega | (simp <;> omega)) _ | refine Below.alloc ?_ (by first | omega | (simp <;> omega)) _ | refine Below.drew ?_))
end Go.Proofs.Ytkogechopdfleaa
