import Derived.Test.YtkogechopdfleaaWv
namespace Go.Proofs.Ytkogechopdfleaa
open Go.RowKit
attribute [local go_sem ↓] Go.wp_at_zero Go.wp_at_succ

set_option maxRecDepth 100000 in
theorem rfail_walk (b : ByteArray) (er e : Int) (w : World) : Calls Try.prog 36 #[.agg #[.string b, .int .i64 er], .int .i64 e] w fun x w' => x = .returned (.agg #[.string b, .int .i64 e]) ∧ Below w.heap.size w w' := by
  go_enter Try.func36, Try.ntmps36
  go_wp2_with fail
  refine bodyPost_ret (v := .agg #[.string b, .int .i64 e]) (by simp [results, Try.results36, go_sem]) rfl ⟨rfl, ?_⟩
  exact ((Below.refl _ _).alloc (Nat.le_refl _) _).alloc (by simp) _
/-- a state, an operation in memory -/
def SB (w : World) (B : Nat) (b : ByteArray) (er : Int) : Prop := w.heap[B]? = some (.cells #[.string b, .int .i64 er] 40 (0, 0))
theorem SB.c0 {w B b er} (h : SB w B b er) : w.cell? ⟨B, 0, none⟩ = some (.string b) := by rw [cell_of_row w B 0 _ _ _ h]; rfl
theorem SB.c1 {w B b er} (h : SB w B b er) : w.cell? ⟨B, 1, none⟩ = some (.int .i64 er) := by rw [cell_of_row w B 1 _ _ _ h]; rfl
theorem SB.fr {w B b er} (h : SB w B b er) (i : Nat) : w.frozen? ⟨B, i, none⟩ = false := by
  have h' : w.heap[B]? = some (.cells #[.string b, .int .i64 er] 40 (0, 0)) := h
  simp [World.frozen?, h']
theorem SB.lt {w B b er} (h : SB w B b er) : B < w.heap.size := (Array.getElem?_eq_some_iff.1 h).1
theorem SB.below {w w' B b er} {N : Nat} (h : SB w B b er) (hb : Below N w w') (hN : B < N) : SB w' B b er := (hb.block B hN).trans h
theorem SB.alloc {w B b er} (h : SB w B b er) (o : Obj) : SB (w.alloc o) B b er := (Below.heap_alloc w o B h.lt).trans h
theorem SB.new (w : World) (b er) : SB (w.alloc (.cells #[.string b, .int .i64 er] 40)) w.heap.size b er := heap_alloc_new _ _
def OB (w : World) (B : Nat) (k lo hi : Int) : Prop := w.heap[B]? = some (.cells #[.int .i64 k, .int .i64 lo, .int .i64 hi] 42 (0, 0))
theorem OB.c0 {w B k lo hi} (h : OB w B k lo hi) : w.cell? ⟨B, 0, none⟩ = some (.int .i64 k) := by rw [cell_of_row w B 0 _ _ _ h]; rfl
theorem OB.c1 {w B k lo hi} (h : OB w B k lo hi) : w.cell? ⟨B, 1, none⟩ = some (.int .i64 lo) := by rw [cell_of_row w B 1 _ _ _ h]; rfl
theorem OB.c2 {w B k lo hi} (h : OB w B k lo hi) : w.cell? ⟨B, 2, none⟩ = some (.int .i64 hi) := by rw [cell_of_row w B 2 _ _ _ h]; rfl
theorem OB.lt {w B k lo hi} (h : OB w B k lo hi) : B < w.heap.size := (Array.getElem?_eq_some_iff.1 h).1
theorem OB.below {w w' B k lo hi} {N : Nat} (h : OB w B k lo hi) (hb : Below N w w') (hN : B < N) : OB w' B k lo hi := (hb.block B hN).trans h
theorem OB.alloc {w B k lo hi} (h : OB w B k lo hi) (o : Obj) : OB (w.alloc o) B k lo hi := (Below.heap_alloc w o B h.lt).trans h
set_option maxRecDepth 100000 in
set_option maxHeartbeats 1000000 in
theorem number_err (b : ByteArray) (er most : Int) (hsz : b.size ≤ 400) (h : er ≠ 0) (w : World) : Calls Try.prog 35 #[.agg #[.string b, .int .i64 er], .int .i64 most] w fun x w' => x = .returned (.tuple #[.agg #[.string b, .int .i64 er], .int .i64 0]) ∧ Below w.heap.size w w' := by
  obtain ⟨r, hr⟩ : ∃ r, peekF b.data.toList = r := ⟨_, rfl⟩
  have HP := Lib.hid hr
  have he : (er != 0) = true := by simpa using h
  have he2 : (er == 0) = false := by simpa using h
  clear hr h
  go_enter Try.func35, Try.ntmps35
  go_wp2_with fail
  refine (rread_walk b _ rfl hsz _ HP.out _).mono ?_; rintro e w1 ⟨rfl, hb⟩
  have hS : SB w1 w.heap.size b er := (hb.block _ (by simp; omega)).trans ((Below.heap_alloc _ _ _ (by simp)).trans (heap_alloc_new _ _))
  have hZ : SB w1 (w.heap.size + 1) ⟨#[]⟩ 0 := (hb.block _ (by simp)).trans (by
    rw [show w.heap.size + 1 = (w.alloc (.cells #[.string b, .int .i64 er] 40)).heap.size by simp]; exact heap_alloc_new _ _)
  have c0 := hS.c0
  have c1 := hS.c1
  have cf := hS.fr
  have z0 := hZ.c0
  have z1 := hZ.c1
  have zf := hZ.fr
  have zl := hZ.lt
  have HB := Lib.hid ((((Below.refl w.heap.size w).alloc (Nat.le_refl _) _).alloc (by simp) _).trans (hb.mono (by simp; omega) : Below w.heap.size _ _))
  clear hb hS hZ
  go_wp2_with fail
  exact bodyPost_ret (v := .tuple #[.agg #[.string b, .int .i64 er], .int .i64 0]) (by simp [results, Try.results35, go_sem, z0, z1]) rfl ⟨rfl, by first | exact (HB.out.setCell (by simp) _).setCell (by simp) _ | exact ((HB.out.setCell (by simp) _).setCell (by simp) _).setCell (by simp) _⟩
set_option maxRecDepth 100000 in
set_option maxHeartbeats 1000000 in
theorem number_none (b : ByteArray) (most : Int) (hsz : b.size ≤ 400) (h : peekF b.data.toList = none) (w : World) : Calls Try.prog 35 #[.agg #[.string b, .int .i64 0], .int .i64 most] w fun x w' => x = .returned (.tuple #[.agg #[.string b, .int .i64 12], .int .i64 0]) ∧ Below w.heap.size w w' := by
  have HP := Lib.hid h
  clear h
  go_enter Try.func35, Try.ntmps35
  go_wp2_with fail
  refine (rread_walk b _ rfl hsz _ HP.out _).mono ?_; rintro e w1 ⟨rfl, hb⟩
  have hS : SB w1 w.heap.size b 0 := (hb.block _ (by simp; omega)).trans ((Below.heap_alloc _ _ _ (by simp)).trans (heap_alloc_new _ _))
  have hZ : SB w1 (w.heap.size + 1) ⟨#[]⟩ 0 := (hb.block _ (by simp)).trans (by
    rw [show w.heap.size + 1 = (w.alloc (.cells #[.string b, .int .i64 0] 40)).heap.size by simp]; exact heap_alloc_new _ _)
  have c0 := hS.c0
  have c1 := hS.c1
  have cf := hS.fr
  have z0 := hZ.c0
  have z1 := hZ.c1
  have zf := hZ.fr
  have zl := hZ.lt
  have HB := Lib.hid ((((Below.refl w.heap.size w).alloc (Nat.le_refl _) _).alloc (by simp) _).trans (hb.mono (by simp; omega) : Below w.heap.size _ _))
  clear hb hS hZ
  simp only [peekP]
  go_wp2_with fail
  refine (rfail_walk b 0 12 _).mono ?_; rintro e w2 ⟨rfl, hb⟩
  have z0' : w2.cell? ⟨w.heap.size + 1, 0, none⟩ = some (.string ⟨#[]⟩) := (hb.cell (p := ⟨w.heap.size + 1, 0, none⟩) zl).trans z0
  have z1' : w2.cell? ⟨w.heap.size + 1, 1, none⟩ = some (.int .i64 0) := (hb.cell (p := ⟨w.heap.size + 1, 1, none⟩) zl).trans z1
  have zf' : ∀ i, w2.frozen? ⟨w.heap.size + 1, i, none⟩ = false := fun i => (hb.frozen (p := ⟨w.heap.size + 1, i, none⟩) zl).trans (zf i)
  have HB2 := Lib.hid (step_b HB.out hb)
  clear hb z0 z1 zf c0 c1 cf
  go_wp2_with fail
  exact bodyPost_ret (v := .tuple #[.agg #[.string b, .int .i64 12], .int .i64 0]) (by simp [results, Try.results35, go_sem, z0', z1']) rfl ⟨rfl, (HB2.out.setCell (by simp) _).setCell (by simp) _⟩
set_option maxRecDepth 100000 in
set_option maxHeartbeats 1000000 in
theorem number_range (b : ByteArray) (most : Int) (u m : Nat) (hsz : b.size ≤ 400) (h : peekF b.data.toList = some (u, m)) (hm : 1 ≤ m) (hu : most < u) (w : World) : Calls Try.prog 35 #[.agg #[.string b, .int .i64 0], .int .i64 most] w fun x w' => x = .returned (.tuple #[.agg #[.string b, .int .i64 2], .int .i64 0]) ∧ Below w.heap.size w w' := by
  have HP := Lib.hid h
  have hm0 : ((m : Int) == 0) = false := by simp; omega
  clear h
  go_enter Try.func35, Try.ntmps35
  go_wp2_with fail
  refine (rread_walk b _ rfl hsz _ HP.out _).mono ?_; rintro e w1 ⟨rfl, hb⟩
  have hS : SB w1 w.heap.size b 0 := (hb.block _ (by simp; omega)).trans ((Below.heap_alloc _ _ _ (by simp)).trans (heap_alloc_new _ _))
  have hZ : SB w1 (w.heap.size + 1) ⟨#[]⟩ 0 := (hb.block _ (by simp)).trans (by
    rw [show w.heap.size + 1 = (w.alloc (.cells #[.string b, .int .i64 0] 40)).heap.size by simp]; exact heap_alloc_new _ _)
  have c0 := hS.c0
  have c1 := hS.c1
  have cf := hS.fr
  have z0 := hZ.c0
  have z1 := hZ.c1
  have zf := hZ.fr
  have zl := hZ.lt
  have HB := Lib.hid ((((Below.refl w.heap.size w).alloc (Nat.le_refl _) _).alloc (by simp) _).trans (hb.mono (by simp; omega) : Below w.heap.size _ _))
  clear hb hS hZ
  simp only [peekP]
  go_wp2_with fail
  refine (rfail_walk b 0 2 _).mono ?_; rintro e w2 ⟨rfl, hb⟩
  have z0' : w2.cell? ⟨w.heap.size + 1, 0, none⟩ = some (.string ⟨#[]⟩) := (hb.cell (p := ⟨w.heap.size + 1, 0, none⟩) zl).trans z0
  have z1' : w2.cell? ⟨w.heap.size + 1, 1, none⟩ = some (.int .i64 0) := (hb.cell (p := ⟨w.heap.size + 1, 1, none⟩) zl).trans z1
  have zf' : ∀ i, w2.frozen? ⟨w.heap.size + 1, i, none⟩ = false := fun i => (hb.frozen (p := ⟨w.heap.size + 1, i, none⟩) zl).trans (zf i)
  have HB2 := Lib.hid (step_b HB.out hb)
  clear hb z0 z1 zf c0 c1 cf
  go_wp2_with fail
  exact bodyPost_ret (v := .tuple #[.agg #[.string b, .int .i64 2], .int .i64 0]) (by simp [results, Try.results35, go_sem, z0', z1']) rfl ⟨rfl, (HB2.out.setCell (by simp) _).setCell (by simp) _⟩
set_option maxRecDepth 100000 in
set_option maxHeartbeats 1000000 in
theorem number_ok (b c : ByteArray) (most : Int) (u m : Nat) (hsz : b.size ≤ 400) (h : peekF b.data.toList = some (u, m)) (hm : 1 ≤ m) (hmb : m ≤ b.size) (hu : ¬ most < u) (hc : b.extract m b.size = c) (w : World) : Calls Try.prog 35 #[.agg #[.string b, .int .i64 0], .int .i64 most] w fun x w' => x = .returned (.tuple #[.agg #[.string c, .int .i64 0], .int .i64 u]) ∧ Below w.heap.size w w' := by
  have HP := Lib.hid h
  have hm0 : ((m : Int) == 0) = false := by simp; omega
  have hsl : ∀ W, (Instr.slice 9 (.string b) (some (.int .i64 (m : Int))) none none).run Try.prog W = .ok (.string c) W := fun W => by
    have := run_slice_string_l (P := Try.prog) (w := W) 9 b Try.underlying9 .i64 (m : Int) (by omega) (by omega)
    rw [this, ← hc]; simp
  clear h hc
  go_enter Try.func35, Try.ntmps35
  go_wp2_with fail
  refine (rread_walk b _ rfl hsz _ HP.out _).mono ?_; rintro e w1 ⟨rfl, hb⟩
  have hS : SB w1 w.heap.size b 0 := (hb.block _ (by simp; omega)).trans ((Below.heap_alloc _ _ _ (by simp)).trans (heap_alloc_new _ _))
  have hZ : SB w1 (w.heap.size + 1) ⟨#[]⟩ 0 := (hb.block _ (by simp)).trans (by
    rw [show w.heap.size + 1 = (w.alloc (.cells #[.string b, .int .i64 0] 40)).heap.size by simp]; exact heap_alloc_new _ _)
  have c0 := hS.c0
  have c1 := hS.c1
  have cf := hS.fr
  have z0 := hZ.c0
  have z1 := hZ.c1
  have zf := hZ.fr
  have zl := hZ.lt
  have HB := Lib.hid ((((Below.refl w.heap.size w).alloc (Nat.le_refl _) _).alloc (by simp) _).trans (hb.mono (by simp; omega) : Below w.heap.size _ _))
  clear hb hS hZ
  simp only [peekP]
  go_wp2_with fail
  exact bodyPost_ret (v := .tuple #[.agg #[.string c, .int .i64 0], .int .i64 u]) (by simp [results, Try.results35, go_sem, z0, z1]) rfl ⟨rfl, by first | exact (HB.out.setCell (by simp) _).setCell (by simp) _ | exact ((HB.out.setCell (by simp) _).setCell (by simp) _).setCell (by simp) _⟩
theorem number_any (b : ByteArray) (er most : Int) (b' : ByteArray) (er' n : Int) (hsz : b.size ≤ 400) (hr : readS decN 0 most b er = (b', er', n)) (w : World) : Calls Try.prog 35 #[.agg #[.string b, .int .i64 er], .int .i64 most] w fun x w' => x = .returned (.tuple #[.agg #[.string b', .int .i64 er'], .int .i64 n]) ∧ Below w.heap.size w w' := by
  unfold readS at hr
  by_cases h0 : er = 0
  · subst h0
    rw [if_neg (by simp)] at hr
    rcases hp : peekF b.data.toList with _ | ⟨u, m⟩
    · rw [hp] at hr; cases hr
      exact number_none b most hsz hp w
    · rw [hp] at hr
      obtain ⟨k1, k2, k3, k4, k5⟩ := num_peek _ _ _ hp
      simp only [show ¬ decN u < 0 by unfold decN; omega, if_false] at hr
      by_cases hu : most < (u : Int)
      · rw [if_pos (show most < decN u from hu)] at hr; cases hr
        exact number_range b most u m hsz hp k3 hu w
      · rw [if_neg (show ¬ most < decN u from hu)] at hr; cases hr
        exact number_ok b _ most u m hsz hp k3 k2 hu rfl w
  · rw [if_pos h0] at hr; cases hr
    exact number_err b er most hsz h0 w
end Go.Proofs.Ytkogechopdfleaa
