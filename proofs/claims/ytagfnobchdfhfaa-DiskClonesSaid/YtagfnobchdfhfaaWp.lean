import Derived.Test.YtagfnobchdfhfaaWo
namespace Go.Proofs.Ytagfnobchdfhfaa
set_option linter.unusedSimpArgs false
set_option linter.unnecessarySimpa false
set_option linter.unusedVariables false
open Go.RowKit
attribute [local go_sem ↓] Go.wp_at_zero Go.wp_at_succ

theorem st_crash_new {w0 w : World} {D : Nat} {d : DM} (x : Int) (h : St w0 D d w) (hp : d.pend.length ≤ 1000) :
    Calls Try.prog 17 #[.pointer (some ⟨D, 0, none⟩), .slice (some ⟨w.heap.size, 0, none⟩) 1 1] (w.alloc (.cells #[.int .i64 x] 3)) fun e w' => e = .returned (.tuple #[]) ∧ St w0 D (crashF d [x]) w' := by
  obtain ⟨S, h⟩ := h
  have h1 : StS w0 S D d (w.alloc (.cells #[.int .i64 x] 3)) := h.same ((Below.refl _ _).alloc (Nat.le_refl _) _)
  obtain ⟨_, _, _, _, hk⟩ := h1.dk
  refine (crash_walk [x] (some ⟨w.heap.size, 0, none⟩) 1 hk hp (fun i hi => ?_) (fun k hk => (h1.bd k hk).2)).mono fun _ _ ⟨he, ht, hd⟩ => ⟨he, (h1.next ht (hd.mono fun k hk => .inl hk)).st⟩
  have hi0 : i = 0 := by simp at hi; exact hi
  subst hi0
  exact ⟨_, rfl, fun hs => absurd (h.bd _ hs).2 (by simp), World.cell?_alloc_mark ..⟩
/-- a new disk, for a law -/
theorem st_new (n : Nat) (h0 : 0 < n) (h1 : n ≤ 1024) (w : World) : Calls Try.prog 19 #[.int .i64 (n : Int)] w fun e w' => e = .returned (.tuple #[.pointer (some ⟨w.heap.size + 1, 0, none⟩), .int .i64 0]) ∧ St w (w.heap.size + 1) (dm0 n) w' :=
  (new_walk n h0 h1 w).mono fun _ _ ⟨he, hb, hd⟩ => ⟨he, _, hd.bound, hb, fun _ hk => hk⟩
theorem wrap_small (x : Int) (h : 0 ≤ x) (h' : x < 1000000) : IntKind.i64.wrap x = x := IntWalk.i64_in _ (by omega)
def d1A (s : ByteArray) : DM := { dm0 2 with wn := 1, pend := [(0, s)] }
def d2A (s : ByteArray) : DM := { dm0 2 with wn := 1, pend := [(0, s)], r := 1 }
theorem aw1 (s : ByteArray) (hs : s.size = 64) : writeF (dm0 2) 0 s = (0, d1A s) := by
  have h := wrap_small (0 + 1) (by decide) (by decide)
  simp [writeF, inside, stepF, dm0, hs, d1A] at *
  exact h
theorem aw2 (s : ByteArray) : readF (d1A s) 0 = ((s, 0), d2A s) := by
  have h := wrap_small (0 + 1) (by decide) (by decide)
  simp [readF, inside, d1A, d2A, dm0, content, lastOf] at *
  exact h
theorem aw3 : readF (crashF (d2A (fullB ⟨#[97, 97, 97, 97, 97, 97]⟩)) [3]) 0 = ((fullB ⟨#[97, 97, 97]⟩, 0), { crashF (d2A (fullB ⟨#[97, 97, 97, 97, 97, 97]⟩)) [3] with r := 2 }) := by
  have h := wrap_small (1 + 1) (by decide) (by decide)
  have e : content (crashF (d2A (fullB ⟨#[97, 97, 97, 97, 97, 97]⟩)) [3]) 0 = fullB ⟨#[97, 97, 97]⟩ := by rfl
  have i : inside (crashF (d2A (fullB ⟨#[97, 97, 97, 97, 97, 97]⟩)) [3]) 0 = true := by rfl
  have f : (crashF (d2A (fullB ⟨#[97, 97, 97, 97, 97, 97]⟩)) [3]).failed = false := rfl
  have g : (crashF (d2A (fullB ⟨#[97, 97, 97, 97, 97, 97]⟩)) [3]).bad.getD (0 : Int).toNat false = false := rfl
  unfold readF
  rw [i, f, g]
  have e' : content (crashF (d2A (fullB ⟨#[97, 97, 97, 97, 97, 97]⟩)) [3]) (0 : Int).toNat = fullB ⟨#[97, 97, 97]⟩ := e
  have r1 : (crashF (d2A (fullB ⟨#[97, 97, 97, 97, 97, 97]⟩)) [3]).r = 1 := rfl
  rw [e', r1, h]
  rfl
set_option maxRecDepth 100000 in
theorem awake_walk (w : World) : Calls Try.prog 10 #[] w fun e w' => e = .returned (.bool true) ∧ Below w.heap.size w w' := by
  obtain ⟨s, hs⟩ : ∃ s, fullB ⟨#[97, 97, 97, 97, 97, 97]⟩ = s := ⟨_, rfl⟩
  have h64 : s.size = 64 := by rw [← hs]; exact fullB_size _
  have H1 := Lib.hid (aw1 s h64)
  have H2 := Lib.hid (aw2 s)
  have H3 := aw3
  rw [hs] at H3
  have H3 := Lib.hid H3
  have HS := Lib.hid hs
  clear h64 hs
  go_enter Try.func10, Try.ntmps10
  go_wp2_with fail
  refine (st_new 2 (by decide) (by decide) w).mono ?_; rintro e w1 ⟨rfl, h1⟩
  have G1 := Lib.hid h1
  clear h1
  go_wp2_with fail
  refine (full_ref _ _ (by decide)).mono ?_; rintro e _ ⟨rfl, rfl⟩
  rw [HS.out]
  go_wp2_with fail
  refine (st_write 0 s G1.out (by decide) (by decide) _ _ H1.out).mono ?_; rintro e w2 ⟨rfl, h2⟩
  have G2 := Lib.hid h2
  clear h2
  go_wp2_with fail
  refine (st_read 0 G2.out (by simp [d1A]) _ H2.out).mono ?_; rintro e w3 ⟨rfl, h3⟩
  have G3 := Lib.hid h3
  clear h3
  go_wp2_with fail
  refine (st_pending G3.out).mono ?_; rintro e _ ⟨rfl, rfl⟩
  go_wp2_with fail
  refine (st_crash_new 3 G3.out (by simp [d2A])).mono ?_; rintro e w4 ⟨rfl, h4⟩
  have G4 := Lib.hid h4
  clear h4
  go_wp2_with fail
  refine (st_read 0 G4.out (Nat.zero_le 1000) _ H3.out).mono ?_; rintro e w5 ⟨rfl, h5⟩
  have G5 := Lib.hid h5
  clear h5
  go_wp2_with fail
  refine (full_ref _ _ (by decide)).mono ?_; rintro e _ ⟨rfl, rfl⟩
  go_wp2_with fail
  refine (st_counts G5.out).mono ?_; rintro e w6 ⟨rfl, h6⟩
  have G6 := Lib.hid h6
  clear h6
  go_wp2_with fail
  go_ret
  exact ⟨rfl, G6.out.below⟩
end Go.Proofs.Ytagfnobchdfhfaa
