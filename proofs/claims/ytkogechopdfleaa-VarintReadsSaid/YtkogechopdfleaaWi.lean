import Derived.Test.YtkogechopdfleaaWh
namespace Go.Proofs.Ytkogechopdfleaa
open Go.RowKit

def noB : ByteArray := ⟨#[]⟩
/-- a reading of n bytes -/
def takeS (n : Int) (b : ByteArray) (er : Int) : ByteArray × Int × ByteArray :=
  if er ≠ 0 then (b, er, noB) else if n < 0 then (b, 2, noB) else if b.size < n then (b, 12, noB) else (b.extract n.toNat b.size, 0, b.extract 0 n.toNat)
set_option maxRecDepth 10000 in
set_option maxHeartbeats 400000 in
theorem take_walk (B b er) (n : Int) (b' er' s) (hr : takeS n b er = (b', er', s)) (w : World) (h : IsR w B b er) : Calls Try.prog 28 #[.pointer (some ⟨B, 0, none⟩), .int .i64 n] w fun e w' => e = .returned (.string s) ∧ IsR w' B b' er' ∧ Frm B w w' := by
  have hc0 := h.cell0
  have hc1 := h.cell1
  have hf0 := h.frozen 0
  have HR := Lib.hid h
  by_cases h0 : er = 0
  · subst h0
    by_cases h1 : n < 0
    · have E : takeS n b 0 = (b, 2, noB) := by unfold takeS; simp only [if_pos h1]; rfl
      rw [E] at hr; cases hr
      clear E h
      go_enter Try.func28, Try.ntmps28
      go_wp2_with fail
      refine (fail_walk B b 0 2 _ (by exact HR.out)).mono ?_; rintro e w2 ⟨rfl, hi2, hf2⟩
      have HI := Lib.hid hi2
      have HF := Lib.hid hf2
      clear hi2 hf2
      go_wp2_with fail
      go_ret
      exact ⟨rfl, HI.out, HF.out⟩
    · by_cases h2 : (b.size : Int) < n
      · have E : takeS n b 0 = (b, 12, noB) := by unfold takeS; simp only [if_neg h1, if_pos h2]; rfl
        rw [E] at hr; cases hr
        clear E h
        go_enter Try.func28, Try.ntmps28
        go_wp2_with fail
        refine (fail_walk B b 0 12 _ (by exact HR.out)).mono ?_; rintro e w2 ⟨rfl, hi2, hf2⟩
        have HI := Lib.hid hi2
        have HF := Lib.hid hf2
        clear hi2 hf2
        go_wp2_with fail
        go_ret
        exact ⟨rfl, HI.out, HF.out⟩
      · have E : takeS n b 0 = (b.extract n.toNat b.size, 0, b.extract 0 n.toNat) := by unfold takeS; simp only [if_neg h1, if_neg h2]; rfl
        rw [E] at hr; cases hr
        clear E h
        obtain ⟨k, rfl⟩ : ∃ k : Nat, n = k := ⟨n.toNat, by omega⟩
        have hk : k ≤ b.size := by omega
        clear h1 h2
        go_enter Try.func28, Try.ntmps28
        go_wp2_with fail
        go_ret
        exact ⟨rfl, HR.out.set0 _, fun N hN => (Below.refl _ _).setCell hN _⟩
  · have E : takeS n b er = (b, er, noB) := by unfold takeS; rw [if_pos h0]
    rw [E] at hr; cases hr
    clear E h
    go_enter Try.func28, Try.ntmps28
    go_wp2_with fail
    go_ret
    exact ⟨rfl, HR.out, Frm.refl _ _⟩
theorem Frm.trans {B w w1 w2} (h1 : Frm B w w1) (h2 : Frm B w1 w2) : Frm B w w2 := fun N hN => (h1 N hN).trans (h2 N hN)

def textS (most : Int) (b : ByteArray) (er : Int) : ByteArray × Int × ByteArray :=
  match readS decN 0 most b er with
  | (b1, er1, n) => match takeS n b1 er1 with
    | (b2, er2, s) => if er2 ≠ 0 then (b, er2, noB) else (b2, er2, s)
set_option maxRecDepth 10000 in
set_option maxHeartbeats 400000 in
theorem text_walk (B b er) (most : Int) (b' er' s) (hr : textS most b er = (b', er', s)) (w : World) (h : IsR w B b er) : Calls Try.prog 25 #[.pointer (some ⟨B, 0, none⟩), .int .i64 most] w fun e w' => e = .returned (.string s) ∧ IsR w' B b' er' ∧ Frm B w w' := by
  have hc0 := h.cell0
  have HR := Lib.hid h
  obtain ⟨b1, er1, n, h1⟩ : ∃ b1 er1 n, readS decN 0 most b er = (b1, er1, n) := ⟨_, _, _, rfl⟩
  obtain ⟨b2, er2, s2, h2⟩ : ∃ b2 er2 s2, takeS n b1 er1 = (b2, er2, s2) := ⟨_, _, _, rfl⟩
  have E : textS most b er = if er2 ≠ 0 then (b, er2, noB) else (b2, er2, s2) := by unfold textS; rw [h1]; simp only [h2]
  rw [E] at hr
  have H1 := Lib.hid h1
  have H2 := Lib.hid h2
  clear h1 h2 E h
  by_cases h0 : er2 = 0
  · rw [if_neg (by simp [h0])] at hr
    rw [Prod.mk.injEq, Prod.mk.injEq] at hr
    obtain ⟨e1, e2, e3⟩ := hr
    subst e1 e2 e3
    go_enter Try.func25, Try.ntmps25
    go_wp2_with fail
    refine (rnum_walk B b er most b1 er1 n (by exact H1.out) _ (by exact HR.out)).mono ?_; rintro e w2 ⟨rfl, hi2, hf2⟩
    have HI := Lib.hid hi2
    have HF := Lib.hid hf2
    clear hi2 hf2
    go_wp2_with fail
    refine (take_walk B b1 er1 n b2 er2 s2 (by exact H2.out) _ (by exact HI.out)).mono ?_; rintro e w3 ⟨rfl, hi3, hf3⟩
    have hc1 := hi3.cell1
    have HI3 := Lib.hid hi3
    have HF3 := Lib.hid hf3
    clear hi3 hf3
    go_wp2_with fail
    go_ret
    exact ⟨rfl, HI3.out, HF.out.trans HF3.out⟩
  · rw [if_pos h0] at hr
    rw [Prod.mk.injEq, Prod.mk.injEq] at hr
    obtain ⟨e1, e2, e3⟩ := hr
    subst e1 e2 e3
    go_enter Try.func25, Try.ntmps25
    go_wp2_with fail
    refine (rnum_walk B b er most b1 er1 n (by exact H1.out) _ (by exact HR.out)).mono ?_; rintro e w2 ⟨rfl, hi2, hf2⟩
    have HI := Lib.hid hi2
    have HF := Lib.hid hf2
    clear hi2 hf2
    go_wp2_with fail
    refine (take_walk B b1 er1 n b2 er2 s2 (by exact H2.out) _ (by exact HI.out)).mono ?_; rintro e w3 ⟨rfl, hi3, hf3⟩
    have hc1 := hi3.cell1
    have hf0 := hi3.frozen 0
    have hc3 := hi3.cell0
    have HI3 := Lib.hid hi3
    have HF3 := Lib.hid hf3
    clear hi3 hf3
    go_wp2_with fail
    go_ret
    exact ⟨rfl, HI3.out.set0 b, (HF.out.trans HF3.out).trans fun N hN => (Below.refl _ _).setCell hN _⟩
def endS (b : ByteArray) (er : Int) : Int := if er = 0 ∧ b.data.toList ≠ [] then 12 else er
theorem end_walk (B b er) (er') (hr : endS b er = er') (w : World) (h : IsR w B b er) : Calls Try.prog 23 #[.pointer (some ⟨B, 0, none⟩)] w fun e w' => e = .returned (.int .i64 er') ∧ IsR w' B b er' ∧ Frm B w w' := by
  have hc0 := h.cell0
  have hc1 := h.cell1
  have HR := Lib.hid h
  by_cases h0 : er = 0
  · by_cases hl : b.data.toList = []
    · have E : endS b er = er := by unfold endS; rw [if_neg (by simp [hl])]
      rw [E] at hr; subst hr; subst h0
      have he : b.toList.isEmpty = true := by rw [ByteArray.toList_eq, hl]; rfl
      clear E hl h
      go_enter Try.func23, Try.ntmps23
      go_wp2_with fail
      go_ret
      exact ⟨rfl, HR.out, Frm.refl _ _⟩
    · have E : endS b er = 12 := by unfold endS; rw [if_pos ⟨h0, hl⟩]
      rw [E] at hr; subst hr; subst h0
      have he : b.toList.isEmpty = false := by
        rw [ByteArray.toList_eq]
        cases hq : b.data.toList with
        | nil => exact absurd hq hl
        | cons => rfl
      clear E hl h
      go_enter Try.func23, Try.ntmps23
      go_wp2_with fail
      refine (fail_walk B b 0 12 _ (by exact HR.out)).mono ?_; rintro e w2 ⟨rfl, hi2, hf2⟩
      have hc1 := hi2.cell1
      have HI := Lib.hid hi2
      have HF := Lib.hid hf2
      clear hi2 hf2
      go_wp2_with fail
      go_ret
      exact ⟨rfl, HI.out, HF.out⟩
  · have E : endS b er = er := by unfold endS; rw [if_neg (by simp [h0])]
    rw [E] at hr; subst hr
    clear E h
    go_enter Try.func23, Try.ntmps23
    go_wp2_with fail
    go_ret
    exact ⟨rfl, HR.out, Frm.refl _ _⟩
end Go.Proofs.Ytkogechopdfleaa
