import Derived.Test.YtkogechopdfleaaWz
namespace Go.Proofs.Ytkogechopdfleaa
open Go.RowKit

/-- of the memory that was there, block B alone is changed -/
structure Frn (B : Nat) (w w' : World) : Prop where
  low : ∀ N, N ≤ B → Below N w w'
  far : ∀ c, c ≠ B → c < w.heap.size → w'.heap[c]? = w.heap[c]?
  size : w.heap.size ≤ w'.heap.size
theorem Frn.refl (B w) : Frn B w w := ⟨fun _ _ => Below.refl _ _, fun _ _ _ => rfl, Nat.le_refl _⟩
theorem Frn.trans {B w w1 w2} (h1 : Frn B w w1) (h2 : Frn B w1 w2) : Frn B w w2 :=
  ⟨fun N hN => (h1.low N hN).trans (h2.low N hN), fun c hc hl => (h2.far c hc (Nat.lt_of_lt_of_le hl h1.size)).trans (h1.far c hc hl), Nat.le_trans h1.size h2.size⟩
theorem Frn.set {B i : Nat} {w : World} {v : Value} : Frn B w (w.setCell ⟨B, i, none⟩ v) :=
  ⟨fun N hN => (Below.refl _ _).setCell hN _, fun c hc _ => Below.heap_setCell w ⟨B, i, none⟩ v c hc, by simp⟩
theorem Frn.alloc {B w} (h : B < w.heap.size) (o : Obj) : Frn B w (w.alloc o) :=
  ⟨fun N hN => (Below.refl _ _).alloc (by omega) o, fun c _ hl => Below.heap_alloc w o c hl, by simp⟩
theorem fail_walkX (B b er) (x : Int) (w : World) (h : IsR w B b er) : Calls Try.prog 33 #[.pointer (some ⟨B, 0, none⟩), .int .i64 x] w fun e w' => e = .returned (.tuple #[]) ∧ IsR w' B b x ∧ Frn B w w' := by
  have HR := Lib.hid h
  have hc := h.cell1
  have hf := h.frozen 1
  clear h
  go_enter Try.func33, Try.ntmps33
  go_wp2_with fail
  go_end0
  exact ⟨rfl, HR.out.set1 x, Frn.set⟩
set_option maxRecDepth 10000 in
set_option maxHeartbeats 400000 in
theorem read32X (B b er) (lo hi : Int) (b' er' n) (hr : readS decN lo hi b er = (b', er', n)) (w : World) (h : IsR w B b er) : Calls Try.prog 31 #[.pointer (some ⟨B, 0, none⟩), .func (.func 32) #[] #[], .int .i64 lo, .int .i64 hi] w fun e w' => e = .returned (.int .i64 n) ∧ IsR w' B b' er' ∧ Frn B w w' := by
  have hc0 := h.cell0
  have hc1 := h.cell1
  have hf0 := h.frozen 0
  have HR := Lib.hid h
  by_cases h0 : er = 0
  · subst h0
    rcases hp : peekF b.data.toList with _ | ⟨u, m⟩
    · have E : readS decN lo hi b 0 = (b, 12, 0) := by unfold readS; rw [hp]; rfl
      rw [E] at hr; cases hr
      have HP := Lib.hid hp
      clear E hp h
      go_enter Try.func31, Try.ntmps31
      go_wp2_with fail
      refine (peek_walk B b 0 _ rfl none (by exact HP.out) _ (by exact HR.out)).mono ?_; rintro e _ ⟨rfl, rfl⟩
      simp only [peekE]
      go_wp2_with fail
      refine (dec32 0 (by decide) _).mono ?_; rintro e _ ⟨rfl, rfl⟩
      go_wp2_with fail
      refine (fail_walkX B b 0 12 _ (by exact HR.out)).mono ?_; rintro e w2 ⟨rfl, hi2, hf2⟩
      have HI := Lib.hid hi2
      have HF := Lib.hid hf2
      clear hi2 hf2
      go_wp2_with fail
      go_ret
      exact ⟨rfl, HI.out, HF.out⟩
    · have hb := num_peek _ _ _ hp
      have hu := hb.1
      have hm : m ≤ b.size := hb.2.1
      have HP := Lib.hid hp
      by_cases h1 : decN u < lo
      · have E : readS decN lo hi b 0 = (b, 2, 0) := by unfold readS; rw [hp]; simp only [if_pos h1]; rfl
        rw [E] at hr; cases hr
        clear E hp h hb
        go_enter Try.func31, Try.ntmps31
        go_wp2_with fail
        refine (peek_walk B b 0 _ rfl _ (by exact HP.out) _ (by exact HR.out)).mono ?_; rintro e _ ⟨rfl, rfl⟩
        simp only [peekE]
        go_wp2_with fail
        refine (dec32 u hu _).mono ?_; rintro e _ ⟨rfl, rfl⟩
        go_wp2_with fail
        refine (fail_walkX B b 0 2 _ (by exact HR.out)).mono ?_; rintro e w2 ⟨rfl, hi2, hf2⟩
        have HI := Lib.hid hi2
        have HF := Lib.hid hf2
        clear hi2 hf2
        go_wp2_with fail
        go_ret
        exact ⟨rfl, HI.out, HF.out⟩
      · by_cases h2 : hi < decN u
        · have E : readS decN lo hi b 0 = (b, 2, 0) := by unfold readS; rw [hp]; simp only [if_neg h1, if_pos h2]; rfl
          rw [E] at hr; cases hr
          clear E hp h hb
          go_enter Try.func31, Try.ntmps31
          go_wp2_with fail
          refine (peek_walk B b 0 _ rfl _ (by exact HP.out) _ (by exact HR.out)).mono ?_; rintro e _ ⟨rfl, rfl⟩
          simp only [peekE]
          go_wp2_with fail
          refine (dec32 u hu _).mono ?_; rintro e _ ⟨rfl, rfl⟩
          go_wp2_with fail
          refine (fail_walkX B b 0 2 _ (by exact HR.out)).mono ?_; rintro e w2 ⟨rfl, hi2, hf2⟩
          have HI := Lib.hid hi2
          have HF := Lib.hid hf2
          clear hi2 hf2
          go_wp2_with fail
          go_ret
          exact ⟨rfl, HI.out, HF.out⟩
        · have E : readS decN lo hi b 0 = (b.extract m b.size, 0, decN u) := by unfold readS; rw [hp]; simp only [if_neg h1, if_neg h2]; rfl
          rw [E] at hr; cases hr
          clear E hp h hb
          go_enter Try.func31, Try.ntmps31
          go_wp2_with fail
          refine (peek_walk B b 0 _ rfl _ (by exact HP.out) _ (by exact HR.out)).mono ?_; rintro e _ ⟨rfl, rfl⟩
          simp only [peekE]
          go_wp2_with fail
          refine (dec32 u hu _).mono ?_; rintro e _ ⟨rfl, rfl⟩
          go_wp2_with fail
          go_ret
          exact ⟨rfl, HR.out.set0 _, Frn.set⟩
  · have E : readS decN lo hi b er = (b, er, 0) := by unfold readS; rw [if_pos h0]
    rw [E] at hr; cases hr
    clear E h
    go_enter Try.func31, Try.ntmps31
    go_wp2_with fail
    go_ret
    exact ⟨rfl, HR.out, Frn.refl _ _⟩
theorem rnum_walkX (B b er) (hi : Int) (b' er' n) (hr : readS decN 0 hi b er = (b', er', n)) (w : World) (h : IsR w B b er) : Calls Try.prog 21 #[.pointer (some ⟨B, 0, none⟩), .int .i64 hi] w fun e w' => e = .returned (.int .i64 n) ∧ IsR w' B b' er' ∧ Frn B w w' := by
  have HH := Lib.hid h
  have HR := Lib.hid hr
  clear h hr
  go_enter Try.func21, Try.ntmps21
  go_wp2_with fail
  refine (read32X B b er 0 hi b' er' n (by exact HR.out) _ (by exact HH.out)).mono ?_; rintro e w2 ⟨rfl, hi2, hf2⟩
  have HI := Lib.hid hi2
  have HF := Lib.hid hf2
  clear hi2 hf2
  go_wp2_with fail
  go_ret
  exact ⟨rfl, HI.out, HF.out⟩

set_option maxRecDepth 10000 in
set_option maxHeartbeats 400000 in
theorem read34X (B b er) (lo hi : Int) (b' er' n) (hr : readS decI lo hi b er = (b', er', n)) (w : World) (h : IsR w B b er) : Calls Try.prog 31 #[.pointer (some ⟨B, 0, none⟩), .func (.func 34) #[] #[], .int .i64 lo, .int .i64 hi] w fun e w' => e = .returned (.int .i64 n) ∧ IsR w' B b' er' ∧ Frn B w w' := by
  have hc0 := h.cell0
  have hc1 := h.cell1
  have hf0 := h.frozen 0
  have HR := Lib.hid h
  by_cases h0 : er = 0
  · subst h0
    rcases hp : peekF b.data.toList with _ | ⟨u, m⟩
    · have E : readS decI lo hi b 0 = (b, 12, 0) := by unfold readS; rw [hp]; rfl
      rw [E] at hr; cases hr
      have HP := Lib.hid hp
      clear E hp h
      go_enter Try.func31, Try.ntmps31
      go_wp2_with fail
      refine (peek_walk B b 0 _ rfl none (by exact HP.out) _ (by exact HR.out)).mono ?_; rintro e _ ⟨rfl, rfl⟩
      simp only [peekE]
      go_wp2_with fail
      refine (dec34 0 (by decide) _).mono ?_; rintro e _ ⟨rfl, rfl⟩
      go_wp2_with fail
      refine (fail_walkX B b 0 12 _ (by exact HR.out)).mono ?_; rintro e w2 ⟨rfl, hi2, hf2⟩
      have HI := Lib.hid hi2
      have HF := Lib.hid hf2
      clear hi2 hf2
      go_wp2_with fail
      go_ret
      exact ⟨rfl, HI.out, HF.out⟩
    · have hb := num_peek _ _ _ hp
      have hu := hb.1
      have hm : m ≤ b.size := hb.2.1
      have HP := Lib.hid hp
      by_cases h1 : decI u < lo
      · have E : readS decI lo hi b 0 = (b, 2, 0) := by unfold readS; rw [hp]; simp only [if_pos h1]; rfl
        rw [E] at hr; cases hr
        clear E hp h hb
        go_enter Try.func31, Try.ntmps31
        go_wp2_with fail
        refine (peek_walk B b 0 _ rfl _ (by exact HP.out) _ (by exact HR.out)).mono ?_; rintro e _ ⟨rfl, rfl⟩
        simp only [peekE]
        go_wp2_with fail
        refine (dec34 u hu _).mono ?_; rintro e _ ⟨rfl, rfl⟩
        go_wp2_with fail
        refine (fail_walkX B b 0 2 _ (by exact HR.out)).mono ?_; rintro e w2 ⟨rfl, hi2, hf2⟩
        have HI := Lib.hid hi2
        have HF := Lib.hid hf2
        clear hi2 hf2
        go_wp2_with fail
        go_ret
        exact ⟨rfl, HI.out, HF.out⟩
      · by_cases h2 : hi < decI u
        · have E : readS decI lo hi b 0 = (b, 2, 0) := by unfold readS; rw [hp]; simp only [if_neg h1, if_pos h2]; rfl
          rw [E] at hr; cases hr
          clear E hp h hb
          go_enter Try.func31, Try.ntmps31
          go_wp2_with fail
          refine (peek_walk B b 0 _ rfl _ (by exact HP.out) _ (by exact HR.out)).mono ?_; rintro e _ ⟨rfl, rfl⟩
          simp only [peekE]
          go_wp2_with fail
          refine (dec34 u hu _).mono ?_; rintro e _ ⟨rfl, rfl⟩
          go_wp2_with fail
          refine (fail_walkX B b 0 2 _ (by exact HR.out)).mono ?_; rintro e w2 ⟨rfl, hi2, hf2⟩
          have HI := Lib.hid hi2
          have HF := Lib.hid hf2
          clear hi2 hf2
          go_wp2_with fail
          go_ret
          exact ⟨rfl, HI.out, HF.out⟩
        · have E : readS decI lo hi b 0 = (b.extract m b.size, 0, decI u) := by unfold readS; rw [hp]; simp only [if_neg h1, if_neg h2]; rfl
          rw [E] at hr; cases hr
          clear E hp h hb
          go_enter Try.func31, Try.ntmps31
          go_wp2_with fail
          refine (peek_walk B b 0 _ rfl _ (by exact HP.out) _ (by exact HR.out)).mono ?_; rintro e _ ⟨rfl, rfl⟩
          simp only [peekE]
          go_wp2_with fail
          refine (dec34 u hu _).mono ?_; rintro e _ ⟨rfl, rfl⟩
          go_wp2_with fail
          go_ret
          exact ⟨rfl, HR.out.set0 _, Frn.set⟩
  · have E : readS decI lo hi b er = (b, er, 0) := by unfold readS; rw [if_pos h0]
    rw [E] at hr; cases hr
    clear E h
    go_enter Try.func31, Try.ntmps31
    go_wp2_with fail
    go_ret
    exact ⟨rfl, HR.out, Frn.refl _ _⟩
theorem rint_walkX (B b er) (lo hi : Int) (b' er' n) (hr : readS decI lo hi b er = (b', er', n)) (w : World) (h : IsR w B b er) : Calls Try.prog 24 #[.pointer (some ⟨B, 0, none⟩), .int .i64 lo, .int .i64 hi] w fun e w' => e = .returned (.int .i64 n) ∧ IsR w' B b' er' ∧ Frn B w w' := by
  have HH := Lib.hid h
  have HR := Lib.hid hr
  clear h hr
  go_enter Try.func24, Try.ntmps24
  go_wp2_with fail
  refine (read34X B b er lo hi b' er' n (by exact HR.out) _ (by exact HH.out)).mono ?_; rintro e w2 ⟨rfl, hi2, hf2⟩
  have HI := Lib.hid hi2
  have HF := Lib.hid hf2
  clear hi2 hf2
  go_wp2_with fail
  go_ret
  exact ⟨rfl, HI.out, HF.out⟩
set_option maxRecDepth 10000 in
set_option maxHeartbeats 400000 in
theorem take_walkX (B b er) (n : Int) (b' er' s) (hr : takeS n b er = (b', er', s)) (w : World) (h : IsR w B b er) : Calls Try.prog 28 #[.pointer (some ⟨B, 0, none⟩), .int .i64 n] w fun e w' => e = .returned (.string s) ∧ IsR w' B b' er' ∧ Frn B w w' := by
  have hc0 := h.cell0
  have hc1 := h.cell1
  have hf0 := h.frozen 0
  have HR := Lib.hid h
  by_cases h0 : er = 0
  · subst h0
    by_cases h1 : n < 0
    · have E : takeS n b 0 = (b, 2, noB) := by unfold takeS; simp only [if_pos h1]; rfl
      rw [E] at hr; cases hr
      clear E h
      go_enter Try.func28, Try.ntmps28
      go_wp2_with fail
      refine (fail_walkX B b 0 2 _ (by exact HR.out)).mono ?_; rintro e w2 ⟨rfl, hi2, hf2⟩
      have HI := Lib.hid hi2
      have HF := Lib.hid hf2
      clear hi2 hf2
      go_wp2_with fail
      go_ret
      exact ⟨rfl, HI.out, HF.out⟩
    · by_cases h2 : (b.size : Int) < n
      · have E : takeS n b 0 = (b, 12, noB) := by unfold takeS; simp only [if_neg h1, if_pos h2]; rfl
        rw [E] at hr; cases hr
        clear E h
        go_enter Try.func28, Try.ntmps28
        go_wp2_with fail
        refine (fail_walkX B b 0 12 _ (by exact HR.out)).mono ?_; rintro e w2 ⟨rfl, hi2, hf2⟩
        have HI := Lib.hid hi2
        have HF := Lib.hid hf2
        clear hi2 hf2
        go_wp2_with fail
        go_ret
        exact ⟨rfl, HI.out, HF.out⟩
      · have E : takeS n b 0 = (b.extract n.toNat b.size, 0, b.extract 0 n.toNat) := by unfold takeS; simp only [if_neg h1, if_neg h2]; rfl
        rw [E] at hr; cases hr
        clear E h
        obtain ⟨k, rfl⟩ : ∃ k : Nat, n = k := ⟨n.toNat, by omega⟩
        have hk : k ≤ b.size := by omega
        clear h1 h2
        go_enter Try.func28, Try.ntmps28
        go_wp2_with fail
        go_ret
        exact ⟨rfl, HR.out.set0 _, Frn.set⟩
  · have E : takeS n b er = (b, er, noB) := by unfold takeS; rw [if_pos h0]
    rw [E] at hr; cases hr
    clear E h
    go_enter Try.func28, Try.ntmps28
    go_wp2_with fail
    go_ret
    exact ⟨rfl, HR.out, Frn.refl _ _⟩

set_option maxRecDepth 10000 in
set_option maxHeartbeats 400000 in
theorem text_walkX (B b er) (most : Int) (b' er' s) (hr : textS most b er = (b', er', s)) (w : World) (h : IsR w B b er) : Calls Try.prog 25 #[.pointer (some ⟨B, 0, none⟩), .int .i64 most] w fun e w' => e = .returned (.string s) ∧ IsR w' B b' er' ∧ Frn B w w' := by
  have hc0 := h.cell0
  have HR := Lib.hid h
  obtain ⟨b1, er1, n, h1⟩ : ∃ b1 er1 n, readS decN 0 most b er = (b1, er1, n) := ⟨_, _, _, rfl⟩
  obtain ⟨b2, er2, s2, h2⟩ : ∃ b2 er2 s2, takeS n b1 er1 = (b2, er2, s2) := ⟨_, _, _, rfl⟩
  have E : textS most b er = if er2 ≠ 0 then (b, er2, noB) else (b2, er2, s2) := by unfold textS; rw [h1]; simp only [h2]
  rw [E] at hr
  have H1 := Lib.hid h1
  have H2 := Lib.hid h2
  clear h1 h2 E h
  by_cases h0 : er2 = 0
  · rw [if_neg (by simp [h0])] at hr
    rw [Prod.mk.injEq, Prod.mk.injEq] at hr
    obtain ⟨e1, e2, e3⟩ := hr
    subst e1 e2 e3
    go_enter Try.func25, Try.ntmps25
    go_wp2_with fail
    refine (rnum_walkX B b er most b1 er1 n (by exact H1.out) _ (by exact HR.out)).mono ?_; rintro e w2 ⟨rfl, hi2, hf2⟩
    have HI := Lib.hid hi2
    have HF := Lib.hid hf2
    clear hi2 hf2
    go_wp2_with fail
    refine (take_walkX B b1 er1 n b2 er2 s2 (by exact H2.out) _ (by exact HI.out)).mono ?_; rintro e w3 ⟨rfl, hi3, hf3⟩
    have hc1 := hi3.cell1
    have HI3 := Lib.hid hi3
    have HF3 := Lib.hid hf3
    clear hi3 hf3
    go_wp2_with fail
    go_ret
    exact ⟨rfl, HI3.out, HF.out.trans HF3.out⟩
  · rw [if_pos h0] at hr
    rw [Prod.mk.injEq, Prod.mk.injEq] at hr
    obtain ⟨e1, e2, e3⟩ := hr
    subst e1 e2 e3
    go_enter Try.func25, Try.ntmps25
    go_wp2_with fail
    refine (rnum_walkX B b er most b1 er1 n (by exact H1.out) _ (by exact HR.out)).mono ?_; rintro e w2 ⟨rfl, hi2, hf2⟩
    have HI := Lib.hid hi2
    have HF := Lib.hid hf2
    clear hi2 hf2
    go_wp2_with fail
    refine (take_walkX B b1 er1 n b2 er2 s2 (by exact H2.out) _ (by exact HI.out)).mono ?_; rintro e w3 ⟨rfl, hi3, hf3⟩
    have hc1 := hi3.cell1
    have hf0 := hi3.frozen 0
    have hc3 := hi3.cell0
    have HI3 := Lib.hid hi3
    have HF3 := Lib.hid hf3
    clear hi3 hf3
    go_wp2_with fail
    go_ret
    exact ⟨rfl, HI3.out.set0 b, (HF.out.trans HF3.out).trans Frn.set⟩
theorem end_walkX (B b er) (er') (hr : endS b er = er') (w : World) (h : IsR w B b er) : Calls Try.prog 23 #[.pointer (some ⟨B, 0, none⟩)] w fun e w' => e = .returned (.int .i64 er') ∧ IsR w' B b er' ∧ Frn B w w' := by
  have hc0 := h.cell0
  have hc1 := h.cell1
  have HR := Lib.hid h
  by_cases h0 : er = 0
  · by_cases hl : b.data.toList = []
    · have E : endS b er = er := by unfold endS; rw [if_neg (by simp [hl])]
      rw [E] at hr; subst hr; subst h0
      have he : b.toList.isEmpty = true := by rw [ByteArray.toList_eq, hl]; rfl
      clear E hl h
      go_enter Try.func23, Try.ntmps23
      go_wp2_with fail
      go_ret
      exact ⟨rfl, HR.out, Frn.refl _ _⟩
    · have E : endS b er = 12 := by unfold endS; rw [if_pos ⟨h0, hl⟩]
      rw [E] at hr; subst hr; subst h0
      have he : b.toList.isEmpty = false := by
        rw [ByteArray.toList_eq]
        cases hq : b.data.toList with
        | nil => exact absurd hq hl
        | cons => rfl
      clear E hl h
      go_enter Try.func23, Try.ntmps23
      go_wp2_with fail
      refine (fail_walkX B b 0 12 _ (by exact HR.out)).mono ?_; rintro e w2 ⟨rfl, hi2, hf2⟩
      have hc1 := hi2.cell1
      have HI := Lib.hid hi2
      have HF := Lib.hid hf2
      clear hi2 hf2
      go_wp2_with fail
      go_ret
      exact ⟨rfl, HI.out, HF.out⟩
  · have E : endS b er = er := by unfold endS; rw [if_neg (by simp [h0])]
    rw [E] at hr; subst hr
    clear E h
    go_enter Try.func23, Try.ntmps23
    go_wp2_with fail
    go_ret
    exact ⟨rfl, HR.out, Frn.refl _ _⟩
set_option maxRecDepth 100000 in
set_option maxHeartbeats 1000000 in
theorem do_walkX (B b er) (k lo hi : Int) (b' er' n s) (hr : doS k lo hi b er = (b', er', n, s)) (w : World) (h : IsR w B b er) : Calls Try.prog 26 #[.pointer (some ⟨B, 0, none⟩), .agg #[.int .i64 k, .int .i64 lo, .int .i64 hi]] w fun e w' => e = .returned (.tuple #[.int .i64 n, .string s]) ∧ IsR w' B b' er' ∧ Frn B w w' := by
  unfold doS at hr
  obtain ⟨j, hj⟩ : ∃ j, k % 8 = j := ⟨_, rfl⟩
  rw [hj] at hr
  by_cases h0 : j = 0
  · subst h0
    rw [if_pos rfl] at hr
    obtain ⟨⟨b1, e1, n1⟩, hq⟩ : ∃ q, readS decN 0 hi b er = q := ⟨_, rfl⟩
    rw [hq] at hr; cases hr
    have HQ := Lib.hid hq
    clear hq
    have HA : Hid (IsR (w.alloc (.cells #[.int .i64 k, .int .i64 lo, .int .i64 hi] 42)) B b er) := Lib.hid (h.alloc _)
    have HF0 : Hid (Frn B w (w.alloc (.cells #[.int .i64 k, .int .i64 lo, .int .i64 hi] 42))) := Lib.hid (Frn.alloc h.lt _)
    have hk7 := i64_and7 k
    rw [hj] at hk7
    clear h hj
    go_enter Try.func26, Try.ntmps26
    go_wp2_with fail
    refine (rnum_walkX B b er hi b1 e1 n1 (by exact HQ.out) _ (by exact HA.out)).mono ?_; rintro e w2 ⟨rfl, hi2, hf2⟩
    have HI := Lib.hid hi2
    have HF := Lib.hid (HF0.out.trans hf2)
    clear hi2 hf2
    go_wp2_with fail
    go_ret2
    exact ⟨rfl, HI.out, HF.out⟩
  rw [if_neg h0] at hr
  by_cases h1 : j = 1
  · subst h1
    rw [if_pos rfl] at hr
    obtain ⟨⟨b1, e1, n1⟩, hq⟩ : ∃ q, readS decI lo hi b er = q := ⟨_, rfl⟩
    rw [hq] at hr; cases hr
    have HQ := Lib.hid hq
    clear hq
    have HA : Hid (IsR (w.alloc (.cells #[.int .i64 k, .int .i64 lo, .int .i64 hi] 42)) B b er) := Lib.hid (h.alloc _)
    have HF0 : Hid (Frn B w (w.alloc (.cells #[.int .i64 k, .int .i64 lo, .int .i64 hi] 42))) := Lib.hid (Frn.alloc h.lt _)
    have hk7 := i64_and7 k
    rw [hj] at hk7
    clear h hj
    go_enter Try.func26, Try.ntmps26
    go_wp2_with fail
    refine (rint_walkX B b er lo hi b1 e1 n1 (by exact HQ.out) _ (by exact HA.out)).mono ?_; rintro e w2 ⟨rfl, hi2, hf2⟩
    have HI := Lib.hid hi2
    have HF := Lib.hid (HF0.out.trans hf2)
    clear hi2 hf2
    go_wp2_with fail
    go_ret2
    exact ⟨rfl, HI.out, HF.out⟩
  rw [if_neg h1] at hr
  by_cases h2 : j = 2
  · subst h2
    rw [if_pos rfl] at hr
    obtain ⟨⟨b1, e1, n1⟩, hq⟩ : ∃ q, takeS hi b er = q := ⟨_, rfl⟩
    rw [hq] at hr; cases hr
    have HQ := Lib.hid hq
    clear hq
    have HA : Hid (IsR (w.alloc (.cells #[.int .i64 k, .int .i64 lo, .int .i64 hi] 42)) B b er) := Lib.hid (h.alloc _)
    have HF0 : Hid (Frn B w (w.alloc (.cells #[.int .i64 k, .int .i64 lo, .int .i64 hi] 42))) := Lib.hid (Frn.alloc h.lt _)
    have hk7 := i64_and7 k
    rw [hj] at hk7
    clear h hj
    go_enter Try.func26, Try.ntmps26
    go_wp2_with fail
    refine (take_walkX B b er hi b1 e1 n1 (by exact HQ.out) _ (by exact HA.out)).mono ?_; rintro e w2 ⟨rfl, hi2, hf2⟩
    have HI := Lib.hid hi2
    have HF := Lib.hid (HF0.out.trans hf2)
    clear hi2 hf2
    go_wp2_with fail
    go_ret2
    exact ⟨rfl, HI.out, HF.out⟩
  rw [if_neg h2] at hr
  by_cases h3 : j = 3
  · subst h3
    rw [if_pos rfl] at hr
    obtain ⟨⟨b1, e1, n1⟩, hq⟩ : ∃ q, textS hi b er = q := ⟨_, rfl⟩
    rw [hq] at hr; cases hr
    have HQ := Lib.hid hq
    clear hq
    have HA : Hid (IsR (w.alloc (.cells #[.int .i64 k, .int .i64 lo, .int .i64 hi] 42)) B b er) := Lib.hid (h.alloc _)
    have HF0 : Hid (Frn B w (w.alloc (.cells #[.int .i64 k, .int .i64 lo, .int .i64 hi] 42))) := Lib.hid (Frn.alloc h.lt _)
    have hk7 := i64_and7 k
    rw [hj] at hk7
    clear h hj
    go_enter Try.func26, Try.ntmps26
    go_wp2_with fail
    refine (text_walkX B b er hi b1 e1 n1 (by exact HQ.out) _ (by exact HA.out)).mono ?_; rintro e w2 ⟨rfl, hi2, hf2⟩
    have HI := Lib.hid hi2
    have HF := Lib.hid (HF0.out.trans hf2)
    clear hi2 hf2
    go_wp2_with fail
    go_ret2
    exact ⟨rfl, HI.out, HF.out⟩
  rw [if_neg h3] at hr; cases hr
  have j0 : (j == 0) = false := by simpa using h0
  have j1 : (j == 1) = false := by simpa using h1
  have j2 : (j == 2) = false := by simpa using h2
  have j3 : (j == 3) = false := by simpa using h3
  clear h0 h1 h2 h3
  obtain ⟨e1, hq⟩ : ∃ e1, endS b er = e1 := ⟨_, rfl⟩
  rw [hq]
  have HQ := Lib.hid hq
  clear hq
  have HA : Hid (IsR (w.alloc (.cells #[.int .i64 k, .int .i64 lo, .int .i64 hi] 42)) B b er) := Lib.hid (h.alloc _)
  have HF0 : Hid (Frn B w (w.alloc (.cells #[.int .i64 k, .int .i64 lo, .int .i64 hi] 42))) := Lib.hid (Frn.alloc h.lt _)
  have hk7 := i64_and7 k
  rw [hj] at hk7
  clear h hj
  go_enter Try.func26, Try.ntmps26
  go_wp2_with fail
  refine (end_walkX B b er e1 (by exact HQ.out) _ (by exact HA.out)).mono ?_; rintro e w2 ⟨rfl, hi2, hf2⟩
  have HI := Lib.hid hi2
  have HF := Lib.hid (HF0.out.trans hf2)
  clear hi2 hf2
  go_wp2_with fail
  go_ret2
  exact ⟨rfl, HI.out, HF.out⟩
end Go.Proofs.Ytkogechopdfleaa
