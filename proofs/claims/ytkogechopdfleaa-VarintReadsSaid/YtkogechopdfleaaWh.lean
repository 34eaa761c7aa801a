import Derived.Test.YtkogechopdfleaaWg
namespace Go.Proofs.Ytkogechopdfleaa
open Go.RowKit

def decN (u : Nat) : Int := u
def decI (u : Nat) : Int := if u % 2 = 1 then -((u / 2 : Nat) : Int) - 1 else ((u / 2 : Nat) : Int)
/-- a reading of a number, decoded, within limits: what is left, the error, the number -/
def readS (dec : Nat → Int) (lo hi : Int) (b : ByteArray) (er : Int) : ByteArray × Int × Int :=
  if er ≠ 0 then (b, er, 0) else match peekF b.data.toList with
    | none => (b, 12, 0)
    | some (u, m) => if dec u < lo then (b, 2, 0) else if hi < dec u then (b, 2, 0) else (b.extract m b.size, 0, dec u)
theorem i64_and1 (n : Int) : bits .and .i64 n 1 = n % 2 := by
  have h127 : (BitVec.ofInt 64 1).toNat = 2 ^ 1 - 1 := by decide
  have key : (BitVec.ofInt 64 n &&& BitVec.ofInt 64 1).toNat = (n % ((2 ^ 64 : Nat) : Int)).toNat % 2 ^ 1 := by
    rw [BitVec.toNat_and, BitVec.toNat_ofInt, h127, Nat.and_two_pow_sub_one_eq_mod]
  show IntKind.i64.wrap ((BitVec.ofInt 64 n &&& BitVec.ofInt 64 1).toNat : Nat) = n % 2
  rw [key, IntKind.wrap_i64]
  omega
theorem i64_and7 (n : Int) : bits .and .i64 n 7 = n % 8 := by
  have h127 : (BitVec.ofInt 64 7).toNat = 2 ^ 3 - 1 := by decide
  have key : (BitVec.ofInt 64 n &&& BitVec.ofInt 64 7).toNat = (n % ((2 ^ 64 : Nat) : Int)).toNat % 2 ^ 3 := by
    rw [BitVec.toNat_and, BitVec.toNat_ofInt, h127, Nat.and_two_pow_sub_one_eq_mod]
  show IntKind.i64.wrap ((BitVec.ofInt 64 n &&& BitVec.ofInt 64 7).toNat : Nat) = n % 8
  rw [key, IntKind.wrap_i64]
  omega
theorem band1 (u : Nat) : bits BinOp.and IntKind.i64 (u : Int) 1 = ((u % 2 : Nat) : Int) := by
  rw [i64_and1]; omega
theorem dec32 (u : Nat) (hu : u < 2 ^ 63) (w : World) : Calls Try.prog 32 #[.int .i64 u] w fun e w' => e = .returned (.int .i64 (decN u)) ∧ w = w' := by
  go_enter Try.func32, Try.ntmps32
  go_wp2_with fail
  go_ret
  exact ⟨rfl, rfl⟩
theorem dec34 (u : Nat) (hu : u < 2 ^ 63) (w : World) : Calls Try.prog 34 #[.int .i64 u] w fun e w' => e = .returned (.int .i64 (decI u)) ∧ w = w' := by
  by_cases h : u % 2 = 1
  · have h1 : bits BinOp.and IntKind.i64 (u : Int) 1 = 1 := by rw [band1]; omega
    have h2 : decI u = -((u / 2 : Nat) : Int) - 1 := by unfold decI; rw [if_pos h]
    go_enter Try.func34, Try.ntmps34
    go_wp2_with fail
    go_ret
    exact ⟨ret_int (by rw [h2]; omega), rfl⟩
  · have h1 : bits BinOp.and IntKind.i64 (u : Int) 1 = 0 := by rw [band1]; omega
    have h2 : decI u = ((u / 2 : Nat) : Int) := by unfold decI; rw [if_neg h]
    go_enter Try.func34, Try.ntmps34
    go_wp2_with fail
    go_ret
    exact ⟨ret_int (by rw [h2]; omega), rfl⟩

set_option maxRecDepth 10000 in
set_option maxHeartbeats 400000 in
theorem read32 (B b er) (lo hi : Int) (b' er' n) (hr : readS decN lo hi b er = (b', er', n)) (w : World) (h : IsR w B b er) : Calls Try.prog 31 #[.pointer (some ⟨B, 0, none⟩), .func (.func 32) #[] #[], .int .i64 lo, .int .i64 hi] w fun e w' => e = .returned (.int .i64 n) ∧ IsR w' B b' er' ∧ Frm B w w' := by
  have hc0 := h.cell0
  have hc1 := h.cell1
  have hf0 := h.frozen 0
  have HR := Lib.hid h
  by_cases h0 : er = 0
  · subst h0
    rcases hp : peekF b.data.toList with _ | ⟨u, m⟩
    · have E : readS decN lo hi b 0 = (b, 12, 0) := by unfold readS; rw [hp]; rfl
      rw [E] at hr; cases hr
      have HP := Lib.hid hp
      clear E hp h
      go_enter Try.func31, Try.ntmps31
      go_wp2_with fail
      refine (peek_walk B b 0 _ rfl none (by exact HP.out) _ (by exact HR.out)).mono ?_; rintro e _ ⟨rfl, rfl⟩
      simp only [peekE]
      go_wp2_with fail
      refine (dec32 0 (by decide) _).mono ?_; rintro e _ ⟨rfl, rfl⟩
      go_wp2_with fail
      refine (fail_walk B b 0 12 _ (by exact HR.out)).mono ?_; rintro e w2 ⟨rfl, hi2, hf2⟩
      have HI := Lib.hid hi2
      have HF := Lib.hid hf2
      clear hi2 hf2
      go_wp2_with fail
      go_ret
      exact ⟨rfl, HI.out, HF.out⟩
    · have hb := num_peek _ _ _ hp
      have hu := hb.1
      have hm : m ≤ b.size := hb.2.1
      have HP := Lib.hid hp
      by_cases h1 : decN u < lo
      · have E : readS decN lo hi b 0 = (b, 2, 0) := by unfold readS; rw [hp]; simp only [if_pos h1]; rfl
        rw [E] at hr; cases hr
        clear E hp h hb
        go_enter Try.func31, Try.ntmps31
        go_wp2_with fail
        refine (peek_walk B b 0 _ rfl _ (by exact HP.out) _ (by exact HR.out)).mono ?_; rintro e _ ⟨rfl, rfl⟩
        simp only [peekE]
        go_wp2_with fail
        refine (dec32 u hu _).mono ?_; rintro e _ ⟨rfl, rfl⟩
        go_wp2_with fail
        refine (fail_walk B b 0 2 _ (by exact HR.out)).mono ?_; rintro e w2 ⟨rfl, hi2, hf2⟩
        have HI := Lib.hid hi2
        have HF := Lib.hid hf2
        clear hi2 hf2
        go_wp2_with fail
        go_ret
        exact ⟨rfl, HI.out, HF.out⟩
      · by_cases h2 : hi < decN u
        · have E : readS decN lo hi b 0 = (b, 2, 0) := by unfold readS; rw [hp]; simp only [if_neg h1, if_pos h2]; rfl
          rw [E] at hr; cases hr
          clear E hp h hb
          go_enter Try.func31, Try.ntmps31
          go_wp2_with fail
          refine (peek_walk B b 0 _ rfl _ (by exact HP.out) _ (by exact HR.out)).mono ?_; rintro e _ ⟨rfl, rfl⟩
          simp only [peekE]
          go_wp2_with fail
          refine (dec32 u hu _).mono ?_; rintro e _ ⟨rfl, rfl⟩
          go_wp2_with fail
          refine (fail_walk B b 0 2 _ (by exact HR.out)).mono ?_; rintro e w2 ⟨rfl, hi2, hf2⟩
          have HI := Lib.hid hi2
          have HF := Lib.hid hf2
          clear hi2 hf2
          go_wp2_with fail
          go_ret
          exact ⟨rfl, HI.out, HF.out⟩
        · have E : readS decN lo hi b 0 = (b.extract m b.size, 0, decN u) := by unfold readS; rw [hp]; simp only [if_neg h1, if_neg h2]; rfl
          rw [E] at hr; cases hr
          clear E hp h hb
          go_enter Try.func31, Try.ntmps31
          go_wp2_with fail
          refine (peek_walk B b 0 _ rfl _ (by exact HP.out) _ (by exact HR.out)).mono ?_; rintro e _ ⟨rfl, rfl⟩
          simp only [peekE]
          go_wp2_with fail
          refine (dec32 u hu _).mono ?_; rintro e _ ⟨rfl, rfl⟩
          go_wp2_with fail
          go_ret
          exact ⟨rfl, HR.out.set0 _, fun N hN => (Below.refl _ _).setCell hN _⟩
  · have E : readS decN lo hi b er = (b, er, 0) := by unfold readS; rw [if_pos h0]
    rw [E] at hr; cases hr
    clear E h
    go_enter Try.func31, Try.ntmps31
    go_wp2_with fail
    go_ret
    exact ⟨rfl, HR.out, Frm.refl _ _⟩
theorem rnum_walk (B b er) (hi : Int) (b' er' n) (hr : readS decN 0 hi b er = (b', er', n)) (w : World) (h : IsR w B b er) : Calls Try.prog 21 #[.pointer (some ⟨B, 0, none⟩), .int .i64 hi] w fun e w' => e = .returned (.int .i64 n) ∧ IsR w' B b' er' ∧ Frm B w w' := by
  have HH := Lib.hid h
  have HR := Lib.hid hr
  clear h hr
  go_enter Try.func21, Try.ntmps21
  go_wp2_with fail
  refine (read32 B b er 0 hi b' er' n (by exact HR.out) _ (by exact HH.out)).mono ?_; rintro e w2 ⟨rfl, hi2, hf2⟩
  have HI := Lib.hid hi2
  have HF := Lib.hid hf2
  clear hi2 hf2
  go_wp2_with fail
  go_ret
  exact ⟨rfl, HI.out, HF.out⟩

set_option maxRecDepth 10000 in
set_option maxHeartbeats 400000 in
theorem read34 (B b er) (lo hi : Int) (b' er' n) (hr : readS decI lo hi b er = (b', er', n)) (w : World) (h : IsR w B b er) : Calls Try.prog 31 #[.pointer (some ⟨B, 0, none⟩), .func (.func 34) #[] #[], .int .i64 lo, .int .i64 hi] w fun e w' => e = .returned (.int .i64 n) ∧ IsR w' B b' er' ∧ Frm B w w' := by
  have hc0 := h.cell0
  have hc1 := h.cell1
  have hf0 := h.frozen 0
  have HR := Lib.hid h
  by_cases h0 : er = 0
  · subst h0
    rcases hp : peekF b.data.toList with _ | ⟨u, m⟩
    · have E : readS decI lo hi b 0 = (b, 12, 0) := by unfold readS; rw [hp]; rfl
      rw [E] at hr; cases hr
      have HP := Lib.hid hp
      clear E hp h
      go_enter Try.func31, Try.ntmps31
      go_wp2_with fail
      refine (peek_walk B b 0 _ rfl none (by exact HP.out) _ (by exact HR.out)).mono ?_; rintro e _ ⟨rfl, rfl⟩
      simp only [peekE]
      go_wp2_with fail
      refine (dec34 0 (by decide) _).mono ?_; rintro e _ ⟨rfl, rfl⟩
      go_wp2_with fail
      refine (fail_walk B b 0 12 _ (by exact HR.out)).mono ?_; rintro e w2 ⟨rfl, hi2, hf2⟩
      have HI := Lib.hid hi2
      have HF := Lib.hid hf2
      clear hi2 hf2
      go_wp2_with fail
      go_ret
      exact ⟨rfl, HI.out, HF.out⟩
    · have hb := num_peek _ _ _ hp
      have hu := hb.1
      have hm : m ≤ b.size := hb.2.1
      have HP := Lib.hid hp
      by_cases h1 : decI u < lo
      · have E : readS decI lo hi b 0 = (b, 2, 0) := by unfold readS; rw [hp]; simp only [if_pos h1]; rfl
        rw [E] at hr; cases hr
        clear E hp h hb
        go_enter Try.func31, Try.ntmps31
        go_wp2_with fail
        refine (peek_walk B b 0 _ rfl _ (by exact HP.out) _ (by exact HR.out)).mono ?_; rintro e _ ⟨rfl, rfl⟩
        simp only [peekE]
        go_wp2_with fail
        refine (dec34 u hu _).mono ?_; rintro e _ ⟨rfl, rfl⟩
        go_wp2_with fail
        refine (fail_walk B b 0 2 _ (by exact HR.out)).mono ?_; rintro e w2 ⟨rfl, hi2, hf2⟩
        have HI := Lib.hid hi2
        have HF := Lib.hid hf2
        clear hi2 hf2
        go_wp2_with fail
        go_ret
        exact ⟨rfl, HI.out, HF.out⟩
      · by_cases h2 : hi < decI u
        · have E : readS decI lo hi b 0 = (b, 2, 0) := by unfold readS; rw [hp]; simp only [if_neg h1, if_pos h2]; rfl
          rw [E] at hr; cases hr
          clear E hp h hb
          go_enter Try.func31, Try.ntmps31
          go_wp2_with fail
          refine (peek_walk B b 0 _ rfl _ (by exact HP.out) _ (by exact HR.out)).mono ?_; rintro e _ ⟨rfl, rfl⟩
          simp only [peekE]
          go_wp2_with fail
          refine (dec34 u hu _).mono ?_; rintro e _ ⟨rfl, rfl⟩
          go_wp2_with fail
          refine (fail_walk B b 0 2 _ (by exact HR.out)).mono ?_; rintro e w2 ⟨rfl, hi2, hf2⟩
          have HI := Lib.hid hi2
          have HF := Lib.hid hf2
          clear hi2 hf2
          go_wp2_with fail
          go_ret
          exact ⟨rfl, HI.out, HF.out⟩
        · have E : readS decI lo hi b 0 = (b.extract m b.size, 0, decI u) := by unfold readS; rw [hp]; simp only [if_neg h1, if_neg h2]; rfl
          rw [E] at hr; cases hr
          clear E hp h hb
          go_enter Try.func31, Try.ntmps31
          go_wp2_with fail
          refine (peek_walk B b 0 _ rfl _ (by exact HP.out) _ (by exact HR.out)).mono ?_; rintro e _ ⟨rfl, rfl⟩
          simp only [peekE]
          go_wp2_with fail
          refine (dec34 u hu _).mono ?_; rintro e _ ⟨rfl, rfl⟩
          go_wp2_with fail
          go_ret
          exact ⟨rfl, HR.out.set0 _, fun N hN => (Below.refl _ _).setCell hN _⟩
  · have E : readS decI lo hi b er = (b, er, 0) := by unfold readS; rw [if_pos h0]
    rw [E] at hr; cases hr
    clear E h
    go_enter Try.func31, Try.ntmps31
    go_wp2_with fail
    go_ret
    exact ⟨rfl, HR.out, Frm.refl _ _⟩
theorem rint_walk (B b er) (lo hi : Int) (b' er' n) (hr : readS decI lo hi b er = (b', er', n)) (w : World) (h : IsR w B b er) : Calls Try.prog 24 #[.pointer (some ⟨B, 0, none⟩), .int .i64 lo, .int .i64 hi] w fun e w' => e = .returned (.int .i64 n) ∧ IsR w' B b' er' ∧ Frm B w w' := by
  have HH := Lib.hid h
  have HR := Lib.hid hr
  clear h hr
  go_enter Try.func24, Try.ntmps24
  go_wp2_with fail
  refine (read34 B b er lo hi b' er' n (by exact HR.out) _ (by exact HH.out)).mono ?_; rintro e w2 ⟨rfl, hi2, hf2⟩
  have HI := Lib.hid hi2
  have HF := Lib.hid hf2
  clear hi2 hf2
  go_wp2_with fail
  go_ret
  exact ⟨rfl, HI.out, HF.out⟩
end Go.Proofs.Ytkogechopdfleaa
