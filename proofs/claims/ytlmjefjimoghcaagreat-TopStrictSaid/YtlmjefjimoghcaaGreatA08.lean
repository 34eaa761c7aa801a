/- A part of the proofs of TopCounter and TopStrict: what the functions of the program do, each walked once, and plain laws about it. No condition. -/
import Derived.Test.YtlmjefjimoghcaaGreatA07
namespace Go.Proofs.YtlmjefjimoghcaaGreat.V
set_option linter.unusedSimpArgs false
set_option linter.unnecessarySimpa false
set_option linter.unusedVariables false
open Go.RowKit
def decN (u : Nat) : Int := u
/-- a reading of a number, decoded, within limits: what is left, the error, the number -/
def readS (dec : Nat → Int) (lo hi : Int) (b : ByteArray) (er : Int) : ByteArray × Int × Int :=
 if er ≠ 0 then (b, er, 0) else match peekF b.data.toList with
  | none => (b, 12, 0)
  | some (u, m) => if dec u < lo then (b, 2, 0) else if hi < dec u then (b, 2, 0) else (b.extract m b.size, 0, dec u)
theorem dec32 (u : Nat) (hu : u < 2 ^ 63) (w : World) : Calls Tryz.prog 90 #[.int .i64 u] w fun e w' => e = .returned (.int .i64 (decN u)) ∧ w = w' := by
 go_enter Tryz.func90, Tryz.ntmps90
 go_wp2_with fail
 go_ret
 exact ⟨rfl, rfl⟩
set_option maxRecDepth 10000 in
set_option maxHeartbeats 400000 in
theorem read32 (B b er) (lo hi : Int) (b' er' n) (hr : readS decN lo hi b er = (b', er', n)) (w : World) (h : IsR w B b er) : Calls Tryz.prog 89 #[.pointer (some ⟨B, 0, none⟩), .func (.func 90) #[] #[], .int .i64 lo, .int .i64 hi] w fun e w' => e = .returned (.int .i64 n) ∧ IsR w' B b' er' ∧ Frm B w w' := by
 have hc0 := h.cell0
 have hc1 := h.cell1
 have hf0 := h.frozen 0
 have HR := Lib.hid h
 by_cases h0 : er = 0
 ·subst h0
  rcases hp : peekF b.data.toList with _ | ⟨u, m⟩
  ·have E : readS decN lo hi b 0 = (b, 12, 0) := by unfold readS; rw [hp]; rfl
   rw [E] at hr; cases hr
   have HP := Lib.hid hp
   clear E hp h
   go_enter Tryz.func89, Tryz.ntmps89
   go_wp2_with fail
   refine (peek_walk B b 0 _ rfl none (by exact HP.out) _ (by exact HR.out)).mono ?_; rintro e _ ⟨rfl, rfl⟩
   simp only [peekE]
   go_wp2_with fail
   refine (dec32 0 (by decide) _).mono ?_; rintro e _ ⟨rfl, rfl⟩
   go_wp2_with fail
   refine (fail_walk B b 0 12 _ (by exact HR.out)).mono ?_; rintro e w2 ⟨rfl, hi2, hf2⟩
   have HI := Lib.hid hi2
   have HF := Lib.hid hf2
   clear hi2 hf2
   go_wp2_with fail
   go_ret
   exact ⟨rfl, HI.out, HF.out⟩
  ·have hb := num_peek _ _ _ hp
   have hu := hb.1
   have hm : m ≤ b.size := hb.2.1
   have HP := Lib.hid hp
   by_cases h1 : decN u < lo
   ·have E : readS decN lo hi b 0 = (b, 2, 0) := by unfold readS; rw [hp]; simp only [if_pos h1]; rfl
    rw [E] at hr; cases hr
    clear E hp h hb
    go_enter Tryz.func89, Tryz.ntmps89
    go_wp2_with fail
    refine (peek_walk B b 0 _ rfl _ (by exact HP.out) _ (by exact HR.out)).mono ?_; rintro e _ ⟨rfl, rfl⟩
    simp only [peekE]
    go_wp2_with fail
    refine (dec32 u hu _).mono ?_; rintro e _ ⟨rfl, rfl⟩
    go_wp2_with fail
    refine (fail_walk B b 0 2 _ (by exact HR.out)).mono ?_; rintro e w2 ⟨rfl, hi2, hf2⟩
    have HI := Lib.hid hi2
    have HF := Lib.hid hf2
    clear hi2 hf2
    go_wp2_with fail
    go_ret
    exact ⟨rfl, HI.out, HF.out⟩
   ·by_cases h2 : hi < decN u
    ·have E : readS decN lo hi b 0 = (b, 2, 0) := by unfold readS; rw [hp]; simp only [if_neg h1, if_pos h2]; rfl
     rw [E] at hr; cases hr
     clear E hp h hb
     go_enter Tryz.func89, Tryz.ntmps89
     go_wp2_with fail
     refine (peek_walk B b 0 _ rfl _ (by exact HP.out) _ (by exact HR.out)).mono ?_; rintro e _ ⟨rfl, rfl⟩
     simp only [peekE]
     go_wp2_with fail
     refine (dec32 u hu _).mono ?_; rintro e _ ⟨rfl, rfl⟩
     go_wp2_with fail
     refine (fail_walk B b 0 2 _ (by exact HR.out)).mono ?_; rintro e w2 ⟨rfl, hi2, hf2⟩
     have HI := Lib.hid hi2
     have HF := Lib.hid hf2
     clear hi2 hf2
     go_wp2_with fail
     go_ret
     exact ⟨rfl, HI.out, HF.out⟩
    ·have E : readS decN lo hi b 0 = (b.extract m b.size, 0, decN u) := by unfold readS; rw [hp]; simp only [if_neg h1, if_neg h2]; rfl
     rw [E] at hr; cases hr
     clear E hp h hb
     go_enter Tryz.func89, Tryz.ntmps89
     go_wp2_with fail
     refine (peek_walk B b 0 _ rfl _ (by exact HP.out) _ (by exact HR.out)).mono ?_; rintro e _ ⟨rfl, rfl⟩
     simp only [peekE]
     go_wp2_with fail
     refine (dec32 u hu _).mono ?_; rintro e _ ⟨rfl, rfl⟩
     go_wp2_with fail
     go_ret
     exact ⟨rfl, HR.out.set0 _, Frm.set _ _ _ _⟩
 ·have E : readS decN lo hi b er = (b, er, 0) := by unfold readS; rw [if_pos h0]
  rw [E] at hr; cases hr
  clear E h
  go_enter Tryz.func89, Tryz.ntmps89
  go_wp2_with fail
  go_ret
  exact ⟨rfl, HR.out, Frm.refl _ _⟩
theorem rnum_walk (B b er) (hi : Int) (b' er' n) (hr : readS decN 0 hi b er = (b', er', n)) (w : World) (h : IsR w B b er) : Calls Tryz.prog 47 #[.pointer (some ⟨B, 0, none⟩), .int .i64 hi] w fun e w' => e = .returned (.int .i64 n) ∧ IsR w' B b' er' ∧ Frm B w w' := by
 have HH := Lib.hid h
 have HR := Lib.hid hr
 clear h hr
 go_enter Tryz.func47, Tryz.ntmps47
 go_wp2_with fail
 refine (read32 B b er 0 hi b' er' n (by exact HR.out) _ (by exact HH.out)).mono ?_; rintro e w2 ⟨rfl, hi2, hf2⟩
 have HI := Lib.hid hi2
 have HF := Lib.hid hf2
 clear hi2 hf2
 go_wp2_with fail
 go_ret
 exact ⟨rfl, HI.out, HF.out⟩
def noB : ByteArray := ⟨#[]⟩
/-- a reading of n bytes -/
def takeS (n : Int) (b : ByteArray) (er : Int) : ByteArray × Int × ByteArray :=
 if er ≠ 0 then (b, er, noB) else if n < 0 then (b, 2, noB) else if b.size < n then (b, 12, noB) else (b.extract n.toNat b.size, 0, b.extract 0 n.toNat)
set_option maxRecDepth 10000 in
set_option maxHeartbeats 400000 in
theorem take_walk (B b er) (n : Int) (b' er' s) (hr : takeS n b er = (b', er', s)) (w : World) (h : IsR w B b er) : Calls Tryz.prog 50 #[.pointer (some ⟨B, 0, none⟩), .int .i64 n] w fun e w' => e = .returned (.string s) ∧ IsR w' B b' er' ∧ Frm B w w' := by
 have hc0 := h.cell0
 have hc1 := h.cell1
 have hf0 := h.frozen 0
 have HR := Lib.hid h
 by_cases h0 : er = 0
 ·subst h0
  by_cases h1 : n < 0
  ·have E : takeS n b 0 = (b, 2, noB) := by unfold takeS; simp only [if_pos h1]; rfl
   rw [E] at hr; cases hr
   clear E h
   go_enter Tryz.func50, Tryz.ntmps50
   go_wp2_with fail
   refine (fail_walk B b 0 2 _ (by exact HR.out)).mono ?_; rintro e w2 ⟨rfl, hi2, hf2⟩
   have HI := Lib.hid hi2
   have HF := Lib.hid hf2
   clear hi2 hf2
   go_wp2_with fail
   go_ret
   exact ⟨rfl, HI.out, HF.out⟩
  ·by_cases h2 : (b.size : Int) < n
   ·have E : takeS n b 0 = (b, 12, noB) := by unfold takeS; simp only [if_neg h1, if_pos h2]; rfl
    rw [E] at hr; cases hr
    clear E h
    go_enter Tryz.func50, Tryz.ntmps50
    go_wp2_with fail
    refine (fail_walk B b 0 12 _ (by exact HR.out)).mono ?_; rintro e w2 ⟨rfl, hi2, hf2⟩
    have HI := Lib.hid hi2
    have HF := Lib.hid hf2
    clear hi2 hf2
    go_wp2_with fail
    go_ret
    exact ⟨rfl, HI.out, HF.out⟩
   ·have E : takeS n b 0 = (b.extract n.toNat b.size, 0, b.extract 0 n.toNat) := by unfold takeS; simp only [if_neg h1, if_neg h2]; rfl
    rw [E] at hr; cases hr
    clear E h
    obtain ⟨k, rfl⟩ : ∃ k : Nat, n = k := ⟨n.toNat, by omega⟩
    have hk : k ≤ b.size := by omega
    clear h1 h2
    go_enter Tryz.func50, Tryz.ntmps50
    go_wp2_with fail
    go_ret
    exact ⟨rfl, HR.out.set0 _, Frm.set _ _ _ _⟩
 ·have E : takeS n b er = (b, er, noB) := by unfold takeS; rw [if_pos h0]
  rw [E] at hr; cases hr
  clear E h
  go_enter Tryz.func50, Tryz.ntmps50
  go_wp2_with fail
  go_ret
  exact ⟨rfl, HR.out, Frm.refl _ _⟩
theorem Frm.trans {B w w1 w2} (h1 : Frm B w w1) (h2 : Frm B w1 w2) : Frm B w w2 := Touch.trans h1.touch h2.touch fun _ _ h => h
def textS (most : Int) (b : ByteArray) (er : Int) : ByteArray × Int × ByteArray :=
 match readS decN 0 most b er with
 | (b1, er1, n) => match takeS n b1 er1 with
  | (b2, er2, s) => if er2 ≠ 0 then (b, er2, noB) else (b2, er2, s)
set_option maxRecDepth 10000 in
set_option maxHeartbeats 400000 in
theorem text_walk (B b er) (most : Int) (b' er' s) (hr : textS most b er = (b', er', s)) (w : World) (h : IsR w B b er) : Calls Tryz.prog 102 #[.pointer (some ⟨B, 0, none⟩), .int .i64 most] w fun e w' => e = .returned (.string s) ∧ IsR w' B b' er' ∧ Frm B w w' := by
 have hc0 := h.cell0
 have HR := Lib.hid h
 obtain ⟨b1, er1, n, h1⟩ : ∃ b1 er1 n, readS decN 0 most b er = (b1, er1, n) := ⟨_, _, _, rfl⟩
 obtain ⟨b2, er2, s2, h2⟩ : ∃ b2 er2 s2, takeS n b1 er1 = (b2, er2, s2) := ⟨_, _, _, rfl⟩
 have E : textS most b er = if er2 ≠ 0 then (b, er2, noB) else (b2, er2, s2) := by unfold textS; rw [h1]; simp only [h2]
 rw [E] at hr
 have H1 := Lib.hid h1
 have H2 := Lib.hid h2
 clear h1 h2 E h
 by_cases h0 : er2 = 0
 ·rw [if_neg (by simp [h0])] at hr
  rw [Prod.mk.injEq, Prod.mk.injEq] at hr
  obtain ⟨e1, e2, e3⟩ := hr
  subst e1 e2 e3
  go_enter Tryz.func102, Tryz.ntmps102
  go_wp2_with fail
  refine (rnum_walk B b er most b1 er1 n (by exact H1.out) _ (by exact HR.out)).mono ?_; rintro e w2 ⟨rfl, hi2, hf2⟩
  have HI := Lib.hid hi2
  have HF := Lib.hid hf2
  clear hi2 hf2
  go_wp2_with fail
  refine (take_walk B b1 er1 n b2 er2 s2 (by exact H2.out) _ (by exact HI.out)).mono ?_; rintro e w3 ⟨rfl, hi3, hf3⟩
  have hc1 := hi3.cell1
  have HI3 := Lib.hid hi3
  have HF3 := Lib.hid hf3
  clear hi3 hf3
  go_wp2_with fail
  go_ret
  exact ⟨rfl, HI3.out, HF.out.trans HF3.out⟩
 ·rw [if_pos h0] at hr
  rw [Prod.mk.injEq, Prod.mk.injEq] at hr
  obtain ⟨e1, e2, e3⟩ := hr
  subst e1 e2 e3
  go_enter Tryz.func102, Tryz.ntmps102
  go_wp2_with fail
  refine (rnum_walk B b er most b1 er1 n (by exact H1.out) _ (by exact HR.out)).mono ?_; rintro e w2 ⟨rfl, hi2, hf2⟩
  have HI := Lib.hid hi2
  have HF := Lib.hid hf2
  clear hi2 hf2
  go_wp2_with fail
  refine (take_walk B b1 er1 n b2 er2 s2 (by exact H2.out) _ (by exact HI.out)).mono ?_; rintro e w3 ⟨rfl, hi3, hf3⟩
  have hc1 := hi3.cell1
  have hf0 := hi3.frozen 0
  have hc3 := hi3.cell0
  have HI3 := Lib.hid hi3
  have HF3 := Lib.hid hf3
  clear hi3 hf3
  go_wp2_with fail
  go_ret
  exact ⟨rfl, HI3.out.set0 b, (HF.out.trans HF3.out).trans (Frm.set _ _ _ _)⟩
def endS (b : ByteArray) (er : Int) : Int := if er = 0 ∧ b.data.toList ≠ [] then 12 else er
theorem end_walk (B b er) (er') (hr : endS b er = er') (w : World) (h : IsR w B b er) : Calls Tryz.prog 87 #[.pointer (some ⟨B, 0, none⟩)] w fun e w' => e = .returned (.int .i64 er') ∧ IsR w' B b er' ∧ Frm B w w' := by
 have hc0 := h.cell0
 have hc1 := h.cell1
 have HR := Lib.hid h
 by_cases h0 : er = 0
 ·by_cases hl : b.data.toList = []
  ·have E : endS b er = er := by unfold endS; rw [if_neg (by simp [hl])]
   rw [E] at hr; subst hr; subst h0
   have he : b.toList.isEmpty = true := by rw [ByteArray.toList_eq, hl]; rfl
   clear E hl h
   go_enter Tryz.func87, Tryz.ntmps87
   go_wp2_with fail
   go_ret
   exact ⟨rfl, HR.out, Frm.refl _ _⟩
  ·have E : endS b er = 12 := by unfold endS; rw [if_pos ⟨h0, hl⟩]
   rw [E] at hr; subst hr; subst h0
   have he : b.toList.isEmpty = false := by
    rw [ByteArray.toList_eq]
    cases hq : b.data.toList with
    | nil => exact absurd hq hl
    | cons => rfl
   clear E hl h
   go_enter Tryz.func87, Tryz.ntmps87
   go_wp2_with fail
   refine (fail_walk B b 0 12 _ (by exact HR.out)).mono ?_; rintro e w2 ⟨rfl, hi2, hf2⟩
   have hc1 := hi2.cell1
   have HI := Lib.hid hi2
   have HF := Lib.hid hf2
   clear hi2 hf2
   go_wp2_with fail
   go_ret
   exact ⟨rfl, HI.out, HF.out⟩
 ·have E : endS b er = er := by unfold endS; rw [if_neg (by simp [h0])]
  rw [E] at hr; subst hr
  clear E h
  go_enter Tryz.func87, Tryz.ntmps87
  go_wp2_with fail
  go_ret
  exact ⟨rfl, HR.out, Frm.refl _ _⟩
theorem number_eq (n : Nat) (m : Int) (h : m = n) (hn : n < 2 ^ 63) (w : World) : Calls Tryz.prog 53 #[.int .i64 m] w fun e w' => e = .returned (.string ⟨(num n).toArray⟩) ∧ Below w.heap.size w w' := by
 subst h; exact number_walk n hn w
theorem textF_walk (s : ByteArray) (hs : s.size < 2 ^ 62) (w : World) : Calls Tryz.prog 82 #[.string s] w fun e w' => e = .returned (.string ((⟨(num s.size).toArray⟩ : ByteArray) ++ s)) ∧ Below w.heap.size w w' := by
 have hsum : ¬ 9223372036854775807 < (num s.size).length + s.size := by
  have := kOf_le s.size
  rw [num_length]; omega
 go_enter Tryz.func82, Tryz.ntmps82
 go_wp2_with fail
 refine (number_eq s.size _ rfl (by omega) _).mono ?_; rintro e w2 ⟨rfl, hb⟩
 have HB := Lib.hid hb
 clear hb
 go_wp2_with fail
 go_ret
 exact ⟨rfl, HB.out⟩
end Go.Proofs.YtlmjefjimoghcaaGreat.V
namespace Go.Proofs.YtlmjefjimoghcaaGreat
set_option linter.unusedSimpArgs false
set_option linter.unnecessarySimpa false
set_option linter.unusedVariables false
open Go.RowKit
def Rd (w : World) (B : Nat) (l : List UInt8) (er : Int) : Prop := V.IsR w B (sB l) er
theorem Rd.to {w : World} {B : Nat} {l : List UInt8} {er : Int} (h : Rd w B l er) : w.heap[B]? = some (.cells #[.string (sB l), .int .i64 er] 147 (0, 0)) := h
theorem Rd.frame {w w' : World} {B : Nat} {l : List UInt8} {er : Int} (h : Rd w B l er) (e : w'.heap[B]? = w.heap[B]?) : Rd w' B l er := by unfold Rd V.IsR; rw [e]; exact h.to
def rdN (hi : Int) (l : List UInt8) (er : Int) : List UInt8 × Int × Int :=
 if er ≠ 0 then (l, er, 0) else match V.peekF l with
  | none => (l, 12, 0)
  | some (u, m) => if hi < (u : Int) then (l, 2, 0) else (l.drop m, 0, (u : Int))
def rdT (n : Int) (l : List UInt8) (er : Int) : List UInt8 × Int × List UInt8 :=
 if er ≠ 0 then (l, er, []) else if n < 0 then (l, 2, []) else if (l.length : Int) < n then (l, 12, []) else (l.drop n.toNat, 0, l.take n.toNat)
def rdX (hi : Int) (l : List UInt8) (er : Int) : List UInt8 × Int × List UInt8 :=
 let r := rdN hi l er
 let t := rdT r.2.2 r.1 r.2.1
 if t.2.1 ≠ 0 then (l, t.2.1, []) else t
def rdE (l : List UInt8) (er : Int) : Int := if er = 0 ∧ l ≠ [] then 12 else er
theorem ext_drop (l : List UInt8) (m : Nat) : (sB l).extract m (sB l).size = sB (l.drop m) := by
 rw [sB_size, sB_ext, List.take_length]
theorem readS_list (hi : Int) (l : List UInt8) (er : Int) : V.readS V.decN 0 hi (sB l) er = (sB (rdN hi l er).1, (rdN hi l er).2.1, (rdN hi l er).2.2) := by
 unfold V.readS rdN
 have e : (sB l).data.toList = l := rfl
 rw [e]
 split
 ·rfl
 ·cases hp : V.peekF l with
  | none => rfl
  | some r =>
   obtain ⟨u, m⟩ := r
   show (if V.decN u < 0 then _ else _) = _
   have h0 : ¬ V.decN u < 0 := by unfold V.decN; omega
   rw [if_neg h0]
   show (if hi < (u : Int) then _ else _) = _
   split
   ·rename_i h; simp only [if_pos h]
   ·rename_i h; simp only [if_neg h]; rw [ext_drop]; rfl
theorem takeS_list (n : Int) (l : List UInt8) (er : Int) : V.takeS n (sB l) er = (sB (rdT n l er).1, (rdT n l er).2.1, sB (rdT n l er).2.2) := by
 unfold V.takeS rdT
 rw [sB_size]
 split
 ·rfl
 ·split
  ·rfl
  ·split
   ·rfl
   ·have h1 : (sB l).extract n.toNat l.length = sB (l.drop n.toNat) := by rw [sB_ext, List.take_length]
    have h2 : (sB l).extract 0 n.toNat = sB (l.take n.toNat) := by rw [sB_ext, List.drop_zero]
    rw [h1, h2]
theorem textS_list (hi : Int) (l : List UInt8) (er : Int) : V.textS hi (sB l) er = (sB (rdX hi l er).1, (rdX hi l er).2.1, sB (rdX hi l er).2.2) := by
 unfold V.textS rdX
 rw [readS_list]
 simp only
 rw [takeS_list]
 simp only
 split
 ·rfl
 ·rfl
theorem endS_list (l : List UInt8) (er : Int) : V.endS (sB l) er = rdE l er := by unfold V.endS rdE; rw [show (sB l).data.toList = l from rfl]
section
variable {B : Nat} {l : List UInt8} {er : Int} {w : World}
theorem new_rd (l : List UInt8) (w : World) : Calls Tryz.prog 46 #[.string (sB l)] w fun e w' => e = .returned (.pointer (some ⟨w.heap.size, 0, none⟩)) ∧ Rd w' w.heap.size l 0 ∧ Below w.heap.size w w' :=
 (V.new_walk (sB l) w).mono fun _ _ h => ⟨h.1, h.2.1, h.2.2.touch.below _ (Nat.le_refl _) fun _ h => h ▸ Nat.le_refl _⟩
theorem rdN_walk (h : Rd w B l er) (hi : Int) : Calls Tryz.prog 47 #[.pointer (some ⟨B, 0, none⟩), .int .i64 hi] w fun e w' => e = .returned (.int .i64 (rdN hi l er).2.2) ∧ Rd w' B (rdN hi l er).1 (rdN hi l er).2.1 ∧ Touch (fun k => k = B) w w' :=
 V.rnum_walk B (sB l) er hi _ _ _ (readS_list hi l er) w h
theorem rdT_walk (h : Rd w B l er) (n : Int) : Calls Tryz.prog 50 #[.pointer (some ⟨B, 0, none⟩), .int .i64 n] w fun e w' => e = .returned (.string (sB (rdT n l er).2.2)) ∧ Rd w' B (rdT n l er).1 (rdT n l er).2.1 ∧ Touch (fun k => k = B) w w' :=
 V.take_walk B (sB l) er n _ _ _ (takeS_list n l er) w h
theorem rdX_walk (h : Rd w B l er) (hi : Int) : Calls Tryz.prog 102 #[.pointer (some ⟨B, 0, none⟩), .int .i64 hi] w fun e w' => e = .returned (.string (sB (rdX hi l er).2.2)) ∧ Rd w' B (rdX hi l er).1 (rdX hi l er).2.1 ∧ Touch (fun k => k = B) w w' :=
 V.text_walk B (sB l) er hi _ _ _ (textS_list hi l er) w h
theorem rdE_walk (h : Rd w B l er) : Calls Tryz.prog 87 #[.pointer (some ⟨B, 0, none⟩)] w fun e w' => e = .returned (.int .i64 (rdE l er)) ∧ Rd w' B l (rdE l er) ∧ Touch (fun k => k = B) w w' :=
 V.end_walk B (sB l) er _ (endS_list l er) w h
theorem rdL_walk (h : Rd w B l er) : Calls Tryz.prog 51 #[.pointer (some ⟨B, 0, none⟩)] w fun e w' => e = .returned (.int .i64 (l.length : Int)) ∧ w = w' := by
 have := V.left_walk B (sB l) er w h
 rw [sB_size] at this
 exact this
theorem rdR_walk (h : Rd w B l er) : Calls Tryz.prog 48 #[.pointer (some ⟨B, 0, none⟩)] w fun e w' => e = .returned (.int .i64 er) ∧ w = w' := V.err_walk B (sB l) er w h
end
/-- reading takes from the front: what is left is not longer, and a number is in its limits -/
theorem rdN_len (hi : Int) (l : List UInt8) (er : Int) : (rdN hi l er).1.length ≤ l.length := by
 unfold rdN
 split
 ·exact Nat.le_refl _
 ·split
  ·exact Nat.le_refl _
  ·split
   ·exact Nat.le_refl _
   ·simp
theorem rdT_len (n : Int) (l : List UInt8) (er : Int) : (rdT n l er).1.length + (rdT n l er).2.2.length ≤ l.length := by
 unfold rdT
 split
 ·exact Nat.le_refl _
 ·split
  ·exact Nat.le_refl _
  ·split
   ·exact Nat.le_refl _
   ·simp; omega
theorem rdX_len (hi : Int) (l : List UInt8) (er : Int) : (rdX hi l er).1.length + (rdX hi l er).2.2.length ≤ l.length := by
 unfold rdX
 have h1 := rdN_len hi l er
 have h2 := rdT_len (rdN hi l er).2.2 (rdN hi l er).1 (rdN hi l er).2.1
 simp only
 split
 ·simp
 ·omega
theorem rdN_val (hi : Int) (l : List UInt8) (er : Int) (h0 : 0 ≤ hi) : 0 ≤ (rdN hi l er).2.2 ∧ (rdN hi l er).2.2 ≤ hi := by
 unfold rdN
 split
 ·exact ⟨Int.le_refl _, h0⟩
 ·split
  ·exact ⟨Int.le_refl _, h0⟩
  ·split
   ·exact ⟨Int.le_refl _, h0⟩
   ·rename_i u m _ h; exact ⟨Int.natCast_nonneg u, Int.not_lt.1 h⟩
end Go.Proofs.YtlmjefjimoghcaaGreat
