import Derived.Test.YtkogechopdfleaaWw
import Derived.RegionTactic
namespace Go.Proofs.Ytkogechopdfleaa
open Go.RowKit
attribute [local go_sem ↓] Go.wp_at_zero Go.wp_at_succ

/-- a call of a reader -/
def doS (k lo hi : Int) (b : ByteArray) (er : Int) : ByteArray × Int × Int × ByteArray :=
  if k % 8 = 0 then ((readS decN 0 hi b er).1, (readS decN 0 hi b er).2.1, (readS decN 0 hi b er).2.2, noB)
  else if k % 8 = 1 then ((readS decI lo hi b er).1, (readS decI lo hi b er).2.1, (readS decI lo hi b er).2.2, noB)
  else if k % 8 = 2 then ((takeS hi b er).1, (takeS hi b er).2.1, 0, (takeS hi b er).2.2)
  else if k % 8 = 3 then ((textS hi b er).1, (textS hi b er).2.1, 0, (textS hi b er).2.2)
  else (b, endS b er, 0, noB)
theorem IsR.alloc {w B b er} (h : IsR w B b er) (o : Obj) : IsR (w.alloc o) B b er := (Below.heap_alloc w o B (Array.getElem?_eq_some_iff.1 h).1).trans h
theorem IsR.lt {w B b er} (h : IsR w B b er) : B < w.heap.size := (Array.getElem?_eq_some_iff.1 h).1
theorem Frm.alloc {B w} (h : B < w.heap.size) (o : Obj) : Frm B w (w.alloc o) := fun N hN => (Below.refl _ _).alloc (by omega) o
set_option maxRecDepth 100000 in
set_option maxHeartbeats 1000000 in
theorem do_walk (B b er) (k lo hi : Int) (b' er' n s) (hr : doS k lo hi b er = (b', er', n, s)) (w : World) (h : IsR w B b er) : Calls Try.prog 26 #[.pointer (some ⟨B, 0, none⟩), .agg #[.int .i64 k, .int .i64 lo, .int .i64 hi]] w fun e w' => e = .returned (.tuple #[.int .i64 n, .string s]) ∧ IsR w' B b' er' ∧ Frm B w w' := by
  unfold doS at hr
  obtain ⟨j, hj⟩ : ∃ j, k % 8 = j := ⟨_, rfl⟩
  rw [hj] at hr
  by_cases h0 : j = 0
  · subst h0
    rw [if_pos rfl] at hr
    obtain ⟨⟨b1, e1, n1⟩, hq⟩ : ∃ q, readS decN 0 hi b er = q := ⟨_, rfl⟩
    rw [hq] at hr; cases hr
    have HQ := Lib.hid hq
    clear hq
    have HA : Hid (IsR (w.alloc (.cells #[.int .i64 k, .int .i64 lo, .int .i64 hi] 42)) B b er) := Lib.hid (h.alloc _)
    have HF0 : Hid (Frm B w (w.alloc (.cells #[.int .i64 k, .int .i64 lo, .int .i64 hi] 42))) := Lib.hid (Frm.alloc h.lt _)
    have hk7 := i64_and7 k
    rw [hj] at hk7
    clear h hj
    go_enter Try.func26, Try.ntmps26
    go_wp2_with fail
    refine (rnum_walk B b er hi b1 e1 n1 (by exact HQ.out) _ (by exact HA.out)).mono ?_; rintro e w2 ⟨rfl, hi2, hf2⟩
    have HI := Lib.hid hi2
    have HF := Lib.hid (HF0.out.trans hf2)
    clear hi2 hf2
    go_wp2_with fail
    go_ret2
    exact ⟨rfl, HI.out, HF.out⟩
  rw [if_neg h0] at hr
  by_cases h1 : j = 1
  · subst h1
    rw [if_pos rfl] at hr
    obtain ⟨⟨b1, e1, n1⟩, hq⟩ : ∃ q, readS decI lo hi b er = q := ⟨_, rfl⟩
    rw [hq] at hr; cases hr
    have HQ := Lib.hid hq
    clear hq
    have HA : Hid (IsR (w.alloc (.cells #[.int .i64 k, .int .i64 lo, .int .i64 hi] 42)) B b er) := Lib.hid (h.alloc _)
    have HF0 : Hid (Frm B w (w.alloc (.cells #[.int .i64 k, .int .i64 lo, .int .i64 hi] 42))) := Lib.hid (Frm.alloc h.lt _)
    have hk7 := i64_and7 k
    rw [hj] at hk7
    clear h hj
    go_enter Try.func26, Try.ntmps26
    go_wp2_with fail
    refine (rint_walk B b er lo hi b1 e1 n1 (by exact HQ.out) _ (by exact HA.out)).mono ?_; rintro e w2 ⟨rfl, hi2, hf2⟩
    have HI := Lib.hid hi2
    have HF := Lib.hid (HF0.out.trans hf2)
    clear hi2 hf2
    go_wp2_with fail
    go_ret2
    exact ⟨rfl, HI.out, HF.out⟩
  rw [if_neg h1] at hr
  by_cases h2 : j = 2
  · subst h2
    rw [if_pos rfl] at hr
    obtain ⟨⟨b1, e1, n1⟩, hq⟩ : ∃ q, takeS hi b er = q := ⟨_, rfl⟩
    rw [hq] at hr; cases hr
    have HQ := Lib.hid hq
    clear hq
    have HA : Hid (IsR (w.alloc (.cells #[.int .i64 k, .int .i64 lo, .int .i64 hi] 42)) B b er) := Lib.hid (h.alloc _)
    have HF0 : Hid (Frm B w (w.alloc (.cells #[.int .i64 k, .int .i64 lo, .int .i64 hi] 42))) := Lib.hid (Frm.alloc h.lt _)
    have hk7 := i64_and7 k
    rw [hj] at hk7
    clear h hj
    go_enter Try.func26, Try.ntmps26
    go_wp2_with fail
    refine (take_walk B b er hi b1 e1 n1 (by exact HQ.out) _ (by exact HA.out)).mono ?_; rintro e w2 ⟨rfl, hi2, hf2⟩
    have HI := Lib.hid hi2
    have HF := Lib.hid (HF0.out.trans hf2)
    clear hi2 hf2
    go_wp2_with fail
    go_ret2
    exact ⟨rfl, HI.out, HF.out⟩
  rw [if_neg h2] at hr
  by_cases h3 : j = 3
  · subst h3
    rw [if_pos rfl] at hr
    obtain ⟨⟨b1, e1, n1⟩, hq⟩ : ∃ q, textS hi b er = q := ⟨_, rfl⟩
    rw [hq] at hr; cases hr
    have HQ := Lib.hid hq
    clear hq
    have HA : Hid (IsR (w.alloc (.cells #[.int .i64 k, .int .i64 lo, .int .i64 hi] 42)) B b er) := Lib.hid (h.alloc _)
    have HF0 : Hid (Frm B w (w.alloc (.cells #[.int .i64 k, .int .i64 lo, .int .i64 hi] 42))) := Lib.hid (Frm.alloc h.lt _)
    have hk7 := i64_and7 k
    rw [hj] at hk7
    clear h hj
    go_enter Try.func26, Try.ntmps26
    go_wp2_with fail
    refine (text_walk B b er hi b1 e1 n1 (by exact HQ.out) _ (by exact HA.out)).mono ?_; rintro e w2 ⟨rfl, hi2, hf2⟩
    have HI := Lib.hid hi2
    have HF := Lib.hid (HF0.out.trans hf2)
    clear hi2 hf2
    go_wp2_with fail
    go_ret2
    exact ⟨rfl, HI.out, HF.out⟩
  rw [if_neg h3] at hr; cases hr
  have j0 : (j == 0) = false := by simpa using h0
  have j1 : (j == 1) = false := by simpa using h1
  have j2 : (j == 2) = false := by simpa using h2
  have j3 : (j == 3) = false := by simpa using h3
  clear h0 h1 h2 h3
  obtain ⟨e1, hq⟩ : ∃ e1, endS b er = e1 := ⟨_, rfl⟩
  rw [hq]
  have HQ := Lib.hid hq
  clear hq
  have HA : Hid (IsR (w.alloc (.cells #[.int .i64 k, .int .i64 lo, .int .i64 hi] 42)) B b er) := Lib.hid (h.alloc _)
  have HF0 : Hid (Frm B w (w.alloc (.cells #[.int .i64 k, .int .i64 lo, .int .i64 hi] 42))) := Lib.hid (Frm.alloc h.lt _)
  have hk7 := i64_and7 k
  rw [hj] at hk7
  clear h hj
  go_enter Try.func26, Try.ntmps26
  go_wp2_with fail
  refine (end_walk B b er e1 (by exact HQ.out) _ (by exact HA.out)).mono ?_; rintro e w2 ⟨rfl, hi2, hf2⟩
  have HI := Lib.hid hi2
  have HF := Lib.hid (HF0.out.trans hf2)
  clear hi2 hf2
  go_wp2_with fail
  go_ret2
  exact ⟨rfl, HI.out, HF.out⟩
end Go.Proofs.Ytkogechopdfleaa
