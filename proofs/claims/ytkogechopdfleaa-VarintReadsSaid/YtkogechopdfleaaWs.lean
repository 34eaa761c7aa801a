import Derived.Test.YtkogechopdfleaaWr
import Derived.Deep.RegionHeld3
import Derived.Deep.DrawnRows
import Derived.IntWalk
namespace Go.Proofs.Ytkogechopdfleaa
open Go.RowKit
attribute [local go_sem ↓] Go.wp_at_zero Go.wp_at_succ

theorem size_extract (s : ByteArray) (k : Nat) (hk : k ≤ s.size) : (s.extract k s.size).size = s.size - k := by
  rw [ByteArray.size_extract]; omega
theorem unique_next (s : ByteArray) (k u m : Nat) (hk : k ≤ s.size) (h : peekF (s.extract k s.size).data.toList = some (u, m)) :
    u < 2 ^ 63 ∧ 1 ≤ m ∧ m ≤ 9 ∧ k + m ≤ s.size ∧ (s.extract k s.size).extract m (s.extract k s.size).size = s.extract (k + m) s.size ∧ (s.extract k (k + m)).data.toList = num u := by
  obtain ⟨h1, h2, h3, h4, h5⟩ := num_peek _ _ _ h
  have hs := size_extract s k hk
  have hl : (s.extract k s.size).data.toList.length = s.size - k := hs
  rw [hl] at h2
  refine ⟨h1, h3, h4, by omega, ?_, ?_⟩
  · rw [hs, ByteArray.extract_extract]; congr 1; omega
  · rw [← h5]
    simp only [ByteArray.data_extract, Array.toList_extract, List.extract_eq_take_drop]
    rw [List.take_take]; congr 1; omega
theorem readN_none (b : ByteArray) (h : peekF b.data.toList = none) : readS decN 0 9223372036854775807 b 0 = (b, 12, 0) := by
  unfold readS; rw [if_neg (by simp), h]
theorem readN_some (b c : ByteArray) (u m : Nat) (h : peekF b.data.toList = some (u, m)) (hu : u < 2 ^ 63) (hc : b.extract m b.size = c) : readS decN 0 9223372036854775807 b 0 = (c, 0, (u : Int)) := by
  unfold readS; rw [if_neg (by simp), h]; have h1 : ¬ decN u < 0 := by unfold decN; omega
  have h2 : ¬ 9223372036854775807 < decN u := by unfold decN; omega
  simp only [if_neg h1, if_neg h2, hc]; rfl
set_option maxRecDepth 10000 in
set_option maxHeartbeats 1000000 in
theorem unique_law (s : ByteArray) (w : World) : Calls Try.prog 6 #[.string s] w fun e w' => e = .returned (.bool true) ∧ Below w.heap.size w w' := by
  by_cases hs : 300 < s.size
  · have hs' : (300 : Int) < s.size := by omega
    go_enter Try.func6, Try.ntmps6
    go_wp2_with fail
    refine (awake_walk _).mono ?_; rintro e w0 ⟨rfl, hb⟩
    have HB0 := Lib.hid hb
    clear hb
    go_wp2_with fail
    go_ret
    exact ⟨rfl, HB0.out⟩
  · have hs' : ¬ (300 : Int) < s.size := by omega
    go_enter Try.func6, Try.ntmps6
    go_wp2_with fail
    refine (awake_walk _).mono ?_; rintro e w0 ⟨rfl, hb⟩
    have HB0 := Lib.hid hb
    clear hb
    go_wp2_with fail
    refine (new_walk _ _).mono ?_; rintro e w1 ⟨rfl, hi, hf⟩
    obtain ⟨B, hB⟩ : ∃ B, w0.heap.size = B := ⟨_, rfl⟩
    rw [hB] at hi hf ⊢
    have hBw : w.heap.size ≤ B := by rw [← hB]; exact HB0.out.size
    have HB1 := Lib.hid (HB0.out.trans (hf _ hBw))
    have HI1 := Lib.hid hi
    clear hi hf hB
    go_wp2_with fail
    go_loopw [4] (fun i wr => ∃ k : Nat, k ≤ s.size ∧ i = .int .i64 k ∧ IsR wr B (s.extract k s.size) 0 ∧ Below w.heap.size w wr) (fun i _ => s.size - (intOf i).toNat)
    case atStart => exact ⟨0, by omega, rfl, by simpa using HI1.out, HB1.out⟩
    case round =>
      obtain ⟨k, hk, rfl, hi, hb⟩ := hrel
      have hsz := size_extract s k hk
      rcases hp : peekF (s.extract k s.size).data.toList with _ | ⟨u, m⟩
      · have hr := readN_none _ hp
        obtain ⟨b, hbb⟩ : ∃ b, s.extract k s.size = b := ⟨_, rfl⟩
        rw [hbb] at hi hsz hr
        have HR := Lib.hid hr
        have HIR := Lib.hid hi
        have HBR := Lib.hid hb
        have hkl : (k : Int) ≤ s.size := by omega
        have HSZ := Lib.hid hsz
        clear hr hp hbb hi hb hsz
        by_cases he : k = s.size
        · have hb0 : (b.size : Int) = 0 := by have := HSZ.out; omega
          have he' : endS b 0 = 0 := by
            unfold endS; rw [if_neg]
            have : b.data.toList.length = 0 := by have := HSZ.out; show b.size = 0; omega
            simp [List.length_eq_zero_iff.1 this]
          have HE := Lib.hid he'
          have hbz : b.size = 0 := by omega
          have hke : (k : Int) = s.size := by omega
          clear he' he hb0
          go_wp2_with fail
          refine (left_walk B b 0 _ (by exact HIR.out)).mono ?_; rintro e _ ⟨rfl, rfl⟩
          go_wp2_with fail
          refine (end_walk B b 0 0 (by exact HE.out) _ (by exact HIR.out)).mono ?_; rintro e w9 ⟨rfl, hi, hf⟩
          have HB9 := Lib.hid (HBR.out.trans (hf _ hBw))
          clear hi hf
          go_wp2_with fail
          go_ret
          exact ⟨rfl, HB9.out⟩
        · have hbp : (0 : Int) < b.size := by have := HSZ.out; omega
          go_wp2_with fail
          refine (left_walk B b 0 _ (by exact HIR.out)).mono ?_; rintro e _ ⟨rfl, rfl⟩
          go_wp2_with fail
          refine (left_walk B b 0 _ (by exact HIR.out)).mono ?_; rintro e _ ⟨rfl, rfl⟩
          go_wp2_with fail
          refine (rnum_walk B b 0 _ b 12 0 (by exact HR.out) _ (by exact HIR.out)).mono ?_; rintro e w3 ⟨rfl, hi, hf⟩
          have HB3 := Lib.hid (HBR.out.trans (hf _ hBw))
          have HI3 := Lib.hid hi
          clear hi hf
          go_wp2_with fail
          refine (err_walk B b 12 _ (by exact HI3.out)).mono ?_; rintro e _ ⟨rfl, rfl⟩
          go_wp2_with fail
          refine (err_walk B b 12 _ (by exact HI3.out)).mono ?_; rintro e _ ⟨rfl, rfl⟩
          go_wp2_with fail
          refine (left_walk B b 12 _ (by exact HI3.out)).mono ?_; rintro e _ ⟨rfl, rfl⟩
          go_wp2_with fail
          refine (end_walk B b 12 12 (endS_err _ _ (by decide)) _ (by exact HI3.out)).mono ?_; rintro e w9 ⟨rfl, hi, hf⟩
          have HB9 := Lib.hid (HB3.out.trans (hf _ hBw))
          clear hi hf
          go_wp2_with fail
          go_ret
          exact ⟨rfl, HB9.out⟩
      · obtain ⟨hu, hm1, hm9, hkm, hext, hnum⟩ := unique_next s k u m hk hp
        obtain ⟨c, hc⟩ : ∃ c, s.extract (k + m) s.size = c := ⟨_, rfl⟩
        have hr := readN_some _ c u m hp hu (hext.trans hc)
        have hcz : c.size = s.size - (k + m) := by rw [← hc]; exact size_extract s _ hkm
        obtain ⟨b, hbb⟩ : ∃ b, s.extract k s.size = b := ⟨_, rfl⟩
        rw [hbb] at hi hsz hr
        have HR := Lib.hid hr
        have HIR := Lib.hid hi
        have HBR := Lib.hid hb
        have hbp : (0 : Int) < b.size := by omega
        have hsub : (b.size : Int) - (c.size : Int) = m := by omega
        have HSUB := Lib.hid hsub
        have hcb : (c.size : Int) ≤ b.size := by omega
        have hbs : (b.size : Int) ≤ 300 := by omega
        have HU := Lib.hid hu
        have HM1 := Lib.hid hm1
        have HC := Lib.hid hc
        have hm1' : ¬ (m : Int) < 1 := by omega
        have hm9' : ¬ (9 : Int) < m := by omega
        have hkm' : (k : Int) + m ≤ s.size := by omega
        obtain ⟨l, hl⟩ : ∃ l, num u = l := ⟨_, rfl⟩
        have hne : ((s.extract k (k + m)).toList) = l := by rw [ByteArray.toList_eq, hnum, hl]
        have HL := Lib.hid hl
        clear hr hp hbb hi hb hsub hext hnum hc hcz hsz hu hl
        go_wp2_with fail
        refine (left_walk B b 0 _ (by exact HIR.out)).mono ?_; rintro e _ ⟨rfl, rfl⟩
        go_wp2_with fail
        refine (left_walk B b 0 _ (by exact HIR.out)).mono ?_; rintro e _ ⟨rfl, rfl⟩
        go_wp2_with fail
        refine (rnum_walk B b 0 _ c 0 u (by exact HR.out) _ (by exact HIR.out)).mono ?_; rintro e w3 ⟨rfl, hi, hf⟩
        have HB3 := Lib.hid (HBR.out.trans (hf _ hBw))
        have HI3 := Lib.hid hi
        clear hi hf
        go_wp2_with fail
        refine (err_walk B c 0 _ (by exact HI3.out)).mono ?_; rintro e _ ⟨rfl, rfl⟩
        go_wp2_with fail
        refine (left_walk B c 0 _ (by exact HI3.out)).mono ?_; rintro e _ ⟨rfl, rfl⟩
        go_wp2_with fail
        rw [HSUB.out]
        have hw1 : IntKind.i64.wrap ((k : Int) + (m : Int)) = (k : Int) + (m : Int) := IntWalk.i64_in _ (by omega)
        have hw2 : (0 : Int) ≤ (k : Int) + (m : Int) := by omega
        have hw3 : ((k : Int) + (m : Int)).toNat = k + m := by omega
        have hd1 : decide ((m : Int) < 1) = false := by simp; omega
        have hd2 : decide ((9 : Int) < m) = false := by simp; omega
        have hd3 : decide ((s.size : Int) < (k : Int) + (m : Int)) = false := by simp; omega
        have hsl : ∀ wx, (Instr.slice 9 (.string s) (some (.int .i64 (k : Int))) (some (.int .i64 ((k : Int) + (m : Int)))) none).run Try.prog wx = .ok (.string (s.extract k (k + m))) wx := fun wx => by
          have := run_slice_string (P := Try.prog) (w := wx) 9 s .i64 .i64 (k : Int) ((k : Int) + (m : Int)) Try.underlying9 (by omega) (by omega) (by omega)
          rw [this, hw3]; simp
        clear hm1 hm1' hm9 hm9' hbp hcb hbs hs hs' hkm'
        go_region_held3 (fun _ => True) (exact True.intro) (first | (go_at_call 11; refine (num_nat u l HU HL _).mono ?_; rintro e w4 ⟨rfl, hb4⟩))
        have hfr := hb4.block B (by exact (Array.getElem?_eq_some_iff.1 HI3.out).1)
        have HB4 := Lib.hid (step_b (c := w4) HB3.out.drew hb4)
        have HI4 : Hid (IsR w4 B c 0) := Lib.hid (hfr.trans HI3.out)
        clear hb4 hfr hw1 hw2 hw3 hsl
        have hkm2 : k + m ≤ 9223372036854775807 := by omega
        go_wp2_with fail
        go_roundw
        case rel => exact ⟨k + m, by omega, by go_num, by rw [HC.out]; exact HI4.out, HB4.out⟩
        case measure => have := HM1.out; simp [intOf]; omega
theorem unique_in (s : ByteArray) (_ : s.size ≤ maxLen) (w : World) : Calls Try.prog 6 #[.string s] w fun e w' => e = .returned (.bool true) ∧ Below w.heap.size w w' := unique_law s w
end Go.Proofs.Ytkogechopdfleaa
