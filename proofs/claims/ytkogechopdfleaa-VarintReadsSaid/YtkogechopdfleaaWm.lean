import Derived.Test.YtkogechopdfleaaWl
namespace Go.Proofs.Ytkogechopdfleaa
open Go.RowKit

theorem decI_zig (n : Int) (h1 : ¬ n < -4611686018427387904) (h2 : ¬ 4611686018427387904 ≤ n) : decI (zig n) = n := by
  unfold decI zig
  split <;> split <;> omega
theorem zig_lt (n : Int) (h1 : ¬ n < -4611686018427387904) (h2 : ¬ 4611686018427387904 ≤ n) : zig n < 2 ^ 63 := by
  unfold zig
  split <;> omega
theorem size_arr (a : List UInt8) : (⟨a.toArray⟩ : ByteArray).size = a.length := by
  show a.toArray.size = _
  simp
theorem extract_drop (a : List UInt8) (c : ByteArray) (k n : Nat) (hk : k = a.length) (hn : n = a.length + c.size) : ((⟨a.toArray⟩ : ByteArray) ++ c).extract k n = c := by
  exact ByteArray.extract_append_eq_right (by rw [hk]; exact (size_arr a).symm) (by rw [hn, size_arr a])
theorem toList_append (a : List UInt8) (c : ByteArray) : ((⟨a.toArray⟩ : ByteArray) ++ c).data.toList = a ++ c.data.toList := by
  simp
theorem readS_err (dec lo hi b er) (h : er ≠ 0) : readS dec lo hi b er = (b, er, 0) := by unfold readS; rw [if_pos h]
theorem takeS_err (n b er) (h : er ≠ 0) : takeS n b er = (b, er, ⟨#[]⟩) := by unfold takeS; rw [if_pos h]; rfl
theorem textS_err (n b er) (h : er ≠ 0) : textS n b er = (b, er, ⟨#[]⟩) := by
  unfold textS; rw [readS_err _ _ _ _ _ h]; simp only [takeS_err _ _ _ h]; rw [if_pos h]; rfl
theorem endS_err (b er) (h : er ≠ 0) : endS b er = er := by unfold endS; rw [if_neg (by simp [h])]
theorem readS_num (dec : Nat → Int) (lo hi : Int) (z : Nat) (hz : z < 2 ^ 63) (c : ByteArray) (h1 : ¬ dec z < lo) (h2 : ¬ hi < dec z) : readS dec lo hi ((⟨(num z).toArray⟩ : ByteArray) ++ c) 0 = (c, 0, dec z) := by
  unfold readS
  rw [toList_append, peek_num z hz, if_neg (by simp)]
  simp only [if_neg h1, if_neg h2]
  rw [extract_drop _ _ _ _ rfl (by rw [ByteArray.size_append, size_arr (num z)])]
theorem readS_out (dec : Nat → Int) (lo hi : Int) (z : Nat) (hz : z < 2 ^ 63) (c : ByteArray) (h : dec z < lo ∨ hi < dec z) : readS dec lo hi ((⟨(num z).toArray⟩ : ByteArray) ++ c) 0 = ((⟨(num z).toArray⟩ : ByteArray) ++ c, 2, 0) := by
  unfold readS
  rw [toList_append, peek_num z hz, if_neg (by simp)]
  by_cases h1 : dec z < lo
  · simp only [if_pos h1]
  · simp only [if_neg h1, if_pos (h.resolve_left h1)]
set_option maxRecDepth 10000 in
set_option maxHeartbeats 1000000 in
theorem limits_law (n most least : Int) (w : World) : Calls Try.prog 9 #[.int .i64 n, .int .i64 most, .int .i64 least] w fun e w' => e = .returned (.bool true) ∧ Below w.heap.size w w' := by
  by_cases h1 : n < -4611686018427387904
  · go_enter Try.func9, Try.ntmps9
    go_wp2_with fail
    refine (awake_walk _).mono ?_; rintro e w0 ⟨rfl, hb0⟩
    have HB0 := Lib.hid hb0
    clear hb0
    go_wp2_with fail
    go_ret
    exact ⟨rfl, HB0.out⟩
  · by_cases h2 : 4611686018427387904 ≤ n
    · go_enter Try.func9, Try.ntmps9
      go_wp2_with fail
      refine (awake_walk _).mono ?_; rintro e w0 ⟨rfl, hb0⟩
      have HB0 := Lib.hid hb0
      clear hb0
      go_wp2_with fail
      go_ret
      exact ⟨rfl, HB0.out⟩
    · have E : intB n = num (zig n) := by unfold intB; rw [if_neg h1, if_neg h2]
      have hdec := decI_zig n h1 h2
      have hzl := zig_lt n h1 h2
      obtain ⟨l, hl⟩ : ∃ l, intB n = l := ⟨_, rfl⟩
      have hln : num (zig n) = l := by rw [← E, hl]
      have hlen : l.length ≤ 9 := by rw [← hln, num_length]; have := kOf_le (zig n); omega
      have hsum : ¬ 9223372036854775807 < l.length + 3 := by omega
      obtain ⟨b, hb⟩ : ∃ b, (⟨l.toArray⟩ : ByteArray) ++ ⟨#[97, 98, 99]⟩ = b := ⟨_, rfl⟩
      have hbs : b.size = l.length + 3 := by rw [← hb, ByteArray.size_append, size_arr l]; rfl
      have HL := Lib.hid hl
      by_cases hin : ¬ n < least ∧ ¬ most < n
      · obtain ⟨h3, h4⟩ := hin
        have hr := readS_num decI least most (zig n) hzl ⟨#[97, 98, 99]⟩ (by rw [hdec]; exact h3) (by rw [hdec]; exact h4)
        rw [hln, hdec, hb] at hr
        have HR := Lib.hid hr
        clear hr hdec hzl hln hl E
        go_enter Try.func9, Try.ntmps9
        go_wp2_with fail
        refine (awake_walk _).mono ?_; rintro e w0 ⟨rfl, hb0⟩
        have HB0 := Lib.hid hb0
        clear hb0
        go_wp2_with fail
        refine (int_walk n l (by exact HL.out) _).mono ?_; rintro e w1 ⟨rfl, hb1⟩
        have HB1 := Lib.hid (step_b HB0.out hb1)
        clear hb1
        go_wp2_with fail
        refine (new_walk _ _).mono ?_; rintro e w8 ⟨rfl, hi, hf⟩
        obtain ⟨B, hB⟩ : ∃ B, w1.heap.size = B := ⟨_, rfl⟩
        rw [hB] at hi hf ⊢
        have hBw : w.heap.size ≤ B := by rw [← hB]; exact HB1.out.size
        have HB8 := Lib.hid (HB1.out.trans (hf _ hBw))
        have HI := Lib.hid hi
        clear hi hf hB
        go_wp2_with fail
        refine (rint_walk B b 0 least most _ _ _ (by exact HR.out) _ (by exact HI.out)).mono ?_; rintro e w9 ⟨rfl, hi, hf⟩
        have HB9 := Lib.hid (HB8.out.trans (hf _ hBw))
        have HI2 := Lib.hid hi
        clear hi hf
        go_wp2_with fail
        refine (err_walk B _ 0 _ (by exact HI2.out)).mono ?_; rintro e _ ⟨rfl, rfl⟩
        go_wp2_with fail
        refine (take_walk B ⟨#[97, 98, 99]⟩ 0 3 ⟨#[]⟩ 0 ⟨#[97, 98, 99]⟩ (by decide +kernel) _ (by exact HI2.out)).mono ?_; rintro e w10 ⟨rfl, hi, hf⟩
        have HB10 := Lib.hid (HB9.out.trans (hf _ hBw))
        have HI3 := Lib.hid hi
        clear hi hf
        go_wp2_with fail
        refine (end_walk B ⟨#[]⟩ 0 0 (by decide +kernel) _ (by exact HI3.out)).mono ?_; rintro e w11 ⟨rfl, hi, hf⟩
        have HB11 := Lib.hid (HB10.out.trans (hf _ hBw))
        clear hi hf
        go_wp2_with fail
        go_ret
        exact ⟨rfl, HB11.out⟩
      · have hin' : n < least ∨ most < n := by omega
        have hr := readS_out decI least most (zig n) hzl ⟨#[97, 98, 99]⟩ (by rw [hdec]; exact hin')
        rw [hln, hb] at hr
        have HR := Lib.hid hr
        have hcase : n < least ∨ (¬ n < least ∧ most < n) := by omega
        clear hr hdec hzl hln hl E hin hin'
        rcases hcase with h3 | ⟨h3, h4⟩
        all_goals
          go_enter Try.func9, Try.ntmps9
          go_wp2_with fail
          refine (awake_walk _).mono ?_; rintro e w0 ⟨rfl, hb0⟩
          have HB0 := Lib.hid hb0
          clear hb0
          go_wp2_with fail
          refine (int_walk n l (by exact HL.out) _).mono ?_; rintro e w1 ⟨rfl, hb1⟩
          have HB1 := Lib.hid (step_b HB0.out hb1)
          clear hb1
          go_wp2_with fail
          refine (new_walk _ _).mono ?_; rintro e w8 ⟨rfl, hi, hf⟩
          obtain ⟨B, hB⟩ : ∃ B, w1.heap.size = B := ⟨_, rfl⟩
          rw [hB] at hi hf ⊢
          have hBw : w.heap.size ≤ B := by rw [← hB]; exact HB1.out.size
          have HB8 := Lib.hid (HB1.out.trans (hf _ hBw))
          have HI := Lib.hid hi
          clear hi hf hB
          go_wp2_with fail
          refine (rint_walk B b 0 least most _ _ _ (by exact HR.out) _ (by exact HI.out)).mono ?_; rintro e w9 ⟨rfl, hi, hf⟩
          have HB9 := Lib.hid (HB8.out.trans (hf _ hBw))
          have HI2 := Lib.hid hi
          clear hi hf
          go_wp2_with fail
          refine (left_walk B _ 2 _ (by exact HI2.out)).mono ?_; rintro e _ ⟨rfl, rfl⟩
          go_wp2_with fail
          refine (err_walk B _ 2 _ (by exact HI2.out)).mono ?_; rintro e _ ⟨rfl, rfl⟩
          go_wp2_with fail
          refine (take_walk B b 2 1 _ _ _ (takeS_err _ _ _ (by decide)) _ (by exact HI2.out)).mono ?_; rintro e w10 ⟨rfl, hi, hf⟩
          have HB10 := Lib.hid (HB9.out.trans (hf _ hBw))
          have HI3 := Lib.hid hi
          clear hi hf
          go_wp2_with fail
          refine (rnum_walk B b 2 _ _ _ _ (readS_err _ _ _ _ _ (by decide)) _ (by exact HI3.out)).mono ?_; rintro e w11 ⟨rfl, hi, hf⟩
          have HB11 := Lib.hid (HB10.out.trans (hf _ hBw))
          have HI4 := Lib.hid hi
          clear hi hf
          go_wp2_with fail
          refine (text_walk B b 2 _ _ _ _ (textS_err _ _ _ (by decide)) _ (by exact HI4.out)).mono ?_; rintro e w12 ⟨rfl, hi, hf⟩
          have HB12 := Lib.hid (HB11.out.trans (hf _ hBw))
          have HI5 := Lib.hid hi
          clear hi hf
          go_wp2_with fail
          refine (left_walk B _ 2 _ (by exact HI5.out)).mono ?_; rintro e _ ⟨rfl, rfl⟩
          go_wp2_with fail
          refine (int_walk n l (by exact HL.out) _).mono ?_; rintro e w13 ⟨rfl, hb13⟩
          have hfr := hb13.block B (by exact (Array.getElem?_eq_some_iff.1 HI5.out).1)
          have HB13 := Lib.hid (step_b HB12.out hb13)
          have HI6 : Hid (IsR w13 B b 2) := Lib.hid (hfr.trans HI5.out)
          clear hb13 hfr
          go_wp2_with fail
          refine (end_walk B b 2 _ (endS_err _ _ (by decide)) _ (by exact HI6.out)).mono ?_; rintro e w14 ⟨rfl, hi, hf⟩
          have HB14 := Lib.hid (HB13.out.trans (hf _ hBw))
          clear hi hf
          go_wp2_with fail
          go_ret
          exact ⟨rfl, HB14.out⟩
theorem limits_in (n : Int) (_ : (Lit.int .i64 n).wf = true) (most : Int) (_ : (Lit.int .i64 most).wf = true) (least : Int) (_ : (Lit.int .i64 least).wf = true) (w : World) : Calls Try.prog 9 #[.int .i64 n, .int .i64 most, .int .i64 least] w fun e w' => e = .returned (.bool true) ∧ Below w.heap.size w w' := limits_law n most least w
end Go.Proofs.Ytkogechopdfleaa
