import Derived.Test.YtkogechopdfleaaWj
namespace Go.Proofs.Ytkogechopdfleaa
open Go.RowKit

theorem step_b {w b c : World} (h : Below w.heap.size w b) (k : Below b.heap.size b c) : Below w.heap.size w c := h.trans (k.mono h.size)
theorem number_lit (n : Nat) (hn : n < 2 ^ 63) (a : Array UInt8) (ha : (num n).toArray = a) (w : World) : Calls Try.prog 11 #[.int .i64 n] w fun e w' => e = .returned (.string ⟨a⟩) ∧ Below w.heap.size w w' := by
  subst ha; exact number_walk n hn w
theorem int_lit (n : Int) (a : Array UInt8) (ha : (intB n).toArray = a) (w : World) : Calls Try.prog 13 #[.int .i64 n] w fun e w' => e = .returned (.string ⟨a⟩) ∧ Below w.heap.size w w' := by
  subst ha; exact int_walk n _ rfl w
theorem text_lit (s c : ByteArray) (hs : s.size < 2 ^ 62) (ha : (⟨(num s.size).toArray⟩ : ByteArray) ++ s = c) (w : World) : Calls Try.prog 15 #[.string s] w fun e w' => e = .returned (.string c) ∧ Below w.heap.size w w' := by
  subst ha; exact textF_walk s hs w
theorem awake_text : textS 9 ⟨#[2, 97, 98]⟩ 0 = (⟨#[]⟩, 0, ⟨#[97, 98]⟩) := by decide +kernel
set_option maxRecDepth 10000 in
set_option maxHeartbeats 400000 in
theorem awake_walk (w : World) : Calls Try.prog 10 #[] w fun e w' => e = .returned (.bool true) ∧ Below w.heap.size w w' := by
  go_enter Try.func10, Try.ntmps10
  go_wp2_with fail
  refine (number_lit 127 (by decide) #[127] (by decide +kernel) _).mono ?_; rintro e w1 ⟨rfl, hb1⟩
  have HB1 := Lib.hid hb1
  clear hb1
  go_wp2_with fail
  refine (number_lit 128 (by decide) #[128, 0] (by decide +kernel) _).mono ?_; rintro e w2 ⟨rfl, hb1⟩
  have HB2 := Lib.hid (step_b HB1.out hb1)
  clear hb1
  go_wp2_with fail
  refine (number_lit 16511 (by decide) #[191, 255] (by decide +kernel) _).mono ?_; rintro e w3 ⟨rfl, hb1⟩
  have HB3 := Lib.hid (step_b HB2.out hb1)
  clear hb1
  go_wp2_with fail
  refine (number_lit 16512 (by decide) #[192, 0, 0] (by decide +kernel) _).mono ?_; rintro e w4 ⟨rfl, hb1⟩
  have HB4 := Lib.hid (step_b HB3.out hb1)
  clear hb1
  go_wp2_with fail
  refine (int_lit (-1) #[1] (by decide +kernel) _).mono ?_; rintro e w5 ⟨rfl, hb1⟩
  have HB5 := Lib.hid (step_b HB4.out hb1)
  clear hb1
  go_wp2_with fail
  refine (int_lit 1 #[2] (by decide +kernel) _).mono ?_; rintro e w6 ⟨rfl, hb1⟩
  have HB6 := Lib.hid (step_b HB5.out hb1)
  clear hb1
  go_wp2_with fail
  refine (text_lit ⟨#[97, 98]⟩ ⟨#[2, 97, 98]⟩ (by decide) (by decide +kernel) _).mono ?_; rintro e w7 ⟨rfl, hb1⟩
  have HB7 := Lib.hid (step_b HB6.out hb1)
  clear hb1
  go_wp2_with fail
  refine (new_walk _ _).mono ?_; rintro e w8 ⟨rfl, hi, hf⟩
  obtain ⟨B, hB⟩ : ∃ B, w7.heap.size = B := ⟨_, rfl⟩
  rw [hB] at hi hf ⊢
  have hBw : w.heap.size ≤ B := by rw [← hB]; exact HB7.out.size
  have HB8 := Lib.hid (HB7.out.trans (hf _ hBw))
  have HI := Lib.hid hi
  clear hi hf hB
  go_wp2_with fail
  refine (text_walk B ⟨#[2, 97, 98]⟩ 0 9 _ _ _ awake_text _ (by exact HI.out)).mono ?_; rintro e w9 ⟨rfl, hi, hf⟩
  have HB9 := Lib.hid (HB8.out.trans (hf _ hBw))
  have HI2 := Lib.hid hi
  clear hi hf
  go_wp2_with fail
  refine (end_walk B ⟨#[]⟩ 0 0 (by decide +kernel) _ (by exact HI2.out)).mono ?_; rintro e w10 ⟨rfl, hi, hf⟩
  have HB10 := Lib.hid (HB9.out.trans (hf _ hBw))
  clear hi hf
  go_wp2_with fail
  go_ret
  exact ⟨rfl, HB10.out⟩
end Go.Proofs.Ytkogechopdfleaa
