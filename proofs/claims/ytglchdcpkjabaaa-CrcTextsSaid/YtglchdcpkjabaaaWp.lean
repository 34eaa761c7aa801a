import Derived.Test.YtglchdcpkjabaaaWo
namespace Go.Proofs.Ytglchdcpkjabaaa
open Go.RowKit

theorem flip_byte (v : UInt8) (bit : Nat) : bits .xor .u8 (v.toNat : Int) (128 / 2 ^ (bit % 8)) = ((v ^^^ mask bit).toNat : Int) := by
  have hv := v.toNat_lt
  rw [mask_form, u8_xor_nat _ _ (by omega) (mask_lt bit), UInt8.toNat_xor, mask_toNat]
theorem flip_set (l : List UInt8) (bit : Nat) (h : bit / 8 < l.length) : flip l bit = l.set (bit / 8) (l.getD (bit / 8) 0 ^^^ mask bit) := by
  unfold flip
  rw [dif_pos h]
  simp [List.getD, h]
set_option maxRecDepth 10000 in
set_option maxHeartbeats 400000 in
theorem rflip_yes (s : ByteArray) (bit : Nat) (hs : s.size ≤ 1048576) (h : bit < 8 * s.size) (w : World) :
    Calls Try.prog 14 #[.string s, .int .i64 bit] w fun e w' => e = .returned (.tuple #[.string (flipB s bit), .bool true]) ∧ Below w.heap.size w w' := by
  have hcv := fun W => run_bytes_of_string (P := Try.prog) W 9 35 5 s Try.underlying9 Try.underlying35 Try.underlying5
  have h' : (bit : Int) / 8 < s.size := by omega
  obtain ⟨v, hv⟩ : ∃ v : UInt8, v = s.data.toList.getD (bit / 8) 0 := ⟨_, rfl⟩
  have hvl : (v.toNat : Int) < 256 := by have := v.toNat_lt; omega
  have HV := Lib.hid hv
  have HSS := Lib.hid hs
  have hs2 : s.size ≤ 2 ^ 20 := hs
  clear hv hs
  go_enter Try.func14, Try.ntmps14
  go_wp2_with fail
  generalize hcap : grownCap w s.size 0 5 = cap
  have hR := (BRow.new w s cap _ rfl).drew
  obtain ⟨w1, hw1⟩ : ∃ w1, w1 = (w.alloc (.cells (bytesRow s cap) 5 ((bytesRow s cap).size, (bytesRow s cap).size + 1))).drew := ⟨_, rfl⟩
  have hb : Below w.heap.size w w1 := by rw [hw1]; exact ((Below.refl _ _).alloc (Nat.le_refl _) _).drew
  rw [← hw1]
  rw [← hw1] at hR
  have hcell := hR.cell (bit / 8) (by simp; omega)
  have hfz := hR.frozen (bit / 8) (by simp; omega)
  rw [← HV.out] at hcell
  have HR := Lib.hid hR
  have HB := Lib.hid hb
  clear hcap hcv hw1 hR hb
  go_region
  have hR2 := (HR.out.set_ (bit / 8) (by simp; omega) (v ^^^ mask bit) _ (flip_byte v bit)).drew
  rw [HV.out, ← flip_set _ _ (by simp; omega), ← HV.out] at hR2
  have hback := hR2.str cap s.size (by rw [flip_length]; simp)
  have HB2 : Hid (Below w.heap.size w (w1.setCell ⟨w.heap.size, bit / 8, none⟩ (.int .u8 (bits .xor .u8 (v.toNat : Int) (128 / 2 ^ (bit % 8))))).drew) := Lib.hid (HB.out.setCell (Nat.le_refl _) _).drew
  obtain ⟨w2, hw2⟩ : ∃ w2, w2 = (w1.setCell ⟨w.heap.size, bit / 8, none⟩ (.int .u8 (bits .xor .u8 (v.toNat : Int) (128 / 2 ^ (bit % 8))))).drew := ⟨_, rfl⟩
  rw [← hw2] at hback HB2 ⊢
  clear hR2 hw2 hcell hfz
  go_wp2
  go_ret2
  exact ⟨rfl, HB2.out⟩
theorem rflip_low (s : ByteArray) (bit : Int) (h : bit < 0) (w : World) :
    Calls Try.prog 14 #[.string s, .int .i64 bit] w fun e w' => e = .returned (.tuple #[.string ⟨#[]⟩, .bool false]) ∧ Below w.heap.size w w' := by
  go_enter Try.func14, Try.ntmps14
  go_wp2_with fail
  go_ret2
  exact ⟨rfl, Below.refl _ _⟩
set_option maxRecDepth 10000 in
theorem rflip_high (s : ByteArray) (bit : Int) (hs : s.size ≤ 1048576) (h0 : 0 ≤ bit) (hmx : bit ≤ 9223372036854775807) (h : (s.size : Int) ≤ bit / 8) (w : World) :
    Calls Try.prog 14 #[.string s, .int .i64 bit] w fun e w' => e = .returned (.tuple #[.string ⟨#[]⟩, .bool false]) ∧ Below w.heap.size w w' := by
  go_enter Try.func14, Try.ntmps14
  go_wp2_with fail
  go_ret2
  exact ⟨rfl, Below.refl _ _⟩

theorem rflip_at (s t : ByteArray) (bit : Nat) (hs : s.size ≤ 1048576) (h : bit < 8 * s.size) (hf : flipB s bit = t) (w : World) :
    Calls Try.prog 14 #[.string s, .int .i64 bit] w fun e w' => e = .returned (.tuple #[.string t, .bool true]) ∧ Below w.heap.size w w' := by
  subst hf; exact rflip_yes s bit hs h w
theorem rlocate_short (s : ByteArray) (h : s.size < 4 ∨ 4096 < s.size) (hs : s.size ≤ 2 ^ 20) (w : World) : Calls Try.prog 16 #[.string s] w fun e w' => e = .returned (locV s.data.toList) ∧ Below w.heap.size w w' := by
  have hn := Lib.hid (locV_none (loc_short (l := s.data.toList) (by simp; omega)))
  rcases h with h | h
  all_goals
    go_enter Try.func16, Try.ntmps16
    go_wp2_with fail
    go_ret2
    exact ⟨hn.out, Below.refl _ _⟩
theorem rlocate_walk (s : ByteArray) (h4 : 4 ≤ s.size) (h40 : s.size ≤ 4096) (w : World) : Calls Try.prog 16 #[.string s] w fun e w' => e = .returned (locV s.data.toList) ∧ Below w.heap.size w w' := by
  have HL : Hid (s.data.toList.length = s.size) := Lib.hid (by simp)
  go_enter Try.func16, Try.ntmps16
  go_wp2_with fail
  go_loopw [4] (fun i wr => ∃ k : Nat, k ≤ 8 * s.size ∧ i = .int .i64 k ∧ Below w.heap.size w wr ∧ ∀ n, n < k → ¬ wrongAt s.data.toList n) (fun i _ => 8 * s.size - (intOf i).toNat)
  case atStart => exact ⟨0, by omega, rfl, Below.refl _ _, fun n hn => absurd hn (by omega)⟩
  case round =>
    obtain ⟨k, hk, rfl, hb, hno⟩ := hrel
    have HB := Lib.hid hb
    have HNO := Lib.hid hno
    clear hb hno
    obtain ⟨t, ht⟩ : ∃ t, flipB s k = t := ⟨_, rfl⟩
    have hts : t.size ≤ 1048576 := by rw [← ht, flipB_size]; omega
    by_cases hlt : k < 8 * s.size
    · have hw : wrongAt s.data.toList k ↔ opens t.data.toList = true := by
        rw [wrongAt_flip (by rw [HL.out]; exact h4) k (by rw [HL.out]; exact hlt), ← ht, flipB_list]
        unfold opens
        rw [decide_eq_true_eq]
        exact ⟨fun h => ⟨by rw [flip_length, HL.out]; exact h4, h⟩, fun h => h.2⟩
      have HT := Lib.hid ht
      have HW := Lib.hid hw
      have HTS := Lib.hid hts
      clear ht hw hts
      by_cases ho : opens t.data.toList = true
      · have HO := Lib.hid ho
        clear ho
        go_wp2_with fail
        refine (rflip_at s t k (by omega) hlt HT.out _).mono ?_; rintro e w1 ⟨rfl, hb1⟩
        go_wp2_with fail
        refine (ropen_yes t HTS.out HO.out _).mono ?_; rintro e w2 ⟨rfl, hb2⟩
        go_wp2_with fail
        go_ret2
        exact ⟨locV_some (loc_some (by rw [HL.out]; exact h4) (by rw [HL.out]; exact h40) (HW.out.2 HO.out)) rfl, bstep (bstep HB.out (Nat.le_refl _) hb1) (Nat.le_refl _) hb2⟩
      · have HO := Lib.hid (show opens t.data.toList = false by simpa using ho)
        clear ho
        go_wp2_with fail
        refine (rflip_at s t k (by omega) hlt HT.out _).mono ?_; rintro e w1 ⟨rfl, hb1⟩
        go_wp2_with fail
        refine (ropen_no t HTS.out HO.out _).mono ?_; rintro e w2 ⟨rfl, hb2⟩
        go_wp2_with fail
        go_roundw
        case rel => exact ⟨k + 1, by omega, by go_num, bstep (bstep HB.out (Nat.le_refl _) hb1) (Nat.le_refl _) hb2, fun n hn => by
          by_cases hnk : n = k
          · rw [hnk, HW.out, HO.out]; decide
          · exact HNO.out n (by omega)⟩
        case measure => simp [intOf]; omega
    · obtain rfl : k = 8 * s.size := by omega
      have hn := Lib.hid (locV_none (loc_none (l := s.data.toList) (fun n hw => HNO.out n (by rw [← HL.out]; exact hw.1) hw)))
      clear ht hts
      go_wp2_with fail
      go_ret2
      exact ⟨hn.out, HB.out⟩
end Go.Proofs.Ytglchdcpkjabaaa
