import Derived.Test.YtglchdcpkjabaaaWg
namespace Go.Proofs.Ytglchdcpkjabaaa
open Go.RowKit

noncomputable def locV (l : List UInt8) : Value := .tuple #[.int .i64 (((loc l).getD 0 : Nat) : Int), .bool (loc l).isSome]
theorem locV_some {l : List UInt8} {n : Nat} {a : Int} (h : loc l = some n) (ha : a = n) : Ending.returned (.tuple #[.int .i64 a, .bool true]) = .returned (locV l) := by
  rw [locV, h, ha]; rfl
theorem locV_none {l : List UInt8} (h : loc l = none) : Ending.returned (.tuple #[.int .i64 0, .bool false]) = .returned (locV l) := by
  rw [locV, h]; rfl

theorem locate_short (s : ByteArray) (h : s.size < 4 ∨ 4096 < s.size) (hs : s.size ≤ 1048576) (w : World) : Calls Try.prog 15 #[.string s] w fun e w' => e = .returned (locV s.data.toList) ∧ Below w.heap.size w w' := by
  have hn := Lib.hid (locV_none (loc_short (l := s.data.toList) (by simp; omega)))
  rcases h with h | h
  all_goals
    go_enter Try.func15, Try.ntmps15
    go_wp2_with fail
    go_ret2
    exact ⟨hn.out, Below.refl _ _⟩
theorem locate_zero (s : ByteArray) (h4 : 4 ≤ s.size) (h40 : s.size ≤ 4096) (h0 : syn s.data.toList = 0) (w : World) : Calls Try.prog 15 #[.string s] w fun e w' => e = .returned (locV s.data.toList) ∧ Below w.heap.size w w' := by
  have hn := Lib.hid (locV_none (loc_none (l := s.data.toList) (not_wrongAt_of_syn_zero h0)))
  have H0 := Lib.hid h0
  clear h0
  go_enter Try.func15, Try.ntmps15
  go_wp2_with (go_at_call 25; refine (syn_at s 0 h4 (by omega) H0.out _).mono ?_; rintro e _ ⟨rfl, rfl⟩)
  go_ret2
  exact ⟨hn.out, Below.refl _ _⟩

set_option maxHeartbeats 1000000 in
theorem locate_walk (s : ByteArray) (h4 : 4 ≤ s.size) (h40 : s.size ≤ 4096) (h0 : syn s.data.toList ≠ 0) (w : World) : Calls Try.prog 15 #[.string s] w fun e w' => e = .returned (locV s.data.toList) ∧ Below w.heap.size w w' := by
  obtain ⟨y, hy⟩ : ∃ y, syn s.data.toList = y := ⟨_, rfl⟩
  have hy0 : ((y : Int) == 0) = false := by rw [← hy]; simp; omega
  have hylt : y < 2 ^ 32 := by rw [← hy]; exact syn_lt _
  have h4l : Hid (4 ≤ s.data.toList.length) := Lib.hid (by simpa using h4)
  have h40l : Hid (s.data.toList.length ≤ 4096) := Lib.hid (by simpa using h40)
  have HL : Hid (s.data.toList.length = s.size) := Lib.hid (by simp)
  have HY := Lib.hid hy
  clear hy h0
  go_enter Try.func15, Try.ntmps15
  go_wp2_with (go_at_call 25; refine (syn_at s y h4 (by omega) HY.out _).mono ?_; rintro e _ ⟨rfl, rfl⟩)
  go_loop [27] (fun i => ∃ k : Nat, k ≤ 32 ∧ i = .int .i64 k ∧ NoLow s.data.toList k) (fun i => 32 - (intOf i).toNat)
  case atStart => exact ⟨0, by omega, rfl, fun i hi => absurd hi (by omega)⟩
  case round =>
    obtain ⟨k, hk, rfl, hno⟩ := hrel
    have HNO := Lib.hid hno
    clear hno
    by_cases hlt : k < 32
    · have hk2 : (k : Int) < 32 := by omega
      have hsh := shl32 k hlt
      by_cases hit : y = 2 ^ k
      · have hb : ((y : Int) == ((2 ^ k : Nat) : Int)) = true := by rw [hit]; simp
        rw [← hsh] at hb
        have HIT := Lib.hid hit
        clear hit hsh
        go_wp2_with fail
        go_ret2
        refine ⟨locV_some (loc_some h4l.out h40l.out ((wrong_low h4l.out hlt).2 (HY.out.trans HIT.out))) ?_, rfl, rfl, rfl, Nat.le_refl _, fun _ _ => rfl⟩
        rw [HL.out]; omega
      · have hb : ((y : Int) == ((2 ^ k : Nat) : Int)) = false := by simp only [beq_eq_false_iff_ne, ne_eq]; omega
        rw [← hsh] at hb
        have HIT := Lib.hid hit
        clear hit hsh
        go_wp2_with fail
        go_round
        case rel => exact ⟨k + 1, by omega, by go_num, HNO.out.succ (by rw [HY.out]; exact HIT.out)⟩
        case measure => simp [intOf]; omega
    · obtain rfl : k = 32 := by omega
      go_wp2_with fail
      go_loopw [44] (fun i wr => ∃ k : Nat, k ≤ 8 ∧ i = .int .i64 k ∧ Below w.heap.size w wr ∧ Mat8 wr w.heap.size (fun i => sh 8 (2 ^ i)) k) (fun i _ => 8 - (intOf i).toNat)
      case atStart => exact ⟨0, by omega, rfl, (Below.refl _ _).alloc (Nat.le_refl _) _, _, heap_alloc_new _ _, rfl, fun i hi => absurd hi (by omega)⟩
      case round =>
        obtain ⟨k, hk, rfl, hb1, hM⟩ := hrel
        by_cases hlt : k < 8
        · obtain ⟨v, hv⟩ := hM.some_cell k hlt
          have hf := hM.frozen k
          have hk2 : (k : Int) < 8 := by omega
          have HM := Lib.hid hM
          clear hM
          go_wp2_with fail
          rw [shl32 k (by omega)]
          refine (shift_walk (2 ^ k) (Nat.pow_lt_pow_right (by decide) (by omega)) _).mono ?_; rintro e _ ⟨rfl, rfl⟩
          go_wp2_with fail
          go_roundw
          case rel => exact ⟨k + 1, by omega, by go_num, hb1.setCell (Nat.le_refl _) _, HM.out.set_ hlt⟩
          case measure => simp [intOf]; omega
        · obtain rfl : k = 8 := by omega
          have HM := Lib.hid hM
          have HB := Lib.hid hb1
          clear hM hb1
          go_wp2_with fail
          rw [show ((8 : Nat) : Int) = 8 from rfl]
          go_loopw [9] (fun x w2 => ∃ a : Nat, a ≤ s.size - 4 ∧ x = .int .i64 ((a : Int) - 1) ∧ NoHigh s.data.toList a ∧ Below w.heap.size w w2 ∧ Mat8 w2 w.heap.size (fun i => sh (8 * (s.size - 4 - a + 1)) (2 ^ i)) 8) (fun x _ => ((intOf x) + 1).toNat)
          case atStart => exact ⟨s.size - 4, Nat.le_refl _, val_int (by omega), fun p i h1 h2 => absurd h2 (by rw [HL.out]; omega), HB.out, by rw [show s.size - 4 - (s.size - 4) + 1 = 1 by omega]; exact HM.out⟩
          case round =>
            obtain ⟨a, ha, rfl, hno, hb2, hM2⟩ := hrel
            have HNH := Lib.hid hno
            have HB2 := Lib.hid hb2
            obtain ⟨wo, rfl⟩ : ∃ wo : World, wo = wr := ⟨_, rfl⟩
            by_cases ha0 : a = 0
            · subst ha0
              have hln := Lib.hid (locV_none (loc_no h4l.out HNO.out HNH.out))
              clear hM2 hno hb2
              go_wp2_with fail
              go_ret2
              exact ⟨hln.out, HB2.out⟩
            · have ha1 : (1 : Int) ≤ a := by omega
              obtain ⟨g, hg⟩ : ∃ g : Nat → Nat, g = fun i => sh (8 * (s.size - 4 - a + 1)) (2 ^ i) := ⟨_, rfl⟩
              rw [← hg] at hM2
              have HG := Lib.hid hg
              have HM2 := Lib.hid hM2
              have HI : Hid ((Try.prog.info? 45).map (·.size) = some 8) := Lib.hid (by kernel_rfl)
              clear hM2 hno hb2 hg ha0
              go_wp2_with (refine wpList_load_row rfl 45 (.tmp 7) rfl w.heap.size rfl 45 _ (0, 0) _ (by exact HM2.out.lit) Try.underlying45 rfl (by exact HI.out) ?_)
              go_loopw [60] (fun i w3 => ∃ k : Nat, k ≤ 8 ∧ i = .int .i64 k ∧ NoAt s.data.toList (a - 1) k ∧ Below w.heap.size w w3 ∧ Mat8 w3 w.heap.size (fun i => sh 8 (g i)) k) (fun i _ => 8 - (intOf i).toNat)
              case atStart => exact ⟨0, by omega, rfl, fun i hi => absurd hi (by omega), HB2.out, mat8_zero HM2.out⟩
              case round =>
                obtain ⟨k, hk, rfl, hna, hb3, hM3⟩ := hrel
                have HNA := Lib.hid hna
                have HB3 := Lib.hid hb3
                have HM3 := Lib.hid hM3
                clear hna hb3 hM3
                by_cases hlt : k < 8
                · have hidx := idx8 g k hlt
                  have hk2 : (k : Int) < 8 := by omega
                  have hgk : g k < 2 ^ 32 := by rw [HG.out]; exact sh_lt _ (Nat.pow_lt_pow_right (by decide) (by omega))
                  by_cases hit : g k = y
                  · have hb : ((g k : Int) == (y : Int)) = true := by rw [hit]; simp
                    have HIT := Lib.hid hit
                    clear hit
                    go_wp2_with fail
                    go_ret2
                    refine ⟨locV_some (loc_some h4l.out h40l.out ((wrong_high (p := a - 1) (i := k) h4l.out hlt (by rw [HL.out]; omega)).2 (by rw [HY.out, ← HIT.out, HG.out, HL.out, show s.size - 4 - (a - 1) = s.size - 4 - a + 1 by omega]))) ?_, HB3.out⟩
                    omega
                  · have hb : ((g k : Int) == (y : Int)) = false := by simp only [beq_eq_false_iff_ne, ne_eq]; omega
                    have HIT := Lib.hid hit
                    obtain ⟨v3, hv3⟩ := HM3.out.some_cell k hlt
                    have hf3 := HM3.out.frozen k
                    clear hit
                    go_wp2_with (go_at_call 27; refine (shift_walk (g k) hgk _).mono ?_; rintro e _ ⟨rfl, rfl⟩)
                    go_roundw
                    case rel => exact ⟨k + 1, by omega, by go_num, HNA.out.succ (by rw [HY.out]; intro h; apply HIT.out; rw [← h, HG.out, HL.out, show s.size - 4 - (a - 1) = s.size - 4 - a + 1 by omega]), HB3.out.setCell (Nat.le_refl _) _, HM3.out.set_ hlt⟩
                    case measure => simp [intOf]; omega
                · obtain rfl : k = 8 := by omega
                  go_wp2_with fail
                  go_roundw
                  case rel => exact ⟨a - 1, by omega, val_int (by omega), (show NoHigh s.data.toList (a - 1 + 1) by rw [show a - 1 + 1 = a by omega]; exact HNH.out).down HNA.out, HB3.out, HM3.out.congr (fun i _ => by rw [HG.out, ← sh_add]; congr 1; omega)⟩
                  case measure => simp [intOf]; omega
end Go.Proofs.Ytglchdcpkjabaaa
