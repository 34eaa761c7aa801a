import Derived.Test.YtonkamdipalbpaaWa
import Derived.Test.YtonkamdipalbpaaPb
namespace Go.Proofs.Ytonkamdipalbpaa
open Go.RowKit
attribute [local go_sem ↓] Go.wp_at_zero Go.wp_at_succ

theorem ret_str {a b : ByteArray} (h : a = b) : Ending.returned (.string a) = .returned (.string b) := by rw [h]
theorem conv1 (w : World) (x : Int) : (convert 37 9 (.slice (some ⟨w.heap.size, 0, none⟩) 1 1)).run Try.prog (w.alloc (.cells #[.int .u8 x] 5)) =
    .ok (.string ⟨#[UInt8.ofNat x.toNat]⟩) (w.alloc (.cells #[.int .u8 x] 5)) := by
  have := run_convert_bytes_arg (P := Try.prog) (w.alloc (.cells #[.int .u8 x] 5)) 37 5 Try.underlying37 Try.underlying5 w.heap.size 0 1 1 [x] rfl (by
    intro i hi
    rw [World.cell?_alloc_mark]
    match i, hi with
    | 0, _ => rfl) 9 Try.underlying9
  exact this
theorem cons_bytes (x : UInt8) (l : List UInt8) : (⟨#[x]⟩ ++ ⟨l.toArray⟩ : ByteArray) = ⟨(x :: l).toArray⟩ := by
  apply ByteArray.ext
  simp
theorem ofNat_mod2 (q : Nat) : UInt8.ofNat (q % 256) = UInt8.ofNat q := by
  apply UInt8.toNat_inj.1
  rw [UInt8.toNat_ofNat', UInt8.toNat_ofNat']; omega
theorem ofNat_mod (q : Nat) : UInt8.ofNat (((q : Int) % 256).toNat) = UInt8.ofNat q := by
  rw [show ((q : Int) % 256).toNat = q % 256 by omega, ofNat_mod2]
/-- the bytes of a list -/
def bA (l : List UInt8) : ByteArray := ⟨l.toArray⟩
theorem bA_size (l : List UInt8) : (bA l).size = l.length := by
  show l.toArray.size = _
  simp
theorem bA_list (l : List UInt8) : (bA l).data.toList = l := by simp [bA]
theorem bA_app (a b : List UInt8) : bA a ++ bA b = bA (a ++ b) := by
  apply ByteArray.ext; simp [bA]
theorem big_walk (v k : Nat) (hv : v < 2 ^ 63) (hk : k ≤ 64) (w : World) : Calls Try.prog 23 #[.int .i64 v, .int .i64 k] w fun e w' => e = .returned (.string (bA (beN v k))) ∧ Below w.heap.size w w' := by
  go_enter Try.func23, Try.ntmps23
  go_wp2_with fail
  go_loopw [0, 5, 6] (fun x o i wr => ∃ j : Nat, j ≤ k ∧ i = .int .i64 j ∧ x = .int .i64 ((v / 2 ^ (8 * j) : Nat) : Int) ∧ o = .string (bA (beN v j)) ∧ Below w.heap.size w wr) (fun _ _ i _ => k - (intOf i).toNat)
  case atStart => exact ⟨0, by omega, rfl, val_int (by simp), rfl, Below.refl _ _⟩
  case round =>
    obtain ⟨j, hj, rfl, rfl, rfl, hb⟩ := hrel
    obtain ⟨q, hq⟩ : ∃ q, v / 2 ^ (8 * j) = q := ⟨_, rfl⟩
    obtain ⟨o, ho⟩ : ∃ o : ByteArray, bA (beN v j) = o := ⟨_, rfl⟩
    have hos : o.size = j := by rw [← ho, bA_size, beN_length]
    have hql : q < 2 ^ 63 := by rw [← hq]; exact Nat.lt_of_le_of_lt (Nat.div_le_self _ _) hv
    have hos8 : o.size ≤ 64 := by omega
    have HB := Lib.hid hb
    have hcv := fun x => conv1 wr x
    rw [hq, ho]
    have HQ := Lib.hid hq
    have HO := Lib.hid ho
    clear hb ho hos hq hv
    by_cases hlt : j < k
    · go_wp2_with fail
      go_roundw
      case rel =>
        refine ⟨j + 1, by omega, by go_num, val_int ?_, ?_, HB.out.alloc HB.out.size _⟩
        · rw [← HQ.out, show 8 * (j + 1) = 8 * j + 8 by omega, Nat.pow_add, ← Nat.div_div_eq_div_mul]; simp
        · rw [← HO.out, beN, HQ.out]; unfold bA; rw [cons_bytes]; rw [ofNat_mod2]
      case measure => simp [intOf]; omega
    · obtain rfl : j = k := by omega
      go_wp2_with fail
      go_ret
      exact ⟨by rw [HO.out]; rfl, HB.out⟩
theorem zeros_walk (w : World) : Calls Try.prog 24 #[.int .i64 32] w fun e w' => e = .returned (.string (bA (List.replicate 32 0))) ∧ Below w.heap.size w w' := by
  have h := big_walk 0 32 (by decide) (by decide)
  rw [beN_zero] at h
  have H := Lib.hid h
  clear h
  go_enter Try.func24, Try.ntmps24
  go_wp2_with fail
  refine (H.out _).mono ?_; rintro e w1 ⟨rfl, hb⟩
  have HB := Lib.hid hb
  clear hb
  go_wp2_with fail
  go_ret
  exact ⟨rfl, HB.out⟩
theorem conv4 (w : World) (x0 x1 x2 x3 : Int) : (convert 37 9 (.slice (some ⟨w.heap.size, 0, none⟩) 4 4)).run Try.prog (w.alloc (.cells #[.int .u8 x0, .int .u8 x1, .int .u8 x2, .int .u8 x3] 5)) =
    .ok (.string ⟨#[UInt8.ofNat x0.toNat, UInt8.ofNat x1.toNat, UInt8.ofNat x2.toNat, UInt8.ofNat x3.toNat]⟩) (w.alloc (.cells #[.int .u8 x0, .int .u8 x1, .int .u8 x2, .int .u8 x3] 5)) := by
  have := run_convert_bytes_arg (P := Try.prog) (w.alloc (.cells #[.int .u8 x0, .int .u8 x1, .int .u8 x2, .int .u8 x3] 5)) 37 5 Try.underlying37 Try.underlying5 w.heap.size 0 4 4 [x0, x1, x2, x3] rfl (by
    intro i hi
    rw [World.cell?_alloc_mark]
    match i, hi with
    | 0, _ => rfl
    | 1, _ => rfl
    | 2, _ => rfl
    | 3, _ => rfl) 9 Try.underlying9
  exact this
theorem little_walk (v : Nat) (hv : v < 2 ^ 32) (w : World) : Calls Try.prog 25 #[.int .i64 v] w fun e w' => e = .returned (.string (bA (le4 v))) ∧ Below w.heap.size w w' := by
  have hcv := fun x0 x1 x2 x3 => conv4 w x0 x1 x2 x3
  go_enter Try.func25, Try.ntmps25
  go_wp2_with fail
  go_ret
  refine ⟨ret_str ?_, (Below.refl _ _).alloc (Nat.le_refl _) _⟩
  unfold bA le4
  have e1 : ((v : Int) / 256 % 256).toNat = v / 256 % 256 := by omega
  have e2 : ((v : Int) / 65536 % 256).toNat = v / 65536 % 256 := by omega
  have e3 : ((v : Int) / 16777216 % 256).toNat = v / 16777216 % 256 := by omega
  simp only [ofNat_mod, e1, e2, e3, ofNat_mod2]
def satV (x : Nat) : Nat := min x 281474976710656
theorem sat_step (x b : Nat) : satV (satV x * 256 + b) = satV (x * 256 + b) := by unfold satV; omega
theorem sat_min (p : Nat) (b : UInt8) : min (256 * ((satV p : Nat) : Int) + ((b.toNat : Nat) : Int)) 281474976710656 = ((satV (p * 256 + b.toNat) : Nat) : Int) := by
  have := b.toNat_lt
  unfold satV; omega
theorem take_snoc' (s : ByteArray) (k : Nat) (h : k < s.size) : beV (s.data.toList.take (k + 1)) = beV (s.data.toList.take k) * 256 + s[k].toNat := by
  rw [take_snoc s k h, beV_snoc]
theorem read_walk (s : ByteArray) (hs : s.size ≤ 64) (w : World) : Calls Try.prog 28 #[.string s] w fun e w' => e = .returned (.int .i64 (satV (beV s.data.toList) : Nat)) ∧ w = w' := by
  go_enter Try.func28, Try.ntmps28
  go_wp2_with fail
  go_loop [3, 4] (fun x i => ∃ k : Nat, k ≤ s.size ∧ i = .int .i64 k ∧ x = .int .i64 ((satV (beV (s.data.toList.take k)) : Nat) : Int)) (fun _ i => s.size - (intOf i).toNat)
  case atStart => exact ⟨0, Nat.zero_le _, rfl, rfl⟩
  case round =>
    obtain ⟨k, hk, rfl, rfl⟩ := hrel
    by_cases hlt : k < s.size
    · have HS := Lib.hid (take_snoc' s k hlt)
      have hm := sat_min (beV (s.data.toList.take k)) s[k]
      have hpl : satV (beV (s.data.toList.take k)) ≤ 281474976710656 := by unfold satV; omega
      have hbl := s[k].toNat_lt
      obtain ⟨p, hp⟩ : ∃ p, satV (beV (s.data.toList.take k)) = p := ⟨_, rfl⟩
      rw [hp] at hm hpl ⊢
      have HM := Lib.hid hm
      clear hm hp
      go_wp2_with fail
      go_round
      case rel => exact ⟨k + 1, by omega, by go_num, val_int (by rw [HS.out]; have := HM.out; omega)⟩
      case measure => simp [intOf]; omega
    · have HT : Hid (s.data.toList.take k = s.data.toList) := Lib.hid (List.take_of_length_le (by simp; omega))
      go_wp2_with fail
      go_ret
      exact ⟨ret_int (by rw [HT.out]), rfl⟩
end Go.Proofs.Ytonkamdipalbpaa
