import Derived.Test.YtglchdcpkjabaaaWb
namespace Go.Proofs.Ytglchdcpkjabaaa
open Go.RowKit

theorem radd_zero (r : Nat) (hr : r < 2 ^ 32) (w : World) : Calls Try.prog 28 #[.int .u32 r, .int .u8 0] w fun e w' => e = .returned (.int .u32 (sh 8 r)) ∧ w = w' := by
  have := radd_walk r hr 0 w
  simpa using this
theorem rcombine_walk (a b : Nat) (n : Int) (ha : a < 2 ^ 32) (hb : b < 2 ^ 32) (hn2 : n ≤ 9223372036854775807) (w : World) :
    Calls Try.prog 24 #[.int .u32 a, .int .u32 b, .int .i64 n] w fun e w' => e = .returned (.int .u32 (comb a b n.toNat)) ∧ w = w' := by
  go_enter Try.func24, Try.ntmps24
  go_wp2_with fail
  go_loop [0, 7] (fun x i => ∃ k : Nat, (k = 0 ∨ (k : Int) ≤ n) ∧ i = .int .i64 k ∧ x = .int .u32 (sh (8 * k) a)) (fun _ i => (n - intOf i).toNat)
  case atStart => exact ⟨0, .inl rfl, rfl, rfl⟩
  case round =>
    obtain ⟨k, hk, rfl, rfl⟩ := hrel
    have HK := Lib.hid hk
    clear hk
    by_cases hlt : (k : Int) < n
    · go_wp2_with (go_at_call 28; refine (radd_zero _ (sh_lt _ ha) _).mono ?_; rintro e _ ⟨rfl, rfl⟩)
      go_round
      case rel => exact ⟨k + 1, .inr (by omega), by go_num, val_int (by rw [← sh_add]; rfl)⟩
      case measure => simp [intOf]; omega
    · have hkn : k = n.toNat := by have := HK.out; omega
      have HN := Lib.hid hkn
      clear hkn
      go_wp2_with fail
      go_ret
      exact ⟨ret_int (by rw [xor_u32 _ _ (sh_lt _ ha) hb, HN.out]; rfl), rfl⟩

/-- the four bytes of a sum -/
def le4 (n : Nat) : List UInt8 := [UInt8.ofNat n, UInt8.ofNat (n / 256), UInt8.ofNat (n / 65536), UInt8.ofNat (n / 16777216)]
def sealB (s : ByteArray) : ByteArray := s ++ ⟨(le4 (sum s.data.toList)).toArray⟩
theorem conv4 (w : World) (x0 x1 x2 x3 : Int) : (convert 35 9 (.slice (some ⟨w.heap.size, 0, none⟩) 4 4)).run Try.prog (w.alloc (.cells #[.int .u8 x0, .int .u8 x1, .int .u8 x2, .int .u8 x3] 5)) =
    .ok (.string ⟨#[UInt8.ofNat x0.toNat, UInt8.ofNat x1.toNat, UInt8.ofNat x2.toNat, UInt8.ofNat x3.toNat]⟩) (w.alloc (.cells #[.int .u8 x0, .int .u8 x1, .int .u8 x2, .int .u8 x3] 5)) := by
  have := run_convert_bytes_arg (P := Try.prog) (w.alloc (.cells #[.int .u8 x0, .int .u8 x1, .int .u8 x2, .int .u8 x3] 5)) 35 5 Try.underlying35 Try.underlying5 w.heap.size 0 4 4 [x0, x1, x2, x3] rfl (by
    intro i hi
    rw [World.cell?_alloc_mark]
    match i, hi with
    | 0, _ => rfl
    | 1, _ => rfl
    | 2, _ => rfl
    | 3, _ => rfl) 9 Try.underlying9
  exact this
theorem le4_of (n : Nat) (_h : n < 2 ^ 32) : [UInt8.ofNat ((n : Int) % 256).toNat, UInt8.ofNat ((n : Int) / 256 % 256).toNat, UInt8.ofNat ((n : Int) / 65536 % 256).toNat, UInt8.ofNat ((n : Int) / 16777216).toNat] = le4 n := by
  have e : ∀ m : Nat, UInt8.ofNat (m % 256) = UInt8.ofNat m := fun m => by apply UInt8.toNat_inj.1; simp
  unfold le4
  rw [show ((n : Int) % 256).toNat = n % 256 by omega, show ((n : Int) / 256 % 256).toNat = n / 256 % 256 by omega, show ((n : Int) / 65536 % 256).toNat = n / 65536 % 256 by omega, show ((n : Int) / 16777216).toNat = n / 16777216 by omega, e, e, e]
theorem ret_str {a b : ByteArray} (h : a = b) : Ending.returned (.string a) = .returned (.string b) := by rw [h]

theorem seal_walk (s : ByteArray) (hs : s.size ≤ 1048576) (w : World) : Calls Try.prog 17 #[.string s] w fun e w' => e = .returned (.string (sealB s)) ∧ Below w.heap.size w w' := by
  have hN := sum_lt s.data.toList
  obtain ⟨n, hn⟩ : ∃ n, n = sum s.data.toList := ⟨_, rfl⟩
  rw [← hn] at hN
  have HSUM : ∀ w, Calls Try.prog 19 #[.string s] w fun e w' => e = .returned (.int .u32 n) ∧ w = w' := by rw [hn]; exact sum_walk s (by unfold maxLen; omega)
  have H1 := Lib.hid HSUM
  have HN : Hid (s ++ ⟨[UInt8.ofNat ((n : Int) % 256).toNat, UInt8.ofNat ((n : Int) / 256 % 256).toNat, UInt8.ofNat ((n : Int) / 65536 % 256).toNat, UInt8.ofNat ((n : Int) / 16777216).toNat].toArray⟩ = sealB s) := Lib.hid (by rw [le4_of n hN, sealB, hn])
  clear hn HSUM
  have hcv := fun x0 x1 x2 x3 => conv4 w x0 x1 x2 x3
  go_enter Try.func17, Try.ntmps17
  go_wp2_with (go_at_call 19; refine (H1.out _).mono ?_; rintro e _ ⟨rfl, rfl⟩)
  go_ret
  exact ⟨ret_str HN.out, (Below.refl _ _).alloc (Nat.le_refl _) _⟩
theorem rseal_walk (s : ByteArray) (hs : s.size ≤ 1048576) (w : World) : Calls Try.prog 18 #[.string s] w fun e w' => e = .returned (.string (sealB s)) ∧ Below w.heap.size w w' := by
  have hN := sum_lt s.data.toList
  obtain ⟨n, hn⟩ : ∃ n, n = sum s.data.toList := ⟨_, rfl⟩
  rw [← hn] at hN
  have HSUM : ∀ w, Calls Try.prog 20 #[.string s] w fun e w' => e = .returned (.int .u32 n) ∧ w = w' := by rw [hn]; exact rsum_walk s (by unfold maxLen; omega)
  have H1 := Lib.hid HSUM
  have HN : Hid (s ++ ⟨[UInt8.ofNat ((n : Int) % 256).toNat, UInt8.ofNat ((n : Int) / 256 % 256).toNat, UInt8.ofNat ((n : Int) / 65536 % 256).toNat, UInt8.ofNat ((n : Int) / 16777216).toNat].toArray⟩ = sealB s) := Lib.hid (by rw [le4_of n hN, sealB, hn])
  clear hn HSUM
  have hcv := fun x0 x1 x2 x3 => conv4 w x0 x1 x2 x3
  go_enter Try.func18, Try.ntmps18
  go_wp2_with (go_at_call 20; refine (H1.out _).mono ?_; rintro e _ ⟨rfl, rfl⟩)
  go_ret
  exact ⟨ret_str HN.out, (Below.refl _ _).alloc (Nat.le_refl _) _⟩
end Go.Proofs.Ytglchdcpkjabaaa
