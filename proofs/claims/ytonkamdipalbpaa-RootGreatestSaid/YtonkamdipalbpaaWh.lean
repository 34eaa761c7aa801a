import Derived.Test.YtonkamdipalbpaaWg
namespace Go.Proofs.Ytonkamdipalbpaa
open Go.RowKit
attribute [local go_sem ↓] Go.wp_at_zero Go.wp_at_succ

theorem or_i64 (p : Nat) (x : UInt8) (hp : p < 2 ^ 56) : bits .or .i64 (wrap64 ((p : Int) * 256)) (x.toNat : Int) = wrap64 ((p * 256 + x.toNat : Nat) : Int) := by
  have hx := x.toNat_lt
  have h1 : (BitVec.ofInt 64 (wrap64 ((p : Int) * 256))).toNat = p * 256 := by
    rw [BitVec.toNat_ofInt]; unfold wrap64; omega
  have h2 : (BitVec.ofInt 64 ((x.toNat : Nat) : Int)).toNat = x.toNat := by
    rw [BitVec.toNat_ofInt]; omega
  show IntKind.i64.wrap ((BitVec.ofInt 64 (wrap64 ((p : Int) * 256)) ||| BitVec.ofInt 64 ((x.toNat : Nat) : Int)).toNat : Nat) = _
  rw [BitVec.toNat_or, h1, h2, IntKind.wrap_i64]
  have := Nat.two_pow_add_eq_or_of_lt (i := 8) (b := x.toNat) (by omega) p
  rw [show p * 256 = 2 ^ 8 * p by omega, ← this]
  unfold wrap64; rfl
theorem beV_take_lt (M : List UInt8) (j : Nat) (hj : j ≤ 7) : beV (M.take j) < 2 ^ 56 := by
  refine Nat.lt_of_lt_of_le (beV_lt _) ?_
  rw [← pow256]
  exact Nat.pow_le_pow_right (by decide) (by rw [List.length_take]; omega)
theorem beV_take_snoc (M : List UInt8) (j : Nat) (hj : j < M.length) : beV (M.take (j + 1)) = beV (M.take j) * 256 + (M.getD j 0).toNat := by
  rw [List.take_succ_eq_append_getElem hj, beV_snoc]; simp [List.getD, hj]
theorem getD_mid (A M Z : List UInt8) (j : Nat) (hj : j < M.length) : (A ++ (M ++ Z)).getD (A.length + j) 0 = M.getD j 0 := by
  simp [List.getD, List.getElem?_append_right, List.getElem?_append_left hj]
set_option maxRecDepth 100000 in
set_option maxHeartbeats 1000000 in
theorem get_walk (B : Nat) (A M Z : List UInt8) (a k : Nat) (ha : A.length = a) (hk : M.length = k) (ht : a + k + Z.length = 64) (hk8 : k ≤ 8) (hk1 : 1 ≤ k) (v : Int) (hv : wrap64 (beV M : Nat) = v) (w : World) (h : BRow w B 46 (A ++ (M ++ Z))) :
    Calls Try.prog 27 #[.pointer (some ⟨B, 0, none⟩), .int .i64 a, .int .i64 k] w fun e w' => e = .returned (.int .i64 v) ∧ w = w' := by
  have hcell : ∀ j, j < k → w.cell? ⟨B, a + j, none⟩ = some (.int .u8 (((M.getD j 0).toNat : Nat) : Int)) := fun j hj => by
    have := h.cell (a + j) (by simp [ha, hk]; omega)
    rw [← ha, getD_mid A M Z j (by omega)] at this
    rw [← ha]; exact this
  have HC := Lib.hid hcell
  have HV := Lib.hid hv
  have HK := Lib.hid hk
  have h1 : (0 : Int) ≤ a := by omega
  have h2 : (a : Int) ≤ (a : Int) + (k : Int) := by omega
  have h3 : (a : Int) + (k : Int) ≤ 64 := by omega
  have h5 : a < 64 := by omega
  have h4 : ((a : Int) + (k : Int)).toNat = a + k := by omega
  clear h hcell hk ha hv ht
  go_enter Try.func27, Try.ntmps27
  go_wp2_with fail
  go_loop [7, 18] (fun x i => ∃ j : Nat, j ≤ k ∧ i = .int .i64 j ∧ x = .int .i64 (wrap64 (beV (M.take j) : Nat))) (fun _ i => k - (intOf i).toNat)
  case atStart => exact ⟨0, by omega, rfl, val_int (by simp [beV, wrap64])⟩
  case round =>
    obtain ⟨j, hj, rfl, rfl⟩ := hrel
    by_cases hlt : j < k
    · have hce := HC.out j hlt
      have hp := beV_take_lt M j (by omega)
      have HS := Lib.hid (beV_take_snoc M j (by rw [HK.out]; exact hlt))
      obtain ⟨x, hx⟩ : ∃ x, M.getD j 0 = x := ⟨_, rfl⟩
      rw [hx] at hce
      have hxl := x.toNat_lt
      have HX := Lib.hid hx
      clear hx
      obtain ⟨p, hpp⟩ : ∃ p, beV (M.take j) = p := ⟨_, rfl⟩
      rw [hpp] at hp ⊢
      have hw : wrap64 ((p : Nat) : Int) = p := by unfold wrap64; omega
      rw [hw]
      have HP := Lib.hid hpp
      clear hpp hw
      go_wp2_with fail
      go_round
      case rel =>
        refine ⟨j + 1, by omega, by go_num, val_int ?_⟩
        rw [HS.out, HP.out, HX.out]
        first | exact or_i64 p x hp | (rw [show wrap64 ((x.toNat : Nat) : Int) = ((x.toNat : Nat) : Int) by unfold wrap64; omega]; exact or_i64 p x hp)
      case measure => simp [intOf]; omega
    · obtain rfl : j = k := by omega
      go_wp2_with fail
      go_ret
      exact ⟨ret_int (by rw [List.take_of_length_le (by rw [HK.out]; exact Nat.le_refl _)]; exact HV.out), rfl⟩
end Go.Proofs.Ytonkamdipalbpaa
