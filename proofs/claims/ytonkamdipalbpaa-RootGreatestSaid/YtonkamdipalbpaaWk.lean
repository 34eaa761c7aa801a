import Derived.Test.YtonkamdipalbpaaWj
namespace Go.Proofs.Ytonkamdipalbpaa
open Go.RowKit

def encV (n s l c : Int) : ByteArray × Int := if validI n s l c = true then (bA (encL n.toNat s.toNat l.toNat c.toNat), 0) else (⟨#[]⟩, 1)
theorem enc_any (n s l c : Int) (b : ByteArray) (e : Int) (h : encV n s l c = (b, e)) (w : World) : Calls Try.prog 12 #[.agg #[.int .i64 n, .int .i64 s, .int .i64 l, .int .i64 c]] w fun x w' => x = .returned (.tuple #[.string b, .int .i64 e]) ∧ Below w.heap.size w w' := by
  unfold encV at h
  by_cases hv : validI n s l c = true
  · rw [if_pos hv] at h; cases h
    have k := validI_iff.1 hv
    obtain ⟨a1, rfl⟩ : ∃ m : Nat, n = m := ⟨n.toNat, by omega⟩
    obtain ⟨a2, rfl⟩ : ∃ m : Nat, s = m := ⟨s.toNat, by omega⟩
    obtain ⟨a3, rfl⟩ : ∃ m : Nat, l = m := ⟨l.toNat, by omega⟩
    obtain ⟨a4, rfl⟩ : ∃ m : Nat, c = m := ⟨c.toNat, by omega⟩
    exact enc_ok a1 a2 a3 a4 hv w
  · rw [if_neg hv] at h; cases h
    exact enc_bad n s l c (by simpa using hv) w
theorem renc_any (n s l c : Int) (b : ByteArray) (e : Int) (h : encV n s l c = (b, e)) (w : World) : Calls Try.prog 13 #[.agg #[.int .i64 n, .int .i64 s, .int .i64 l, .int .i64 c]] w fun x w' => x = .returned (.tuple #[.string b, .int .i64 e]) ∧ Below w.heap.size w w' := by
  unfold encV at h
  by_cases hv : validI n s l c = true
  · rw [if_pos hv] at h; cases h
    have k := validI_iff.1 hv
    obtain ⟨a1, rfl⟩ : ∃ m : Nat, n = m := ⟨n.toNat, by omega⟩
    obtain ⟨a2, rfl⟩ : ∃ m : Nat, s = m := ⟨s.toNat, by omega⟩
    obtain ⟨a3, rfl⟩ : ∃ m : Nat, l = m := ⟨l.toNat, by omega⟩
    obtain ⟨a4, rfl⟩ : ∃ m : Nat, c = m := ⟨c.toNat, by omega⟩
    exact renc_ok a1 a2 a3 a4 hv w
  · rw [if_neg hv] at h; cases h
    exact renc_bad n s l c (by simpa using hv) w
/-- the sector of the example -/
def awE : ByteArray := bA (encL 1 4 30 5)
theorem awE_list : awE.data.toList = encL 1 4 30 5 := bA_list _
theorem aw_enc : encV 1 4 30 5 = (awE, 0) := by unfold encV; rw [if_pos (by decide)]; rfl
theorem aw_dec : decV awE.data.toList 3 = ((1, 4, 30, 5), 0) := by
  rw [awE_list]
  unfold decV
  have hv : validI 1 4 30 5 = true := by decide
  have hv' : validI ((1 : Nat) : Int) ((4 : Nat) : Int) ((30 : Nat) : Int) ((5 : Nat) : Int) = true := hv
  obtain ⟨h1, h2, h3, h4⟩ := valid_bounds hv'
  rw [if_neg (by decide), if_neg (by rw [encL_length]; decide), if_pos (by rw [decOK_enc hv']; decide), fN_enc _ _ _ _ h1, fS_enc _ _ _ _ h2, fL_enc _ _ _ _ h3, fC_enc _ _ _ _ h4]
  rfl
theorem aw_front : (awE.extract 0 20).toList = [0, 0, 0, 0, 0, 0, 0, 1, 0, 0, 0, 4, 0, 0, 0, 30, 0, 0, 0, 5] := by
  rw [ByteArray.toList_eq]
  have := extract_mid awE 0 20
  rw [Nat.zero_add] at this
  rw [this, awE_list]
  have h : encL 1 4 30 5 = [] ++ ([0, 0, 0, 0, 0, 0, 0, 1, 0, 0, 0, 4, 0, 0, 0, 30, 0, 0, 0, 5] ++ (List.replicate 32 0 ++ (le4 (sum (bodyL 1 4 30 5)) ++ beN 1 8))) := by
    unfold encL
    conv => lhs; unfold bodyL
    rfl
  rw [h, mid_app [] _ _ 0 20 rfl rfl]
theorem awE_size : awE.size = 64 := by unfold awE; rw [bA_size, encL_length]
set_option maxRecDepth 100000 in
set_option maxHeartbeats 1000000 in
theorem awake_walk (w : World) : Calls Try.prog 11 #[] w fun e w' => e = .returned (.bool true) ∧ Below w.heap.size w w' := by
  have hsz : (awE.size : Int) = 64 := by rw [awE_size]; rfl
  have hsl : ∀ W, (Instr.slice 9 (.string awE) none (some (.int .i64 20)) none).run Try.prog W = .ok (.string (awE.extract 0 20)) W := fun W => by
    have := run_slice_string_h (P := Try.prog) (w := W) 9 awE Try.underlying9 .i64 20 (by omega) (by omega)
    exact this
  obtain ⟨y, hy⟩ : ∃ y, awE.extract 0 20 = y := ⟨_, rfl⟩
  have hyl : y.toList = [0, 0, 0, 0, 0, 0, 0, 1, 0, 0, 0, 4, 0, 0, 0, 30, 0, 0, 0, 5] := by rw [← hy, aw_front]
  rw [hy] at hsl
  have HE := Lib.hid aw_enc
  have HD := Lib.hid aw_dec
  obtain ⟨b, hb⟩ : ∃ b, awE = b := ⟨_, rfl⟩
  rw [hb] at hsz hsl HE HD
  clear hb hy
  go_enter Try.func11, Try.ntmps11
  go_wp2_with fail
  refine (enc_any 1 4 30 5 b 0 HE.out _).mono ?_; rintro e w1 ⟨rfl, hb1⟩
  have hX1 : Box w1 w.heap.size 1 4 30 5 := (hb1.block _ (by simp)).trans (heap_alloc_new _ _)
  have HB1 := Lib.hid (((Below.refl w.heap.size w).alloc (Nat.le_refl _) _).trans (hb1.mono (by simp) : Below w.heap.size _ _))
  have HX1 := Lib.hid hX1
  clear hb1 hX1
  go_wp2_with fail
  refine (decode_walk b 3 1 4 30 5 0 HD.out _).mono ?_; rintro e w2 ⟨rfl, hb2⟩
  have hX2 := HX1.out.below hb2 HX1.out.lt
  have x0 := hX2.c0
  have x1 := hX2.c1
  have x2 := hX2.c2
  have x3 := hX2.c3
  have xl := hX2.lt
  have HB2 := Lib.hid (step_b HB1.out hb2)
  clear hb2 hX2
  go_wp2_with fail
  refine (places_ge 1 (by decide) _).mono ?_; rintro e _ ⟨rfl, rfl⟩
  go_wp2_with fail
  go_ret
  exact ⟨rfl, HB2.out.alloc HB2.out.size _⟩
end Go.Proofs.Ytonkamdipalbpaa
