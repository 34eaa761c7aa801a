/- A part of the proofs of TopCounter and TopStrict: what the functions of the program do, each walked once, and plain laws about it. No condition. -/
import Derived.Test.YtlmjefjimoghcaaGreatA47
import Derived.Test.YtlmjefjimoghcaaGreatA09
namespace Go.Proofs.YtlmjefjimoghcaaGreat
set_option linter.unusedSimpArgs false
set_option linter.unnecessarySimpa false
set_option linter.unusedVariables false
open Go.RowKit
attribute [local go_sem ↓] Go.wp_at_zero Go.wp_at_succ
def wrapK (k : Nat) (c : List UInt8) : Nat × List UInt8 := if (lzEnc c).length < c.length then (k + 16, lzEnc c) else (k, c)
def headF (k : Nat) (b : List UInt8) : List UInt8 := K.sealL ([165, UInt8.ofNat k] ++ textF b)
def wrapF (k : Int) (c : List UInt8) : List UInt8 × Int := if k < 0 ∨ 15 < k then ([], 2) else (headF (wrapK k.toNat c).1 (wrapK k.toNat c).2, 0)
theorem brow_new (w : World) (k : Nat) (hk : k < 256) : V.BRow (w.alloc (.cells #[.int .u8 165, .int .u8 (k : Int)] 5)) w.heap.size [165, UInt8.ofNat k] := by
 have h := heap_alloc_new w (.cells #[.int .u8 165, .int .u8 (k : Int)] 5)
 have e : ((UInt8.ofNat k).toNat : Int) = k := by rw [UInt8.toNat_ofNat', Nat.mod_eq_of_lt hk]
 refine ⟨_, _, h, by simp, fun i hi => ?_⟩
 have hi : i < 2 := hi
 rcases (by omega : i = 0 ∨ i = 1) with rfl | rfl
 ·rfl
 ·show some (Value.int .u8 (k : Int)) = some (.int .u8 ((UInt8.ofNat k).toNat : Int)); rw [e]
theorem sealB_sB (l : List UInt8) : K.sealB (sB l) = sB (K.sealL l) := by
 show sB l ++ sB (K.le4 (K.sum l)) = sB (l ++ K.le4 (K.sum l))
 rw [sB_app]
set_option maxRecDepth 100000 in
set_option maxHeartbeats 4000000 in
theorem wrap_walk (k : Int) (c : List UInt8) (hc : c.length ≤ 4096) (w : World) : Calls Tryz.prog 39 #[.agg #[.int .i64 k, .string (sB c)]] w fun x w' => x = .returned (.tuple #[.string (sB (wrapF k c).1), .int .i64 (wrapF k c).2]) ∧ Below w.heap.size w w' := by
 have hsz := sB_size c
 obtain ⟨W0, hW0⟩ : ∃ W, w.alloc (.cells #[.int .i64 k, .string (sB c)] 39) = W := ⟨_, rfl⟩
 have hb0 : Below w.heap.size w W0 := by rw [← hW0]; exact (Below.refl _ _).alloc (Nat.le_refl _) _
 obtain ⟨P, hP⟩ : ∃ P, w.heap.size = P := ⟨_, rfl⟩
 have hce : W0.heap[P]? = some (.cells #[.int .i64 k, .string (sB c)] 39 (0, 0)) := by rw [← hW0, ← hP]; exact heap_alloc_new _ _
 have p0 : W0.cell? ⟨P, 0, none⟩ = some (.int .i64 k) := by rw [cell_of_row _ P 0 _ _ _ hce]; rfl
 have p1 : W0.cell? ⟨P, 1, none⟩ = some (.string (sB c)) := by rw [cell_of_row _ P 1 _ _ _ hce]; rfl
 have HCe := Lib.hid hce
 have HB0 := Lib.hid hb0
 have HW0 := Lib.hid hW0
 have HPe := Lib.hid hP
 clear hb0 hW0 hP hce
 by_cases hk : k < 0 ∨ 15 < k
 ·have HE : Hid (wrapF k c = ([], 2)) := Lib.hid (by unfold wrapF; rw [if_pos hk])
  rcases hk with hk | hk
  ·go_enter Tryz.func39, Tryz.ntmps39
   go_upto_region 1 with (fail)
   rw [HW0.out, HPe.out]
   go_wp2_with fail
   go_ret2
   rw [HE.out]
   exact ⟨rfl, HB0.out⟩
  ·have hk2 : ¬ k < 0 := by omega
   go_enter Tryz.func39, Tryz.ntmps39
   go_upto_region 1 with (fail)
   rw [HW0.out, HPe.out]
   go_wp2_with fail
   go_ret2
   rw [HE.out]
   exact ⟨rfl, HB0.out⟩
 ·obtain ⟨kn, rfl⟩ : ∃ n : Nat, k = (n : Int) := ⟨k.toNat, by omega⟩
  have hk1 : ¬ (kn : Int) < 0 := by omega
  have hk2 : ¬ 15 < (kn : Int) := by omega
  have hE0 : wrapF (kn : Int) c = (headF (wrapK kn c).1 (wrapK kn c).2, 0) := by unfold wrapF; rw [if_neg hk, Int.toNat_natCast]
  have HKn : Hid (kn ≤ 15) := Lib.hid (by omega)
  have HLe := Lib.hid (lzenc_walk c hc W0)
  have HCl := Lib.hid hc
  obtain ⟨sh, hsh⟩ : ∃ s, lzEnc c = s := ⟨_, rfl⟩
  rw [hsh] at HLe
  have hss := sB_size sh
  by_cases hlt : sh.length < c.length
  ·obtain ⟨kb, hkb⟩ : ∃ kb, kn + 16 = kb := ⟨_, rfl⟩
   have HE : Hid (wrapF (kn : Int) c = (headF kb sh, 0)) := Lib.hid (by rw [hE0]; unfold wrapK; rw [hsh, if_pos hlt, hkb])
   have hli : (sh.length : Int) < c.length := by omega
   have hkk : (kn : Int) + 16 = (kb : Int) := by omega
   have HKb : Hid (kb < 256) := Lib.hid (by omega)
   have hkb3 : (kb : Int) ≤ 31 := by omega
   obtain ⟨s2, hs2⟩ : ∃ s2, s2 = sh := ⟨_, rfl⟩
   subst hs2
   have HS2 : Hid (s2.length ≤ 4096) := Lib.hid (by omega)
   clear hk hE0 hsh hlt hkb hc
   go_enter Tryz.func39, Tryz.ntmps39
   go_upto_region 1 with (fail)
   rw [HW0.out, HPe.out]
   go_wp2_with fail
   refine (HLe.out).mono ?_
   rintro x w2 ⟨rfl, hb2⟩
   have HB2 := Lib.hid (bstep HB0.out (Nat.le_refl _) hb2)
   have hce2 := (hb2.block P (Array.getElem?_eq_some_iff.1 HCe.out).1).trans HCe.out
   clear hb2 p0 p1
   have p0 : w2.cell? ⟨P, 0, none⟩ = some (.int .i64 (kn : Int)) := by rw [cell_of_row _ P 0 _ _ _ hce2]; rfl
   have p1 : w2.cell? ⟨P, 1, none⟩ = some (.string (sB c)) := by rw [cell_of_row _ P 1 _ _ _ hce2]; rfl
   clear hce2
   go_upto_region 6 with (fail)
   go_quiet (fail)
   obtain ⟨wq, hwq⟩ : ∃ W, w2.drewN nq = W := ⟨_, rfl⟩
   have HBw : Hid (Below w.heap.size w wq) := Lib.hid (by rw [← hwq]; exact below_drewN HB2.out _)
   rw [hwq]
   clear hwq p0 p1
   have hsb : s2.length ≤ 4096 := HS2.out
   have htl := textF_len s2
   have HTx := Lib.hid fun w => text_at s2 (by omega) w
   have HSl : Hid (∀ w : World, Calls Tryz.prog 86 #[.string (⟨[165, UInt8.ofNat kb].toArray⟩ ++ sB (textF s2))] w fun e w' => e = .returned (.string (sB (headF kb s2))) ∧ Below w.heap.size w w') := Lib.hid fun w => by
    have h : (⟨[165, UInt8.ofNat kb].toArray⟩ : ByteArray) ++ sB (textF s2) = sB ([165, UInt8.ofNat kb] ++ textF s2) := by rw [← sB_app]; rfl
    rw [h]
    have := K.seal_walk (sB ([165, UInt8.ofNat kb] ++ textF s2)) (by rw [sB_size, List.length_append]; simp; omega) w
    rw [sealB_sB] at this
    exact this
   have z1 : (sB (textF s2)).size ≤ 4200 := by rw [sB_size]; omega
   have z2 : (⟨[165, UInt8.ofNat kb].toArray⟩ : ByteArray).size = 2 := rfl
   have z3 : ¬ 9223372036854775807 < 2 + (sB (textF s2)).size := by omega
   have hwk : IntKind.u8.wrap (kb : Int) = (kb : Int) := by have := HKb.out; simp [IntKind.wrap, IntKind.signed, IntKind.bits]; omega
   clear hsb htl z1 z2
   go_upto_region 9 with (fail)
   refine wp_region_noPanic ?_
   obtain ⟨W1, hW1⟩ : ∃ W, W = wq := ⟨_, rfl⟩
   subst hW1
   refine wp_region_D 10 (fun _ => True) (by kernel_rfl) trivial (fun hU => ?_)
   have hC : (fun _ : World => True) W1.drew := trivial
   clear hU
   refine tk 0 37 9 rfl rfl (.inr hC) ?_
   simp only [Act.put, zA, zB, zC]
   refine tk 1 38 8 rfl rfl (.inr hC) ?_
   simp only [Act.put, zA, zB, zC]
   refine tk 4 41 7 rfl rfl (.inr hC) ?_
   simp only [Act.put, zA, zB, zC]
   refine ry 6 [2, 5] ?_
   refine rn rfl (fun K hK => ?_) ?_
   ·go_simp
    first
    | have HBk := Lib.hid (brow_new wx kb HKb.out)
    | have HBk := Lib.hid (brow_new W1 kb HKb.out).drew
    refine shut_C hK ?_ (fun hC => ?_)
    ·trivial
    clear hK K
    try simp only [Act.put, zA, zB, zC]
    refine ry 5 [3, 5] ?_
    refine rn rfl (fun K hK => ?_) ?_
    ·have hcv := HBk.out.str 2 2 rfl
     go_simp
     clear hcv
     refine shut_C hK ?_ (fun hC => ?_)
     ·trivial
     clear hK K
     try simp only [Act.put, zA, zB, zC]
     refine ry 4 [5] ?_
     refine rn rfl (fun K hK => ?_) ?_
     ·go_simp
      go_at_call 82
      with_reducible refine (HTx.out _).mono ?_
      rintro x wx ⟨rfl, hbx⟩
      have HBx : Hid (Below W1.heap.size W1 wx) := Lib.hid (by
       first
       | exact (Below.refl W1.heap.size W1).drew.trans hbx
       | exact bstep ((Below.refl W1.heap.size W1).drew.alloc (Nat.le_refl _) _) (Nat.le_refl _) hbx)
      try (have HBk := Lib.hid (HBk.out.block (hbx.block _ HBk.out.lt)))
      clear hbx
      go_wp2_with fail
      refine shut_C hK ?_ (fun hC => ?_)
      ·trivial
      clear hK K
      try simp only [Act.put, zA, zB, zC]
      refine tk 6 43 3 rfl rfl (.inr hC) ?_
      simp only [Act.put, zA, zB, zC]
      refine ry 2 [7] ?_
      refine rn rfl (fun K hK => ?_) ?_
      ·go_simp
       go_at_call 86
       with_reducible refine (HSl.out _).mono ?_
       rintro x wz ⟨rfl, hbz⟩
       have HBz : Hid (Below W1.heap.size W1 wz) := Lib.hid (by
        first
        | exact bstep HBx.out (Nat.le_refl _) hbz
        | exact bstep (HBx.out.alloc HBx.out.size _) (Nat.le_refl _) hbz)
       clear hbz
       go_wp2_with fail
       refine shut_C hK ?_ (fun hC => ?_)
       ·trivial
       clear hK K
       try simp only [Act.put, zA, zB, zC]
       refine tk 8 2 1 rfl rfl (.inr hC) ?_
       simp only [Act.put, zA, zB, zC]
       refine tk 9 3 0 rfl rfl (.inr hC) ?_
       simp only [Act.put, zA, zB, zC]
       refine wpAnyD_done (by kernel_rfl) ?_ _
       refine NoPanic.normal ?_
       go_wp2_with fail
       go_ret2
       rw [HE.out]
       exact ⟨rfl, bstep HBw.out (Nat.le_refl _) HBz.out⟩
      exact rz
     exact rz
    refine rn rfl (fun K hK => ?_) ?_
    ·go_simp
     go_at_call 82
     with_reducible refine (HTx.out _).mono ?_
     rintro x wx ⟨rfl, hbx⟩
     have HBx : Hid (Below W1.heap.size W1 wx) := Lib.hid (by
      first
      | exact (Below.refl W1.heap.size W1).drew.trans hbx
      | exact bstep ((Below.refl W1.heap.size W1).drew.alloc (Nat.le_refl _) _) (Nat.le_refl _) hbx)
     try (have HBk := Lib.hid (HBk.out.block (hbx.block _ HBk.out.lt)))
     clear hbx
     go_wp2_with fail
     refine shut_C hK ?_ (fun hC => ?_)
     ·trivial
     clear hK K
     try simp only [Act.put, zA, zB, zC]
     refine ry 4 [3] ?_
     refine rn rfl (fun K hK => ?_) ?_
     ·have hcv := HBk.out.str 2 2 rfl
      go_simp
      clear hcv
      refine shut_C hK ?_ (fun hC => ?_)
      ·trivial
      clear hK K
      try simp only [Act.put, zA, zB, zC]
      refine tk 6 43 3 rfl rfl (.inr hC) ?_
      simp only [Act.put, zA, zB, zC]
      refine ry 2 [7] ?_
      refine rn rfl (fun K hK => ?_) ?_
      ·go_simp
       go_at_call 86
       with_reducible refine (HSl.out _).mono ?_
       rintro x wz ⟨rfl, hbz⟩
       have HBz : Hid (Below W1.heap.size W1 wz) := Lib.hid (by
        first
        | exact bstep HBx.out (Nat.le_refl _) hbz
        | exact bstep (HBx.out.alloc HBx.out.size _) (Nat.le_refl _) hbz)
       clear hbz
       go_wp2_with fail
       refine shut_C hK ?_ (fun hC => ?_)
       ·trivial
       clear hK K
       try simp only [Act.put, zA, zB, zC]
       refine tk 8 2 1 rfl rfl (.inr hC) ?_
       simp only [Act.put, zA, zB, zC]
       refine tk 9 3 0 rfl rfl (.inr hC) ?_
       simp only [Act.put, zA, zB, zC]
       refine wpAnyD_done (by kernel_rfl) ?_ _
       refine NoPanic.normal ?_
       go_wp2_with fail
       go_ret2
       rw [HE.out]
       exact ⟨rfl, bstep HBw.out (Nat.le_refl _) HBz.out⟩
      exact rz
     exact rz
    exact rz
   refine rn rfl (fun K hK => ?_) ?_
   ·go_simp
    go_at_call 82
    with_reducible refine (HTx.out _).mono ?_
    rintro x wx ⟨rfl, hbx⟩
    have HBx : Hid (Below W1.heap.size W1 wx) := Lib.hid (by
     first
     | exact (Below.refl W1.heap.size W1).drew.trans hbx
     | exact bstep ((Below.refl W1.heap.size W1).drew.alloc (Nat.le_refl _) _) (Nat.le_refl _) hbx)
    try (have HBk := Lib.hid (HBk.out.block (hbx.block _ HBk.out.lt)))
    clear hbx
    go_wp2_with fail
    refine shut_C hK ?_ (fun hC => ?_)
    ·trivial
    clear hK K
    try simp only [Act.put, zA, zB, zC]
    refine ry 5 [2] ?_
    refine rn rfl (fun K hK => ?_) ?_
    ·go_simp
     first
     | have HBk := Lib.hid (brow_new wx kb HKb.out)
     | have HBk := Lib.hid (brow_new W1 kb HKb.out).drew
     refine shut_C hK ?_ (fun hC => ?_)
     ·trivial
     clear hK K
     try simp only [Act.put, zA, zB, zC]
     refine ry 4 [3] ?_
     refine rn rfl (fun K hK => ?_) ?_
     ·have hcv := HBk.out.str 2 2 rfl
      go_simp
      clear hcv
      refine shut_C hK ?_ (fun hC => ?_)
      ·trivial
      clear hK K
      try simp only [Act.put, zA, zB, zC]
      refine tk 6 43 3 rfl rfl (.inr hC) ?_
      simp only [Act.put, zA, zB, zC]
      refine ry 2 [7] ?_
      refine rn rfl (fun K hK => ?_) ?_
      ·go_simp
       go_at_call 86
       with_reducible refine (HSl.out _).mono ?_
       rintro x wz ⟨rfl, hbz⟩
       have HBz : Hid (Below W1.heap.size W1 wz) := Lib.hid (by
        first
        | exact bstep HBx.out (Nat.le_refl _) hbz
        | exact bstep (HBx.out.alloc HBx.out.size _) (Nat.le_refl _) hbz)
       clear hbz
       go_wp2_with fail
       refine shut_C hK ?_ (fun hC => ?_)
       ·trivial
       clear hK K
       try simp only [Act.put, zA, zB, zC]
       refine tk 8 2 1 rfl rfl (.inr hC) ?_
       simp only [Act.put, zA, zB, zC]
       refine tk 9 3 0 rfl rfl (.inr hC) ?_
       simp only [Act.put, zA, zB, zC]
       refine wpAnyD_done (by kernel_rfl) ?_ _
       refine NoPanic.normal ?_
       go_wp2_with fail
       go_ret2
       rw [HE.out]
       exact ⟨rfl, bstep HBw.out (Nat.le_refl _) HBz.out⟩
      exact rz
     exact rz
    exact rz
   exact rz
  ·obtain ⟨kb, hkb⟩ : ∃ kb, kb = kn := ⟨_, rfl⟩
   subst hkb
   have HE : Hid (wrapF (kb : Int) c = (headF kb c, 0)) := Lib.hid (by rw [hE0]; unfold wrapK; rw [hsh, if_neg hlt])
   have hli : ¬ (sh.length : Int) < c.length := by omega
   have HKb : Hid (kb < 256) := Lib.hid (by omega)
   obtain ⟨s2, hs2⟩ : ∃ s2, s2 = c := ⟨_, rfl⟩
   subst hs2
   have HS2 : Hid (s2.length ≤ 4096) := Lib.hid hc
   clear hk hE0 hsh hlt hc
   go_enter Tryz.func39, Tryz.ntmps39
   go_upto_region 1 with (fail)
   rw [HW0.out, HPe.out]
   go_wp2_with fail
   refine (HLe.out).mono ?_
   rintro x w2 ⟨rfl, hb2⟩
   have HB2 := Lib.hid (bstep HB0.out (Nat.le_refl _) hb2)
   have hce2 := (hb2.block P (Array.getElem?_eq_some_iff.1 HCe.out).1).trans HCe.out
   clear hb2 p0 p1
   have p0 : w2.cell? ⟨P, 0, none⟩ = some (.int .i64 (kb : Int)) := by rw [cell_of_row _ P 0 _ _ _ hce2]; rfl
   have p1 : w2.cell? ⟨P, 1, none⟩ = some (.string (sB s2)) := by rw [cell_of_row _ P 1 _ _ _ hce2]; rfl
   clear hce2
   go_upto_region 6 with (fail)
   go_quiet (fail)
   obtain ⟨wq, hwq⟩ : ∃ W, w2.drewN nq = W := ⟨_, rfl⟩
   have HBw : Hid (Below w.heap.size w wq) := Lib.hid (by rw [← hwq]; exact below_drewN HB2.out _)
   rw [hwq]
   clear hwq p0 p1
   have hsb : s2.length ≤ 4096 := HS2.out
   have htl := textF_len s2
   have HTx := Lib.hid fun w => text_at s2 (by omega) w
   have HSl : Hid (∀ w : World, Calls Tryz.prog 86 #[.string (⟨[165, UInt8.ofNat kb].toArray⟩ ++ sB (textF s2))] w fun e w' => e = .returned (.string (sB (headF kb s2))) ∧ Below w.heap.size w w') := Lib.hid fun w => by
    have h : (⟨[165, UInt8.ofNat kb].toArray⟩ : ByteArray) ++ sB (textF s2) = sB ([165, UInt8.ofNat kb] ++ textF s2) := by rw [← sB_app]; rfl
    rw [h]
    have := K.seal_walk (sB ([165, UInt8.ofNat kb] ++ textF s2)) (by rw [sB_size, List.length_append]; simp; omega) w
    rw [sealB_sB] at this
    exact this
   have z1 : (sB (textF s2)).size ≤ 4200 := by rw [sB_size]; omega
   have z2 : (⟨[165, UInt8.ofNat kb].toArray⟩ : ByteArray).size = 2 := rfl
   have z3 : ¬ 9223372036854775807 < 2 + (sB (textF s2)).size := by omega
   have hwk : IntKind.u8.wrap (kb : Int) = (kb : Int) := by have := HKb.out; simp [IntKind.wrap, IntKind.signed, IntKind.bits]; omega
   clear hsb htl z1 z2
   go_upto_region 9 with (fail)
   refine wp_region_noPanic ?_
   obtain ⟨W1, hW1⟩ : ∃ W, W = wq := ⟨_, rfl⟩
   subst hW1
   refine wp_region_D 10 (fun _ => True) (by kernel_rfl) trivial (fun hU => ?_)
   have hC : (fun _ : World => True) W1.drew := trivial
   clear hU
   refine tk 0 37 9 rfl rfl (.inr hC) ?_
   simp only [Act.put, zA, zB, zC]
   refine tk 1 38 8 rfl rfl (.inr hC) ?_
   simp only [Act.put, zA, zB, zC]
   refine tk 4 41 7 rfl rfl (.inr hC) ?_
   simp only [Act.put, zA, zB, zC]
   refine ry 6 [2, 5] ?_
   refine rn rfl (fun K hK => ?_) ?_
   ·go_simp
    first
    | have HBk := Lib.hid (brow_new wx kb HKb.out)
    | have HBk := Lib.hid (brow_new W1 kb HKb.out).drew
    refine shut_C hK ?_ (fun hC => ?_)
    ·trivial
    clear hK K
    try simp only [Act.put, zA, zB, zC]
    refine ry 5 [3, 5] ?_
    refine rn rfl (fun K hK => ?_) ?_
    ·have hcv := HBk.out.str 2 2 rfl
     go_simp
     clear hcv
     refine shut_C hK ?_ (fun hC => ?_)
     ·trivial
     clear hK K
     try simp only [Act.put, zA, zB, zC]
     refine ry 4 [5] ?_
     refine rn rfl (fun K hK => ?_) ?_
     ·go_simp
      go_at_call 82
      with_reducible refine (HTx.out _).mono ?_
      rintro x wx ⟨rfl, hbx⟩
      have HBx : Hid (Below W1.heap.size W1 wx) := Lib.hid (by
       first
       | exact (Below.refl W1.heap.size W1).drew.trans hbx
       | exact bstep ((Below.refl W1.heap.size W1).drew.alloc (Nat.le_refl _) _) (Nat.le_refl _) hbx)
      try (have HBk := Lib.hid (HBk.out.block (hbx.block _ HBk.out.lt)))
      clear hbx
      go_wp2_with fail
      refine shut_C hK ?_ (fun hC => ?_)
      ·trivial
      clear hK K
      try simp only [Act.put, zA, zB, zC]
      refine tk 6 43 3 rfl rfl (.inr hC) ?_
      simp only [Act.put, zA, zB, zC]
      refine ry 2 [7] ?_
      refine rn rfl (fun K hK => ?_) ?_
      ·go_simp
       go_at_call 86
       with_reducible refine (HSl.out _).mono ?_
       rintro x wz ⟨rfl, hbz⟩
       have HBz : Hid (Below W1.heap.size W1 wz) := Lib.hid (by
        first
        | exact bstep HBx.out (Nat.le_refl _) hbz
        | exact bstep (HBx.out.alloc HBx.out.size _) (Nat.le_refl _) hbz)
       clear hbz
       go_wp2_with fail
       refine shut_C hK ?_ (fun hC => ?_)
       ·trivial
       clear hK K
       try simp only [Act.put, zA, zB, zC]
       refine tk 8 2 1 rfl rfl (.inr hC) ?_
       simp only [Act.put, zA, zB, zC]
       refine tk 9 3 0 rfl rfl (.inr hC) ?_
       simp only [Act.put, zA, zB, zC]
       refine wpAnyD_done (by kernel_rfl) ?_ _
       refine NoPanic.normal ?_
       go_wp2_with fail
       go_ret2
       rw [HE.out]
       exact ⟨rfl, bstep HBw.out (Nat.le_refl _) HBz.out⟩
      exact rz
     exact rz
    refine rn rfl (fun K hK => ?_) ?_
    ·go_simp
     go_at_call 82
     with_reducible refine (HTx.out _).mono ?_
     rintro x wx ⟨rfl, hbx⟩
     have HBx : Hid (Below W1.heap.size W1 wx) := Lib.hid (by
      first
      | exact (Below.refl W1.heap.size W1).drew.trans hbx
      | exact bstep ((Below.refl W1.heap.size W1).drew.alloc (Nat.le_refl _) _) (Nat.le_refl _) hbx)
     try (have HBk := Lib.hid (HBk.out.block (hbx.block _ HBk.out.lt)))
     clear hbx
     go_wp2_with fail
     refine shut_C hK ?_ (fun hC => ?_)
     ·trivial
     clear hK K
     try simp only [Act.put, zA, zB, zC]
     refine ry 4 [3] ?_
     refine rn rfl (fun K hK => ?_) ?_
     ·have hcv := HBk.out.str 2 2 rfl
      go_simp
      clear hcv
      refine shut_C hK ?_ (fun hC => ?_)
      ·trivial
      clear hK K
      try simp only [Act.put, zA, zB, zC]
      refine tk 6 43 3 rfl rfl (.inr hC) ?_
      simp only [Act.put, zA, zB, zC]
      refine ry 2 [7] ?_
      refine rn rfl (fun K hK => ?_) ?_
      ·go_simp
       go_at_call 86
       with_reducible refine (HSl.out _).mono ?_
       rintro x wz ⟨rfl, hbz⟩
       have HBz : Hid (Below W1.heap.size W1 wz) := Lib.hid (by
        first
        | exact bstep HBx.out (Nat.le_refl _) hbz
        | exact bstep (HBx.out.alloc HBx.out.size _) (Nat.le_refl _) hbz)
       clear hbz
       go_wp2_with fail
       refine shut_C hK ?_ (fun hC => ?_)
       ·trivial
       clear hK K
       try simp only [Act.put, zA, zB, zC]
       refine tk 8 2 1 rfl rfl (.inr hC) ?_
       simp only [Act.put, zA, zB, zC]
       refine tk 9 3 0 rfl rfl (.inr hC) ?_
       simp only [Act.put, zA, zB, zC]
       refine wpAnyD_done (by kernel_rfl) ?_ _
       refine NoPanic.normal ?_
       go_wp2_with fail
       go_ret2
       rw [HE.out]
       exact ⟨rfl, bstep HBw.out (Nat.le_refl _) HBz.out⟩
      exact rz
     exact rz
    exact rz
   refine rn rfl (fun K hK => ?_) ?_
   ·go_simp
    go_at_call 82
    with_reducible refine (HTx.out _).mono ?_
    rintro x wx ⟨rfl, hbx⟩
    have HBx : Hid (Below W1.heap.size W1 wx) := Lib.hid (by
     first
     | exact (Below.refl W1.heap.size W1).drew.trans hbx
     | exact bstep ((Below.refl W1.heap.size W1).drew.alloc (Nat.le_refl _) _) (Nat.le_refl _) hbx)
    try (have HBk := Lib.hid (HBk.out.block (hbx.block _ HBk.out.lt)))
    clear hbx
    go_wp2_with fail
    refine shut_C hK ?_ (fun hC => ?_)
    ·trivial
    clear hK K
    try simp only [Act.put, zA, zB, zC]
    refine ry 5 [2] ?_
    refine rn rfl (fun K hK => ?_) ?_
    ·go_simp
     first
     | have HBk := Lib.hid (brow_new wx kb HKb.out)
     | have HBk := Lib.hid (brow_new W1 kb HKb.out).drew
     refine shut_C hK ?_ (fun hC => ?_)
     ·trivial
     clear hK K
     try simp only [Act.put, zA, zB, zC]
     refine ry 4 [3] ?_
     refine rn rfl (fun K hK => ?_) ?_
     ·have hcv := HBk.out.str 2 2 rfl
      go_simp
      clear hcv
      refine shut_C hK ?_ (fun hC => ?_)
      ·trivial
      clear hK K
      try simp only [Act.put, zA, zB, zC]
      refine tk 6 43 3 rfl rfl (.inr hC) ?_
      simp only [Act.put, zA, zB, zC]
      refine ry 2 [7] ?_
      refine rn rfl (fun K hK => ?_) ?_
      ·go_simp
       go_at_call 86
       with_reducible refine (HSl.out _).mono ?_
       rintro x wz ⟨rfl, hbz⟩
       have HBz : Hid (Below W1.heap.size W1 wz) := Lib.hid (by
        first
        | exact bstep HBx.out (Nat.le_refl _) hbz
        | exact bstep (HBx.out.alloc HBx.out.size _) (Nat.le_refl _) hbz)
       clear hbz
       go_wp2_with fail
       refine shut_C hK ?_ (fun hC => ?_)
       ·trivial
       clear hK K
       try simp only [Act.put, zA, zB, zC]
       refine tk 8 2 1 rfl rfl (.inr hC) ?_
       simp only [Act.put, zA, zB, zC]
       refine tk 9 3 0 rfl rfl (.inr hC) ?_
       simp only [Act.put, zA, zB, zC]
       refine wpAnyD_done (by kernel_rfl) ?_ _
       refine NoPanic.normal ?_
       go_wp2_with fail
       go_ret2
       rw [HE.out]
       exact ⟨rfl, bstep HBw.out (Nat.le_refl _) HBz.out⟩
      exact rz
     exact rz
    exact rz
   exact rz
abbrev Frm := Int × List UInt8
def frc (x : Frm) : List Value := [.int .i64 x.1, .string (sB x.2)]
def frs (l : List Frm) : List Value := l.flatMap frc
theorem frs_append (a b : List Frm) : frs (a ++ b) = frs a ++ frs b := by simp [frs]
theorem frs_length (l : List Frm) : (frs l).length = l.length * 2 := by
 induction l with
 | nil => rfl
 | cons x l ih => show (frc x ++ frs l).length = _; rw [List.length_append, ih]; show 2 + _ = (_ + 1) * 2; omega
def InFr (w : World) (A : Option Addr) (l : List Frm) : Prop := Flat w (fun k => k < w.heap.size) A (frs l)
theorem InFr.mono {w w' : World} {A : Option Addr} {l : List Frm} (h : InFr w A l) (hb : Below w.heap.size w w') : InFr w' A l :=
 (Flat.frame (w' := w') h fun k hk _ => hb.block k hk).mono fun k hk => Nat.lt_of_lt_of_le hk hb.size
theorem frs_get {l : List Frm} {k : Nat} (hk : k < l.length) (j : Nat) (hj : j < 2) : (frs l)[k * 2 + j]? = (frc (l.getD k default))[j]? := by
 have e1 : l = l.take k ++ (l.getD k default :: l.drop (k + 1)) := by
  have e2 : l.getD k default :: l.drop (k + 1) = l.drop k := by rw [List.drop_eq_getElem_cons hk]; simp [List.getD, hk]
  rw [e2, List.take_append_drop]
 have e3 : frs l = frs (l.take k) ++ (frc (l.getD k default) ++ frs (l.drop (k + 1))) := by
  have := congrArg frs e1
  rw [frs_append] at this
  exact this
 have hl : (frs (l.take k)).length = k * 2 := by rw [frs_length, List.length_take]; congr 1; omega
 rw [e3, List.getElem?_append_right (by omega), hl, show k * 2 + j - k * 2 = j by omega, List.getElem?_append_left (by show j < 2; exact hj)]
theorem infr_at {w : World} {A : Option Addr} {l : List Frm} (h : InFr w A l) {w' : World} (hb : Below w.heap.size w w') {k : Nat} (hk : k < l.length) : ∃ a, A = some a ∧ w'.cell? (a.add (k * 2)) = some (.int .i64 (l.getD k default).1) ∧ w'.cell? ⟨(a.add (k * 2)).block, (a.add (k * 2)).off + 1, none⟩ = some (.string (sB (l.getD k default).2)) := by
 have h0 := frs_get hk 0 (by decide)
 have h1 := frs_get hk 1 (by decide)
 have hf := Flat.frame (w' := w') h fun k hk _ => hb.block k hk
 obtain ⟨a, e1, _, c1⟩ := hf _ _ (h0.trans rfl)
 obtain ⟨a2, e2, _, c2⟩ := hf _ _ (h1.trans rfl)
 rw [e1] at e2
 injection e2 with e2
 subst e2
 refine ⟨a, e1, c1, ?_⟩
 rw [add_succ a (k * 2) 1 (by decide)]; exact c2
def encFr : List Frm → List UInt8 × Int
 | [] => ([], 0)
 | f :: r => if (wrapF f.1 f.2).2 = 0 then (if (encFr r).2 = 0 then ((wrapF f.1 f.2).1 ++ (encFr r).1, 0) else ([], (encFr r).2)) else ([], (wrapF f.1 f.2).2)
def catE (out : List UInt8) (q : List UInt8 × Int) : List UInt8 × Int := if q.2 = 0 then (out ++ q.1, 0) else ([], q.2)
theorem encFr_cons (out : List UInt8) (f : Frm) (r : List Frm) : catE out (encFr (f :: r)) = if (wrapF f.1 f.2).2 = 0 then catE (out ++ (wrapF f.1 f.2).1) (encFr r) else ([], (wrapF f.1 f.2).2) := by
 unfold catE
 have e : encFr (f :: r) = if (wrapF f.1 f.2).2 = 0 then (if (encFr r).2 = 0 then ((wrapF f.1 f.2).1 ++ (encFr r).1, 0) else ([], (encFr r).2)) else ([], (wrapF f.1 f.2).2) := rfl
 rw [e]
 by_cases h1 : (wrapF f.1 f.2).2 = 0
 ·rw [if_pos h1, if_pos h1]
  by_cases h2 : (encFr r).2 = 0
  ·rw [if_pos h2, if_pos h2]; simp
  ·rw [if_neg h2, if_neg h2]; simp [h2]
 ·rw [if_neg h1, if_neg h1]; simp [h1]
theorem wrapF_len (k : Int) (c : List UInt8) (hc : c.length ≤ 4096) : (wrapF k c).1.length ≤ 4200 := by
 unfold wrapF
 split
 ·simp
 ·unfold headF
  rw [K.sealL_length, List.length_append]
  have h1 := textF_len (wrapK k.toNat c).2
  have h2 : (wrapK k.toNat c).2.length ≤ 4096 := by
   unfold wrapK
   split
   ·rename_i h; show (lzEnc c).length ≤ _; omega
   ·exact hc
  simp only [List.length_cons, List.length_nil]
  omega
def FeR (w : World) (l : List Frm) (v i : Value) (wr : World) : Prop := ∃ (k : Nat) (out : List UInt8), i = .int .i64 (k : Int) ∧ v = .string (sB out) ∧ k ≤ l.length ∧ out.length ≤ 4200 * k ∧ encFr l = catE out (encFr (l.drop k)) ∧ Below w.heap.size w wr
theorem drop_getG {α : Type} [Inhabited α] {l : List α} {k : Nat} (h : k < l.length) : l.drop k = l.getD k default :: l.drop (k + 1) := by rw [List.drop_eq_getElem_cons h]; simp [List.getD, h]
theorem catE_nil (q : List UInt8 × Int) (h : q.2 = 0 ∨ q.1 = []) : catE [] q = q := by
 unfold catE
 obtain ⟨a, b⟩ := q
 rcases h with h | h
 ·simp only at h; subst h; simp
 ·simp only at h; subst h
  by_cases hb : b = 0
  ·subst hb; rfl
  ·simp [hb]
theorem encFr_e : ∀ l, (encFr l).2 = 0 ∨ (encFr l).1 = []
 | [] => .inl rfl
 | f :: r => by
  unfold encFr
  by_cases h1 : (wrapF f.1 f.2).2 = 0
  ·rw [if_pos h1]
   split
   ·exact .inl rfl
   ·exact .inr rfl
  ·rw [if_neg h1]; exact .inr rfl
set_option maxRecDepth 100000 in
set_option maxHeartbeats 1000000 in
theorem fenc_walk (l : List Frm) (hl : l.length ≤ 200) (hc : ∀ f ∈ l, f.2.length ≤ 4096) (w : World) (A : Option Addr) (c : Nat) (hF : InFr w A l) : Calls Tryz.prog 12 #[.slice A l.length c] w fun x w' => x = .returned (.tuple #[.string (sB (encFr l).1), .int .i64 (encFr l).2]) ∧ Below w.heap.size w w' := by
 have HF := Lib.hid hF
 have HCn := Lib.hid hc
 have HLl := Lib.hid hl
 have hli : (l.length : Int) ≤ 200 := by omega
 clear hF hc hl
 go_enter Tryz.func12, Tryz.ntmps12
 go_wp2_with fail
 have hz0 : (⟨#[]⟩ : ByteArray) = sB [] := rfl
 go_loopw [4, 11] (fun v i wr => FeR w l v i wr) (fun _ i _ => ((l.length : Int) - intOf i).toNat)
 case atStart => exact ⟨0, [], rfl, by rw [← hz0], Nat.zero_le _, Nat.zero_le _, (catE_nil _ (encFr_e l)).symm, .refl _ _⟩
 case round =>
  clear hz0
  obtain ⟨k, out, rfl, rfl, hk, ho, he, hb⟩ := hrel
  have HE := Lib.hid he
  have HB := Lib.hid hb
  by_cases hlt : k < l.length
  ·have hki : (k : Int) < l.length := by omega
   obtain ⟨a, rfl, c0, c1⟩ := infr_at HF.out hb hlt
   have hfc := HCn.out _ (List.mem_of_getElem? (get_default hlt))
   have hdr := drop_getG hlt
   obtain ⟨⟨q, s⟩, hf⟩ : ∃ f, l.getD k default = f := ⟨_, rfl⟩
   rw [hf] at c0 c1 hfc hdr
   simp only at c0 c1 hfc
   have hcons := encFr_cons out (q, s) (l.drop (k + 1))
   have hwl := wrapF_len q s hfc
   have hW := fun w => wrap_walk q s hfc w
   obtain ⟨⟨t, e⟩, ht⟩ : ∃ t, wrapF q s = t := ⟨_, rfl⟩
   have hEn : encFr l = if e = 0 then catE (out ++ t) (encFr (l.drop (k + 1))) else ([], e) := by
    rw [he, hdr, hcons]; simp only [ht]
   rw [ht] at hW hwl
   have HEn := Lib.hid hEn
   have HW := Lib.hid hW
   have z1 : (sB out).size ≤ 840000 := by rw [sB_size]; have := HLl.out; omega
   have z2 : (sB t).size ≤ 4200 := by rw [sB_size]; exact hwl
   have HOl : Hid ((out ++ t).length ≤ 4200 * (k + 1)) := Lib.hid (by rw [List.length_append]; have : t.length ≤ 4200 := hwl; omega)
   clear hk ho he hb hfc hdr hf hcons hwl hW ht hEn
   go_wp2_with fail
   refine (HW.out _).mono ?_
   rintro x w2 ⟨rfl, hb2⟩
   have HB2 := Lib.hid (bstep (HB.out.alloc HB.out.size _) (Nat.le_refl _) hb2)
   clear hb2 c0 c1
   by_cases h0 : e = 0
   ·subst h0
    go_wp2_with fail
    go_roundw
    case rel => exact ⟨k + 1, out ++ t, by go_num, by rw [← sB_app], by omega, HOl.out, by rw [HEn.out]; first | rw [if_pos rfl] | rw [if_pos trivial], HB2.out⟩
    case measure => simp [intOf]; omega
   ·have hen := errne h0
    have HEn2 : Hid (encFr l = ([], e)) := Lib.hid (by rw [HEn.out, if_neg h0])
    clear h0
    go_wp2_with fail
    go_ret2
    rw [HEn2.out]
    exact ⟨rfl, HB2.out⟩
  ·obtain rfl : k = l.length := by omega
   have HEn2 : Hid (encFr l = (out, 0)) := Lib.hid (by rw [he, List.drop_length]; unfold catE encFr; simp)
   clear hk ho he hb
   go_wp2_with fail
   go_ret2
   rw [HEn2.out]
   exact ⟨rfl, HB.out⟩
end Go.Proofs.YtlmjefjimoghcaaGreat
