/- A part of the proofs of TopCounter and TopStrict: what the functions of the program do, each walked once, and plain laws about it. No condition. -/
import Derived.Laws.EntriesVeiled
import Derived.Test.YtlmjefjimoghcaaGreatA26
namespace Go.Proofs.YtlmjefjimoghcaaGreat
set_option linter.unusedSimpArgs false
set_option linter.unnecessarySimpa false
set_option linter.unusedVariables false
open Go.RowKit
attribute [local go_sem ↓] Go.wp_at_zero Go.wp_at_succ
theorem detN_prop (c : Clk) (last : Int) : ∀ (k : Nat) (n : Int), 1 ≤ n → (n = 1 ∨ atF c (n - 1) ≤ last) → n ≤ detN k c n last ∧ detN k c n last ≤ n + k ∧ (detN k c n last = 1 ∨ atF c (detN k c n last - 1) ≤ last)
 | 0, n, _, h => ⟨Int.le_refl _, by show n ≤ n + ((0 : Nat) : Int); omega, h⟩
 | k + 1, n, h1, h => by
  unfold detN
  split
  ·rename_i hle
   obtain ⟨a, b, d⟩ := detN_prop c last k (n + 1) (by omega) (.inr (by rw [show n + 1 - 1 = n by omega]; exact hle))
   exact ⟨by omega, by omega, d⟩
  ·exact ⟨Int.le_refl _, by omega, h⟩
theorem detF_ok {l : List Int} (h : validT l = true) (h2 : 2 ≤ l.length) : clkOk (detF l) = true ∧ (0 ≤ (detF l).s ∧ 0 ≤ (detF l).f ∧ 0 ≤ (detF l).g ∧ 1 ≤ (detF l).n ∧ (detF l).n ≤ 4096) ∧ ((detF l).s ≤ 1099511627776 ∧ (detF l).f ≤ 1099511627776 ∧ (detF l).g ≤ 1099511627776) := by
 obtain ⟨hb, hf, hg⟩ := det0_b h h2
 obtain ⟨hl, hv⟩ := validT_b h
 have hlast := (hv (l.length - 1) (by omega)).1
 obtain ⟨p1, p2, p3⟩ := detN_prop (det0 l) (l.getD (l.length - 1) default) 4095 1 (by decide) (.inl rfl)
 obtain ⟨n, hn⟩ : ∃ n, detN 4095 (det0 l) 1 (l.getD (l.length - 1) default) = n := ⟨_, rfl⟩
 have hd : detF l = { det0 l with n := n } := by unfold detF; rw [hn]
 rw [hn] at p1 p2 p3
 rw [hd]
 have hs := hb.s
 have hf2 := hb.f
 have hg2 := hb.g
 have hat : atF { det0 l with n := n } (n - 1) ≤ MX := by
  rw [atF_n]
  rcases p3 with p3 | p3
  ·rw [p3]
   unfold atF
   simp
   exact hs.2
  ·have : MX = 1099511627776 := rfl
   omega
 have em : MX = 1099511627776 := rfl
 refine ⟨?_, ⟨hs.1, hf2.1, hg2.1, p1, by show n ≤ 4096; omega⟩, hs.2, hf2.2, hg2.2⟩
 unfold clkOk insideB
 simp only [Bool.and_eq_true, decide_eq_true_eq]
 refine ⟨⟨⟨⟨⟨by show 1 ≤ n; omega, by show n ≤ 4096; omega⟩, hs.1, by rw [em]; exact hs.2⟩, hf, by rw [em]; exact hf2.2⟩, hg, by rw [em]; exact hg2.2⟩, hat⟩
def missT (l : List Int) : List Int := missK (timesL (detF l) (detF l).n.toNat) l (detF l).n.toNat
def addT (l : List Int) : List Int := addK (timesL (detF l) (detF l).n.toNat) l
def c2F (l : List Int) : List UInt8 := V.num 1 ++ V.num (detF l).s.toNat ++ V.num (detF l).f.toNat ++ V.num (detF l).g.toNat ++ V.num (detF l).n.toNat ++ textF (numsF (gapsT (missT l))) ++ numsF (gapsT (addT l))
theorem missK_b (all l : List Int) : ∀ k, ∀ t ∈ missK all l k, 0 ≤ t ∧ t < (k : Int)
 | 0, t, h => by simp [missK] at h
 | k + 1, t, h => by
  unfold missK at h
  split at h
  ·have := missK_b all l k t h; omega
  ·rw [List.mem_append, List.mem_singleton] at h
   rcases h with h | rfl
   ·have := missK_b all l k t h; omega
   ·omega
structure K79 (w0 : World) (D Tb Nb : Nat) (A : Option Addr) (c : Nat) (l : List Int) (s f g n : Int) (A1 : Option Addr) (m : List Int) (A2 : Option Addr) (ad : List Int) (W : World) : Prop where
 blk : W.heap[D]? = some (.cells #[.int .i64 s, .int .i64 f, .int .i64 g, .int .i64 n] 23 (0, 0))
 box : BoxT W Tb Nb A c l
 i1 : InI W A1 m
 i2 : InI W A2 ad
 below : Below w0.heap.size w0 W
section
variable {w0 : World} {D Tb Nb : Nat} {A : Option Addr} {c : Nat} {l : List Int} {s f g n : Int} {A1 : Option Addr} {m : List Int} {A2 : Option Addr} {ad : List Int} {W W' : World}
theorem K79.mono (h : K79 w0 D Tb Nb A c l s f g n A1 m A2 ad W) (hb : Below W.heap.size W W') : K79 w0 D Tb Nb A c l s f g n A1 m A2 ad W' :=
 ⟨(hb.block D (Array.getElem?_eq_some_iff.1 h.blk).1).trans h.blk, h.box.mono hb, h.i1.mono hb, h.i2.mono hb, bstep h.below (Nat.le_refl _) hb⟩
theorem K79.cells (h : K79 w0 D Tb Nb A c l s f g n A1 m A2 ad W) : W.cell? ⟨D, 0, none⟩ = some (.int .i64 s) ∧ W.cell? ⟨D, 1, none⟩ = some (.int .i64 f) ∧ W.cell? ⟨D, 2, none⟩ = some (.int .i64 g) ∧ W.cell? ⟨D, 3, none⟩ = some (.int .i64 n) ∧ W.cell? ⟨Nb, 0, none⟩ = some (.func (.func 76) #[] #[]) :=
 ⟨by rw [cell_of_row W D 0 _ _ _ h.blk]; rfl, by rw [cell_of_row W D 1 _ _ _ h.blk]; rfl, by rw [cell_of_row W D 2 _ _ _ h.blk]; rfl, by rw [cell_of_row W D 3 _ _ _ h.blk]; rfl, h.box.cn⟩
end
set_option maxRecDepth 100000 in
set_option maxHeartbeats 4000000 in
theorem cod3_walk (l : List Int) (hv : validT l = true) (h2 : 2 ≤ l.length) (w : World) (Tb Nb : Nat) (A : Option Addr) (c : Nat) (hx : BoxT w Tb Nb A c l) (hp : PlainA A) : Calls Tryz.prog 79 #[.pointer (some ⟨Tb, 0, none⟩), .pointer (some ⟨Nb, 0, none⟩)] w fun e w' => e = .returned (.string (sB (c2F l))) ∧ Below w.heap.size w w' := by
 obtain ⟨hl4, hvb⟩ := validT_b hv
 obtain ⟨hok, hnn, hnm⟩ := detF_ok hv h2
 have hme : ∀ m, m = missT l → m.length ≤ 4096 ∧ ∀ t ∈ m, -1 ≤ t ∧ t ≤ 1099511627776 := by
  rintro m rfl
  have h1 := missK_len (timesL (detF l) (detF l).n.toNat) l (detF l).n.toNat
  refine ⟨by unfold missT; omega, fun t ht => ?_⟩
  have := missK_b _ _ _ t ht
  omega
 have had : ∀ m, m = addT l → m.length ≤ 4096 ∧ ∀ t ∈ m, -1 ≤ t ∧ t ≤ 1099511627776 := by
  rintro m rfl
  have h1 := List.length_filter_le (fun t => !(timesL (detF l) (detF l).n.toNat).contains t) l
  refine ⟨by unfold addT addK; omega, fun t ht => ?_⟩
  have hm := (List.mem_filter.1 ht).1
  obtain ⟨i, hi, hit⟩ := List.mem_iff_getElem.1 hm
  have := (hvb i hi).1
  rw [List.getD_eq_getElem?_getD, List.getElem?_eq_getElem hi, Option.getD_some, hit] at this
  omega
 have hDet := fun w A c h => detect_walk l hv h2 w A c h
 have hExc := fun w A c h hp => exc_walk (detF l) hok l hv w A c h hp
 obtain ⟨ms, hms⟩ : ∃ ms, missT l = ms := ⟨_, rfl⟩
 obtain ⟨ad, had'⟩ : ∃ ad, addT l = ad := ⟨_, rfl⟩
 have e1 : missK (timesL (detF l) (detF l).n.toNat) l (detF l).n.toNat = ms := hms
 have e2 : addK (timesL (detF l) (detF l).n.toNat) l = ad := had'
 have hc2 : c2F l = V.num 1 ++ V.num (detF l).s.toNat ++ V.num (detF l).f.toNat ++ V.num (detF l).g.toNat ++ V.num (detF l).n.toNat ++ textF (numsF (gapsT ms)) ++ numsF (gapsT ad) := by unfold c2F; rw [hms, had']
 rw [e1, e2] at hExc
 obtain ⟨bm, bm2⟩ := hme ms hms.symm
 obtain ⟨ba, ba2⟩ := had ad had'.symm
 obtain ⟨dc, hdc⟩ : ∃ dc, detF l = dc := ⟨_, rfl⟩
 rw [hdc] at hDet hExc hc2 hnn hnm
 obtain ⟨s, f, g, n⟩ := dc
 have ev : Clk.val ⟨s, f, g, n⟩ = .agg #[.int .i64 s, .int .i64 f, .int .i64 g, .int .i64 n] := rfl
 rw [ev] at hDet hExc
 simp only at hc2 hnn hnm
 obtain ⟨s, rfl⟩ : ∃ k : Nat, s = (k : Int) := ⟨s.toNat, by omega⟩
 obtain ⟨f, rfl⟩ : ∃ k : Nat, f = (k : Int) := ⟨f.toNat, by omega⟩
 obtain ⟨g, rfl⟩ : ∃ k : Nat, g = (k : Int) := ⟨g.toNat, by omega⟩
 obtain ⟨n, rfl⟩ : ∃ k : Nat, n = (k : Int) := ⟨n.toNat, by omega⟩
 simp only [Int.toNat_natCast] at hc2
 obtain ⟨q1, hq1⟩ : ∃ q, sB (V.num 1) = q := ⟨_, rfl⟩
 obtain ⟨q2, hq2⟩ : ∃ q, sB (V.num s) = q := ⟨_, rfl⟩
 obtain ⟨q3, hq3⟩ : ∃ q, sB (V.num f) = q := ⟨_, rfl⟩
 obtain ⟨q4, hq4⟩ : ∃ q, sB (V.num g) = q := ⟨_, rfl⟩
 obtain ⟨q5, hq5⟩ : ∃ q, sB (V.num n) = q := ⟨_, rfl⟩
 obtain ⟨q6, hq6⟩ : ∃ q, sB (textF (numsF (gapsT ms))) = q := ⟨_, rfl⟩
 obtain ⟨q7, hq7⟩ : ∃ q, sB (numsF (gapsT ad)) = q := ⟨_, rfl⟩
 have HFin : Hid (sB (c2F l) = q1 ++ q2 ++ q3 ++ q4 ++ q5 ++ q6 ++ q7) := Lib.hid (by
  rw [hc2, ← hq1, ← hq2, ← hq3, ← hq4, ← hq5, ← hq6, ← hq7]
  simp only [sB_app])
 have z1 : q1.size ≤ 9 := by rw [← hq1, sB_size]; exact num_len _
 have z2 : q2.size ≤ 9 := by rw [← hq2, sB_size]; exact num_len _
 have z3 : q3.size ≤ 9 := by rw [← hq3, sB_size]; exact num_len _
 have z4 : q4.size ≤ 9 := by rw [← hq4, sB_size]; exact num_len _
 have z5 : q5.size ≤ 9 := by rw [← hq5, sB_size]; exact num_len _
 have hnl : (numsF (gapsT ms)).length ≤ 600000 := encNumF_len _
 have z6 : q6.size ≤ 600009 := by rw [← hq6, sB_size]; have := textF_len (numsF (gapsT ms)); omega
 have z7 : q7.size ≤ 600000 := by rw [← hq7, sB_size]; exact encNumF_len _
 have HS1 : Hid (∀ w : World, Calls Tryz.prog 53 #[.int .i64 1] w fun e w' => e = .returned (.string (sB (V.num 1))) ∧ Below w.heap.size w w') := Lib.hid fun w => num_at 1 (by decide) w
 have HS2 := Lib.hid fun w => num_at s (by omega) w
 have HS3 := Lib.hid fun w => num_at f (by omega) w
 have HS4 := Lib.hid fun w => num_at g (by omega) w
 have HS5 := Lib.hid fun w => num_at n (by omega) w
 have HS6 := Lib.hid fun w => text_at (numsF (gapsT ms)) (by omega) w
 rw [hq1] at HS1
 rw [hq2] at HS2
 rw [hq3] at HS3
 rw [hq4] at HS4
 rw [hq5] at HS5
 rw [hq6] at HS6
 have HG1 := Lib.hid fun w A c h => gaps_walk ms bm bm2 w A c h
 have HG2 := Lib.hid fun w A c h => gaps_walk ad ba ba2 w A c h
 have g1 : (gapsT ms).length = ms.length := gapsF_len ms (-1)
 have g2 : (gapsT ad).length = ad.length := gapsF_len ad (-1)
 have HE1 := Lib.hid fun w A c h => cod1_walk (gapsT ms) (by omega) w A c h
 have HE2 := Lib.hid fun w A c h => cod1_walk (gapsT ad) (by omega) w A c h
 rw [g1] at HE1
 rw [g2, hq7] at HE2
 have k1 : ¬ 9223372036854775807 < q1.size + q2.size := by omega
 have k2 : ¬ 9223372036854775807 < q1.size + q2.size + q3.size := by omega
 have k3 : ¬ 9223372036854775807 < q1.size + q2.size + q3.size + q4.size := by omega
 have k4 : ¬ 9223372036854775807 < q1.size + q2.size + q3.size + q4.size + q5.size := by omega
 have k5 : ¬ 9223372036854775807 < q1.size + q2.size + q3.size + q4.size + q5.size + q6.size := by omega
 have k6 : ¬ 9223372036854775807 < q1.size + q2.size + q3.size + q4.size + q5.size + q6.size + q7.size := by omega
 have hct := hx.ct
 have HX := Lib.hid hx
 have HDet := Lib.hid hDet
 have HExc := Lib.hid hExc
 have HP := Lib.hid hp
 clear hx hp hDet hExc hq1 hq2 hq3 hq4 hq5 hq6 hq7 hc2 hme had hms had' e1 e2 bm bm2 ba ba2 ev hok hnn hnm hdc hv h2 hl4 hvb g1 g2 hnl
 go_enter Tryz.func79, Tryz.ntmps79
 go_wp2_with fail
 refine (HDet.out _ _ _ HX.out.inn).mono ?_
 rintro x w1 ⟨rfl, hb1⟩
 have hbx := (HX.out.mono hb1).mono ((Below.refl w1.heap.size w1).alloc (Nat.le_refl _) (.cells #[.int .i64 (s : Int), .int .i64 (f : Int), .int .i64 (g : Int), .int .i64 (n : Int)] 23))
 have hct2 := hbx.ct
 have HBx := Lib.hid hbx
 have HB1 := Lib.hid (hb1.alloc hb1.size (.cells #[.int .i64 (s : Int), .int .i64 (f : Int), .int .i64 (g : Int), .int .i64 (n : Int)] 23))
 clear hb1 hbx hct
 go_wp2_with fail
 refine (HExc.out _ _ _ HBx.out.inn HP.out).mono ?_
 rintro x w2 ⟨hb2, A1, c1, A2, c2, rfl, hi1, hi2⟩
 obtain ⟨D, hD⟩ : ∃ D, w1.heap.size = D := ⟨_, rfl⟩
 have HK : Hid (K79 w D Tb Nb A c l (s : Int) (f : Int) (g : Int) (n : Int) A1 ms A2 ad w2.drew) := Lib.hid (by
  have h1 : w2.heap[w1.heap.size]? = some (.cells #[.int .i64 (s : Int), .int .i64 (f : Int), .int .i64 (g : Int), .int .i64 (n : Int)] 23 (0, 0)) := (hb2.block _ (by simp)).trans (heap_alloc_new _ _)
  rw [hD] at h1
  have h2 := HBx.out.mono hb2
  exact ⟨h1, ⟨h2.tb, h2.nb, h2.inn⟩, hi1, hi2, (bstep HB1.out (Nat.le_refl _) hb2).drew⟩)
 rw [hD]
 clear hb2 hi1 hi2 hD hct2
 go_upto_region 3 with (fail)
 refine wp_region_noPanic ?_
 refine wp_region_D 29 (fun w' => w'.cell? ⟨D, 0, none⟩ = some (.int .i64 (s : Int)) ∧ w'.cell? ⟨D, 1, none⟩ = some (.int .i64 (f : Int)) ∧ w'.cell? ⟨D, 2, none⟩ = some (.int .i64 (g : Int)) ∧ w'.cell? ⟨D, 3, none⟩ = some (.int .i64 (n : Int)) ∧ w'.cell? ⟨Nb, 0, none⟩ = some (.func (.func 76) #[] #[])) (by kernel_rfl) HK.out.cells (fun hU => ?_)
 have hC : (fun w' : World => w'.cell? ⟨D, 0, none⟩ = some (.int .i64 (s : Int)) ∧ w'.cell? ⟨D, 1, none⟩ = some (.int .i64 (f : Int)) ∧ w'.cell? ⟨D, 2, none⟩ = some (.int .i64 (g : Int)) ∧ w'.cell? ⟨D, 3, none⟩ = some (.int .i64 (n : Int)) ∧ w'.cell? ⟨Nb, 0, none⟩ = some (.func (.func 76) #[] #[])) w2.drew := HK.out.cells
 clear hU
 refine tk 1 17 28 rfl rfl (.inr hC) ?_
 simp only [Act.put, zA, zB, zC]
 refine tl 2 18 27 rfl rfl (.inr hC) ?_
 simp only [Act.put, zA, zB, zC]
 refine tk 5 21 26 rfl rfl (.inr hC) ?_
 simp only [Act.put, zA, zB, zC]
 refine tl 6 22 25 rfl rfl (.inr hC) ?_
 simp only [Act.put, zA, zB, zC]
 refine tk 9 25 24 rfl rfl (.inr hC) ?_
 simp only [Act.put, zA, zB, zC]
 refine tl 10 26 23 rfl rfl (.inr hC) ?_
 simp only [Act.put, zA, zB, zC]
 refine tk 13 29 22 rfl rfl (.inr hC) ?_
 simp only [Act.put, zA, zB, zC]
 refine tl 14 30 21 rfl rfl (.inr hC) ?_
 simp only [Act.put, zA, zB, zC]
 refine tl 17 33 20 rfl rfl (.inr hC) ?_
 simp only [Act.put, zA, zB, zC]
 refine tk 18 34 19 rfl rfl (.inr hC) ?_
 simp only [Act.put, zA, zB, zC]
 refine tl 23 39 18 rfl rfl (.inr hC) ?_
 simp only [Act.put, zA, zB, zC]
 refine tk 24 40 17 rfl rfl (.inr hC) ?_
 simp only [Act.put, zA, zB, zC]
 refine ry 16 [0] ?_
 refine rn rfl (fun K hK => ?_) ?_
 ·go_simp
  go_at_call 53
  with_reducible refine (HS1.out _).mono ?_
  rintro x W ⟨rfl, hb⟩
  have HK := Lib.hid (HK.out.mono hb)
  try (have HIg := Lib.hid (HIg.out.mono hb))
  clear hb
  go_wp2_with fail
  refine shut_C hK ?_ (fun hC => ?_)
  ·exact HK.out.cells
  clear hK K
  try simp only [Act.put, zA, zB, zC]
  refine ry 15 [3] ?_
  refine rn rfl (fun K hK => ?_) ?_
  ·go_simp
   go_at_call 53
   with_reducible refine (HS2.out _).mono ?_
   rintro x W ⟨rfl, hb⟩
   have HK := Lib.hid (HK.out.mono hb)
   try (have HIg := Lib.hid (HIg.out.mono hb))
   clear hb
   go_wp2_with fail
   refine shut_C hK ?_ (fun hC => ?_)
   ·exact HK.out.cells
   clear hK K
   try simp only [Act.put, zA, zB, zC]
   refine tk 4 20 14 rfl rfl (.inr hC) ?_
   simp only [Act.put, zA, zB, zC]
   refine ry 13 [7] ?_
   refine rn rfl (fun K hK => ?_) ?_
   ·go_simp
    go_at_call 53
    with_reducible refine (HS3.out _).mono ?_
    rintro x W ⟨rfl, hb⟩
    have HK := Lib.hid (HK.out.mono hb)
    try (have HIg := Lib.hid (HIg.out.mono hb))
    clear hb
    go_wp2_with fail
    refine shut_C hK ?_ (fun hC => ?_)
    ·exact HK.out.cells
    clear hK K
    try simp only [Act.put, zA, zB, zC]
    refine tk 8 24 12 rfl rfl (.inr hC) ?_
    simp only [Act.put, zA, zB, zC]
    refine ry 11 [11] ?_
    refine rn rfl (fun K hK => ?_) ?_
    ·go_simp
     go_at_call 53
     with_reducible refine (HS4.out _).mono ?_
     rintro x W ⟨rfl, hb⟩
     have HK := Lib.hid (HK.out.mono hb)
     try (have HIg := Lib.hid (HIg.out.mono hb))
     clear hb
     go_wp2_with fail
     refine shut_C hK ?_ (fun hC => ?_)
     ·exact HK.out.cells
     clear hK K
     try simp only [Act.put, zA, zB, zC]
     refine tk 12 28 10 rfl rfl (.inr hC) ?_
     simp only [Act.put, zA, zB, zC]
     refine ry 9 [15] ?_
     refine rn rfl (fun K hK => ?_) ?_
     ·go_simp
      go_at_call 53
      with_reducible refine (HS5.out _).mono ?_
      rintro x W ⟨rfl, hb⟩
      have HK := Lib.hid (HK.out.mono hb)
      try (have HIg := Lib.hid (HIg.out.mono hb))
      clear hb
      go_wp2_with fail
      refine shut_C hK ?_ (fun hC => ?_)
      ·exact HK.out.cells
      clear hK K
      try simp only [Act.put, zA, zB, zC]
      refine tk 16 32 8 rfl rfl (.inr hC) ?_
      simp only [Act.put, zA, zB, zC]
      refine ry 7 [19] ?_
      refine rn rfl (fun K hK => ?_) ?_
      ·go_simp
       go_at_call 78
       with_reducible refine (HG1.out _ _ _ HK.out.i1).mono ?_
       rintro x W ⟨hb, Ag, cg, rfl, hin⟩
       have HK := Lib.hid (HK.out.mono hb)
       have HIg := Lib.hid hin
       clear hb hin
       go_wp2_with fail
       refine shut_C hK ?_ (fun hC => ?_)
       ·exact HK.out.cells
       clear hK K
       try simp only [Act.put, zA, zB, zC]
       refine ry 6 [20] ?_
       refine rn rfl (fun K hK => ?_) ?_
       ·go_simp
        go_at_call 76
        with_reducible refine (HE1.out _ _ _ HIg.out).mono ?_
        rintro x W ⟨rfl, hb⟩
        have HK := Lib.hid (HK.out.mono hb)
        clear hb HIg
        go_wp2_with fail
        refine shut_C hK ?_ (fun hC => ?_)
        ·exact HK.out.cells
        clear hK K
        try simp only [Act.put, zA, zB, zC]
        refine ry 5 [21] ?_
        refine rn rfl (fun K hK => ?_) ?_
        ·go_simp
         go_at_call 82
         with_reducible refine (HS6.out _).mono ?_
         rintro x W ⟨rfl, hb⟩
         have HK := Lib.hid (HK.out.mono hb)
         try (have HIg := Lib.hid (HIg.out.mono hb))
         clear hb
         go_wp2_with fail
         refine shut_C hK ?_ (fun hC => ?_)
         ·exact HK.out.cells
         clear hK K
         try simp only [Act.put, zA, zB, zC]
         refine tk 22 38 4 rfl rfl (.inr hC) ?_
         simp only [Act.put, zA, zB, zC]
         refine ry 3 [25] ?_
         refine rn rfl (fun K hK => ?_) ?_
         ·go_simp
          go_at_call 78
          with_reducible refine (HG2.out _ _ _ HK.out.i2).mono ?_
          rintro x W ⟨hb, Ag, cg, rfl, hin⟩
          have HK := Lib.hid (HK.out.mono hb)
          have HIg := Lib.hid hin
          clear hb hin
          go_wp2_with fail
          refine shut_C hK ?_ (fun hC => ?_)
          ·exact HK.out.cells
          clear hK K
          try simp only [Act.put, zA, zB, zC]
          refine ry 2 [26] ?_
          refine rn rfl (fun K hK => ?_) ?_
          ·go_simp
           go_at_call 76
           with_reducible refine (HE2.out _ _ _ HIg.out).mono ?_
           rintro x W ⟨rfl, hb⟩
           have HK := Lib.hid (HK.out.mono hb)
           clear hb HIg
           go_wp2_with fail
           refine shut_C hK ?_ (fun hC => ?_)
           ·exact HK.out.cells
           clear hK K
           try simp only [Act.put, zA, zB, zC]
           refine tk 27 43 1 rfl rfl (.inr hC) ?_
           simp only [Act.put, zA, zB, zC]
           refine tk 28 2 0 rfl rfl (.inr hC) ?_
           simp only [Act.put, zA, zB, zC]
           refine wpAnyD_done (by kernel_rfl) ?_ _
           refine NoPanic.normal ?_
           go_wp2_with fail
           go_ret
           exact ⟨by rw [HFin.out]; rfl, HK.out.below⟩
          exact rz
         exact rz
        exact rz
       exact rz
      exact rz
     exact rz
    exact rz
   exact rz
  exact rz
 exact rz
theorem gapsF_b : ∀ (l : List Int) (last : Int), -1 ≤ last → incB last l = true → ∀ g ∈ gapsF last l, 0 ≤ g ∧ g ≤ 1099511627776
 | [], _, _, _, g, hg => by simp [gapsF] at hg
 | t :: r, last, hla, h, g, hg => by
  unfold incB at h
  simp only [Bool.and_eq_true, Bool.not_eq_true', decide_eq_false_iff_not] at h
  obtain ⟨⟨h1, h2⟩, h3⟩ := h
  have em : MX = 1099511627776 := rfl
  simp only [gapsF, List.mem_cons] at hg
  rcases hg with rfl | hg
  ·omega
  ·exact gapsF_b r t (by omega) h3 g hg
theorem gapsT_b {l : List Int} (h : validT l = true) : ∀ g ∈ gapsT l, 0 ≤ g ∧ g ≤ 1099511627776 := by
 unfold validT at h
 simp only [Bool.and_eq_true] at h
 exact gapsF_b l (-1) (by decide) h.1
def strsT (l : List Int) : List Str := (gapsT l).map fun g => V.num g.toNat
def c4F (l : List Int) : List UInt8 := V.num 2 ++ (encRL (strsT l)).1
def C4R (w : World) (gs : List Int) (v i : Value) (wr : World) : Prop := ∃ k : Nat, i = .int .i64 (k : Int) ∧ k ≤ gs.length ∧ OwnR w 9 1 v k (sc ((gs.take k).map fun g => V.num g.toNat)) wr ∧ Below w.heap.size w wr
set_option maxRecDepth 100000 in
theorem push_str {w0 w : World} {v : Value} {n : Nat} {xs : List Str} (h : OwnR w0 9 1 v n (sc xs) w) (hb : Below w0.heap.size w0 w) (hn : n + 1 ≤ 1000000) (x : Str) : ∃ A c w', (Builtin.append_ #[31, 31] 31 #[v, .slice (some ⟨w.heap.size, 0, none⟩) 1 1]).run Tryz.prog (w.alloc (.cells #[.string (sB x)] 9)) = .ok (.slice A (n + 1) c) w' ∧ OwnR w0 9 1 (.slice A (n + 1) c) (n + 1) (sc (xs ++ [x])) w' ∧ Below w0.heap.size w0 w' ∧ (w.alloc (.cells #[.string (sB x)] 9)).grownBy w' v.ownBlock := by
 have h2 := h.below ((Below.refl _ _).alloc (Nat.le_refl _) (.cells #[.string (sB x)] 9))
 have hsz : w0.heap.size ≤ (w.alloc (.cells #[.string (sB x)] 9)).heap.size := by rw [World.size_alloc]; have := hb.size; omega
 obtain ⟨A, c, w', hr, ho, hg, _⟩ := h2.push Tryz.underlying31 rfl rfl rfl rfl rfl (by decide) hn w.heap.size (.string (sB x)) (by rw [cell_of_row _ _ _ _ _ _ (heap_alloc_new w _)]; rfl) rfl hsz
 refine ⟨A, c, w', hr, ?_, below_grown (hb.alloc hb.size _) hsz hg h.new, hg⟩
 rw [sc_append]; exact ho
set_option maxRecDepth 100000 in
set_option maxHeartbeats 1000000 in
theorem cod4_walk (l : List Int) (hv : validT l = true) (w : World) (Tb Nb : Nat) (A : Option Addr) (c : Nat) (hx : BoxT w Tb Nb A c l) : Calls Tryz.prog 83 #[.pointer (some ⟨Tb, 0, none⟩)] w fun e w' => e = .returned (.string (sB (c4F l))) ∧ Below w.heap.size w w' := by
 obtain ⟨hl4, hvb⟩ := validT_b hv
 have hmb : ∀ t ∈ l, -1 ≤ t ∧ t ≤ 1099511627776 := fun t ht => by
  obtain ⟨i, hi, hit⟩ := List.mem_iff_getElem.1 ht
  have := (hvb i hi).1
  rw [List.getD_eq_getElem?_getD, List.getElem?_eq_getElem hi, Option.getD_some, hit] at this
  omega
 have HG := Lib.hid fun w A c h => gaps_walk l hl4 hmb w A c h
 have hgb := gapsT_b hv
 have hgl : (gapsT l).length = l.length := gapsF_len l (-1)
 obtain ⟨gs, hgs⟩ : ∃ gs, gapsT l = gs := ⟨_, rfl⟩
 have hsl : strsT l = gs.map fun g => V.num g.toNat := by unfold strsT; rw [hgs]
 have HE0 : Hid (c4F l = V.num 2 ++ (encRL (gs.map fun g => V.num g.toNat)).1) := Lib.hid (by unfold c4F; rw [hsl])
 rw [hgs] at HG hgb hgl
 rw [← hgl] at HG
 have hg4 : gs.length ≤ 4096 := by omega
 have HG4 := Lib.hid hg4
 have HGb := Lib.hid hgb
 have hgi : (gs.length : Int) ≤ 4096 := by omega
 have HN2 : Hid (∀ w : World, Calls Tryz.prog 53 #[.int .i64 2] w fun e w' => e = .returned (.string (sB (V.num 2))) ∧ Below w.heap.size w w') := Lib.hid fun w => num_at 2 (by decide) w
 have hct := hx.ct
 rw [← hgl] at hct
 have hin := hx.inn
 have HIn := Lib.hid hin
 clear hx hv hl4 hvb hmb hgb hgs hsl hg4 hin hgl
 go_enter Tryz.func83, Tryz.ntmps83
 go_wp2_with fail
 refine (HG.out _ _ _ HIn.out).mono ?_
 rintro x w1 ⟨hb1, A1, c1, rfl, hi1⟩
 have HB1 := Lib.hid hb1
 have HI1 := Lib.hid hi1
 clear hb1 hi1 HG hct
 go_wp2_with fail
 go_loopw [2, 10] (fun v i wr => C4R w1 gs v i wr) (fun _ i _ => ((gs.length : Int) - intOf i).toNat)
 case atStart => exact ⟨0, rfl, Nat.zero_le _, .nil _ _ _ _, .refl _ _⟩
 case round =>
  obtain ⟨k, rfl, hk, ho, hb⟩ := hrel
  have HO := Lib.hid ho
  have HB := Lib.hid hb
  obtain ⟨A', c', rfl⟩ := row_sl ho.row
  by_cases hlt : k < gs.length
  ·have hki : (k : Int) < gs.length := by omega
   obtain ⟨t, ht⟩ : ∃ t, gs.getD k default = t := ⟨_, rfl⟩
   obtain ⟨a, rfl, c0⟩ := HI1.out.at hb hlt
   rw [ht] at c0
   have htb := HGb.out t (by rw [← ht]; exact List.mem_of_getElem? (get_default hlt))
   have HM := Lib.hid (show (gs.take (k + 1)).map (fun g => V.num g.toNat) = (gs.take k).map (fun g => V.num g.toNat) ++ [V.num t.toNat] by rw [map_take_snoc hlt, ht])
   obtain ⟨tn, rfl⟩ : ∃ n : Nat, t = (n : Int) := ⟨t.toNat, by omega⟩
   have HNt := Lib.hid fun w => num_at tn (by omega) w
   rw [Int.toNat_natCast] at HM
   have hk4 := HG4.out
   clear ho hb ht
   go_wp2_with fail
   refine (HNt.out _).mono ?_
   rintro x w2 ⟨rfl, hb2⟩
   obtain ⟨A5, c5, W5, hrun, ho5, hb5, _⟩ := push_str (HO.out.below hb2) (bstep HB.out (Nat.le_refl _) hb2) (by omega) (V.num tn)
   have HO5 := Lib.hid ho5
   have HB5 := Lib.hid hb5
   have HRUN := Lib.hid hrun
   clear hb2 hrun ho5 hb5 hk4 HNt
   go_wp2_with (at_builtin; refine wpList_append_eq rfl _ _ _ rfl _ _ rfl rfl HRUN.out ?_)
   go_roundw
   case rel => exact ⟨k + 1, by go_num, by omega, by rw [HM.out]; exact HO5.out, HB5.out⟩
   case measure => simp [intOf]; omega
  ·obtain rfl : k = gs.length := by omega
   rw [List.take_length] at ho
   have hg4 := HG4.out
   obtain ⟨ss, hss⟩ : ∃ ss, (gs.map fun g => V.num g.toNat) = ss := ⟨_, rfl⟩
   have hsl : ss.length = gs.length := by rw [← hss]; simp
   rw [hss] at ho
   have hr := encRL_walk ss (by omega) wr A' c' (ownS_in ho)
   rw [hsl] at hr
   obtain ⟨t, ht⟩ : ∃ t, (encRL ss).1 = t := ⟨_, rfl⟩
   have HE : Hid (c4F l = V.num 2 ++ t) := Lib.hid (by rw [HE0.out, hss, ht])
   have hlt6 := encRL_len ss
   rw [ht] at hr hlt6
   have HR := Lib.hid hr
   have z1 : (sB (V.num 2)).size ≤ 9 := by rw [sB_size]; exact num_len _
   have z2 : (sB t).size ≤ 2000000 := by rw [sB_size]; exact hlt6
   clear ho hb hg4 hss hsl hr ht hlt6
   go_wp2_with fail
   refine (HR.out).mono ?_
   rintro x w3 ⟨rfl, hb3⟩
   have HB3 := Lib.hid (bstep HB.out (Nat.le_refl _) hb3)
   clear hb3
   go_wp2_with fail
   refine (HN2.out _).mono ?_
   rintro x w4 ⟨rfl, hb4⟩
   have HB4 := Lib.hid (bstep HB3.out (Nat.le_refl _) hb4)
   clear hb4
   go_wp2_with fail
   go_ret
   rw [HE.out, ← sB_app]
   exact ⟨rfl, bstep HB1.out (Nat.le_refl _) HB4.out⟩
def cs3 (Tb Nb : Nat) : Array Value := #[.func (.func 77) #[] #[.pointer (some ⟨Nb, 0, none⟩), .pointer (some ⟨Tb, 0, none⟩)], .func (.func 79) #[] #[.pointer (some ⟨Tb, 0, none⟩), .pointer (some ⟨Nb, 0, none⟩)], .func (.func 83) #[] #[.pointer (some ⟨Tb, 0, none⟩)]]
structure CodB (w0 : World) (Tb Nb B3 : Nat) (A : Option Addr) (c : Nat) (l : List Int) (W : World) : Prop where
 box : BoxT W Tb Nb A c l
 blk : W.heap[B3]? = some (.cells (cs3 Tb Nb) 66 (0, 0))
 below : Below w0.heap.size w0 W
theorem CodB.mono {w0 W W' : World} {Tb Nb B3 : Nat} {A : Option Addr} {c : Nat} {l : List Int} (h : CodB w0 Tb Nb B3 A c l W) (hb : Below W.heap.size W W') : CodB w0 Tb Nb B3 A c l W' :=
 ⟨h.box.mono hb, (hb.block B3 (Array.getElem?_eq_some_iff.1 h.blk).1).trans h.blk, bstep h.below (Nat.le_refl _) hb⟩
theorem CodB.cells {w0 W : World} {Tb Nb B3 : Nat} {A : Option Addr} {c : Nat} {l : List Int} (h : CodB w0 Tb Nb B3 A c l W) : W.cell? ⟨B3, 0, none⟩ = some (.func (.func 77) #[] #[.pointer (some ⟨Nb, 0, none⟩), .pointer (some ⟨Tb, 0, none⟩)]) ∧ W.cell? ⟨B3, 1, none⟩ = some (.func (.func 79) #[] #[.pointer (some ⟨Tb, 0, none⟩), .pointer (some ⟨Nb, 0, none⟩)]) ∧ W.cell? ⟨B3, 2, none⟩ = some (.func (.func 83) #[] #[.pointer (some ⟨Tb, 0, none⟩)]) :=
 ⟨by rw [cell_of_row W B3 0 _ _ _ h.blk]; rfl, by rw [cell_of_row W B3 1 _ _ _ h.blk]; rfl, by rw [cell_of_row W B3 2 _ _ _ h.blk]; rfl⟩
theorem cods_walk (w : World) (A : Option Addr) (c : Nat) (l : List Int) (hF : InI w A l) : Calls Tryz.prog 36 #[.slice A l.length c] w fun x w' => ∃ Tb Nb B3, x = .returned (.slice (some ⟨B3, 0, none⟩) 3 3) ∧ CodB w Tb Nb B3 A c l w' := by
 have HF := Lib.hid hF
 clear hF
 go_enter Tryz.func36, Tryz.ntmps36
 go_wp2_with fail
 refine bodyPost_ret (results_tmp rfl _ _ _) rfl ?_
 have h1 := Below.heap_alloc w (.cells #[Value.slice A l.length c] 27)
 refine ⟨w.heap.size, w.heap.size + 1, w.heap.size + 1 + 1, rfl, ⟨?_, ?_, HF.out.mono ?_⟩, ?_, ?_⟩
 ·exact (Below.heap_alloc _ _ _ (by simp only [World.size_alloc]; omega)).trans ((Below.heap_alloc _ _ _ (by simp only [World.size_alloc]; omega)).trans (heap_alloc_new _ _))
 ·refine (Below.heap_alloc _ _ _ (by simp only [World.size_alloc]; omega)).trans ?_
  have := heap_alloc_new (w.alloc (.cells #[Value.slice A l.length c] 27)) (.cells #[.func (.func 76) #[] #[]] 121)
  rw [World.size_alloc] at this
  exact this
 ·exact ((((Below.refl w.heap.size w).alloc (Nat.le_refl _) _).alloc (by simp only [World.size_alloc]; omega) _).alloc (by simp only [World.size_alloc]; omega) _)
 ·have := heap_alloc_new ((w.alloc (.cells #[Value.slice A l.length c] 27)).alloc (.cells #[.func (.func 76) #[] #[]] 121)) (.cells (cs3 w.heap.size (w.heap.size + 1)) 66)
  rw [World.size_alloc, World.size_alloc] at this
  exact this
 ·exact ((((Below.refl w.heap.size w).alloc (Nat.le_refl _) _).alloc (by simp only [World.size_alloc]; omega) _).alloc (by simp only [World.size_alloc]; omega) _)
def c1F (l : List Int) : List UInt8 := V.num 0 ++ numsF (gapsT l)
def shorter (a b : List UInt8) : List UInt8 := if a.length < b.length then a else b
def outT (l : List Int) : Nat → List UInt8
 | 0 => []
 | 1 => c1F l
 | 2 => if 2 ≤ l.length then shorter (c2F l) (c1F l) else c1F l
 | _ => shorter (c4F l) (if 2 ≤ l.length then shorter (c2F l) (c1F l) else c1F l)
def tcE (l : List Int) : List UInt8 × Int := if validT l then (outT l 3, 0) else ([], 2)
def TcR (w : World) (Tb Nb B3 : Nat) (A : Option Addr) (c : Nat) (l : List Int) (v i : Value) (wr : World) : Prop := ∃ k : Nat, i = .int .i64 (k : Int) ∧ k ≤ 3 ∧ v = .string (sB (outT l k)) ∧ CodB w Tb Nb B3 A c l wr
set_option maxRecDepth 100000 in
set_option maxHeartbeats 2000000 in
theorem tcE_walk (l : List Int) (hl : l.length ≤ 1000000) (w : World) (A : Option Addr) (c : Nat) (hF : InI w A l) (hp : PlainA A) : Calls Tryz.prog 10 #[.slice A l.length c] w fun e w' => e = .returned (.tuple #[.string (sB (tcE l).1), .int .i64 (tcE l).2]) ∧ Below w.heap.size w w' := by
 cases hv : validT l with
 | false =>
  have HE : Hid (tcE l = ([], 2)) := Lib.hid (by unfold tcE; rw [hv]; rfl)
  have HV := Lib.hid (validT_walk l hl w A c hF false hv)
  clear hF hv hl
  go_enter Tryz.func10, Tryz.ntmps10
  go_wp2_with fail
  refine (HV.out).mono ?_
  rintro x _ ⟨rfl, rfl⟩
  go_wp2_with fail
  go_ret2
  rw [HE.out]
  exact ⟨rfl, .refl _ _⟩
 | true =>
  have HE : Hid (tcE l = (outT l 3, 0)) := Lib.hid (by unfold tcE; rw [hv]; rfl)
  obtain ⟨hl4, hvb⟩ := validT_b hv
  have hmb : ∀ t ∈ l, -1 ≤ t ∧ t ≤ 1099511627776 := fun t ht => by
   obtain ⟨i, hi, hit⟩ := List.mem_iff_getElem.1 ht
   have := (hvb i hi).1
   rw [List.getD_eq_getElem?_getD, List.getElem?_eq_getElem hi, Option.getD_some, hit] at this
   omega
  have HV := Lib.hid (validT_walk l hl w A c hF true hv)
  have HCd := Lib.hid (cods_walk w A c l hF)
  have HW1 := Lib.hid fun w Tb Nb A c h => cod2_walk l hl4 hmb w Tb Nb A c h
  have HW2 := Lib.hid fun h2 w Tb Nb A c h hp => cod3_walk l hv h2 w Tb Nb A c h hp
  have HW3 := Lib.hid fun w Tb Nb A c h => cod4_walk l hv w Tb Nb A c h
  have HP := Lib.hid hp
  have hli : (l.length : Int) ≤ 4096 := by omega
  clear hF hv hl hl4 hvb hmb hp
  go_enter Tryz.func10, Tryz.ntmps10
  go_wp2_with fail
  refine (HV.out).mono ?_
  rintro x _ ⟨rfl, rfl⟩
  go_wp2_with fail
  refine (HCd.out).mono ?_
  rintro x w1 ⟨Tb, Nb, B3, rfl, hc1⟩
  have HC1 := Lib.hid hc1
  clear hc1
  go_wp2_with fail
  go_loopw [4, 14] (fun v i wr => TcR w Tb Nb B3 A c l v i wr) (fun _ i _ => (3 - intOf i).toNat)
  case atStart => exact ⟨0, rfl, by decide, rfl, HC1.out⟩
  case round =>
   obtain ⟨k, rfl, hk, rfl, hc⟩ := hrel
   have HC := Lib.hid hc
   obtain ⟨f0, f1, f2⟩ := hc.cells
   have HX := Lib.hid hc.box
   clear hc
   rcases (by omega : k = 0 ∨ k = 1 ∨ k = 2 ∨ k = 3) with rfl | rfl | rfl | rfl
   ·have HW := Lib.hid (HW1.out wr Tb Nb A c HX.out)
    have hz : sB (outT l 0) = ⟨#[]⟩ := rfl
    rw [hz]
    clear hz
    go_wp2_with fail
    refine (HW.out).mono ?_
    rintro x w2 ⟨rfl, hb2⟩
    have HC2 := Lib.hid (HC.out.mono hb2)
    clear hb2
    go_wp2_with fail
    go_roundw
    case rel => exact ⟨1, rfl, by decide, rfl, HC2.out⟩
    case measure => simp [intOf]
   ·by_cases h2 : 2 ≤ l.length
    ·have h2i : ¬ (l.length : Int) < 2 := by omega
     have HW := Lib.hid (HW2.out h2 wr Tb Nb A c HX.out HP.out)
     have HCm0 : Hid (∀ W, CodB w Tb Nb B3 A c l W → TcR w Tb Nb B3 A c l (.string (sB (shorter (c2F l) (c1F l)))) (.int .i64 2) W) := Lib.hid fun W h => ⟨2, rfl, by decide, by show _ = Value.string (sB (if 2 ≤ l.length then _ else _)); rw [if_pos h2], h⟩
     have e1 : outT l 1 = c1F l := rfl
     rw [e1]
     obtain ⟨s1, hs1⟩ : ∃ s, c2F l = s := ⟨_, rfl⟩
     obtain ⟨o1, ho1⟩ : ∃ s, c1F l = s := ⟨_, rfl⟩
     rw [hs1] at HW HCm0
     rw [ho1] at HCm0 ⊢
     have sz1 := sB_size s1
     have sz2 := sB_size o1
     clear h2 hs1 ho1 e1
     go_wp2_with fail
     refine (HW.out).mono ?_
     rintro x w2 ⟨rfl, hb2⟩
     have HC2 := Lib.hid (HC.out.mono hb2)
     clear hb2 HW
     go_wp2_with fail
     ·have hs : shorter s1 o1 = s1 := by unfold shorter; rw [if_pos (by omega)]
      rw [hs] at HCm0
      clear hs
      go_roundw
      case rel => exact HCm0.out _ HC2.out
      case measure => exact (by decide)
     ·have hs : shorter s1 o1 = o1 := by unfold shorter; rw [if_neg (by omega)]
      rw [hs] at HCm0
      clear hs
      go_roundw
      case rel => exact HCm0.out _ HC2.out
      case measure => exact (by decide)
    ·have h2i : (l.length : Int) < 2 := by omega
     have HR : Hid (outT l 2 = outT l 1) := Lib.hid (by show (if 2 ≤ l.length then _ else _) = _; rw [if_neg h2]; rfl)
     clear h2
     go_wp2_with fail
     go_roundw
     case rel => exact ⟨2, rfl, by decide, by rw [HR.out], HC.out⟩
     case measure => simp [intOf]
   ·have HW := Lib.hid (HW3.out wr Tb Nb A c HX.out)
    obtain ⟨s1, hs1⟩ : ∃ s, c4F l = s := ⟨_, rfl⟩
    obtain ⟨o1, ho1⟩ : ∃ s, outT l 2 = s := ⟨_, rfl⟩
    have HCm0 : Hid (∀ W, CodB w Tb Nb B3 A c l W → TcR w Tb Nb B3 A c l (.string (sB (shorter s1 o1))) (.int .i64 3) W) := Lib.hid fun W h => ⟨3, rfl, by decide, by rw [← hs1, ← ho1]; rfl, h⟩
    rw [hs1] at HW
    rw [ho1]
    have sz1 := sB_size s1
    have sz2 := sB_size o1
    clear hs1 ho1
    go_wp2_with fail
    refine (HW.out).mono ?_
    rintro x w2 ⟨rfl, hb2⟩
    have HC2 := Lib.hid (HC.out.mono hb2)
    clear hb2 HW
    go_wp2_with fail
    ·have hs : shorter s1 o1 = s1 := by unfold shorter; rw [if_pos (by omega)]
     rw [hs] at HCm0
     clear hs
     go_roundw
     case rel => exact HCm0.out _ HC2.out
     case measure => exact (by decide)
    ·have hs : shorter s1 o1 = o1 := by unfold shorter; rw [if_neg (by omega)]
     rw [hs] at HCm0
     clear hs
     go_roundw
     case rel => exact HCm0.out _ HC2.out
     case measure => exact (by decide)
   ·go_wp2_with fail
    go_ret2
    rw [HE.out]
    exact ⟨rfl, HC.out.below⟩
end Go.Proofs.YtlmjefjimoghcaaGreat
