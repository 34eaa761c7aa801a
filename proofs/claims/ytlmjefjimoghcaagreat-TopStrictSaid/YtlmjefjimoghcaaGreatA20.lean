/- A part of the proofs of TopCounter and TopStrict: what the functions of the program do, each walked once, and plain laws about it. No condition. -/
import Derived.Test.YtlmjefjimoghcaaGreatA19
namespace Go.Proofs.YtlmjefjimoghcaaGreat
set_option linter.unusedSimpArgs false
set_option linter.unnecessarySimpa false
set_option linter.unusedVariables false
open Go.RowKit
attribute [local go_sem ↓] Go.wp_at_zero Go.wp_at_succ
structure EasI (w : World) (rs : List (Nat × Nat)) (k : Nat) (v1 v2 : Value) (W : World) : Prop where
 o1 : OwnR w 3 1 v1 k (ic ((rs.take k).map fun r => (r.1 : Int))) W
 o2 : OwnR w 3 1 v2 k (ic ((rs.take k).map fun r => (r.2 : Int) - 1)) W
 ne : ∀ g, v1.ownBlock = some g → v2.ownBlock ≠ some g
 below : Below w.heap.size w W
def EasR (w : World) (rs : List (Nat × Nat)) (v1 v2 i : Value) (W : World) : Prop := ∃ k : Nat, i = .int .i64 (k : Int) ∧ k ≤ rs.length ∧ EasI w rs k v1 v2 W
def StrR (w : World) (pre : List UInt8) (ws : List Str) (v i : Value) (W : World) : Prop := ∃ k : Nat, i = .int .i64 (k : Int) ∧ k ≤ ws.length ∧ v = .string (sB (pre ++ hdrF (ws.take k))) ∧ Below w.heap.size w W
theorem rp_get {l : List (Nat × Nat)} {k : Nat} (hk : k < l.length) : (rcells l)[k * 2]? = some (.int .i64 ((l.getD k default).1 : Int)) ∧ (rcells l)[k * 2 + 1]? = some (.int .i64 ((l.getD k default).2 : Int)) := by
 have h : l = l.take k ++ (l.getD k default :: l.drop (k + 1)) := by
  have h1 : l.getD k default = l[k] := by simp [List.getD, hk]
  rw [h1, ← List.drop_eq_getElem_cons hk, List.take_append_drop]
 obtain ⟨r, hr⟩ : ∃ r, l.getD k default = r := ⟨_, rfl⟩
 rw [hr] at h ⊢
 have hl : (l.take k).length = k := by rw [List.length_take]; omega
 rw [h, rcells_append]
 have e : rcells (r :: l.drop (k + 1)) = .int .i64 (r.1 : Int) :: .int .i64 (r.2 : Int) :: rcells (l.drop (k + 1)) := rfl
 rw [e]
 constructor
 ·rw [List.getElem?_append_right (by rw [rcells_length, hl]; omega), rcells_length, hl, Nat.sub_self]; rfl
 ·rw [List.getElem?_append_right (by rw [rcells_length, hl]; omega), rcells_length, hl, show k * 2 + 1 - k * 2 = 1 by omega]; rfl
theorem inrp_at {w : World} {A : Option Addr} {l : List (Nat × Nat)} (h : InRp w A l) {w' : World} (hb : Below w.heap.size w w') {k : Nat} (hk : k < l.length) : ∃ a, A = some a ∧ w'.cell? (a.add (k * 2)) = some (.int .i64 ((l.getD k default).1 : Int)) ∧ w'.cell? ⟨(a.add (k * 2)).block, (a.add (k * 2)).off + 1, none⟩ = some (.int .i64 ((l.getD k default).2 : Int)) := by
 obtain ⟨h1, h2⟩ := rp_get hk
 obtain ⟨a, e1, _, c1⟩ := (Flat.frame (w' := w') h fun k hk _ => hb.block k hk) _ _ h1
 obtain ⟨a2, e2, _, c2⟩ := (Flat.frame (w' := w') h fun k hk _ => hb.block k hk) _ _ h2
 rw [e1] at e2; injection e2 with e2
 refine ⟨a, e1, c1, ?_⟩
 rw [add_succ a (k * 2) 1 (by decide), e2]
 exact c2
theorem runsF_len (l : List Str) : (runsF l).length ≤ l.length ∧ ∀ r ∈ runsF l, 1 ≤ r.2 ∧ r.2 ≤ l.length := runsOf_len (words l) l
theorem map_take_snoc {α β : Type} [Inhabited α] {f : α → β} {l : List α} {k : Nat} (hk : k < l.length) : (l.take (k + 1)).map f = (l.take k).map f ++ [f (l.getD k default)] := by
 rw [List.take_succ_eq_append_getElem hk, List.map_append]
 congr 1
 simp [List.getD, hk]
theorem ownI_in {w0 w : World} {A : Option Addr} {n c : Nat} {l : List Int} (h : OwnR w0 3 1 (.slice A n c) n (ic l) w) : InI w A l := (row_flat h.row).mono fun _ h => h.2
set_option maxRecDepth 100000 in
theorem encAs0_walk (l : List Str) (hl : l.length ≤ 100000) (w : World) (A : Option Addr) (c : Nat) (hF : InS w A l) : Calls Tryz.prog 62 #[.int .i64 0, .slice A l.length c] w fun e w' => e = .returned (.tuple #[.string (sB (encAsF 0 l).1), .int .i64 (encAsF 0 l).2]) ∧ Below w.heap.size w w' := by
 have HF := Lib.hid hF
 have hli : (l.length : Int) ≤ 100000 := by omega
 by_cases h4 : 4096 < l.length
 ·have HE : Hid (encAsF 0 l = ([], 9)) := Lib.hid (by unfold encAsF; rw [decide_eq_true h4]; rfl)
  have h4i : (4096 : Int) < l.length := by omega
  clear hF
  go_enter Tryz.func62, Tryz.ntmps62
  go_wp2_with fail
  go_ret2
  rw [HE.out]
  exact ⟨rfl, .refl _ _⟩
 ·have h4i : ¬ (4096 : Int) < l.length := by omega
  have HL4 : Hid (l.length ≤ 4096) := Lib.hid (by omega)
  cases hlong : l.any longS with
  | true =>
   have HE : Hid (encAsF 0 l = ([], 9)) := Lib.hid (by unfold encAsF; rw [hlong]; simp)
   have HC := Lib.hid (contF_walk l (by omega) w A c hF true hlong)
   clear hF hlong
   go_enter Tryz.func62, Tryz.ntmps62
   go_wp2_with fail
   refine (HC.out).mono ?_
   rintro x _ ⟨rfl, rfl⟩
   go_wp2_with fail
   go_ret2
   rw [HE.out]
   exact ⟨rfl, .refl _ _⟩
  | false =>
   have hw128 : ∀ s ∈ words l, s.length ≤ 128 := fun s hs => by
    have h1 := List.any_eq_false.1 hlong s ((words_mem l s).1 hs)
    unfold longS at h1; simpa using h1
   have HW128 := Lib.hid hw128
   have HWl := Lib.hid (words_len l)
   have HE0 : Hid (encAsF 0 l = (V.num 0 ++ V.num (words l).length ++ hdrF (words l) ++ textF (encNumF (if 0 = 1 then (eachF frontG (rlIx l)).1 else rlIx l)).1 ++ (encNumF (rlCt l)).1, 0)) := Lib.hid (by
    unfold encAsF; rw [decide_eq_false h4, hlong]; rfl)
   have HC := Lib.hid (contF_walk l (by omega) w A c hF false hlong)
   have HD := Lib.hid (dict_walk l hl w A c hF)
   have HNc := Lib.hid (fun w => num_at 0 (by decide) w)
   have HRl := Lib.hid (runsF_len l)
   clear hF hlong hw128
   go_enter Tryz.func62, Tryz.ntmps62
   go_wp2_with fail
   refine (HC.out).mono ?_
   rintro x _ ⟨rfl, rfl⟩
   go_wp2_with fail
   refine (HD.out).mono ?_
   rintro x w1 ⟨hb1, A1, c1, rfl, hin⟩
   have HB1 := Lib.hid hb1
   have HIn := Lib.hid hin
   have HF1 := Lib.hid (HF.out.mono hb1)
   clear hb1 hin HF HC HD
   obtain ⟨ws, hws⟩ : ∃ ws, words l = ws := ⟨_, rfl⟩
   rw [hws] at HIn HE0 HW128 HWl ⊢
   have HWs := Lib.hid hws
   clear hws
   have hwl : (ws.length : Int) ≤ 4096 := by have := HWl.out; have := HL4.out; omega
   go_wp2_with fail
   refine (HNc.out _).mono ?_
   rintro x w2 ⟨rfl, hb2⟩
   have HB2 := Lib.hid hb2
   clear hb2
   go_wp2_with fail
   refine (num_at ws.length (by omega) _).mono ?_
   rintro x w3 ⟨rfl, hb3⟩
   have HB3 := Lib.hid (bstep HB2.out (Nat.le_refl _) hb3)
   clear hb3
   have z1 : (sB (V.num 0)).size ≤ 9 := by rw [sB_size]; exact num_len _
   have z2 : (sB (V.num ws.length)).size ≤ 9 := by rw [sB_size]; exact num_len _
   go_wp2_with fail
   rw [sB_app]
   obtain ⟨pre, hpre⟩ : ∃ pre, V.num 0 ++ V.num ws.length = pre := ⟨_, rfl⟩
   have HPl : Hid (pre.length ≤ 18) := Lib.hid (by rw [← hpre, List.length_append]; have := num_len 0; have := num_len ws.length; omega)
   rw [hpre] at HE0 ⊢
   clear hpre z1 z2
   go_loopw [7, 41] (fun v i wr => StrR w1 pre ws v i wr) (fun _ i _ => ((ws.length : Int) - intOf i).toNat)
   case atStart => exact ⟨0, rfl, Nat.zero_le _, by simp [hdrF], HB3.out⟩
   case round =>
    obtain ⟨k, rfl, hk, rfl, hb⟩ := hrel
    have HBa := Lib.hid hb
    clear hb
    by_cases hlt : k < ws.length
    ·have hki : (k : Int) < ws.length := by omega
     obtain ⟨a, rfl, c0⟩ := HIn.out.at HBa.out hlt
     have HMem := Lib.hid (List.mem_of_getElem? (dflt_get hlt))
     have HT : Hid (hdrF (ws.take (k + 1)) = hdrF (ws.take k) ++ textF (ws.getD k default)) := Lib.hid (by rw [take_getDS hlt, hdrF_snoc])
     obtain ⟨s, hs⟩ : ∃ s, ws.getD k default = s := ⟨_, rfl⟩
     rw [hs] at c0 HMem HT
     have hs128 := HW128.out s HMem.out
     have z1 : (sB (pre ++ hdrF (ws.take k))).size ≤ 600000 := by
      rw [sB_size, List.length_append]
      have h1 := hdrF_len (ws.take k) fun x hx => HW128.out x (List.mem_of_mem_take hx)
      have h2 := HPl.out
      rw [List.length_take] at h1; omega
     have z2 : (sB (textF s)).size ≤ 137 := by rw [sB_size]; have := textF_len s; omega
     have HX := Lib.hid (fun w => text_at s (by omega) w)
     clear hs hs128
     go_wp2_with fail
     refine (HX.out _).mono ?_
     rintro x w4 ⟨rfl, hb4⟩
     have HB4 := Lib.hid (bstep HBa.out (Nat.le_refl _) hb4)
     clear hb4 HX
     go_wp2_with fail
     go_roundw
     case rel => exact ⟨k + 1, by go_num, by omega, by rw [sB_app, List.append_assoc, ← HT.out], HB4.out⟩
     case measure => simp [intOf]; omega
    ·obtain rfl : k = ws.length := by omega
     rw [List.take_length]
     have HR := Lib.hid (runs_walk l hl wr A c (HF1.out.mono HBa.out))
     obtain ⟨rs, hrs⟩ : ∃ rs, runsF l = rs := ⟨_, rfl⟩
     rw [hrs] at HR HRl
     have HRs := Lib.hid hrs
     have hdl : (pre ++ hdrF ws).length ≤ 600000 := by
      rw [List.length_append]
      have h1 := hdrF_len ws HW128.out
      have h2 := HPl.out
      omega
     obtain ⟨hd, hhd⟩ : ∃ hd, pre ++ hdrF ws = hd := ⟨_, rfl⟩
     have HHd := Lib.hid hhd
     rw [hhd] at hdl ⊢
     have HDl := Lib.hid hdl
     clear hrs hhd hdl
     go_wp2_with fail
     refine (HR.out).mono ?_
     rintro x w4 ⟨hb4, A4, c4, rfl, hin4⟩
     have HB4 := Lib.hid (bstep HBa.out (Nat.le_refl _) hb4)
     have HI4 := Lib.hid hin4
     clear hb4 hin4 HR
     have hrl4 : (rs.length : Int) ≤ 4096 := by have := HRl.out.1; have := HL4.out; omega
     go_wp2_with fail
     go_loopw [10, 11, 53] (fun v1 v2 i wr => EasR w4 rs v1 v2 i wr) (fun _ _ i _ => ((rs.length : Int) - intOf i).toNat)
     case atStart => exact ⟨0, rfl, Nat.zero_le _, .nil _ _ _ _, .nil _ _ _ _, (fun g hg => by cases hg), .refl _ _⟩
     case round =>
      obtain ⟨k, rfl, hk, hI⟩ := hrel
      have HI := Lib.hid hI
      obtain ⟨A1', c1', rfl⟩ := row_sl hI.o1.row
      obtain ⟨A2', c2', rfl⟩ := row_sl hI.o2.row
      by_cases hlt : k < rs.length
      ·have hki : (k : Int) < rs.length := by omega
       obtain ⟨r, hr⟩ : ∃ r, rs.getD k default = r := ⟨_, rfl⟩
       obtain ⟨a, rfl, c0, c1⟩ := inrp_at HI4.out hI.below hlt
       rw [hr] at c0 c1
       have hrb := HRl.out.2 r (by rw [← hr]; exact List.mem_of_getElem? (by rw [List.getD_eq_getElem?_getD, List.getElem?_eq_getElem hlt]; rfl))
       have hll := HL4.out
       have hx2 : (r.2 : Int) ≤ 4096 := by omega
       have hx1 : (1 : Int) ≤ r.2 := by omega
       have hlk : ((rs.take k).map fun r => (r.1 : Int)).length = k ∧ ((rs.take k).map fun r => (r.2 : Int) - 1).length = k := by simp; omega
       have hk4 : k ≤ 4096 := by omega
       have hS0 : TwoA w4 wr.heap.size (r.1 : Int) (r.2 : Int) ((rs.take k).map fun r => (r.1 : Int)) ((rs.take k).map fun r => (r.2 : Int) - 1) (.slice A1' k c1') (.slice A2' k c2') (wr.alloc (.cells #[.int .i64 (r.1 : Int), .int .i64 (r.2 : Int)] 165)).drew := by
        have hb := (Below.refl wr.heap.size wr).alloc (Nat.le_refl _) (.cells #[.int .i64 (r.1 : Int), .int .i64 (r.2 : Int)] 165)
        refine ⟨?_, ?_, hI.ne, heap_alloc_new _ _, ((hI.below.alloc hI.below.size _)).drew⟩
        ·rw [hlk.1]; exact (hI.o1.below hb).frame fun _ _ => rfl
        ·rw [hlk.2]; exact (hI.o2.below hb).frame fun _ _ => rfl
       have HM1 := Lib.hid (map_take_snoc (f := fun r : Nat × Nat => (r.1 : Int)) hlt)
       have HM2 := Lib.hid (map_take_snoc (f := fun r : Nat × Nat => (r.2 : Int) - 1) hlt)
       rw [hr] at HM1 HM2
       obtain ⟨l1, hl1⟩ : ∃ l1, ((rs.take k).map fun r => (r.1 : Int)) = l1 := ⟨_, rfl⟩
       obtain ⟨l2, hl2⟩ : ∃ l2, ((rs.take k).map fun r => (r.2 : Int) - 1) = l2 := ⟨_, rfl⟩
       obtain ⟨x1, hx1e⟩ : ∃ x1, (r.1 : Int) = x1 := ⟨_, rfl⟩
       obtain ⟨x2, hx2e⟩ : ∃ x2, (r.2 : Int) = x2 := ⟨_, rfl⟩
       rw [hl1, hl2] at hS0 hlk
       rw [hl1] at HM1
       rw [hl2] at HM2
       rw [hx1e] at hS0 c0
       rw [hx2e] at hS0 c1 hx2 hx1
       have HN1 : Hid (l1.length + 1 ≤ 1000000) := Lib.hid (by omega)
       have HN2 : Hid (l2.length + 1 ≤ 1000000) := Lib.hid (by omega)
       have HSW := Lib.hid hS0
       have HLk := Lib.hid hlk
       have HStep : Hid (∀ (v1 v2 : Value) (W : World), TwoA w4 wr.heap.size x1 x2 (l1 ++ [x1]) (l2 ++ [x2 - 1]) v1 v2 W → EasI w4 rs (k + 1) v1 v2 W) := Lib.hid (fun v1 v2 W h => by
        have a1 := h.o1
        have a2 := h.o2
        rw [List.length_append, hlk.1] at a1
        rw [List.length_append, hlk.2] at a2
        refine ⟨?_, ?_, h.ne, h.below⟩
        ·rw [HM1.out]; simp only [hx1e]; exact a1
        ·rw [HM2.out]; simp only [hx2e]; exact a2)
       have hwr2 : IntKind.i64.wrap (x2 - 1) = x2 - 1 := IntWalk.i64_in _ (by omega)
       clear hI hr hrb hll hlk hl1 hl2 hx1e hx2e hS0
       go_upto_region 16 with (fail)
       refine wp_region_noPanic ?_
       obtain ⟨W0, hW0⟩ : ∃ W, wr.alloc (.cells #[.int .i64 x1, .int .i64 x2] 165) = W := ⟨_, rfl⟩
       rw [hW0] at HSW ⊢
       clear hW0
       refine wp_region_D 13 (fun w' => w'.cell? ⟨wr.heap.size, 0, none⟩ = some (.int .i64 x1) ∧ w'.cell? ⟨wr.heap.size, 1, none⟩ = some (.int .i64 x2)) (by kernel_rfl) ⟨HSW.out.c0, HSW.out.c1⟩ (fun hU => ?_)
       have hC : (fun w' : World => w'.cell? ⟨wr.heap.size, 0, none⟩ = some (.int .i64 x1) ∧ w'.cell? ⟨wr.heap.size, 1, none⟩ = some (.int .i64 x2)) W0.drew := ⟨HSW.out.c0, HSW.out.c1⟩
       clear hU
       obtain ⟨W, hW⟩ : ∃ W, W0.drew = W := ⟨_, rfl⟩
       have HS := HSW
       rw [hW] at HS hC ⊢
       clear hW HSW
       refine tk 0 57 12 rfl rfl (.inr hC) ?_
       simp only [Act.put, zA, zB, zC]
       refine tk 1 58 11 rfl rfl (.inr hC) ?_
       simp only [Act.put, zA, zB, zC]
       refine tl 2 59 10 rfl rfl (.inr hC) ?_
       simp only [Act.put, zA, zB, zC]
       refine tk 5 62 9 rfl rfl (.inr hC) ?_
       simp only [Act.put, zA, zB, zC]
       refine tk 6 63 8 rfl rfl (.inr hC) ?_
       simp only [Act.put, zA, zB, zC]
       refine tl 7 64 7 rfl rfl (.inr hC) ?_
       simp only [Act.put, zA, zB, zC]
       refine tk 8 65 6 rfl rfl (.inr hC) ?_
       simp only [Act.put, zA, zB, zC]
       refine ry 5 [3, 9] ?_
       refine rn rfl (fun K hK => ?_) ?_
       ·go_simp
        obtain ⟨W, hW, hS, ht1, hk⟩ := HS.out.alloc x1
        try rw [hW]
        have HT1 := Lib.hid ht1
        have HK := Lib.hid hk
        have HS := Lib.hid hS
        try (have HT2 := Lib.hid (HK.out _ _ HT2.out))
        clear hW hS ht1 hk HK
        refine shut_C hK ?_ (fun hC => ?_)
        ·exact ⟨HS.out.c0, HS.out.c1⟩
        clear hK K
        try simp only [Act.put, zA, zB, zC]
        refine ry 4 [4, 9] ?_
        refine rn rfl (fun K hK => ?_) ?_
        ·obtain ⟨A1n, c1n, W, hrun, hS, hk⟩ := HS.out.push1 HN1.out HT1.out
         refine step_append_eq rfl (.tmp 57) (.tmp 60) 27 rfl _ _ _ _ rfl rfl hrun ?_
         have HK := Lib.hid hk
         have HS := Lib.hid hS
         try (have HT2 := Lib.hid (HK.out _ _ HT2.out))
         clear hrun hS hk HK
         refine shut_C hK ?_ (fun hC => ?_)
         ·exact ⟨HS.out.c0, HS.out.c1⟩
         clear hK K
         try simp only [Act.put, zA, zB, zC]
         refine ry 3 [9] ?_
         refine rn rfl (fun K hK => ?_) ?_
         ·go_simp
          obtain ⟨W, hW, hS, ht2, hk⟩ := HS.out.alloc (x2 - 1)
          try rw [hW]
          have HT2 := Lib.hid ht2
          have HK := Lib.hid hk
          have HS := Lib.hid hS
          try (have HT1 := Lib.hid (HK.out _ _ HT1.out))
          clear hW hS ht2 hk HK
          refine shut_C hK ?_ (fun hC => ?_)
          ·exact ⟨HS.out.c0, HS.out.c1⟩
          clear hK K
          try simp only [Act.put, zA, zB, zC]
          refine ry 2 [10] ?_
          refine rn rfl (fun K hK => ?_) ?_
          ·obtain ⟨A2n, c2n, W, hrun, hS, hk⟩ := HS.out.swap HN2.out HT2.out
           refine step_append_eq rfl (.tmp 62) (.tmp 66) 27 rfl _ _ _ _ rfl rfl hrun ?_
           have HK := Lib.hid hk
           have HS := Lib.hid hS
           try (have HT1 := Lib.hid (HK.out _ _ HT1.out))
           clear hrun hS hk HK
           refine shut_C hK ?_ (fun hC => ?_)
           ·exact ⟨HS.out.c0, HS.out.c1⟩
           clear hK K
           try simp only [Act.put, zA, zB, zC]
           refine tk 11 10 1 rfl rfl (.inr hC) ?_
           simp only [Act.put, zA, zB, zC]
           refine tk 12 11 0 rfl rfl (.inr hC) ?_
           simp only [Act.put, zA, zB, zC]
           refine wpAnyD_done (by kernel_rfl) ?_ _
           refine NoPanic.normal ?_
           go_wp2_with fail
           go_roundw
           case rel => exact ⟨k + 1, by go_num, by omega, HStep.out _ _ _ HS.out⟩
           case measure => simp [intOf]; omega
          exact rz
         exact rz
        refine rn rfl (fun K hK => ?_) ?_
        ·go_simp
         obtain ⟨W, hW, hS, ht2, hk⟩ := HS.out.alloc (x2 - 1)
         try rw [hW]
         have HT2 := Lib.hid ht2
         have HK := Lib.hid hk
         have HS := Lib.hid hS
         try (have HT1 := Lib.hid (HK.out _ _ HT1.out))
         clear hW hS ht2 hk HK
         refine shut_C hK ?_ (fun hC => ?_)
         ·exact ⟨HS.out.c0, HS.out.c1⟩
         clear hK K
         try simp only [Act.put, zA, zB, zC]
         refine ry 3 [4] ?_
         refine rn rfl (fun K hK => ?_) ?_
         ·obtain ⟨A1n, c1n, W, hrun, hS, hk⟩ := HS.out.push1 HN1.out HT1.out
          refine step_append_eq rfl (.tmp 57) (.tmp 60) 27 rfl _ _ _ _ rfl rfl hrun ?_
          have HK := Lib.hid hk
          have HS := Lib.hid hS
          try (have HT2 := Lib.hid (HK.out _ _ HT2.out))
          clear hrun hS hk HK
          refine shut_C hK ?_ (fun hC => ?_)
          ·exact ⟨HS.out.c0, HS.out.c1⟩
          clear hK K
          try simp only [Act.put, zA, zB, zC]
          refine ry 2 [10] ?_
          refine rn rfl (fun K hK => ?_) ?_
          ·obtain ⟨A2n, c2n, W, hrun, hS, hk⟩ := HS.out.swap HN2.out HT2.out
           refine step_append_eq rfl (.tmp 62) (.tmp 66) 27 rfl _ _ _ _ rfl rfl hrun ?_
           have HK := Lib.hid hk
           have HS := Lib.hid hS
           try (have HT1 := Lib.hid (HK.out _ _ HT1.out))
           clear hrun hS hk HK
           refine shut_C hK ?_ (fun hC => ?_)
           ·exact ⟨HS.out.c0, HS.out.c1⟩
           clear hK K
           try simp only [Act.put, zA, zB, zC]
           refine tk 11 10 1 rfl rfl (.inr hC) ?_
           simp only [Act.put, zA, zB, zC]
           refine tk 12 11 0 rfl rfl (.inr hC) ?_
           simp only [Act.put, zA, zB, zC]
           refine wpAnyD_done (by kernel_rfl) ?_ _
           refine NoPanic.normal ?_
           go_wp2_with fail
           go_roundw
           case rel => exact ⟨k + 1, by go_num, by omega, HStep.out _ _ _ HS.out⟩
           case measure => simp [intOf]; omega
          exact rz
         exact rz
        exact rz
       refine rn rfl (fun K hK => ?_) ?_
       ·go_simp
        obtain ⟨W, hW, hS, ht2, hk⟩ := HS.out.alloc (x2 - 1)
        try rw [hW]
        have HT2 := Lib.hid ht2
        have HK := Lib.hid hk
        have HS := Lib.hid hS
        try (have HT1 := Lib.hid (HK.out _ _ HT1.out))
        clear hW hS ht2 hk HK
        refine shut_C hK ?_ (fun hC => ?_)
        ·exact ⟨HS.out.c0, HS.out.c1⟩
        clear hK K
        try simp only [Act.put, zA, zB, zC]
        refine ry 4 [3] ?_
        refine rn rfl (fun K hK => ?_) ?_
        ·go_simp
         obtain ⟨W, hW, hS, ht1, hk⟩ := HS.out.alloc x1
         try rw [hW]
         have HT1 := Lib.hid ht1
         have HK := Lib.hid hk
         have HS := Lib.hid hS
         try (have HT2 := Lib.hid (HK.out _ _ HT2.out))
         clear hW hS ht1 hk HK
         refine shut_C hK ?_ (fun hC => ?_)
         ·exact ⟨HS.out.c0, HS.out.c1⟩
         clear hK K
         try simp only [Act.put, zA, zB, zC]
         refine ry 3 [4] ?_
         refine rn rfl (fun K hK => ?_) ?_
         ·obtain ⟨A1n, c1n, W, hrun, hS, hk⟩ := HS.out.push1 HN1.out HT1.out
          refine step_append_eq rfl (.tmp 57) (.tmp 60) 27 rfl _ _ _ _ rfl rfl hrun ?_
          have HK := Lib.hid hk
          have HS := Lib.hid hS
          try (have HT2 := Lib.hid (HK.out _ _ HT2.out))
          clear hrun hS hk HK
          refine shut_C hK ?_ (fun hC => ?_)
          ·exact ⟨HS.out.c0, HS.out.c1⟩
          clear hK K
          try simp only [Act.put, zA, zB, zC]
          refine ry 2 [10] ?_
          refine rn rfl (fun K hK => ?_) ?_
          ·obtain ⟨A2n, c2n, W, hrun, hS, hk⟩ := HS.out.swap HN2.out HT2.out
           refine step_append_eq rfl (.tmp 62) (.tmp 66) 27 rfl _ _ _ _ rfl rfl hrun ?_
           have HK := Lib.hid hk
           have HS := Lib.hid hS
           try (have HT1 := Lib.hid (HK.out _ _ HT1.out))
           clear hrun hS hk HK
           refine shut_C hK ?_ (fun hC => ?_)
           ·exact ⟨HS.out.c0, HS.out.c1⟩
           clear hK K
           try simp only [Act.put, zA, zB, zC]
           refine tk 11 10 1 rfl rfl (.inr hC) ?_
           simp only [Act.put, zA, zB, zC]
           refine tk 12 11 0 rfl rfl (.inr hC) ?_
           simp only [Act.put, zA, zB, zC]
           refine wpAnyD_done (by kernel_rfl) ?_ _
           refine NoPanic.normal ?_
           go_wp2_with fail
           go_roundw
           case rel => exact ⟨k + 1, by go_num, by omega, HStep.out _ _ _ HS.out⟩
           case measure => simp [intOf]; omega
          exact rz
         exact rz
        exact rz
       exact rz
      ·obtain rfl : k = rs.length := by omega
       obtain ⟨ix, hix⟩ : ∃ ix, (rs.map fun r => (r.1 : Int)) = ix := ⟨_, rfl⟩
       obtain ⟨ct, hct⟩ : ∃ ct, (rs.map fun r => (r.2 : Int) - 1) = ct := ⟨_, rfl⟩
       have ho1 := hI.o1
       have ho2 := hI.o2
       rw [List.take_length, hix] at ho1
       rw [List.take_length, hct] at ho2
       have hlx : ix.length = rs.length := by rw [← hix]; simp
       have hlc : ct.length = rs.length := by rw [← hct]; simp
       have hE : encAsF 0 l = (hd ++ textF (encNumF (if 0 = 1 then (eachF frontG ix).1 else ix)).1 ++ (encNumF ct).1, 0) := by
        have e1 : rlIx l = ix := by unfold rlIx; rw [HRs.out, hix]
        have e2 : rlCt l = ct := by unfold rlCt; rw [HRs.out, hct]
        rw [HE0.out, e1, e2, HHd.out]
        try rfl
       have HB5 := Lib.hid (bstep HB4.out (Nat.le_refl _) hI.below)
       have hin1 := ownI_in ho1
       have hin2 := ownI_in ho2
       have hll := HL4.out
       have hrl := HRl.out.1
       have h6 : rs.length ≤ 1000000 := by omega
       rw [← hlx]
       have hcx : ct.length = ix.length := by rw [hlc, hlx]
       have hx6 : ix.length ≤ 1000000 := by omega
       have HE := Lib.hid hE
       have HI1 := Lib.hid hin1
       have HI2 := Lib.hid hin2
       have HCX := Lib.hid hcx
       have HX6 := Lib.hid hx6
       have hxi : (ix.length : Int) ≤ 4096 := by omega
       clear hI ho1 ho2 hix hct hlx hlc hE hin1 hin2 hll hrl h6 hcx hx6
       obtain ⟨nx, hnx⟩ : ∃ nx, ix = nx := ⟨_, rfl⟩
       have HE1 := Lib.hid (encNums_walk ix HX6.out wr A1' c1' HI1.out)
       have HB6 := HB5
       have HI2b := HI2
       have h01 : (if (0 : Nat) = 1 then (eachF frontG ix).1 else ix) = ix := rfl
       rw [h01] at HE
       rw [hnx] at HE HE1 HI1 HX6 HCX hxi ⊢
       clear hnx h01
       have HE2 := Lib.hid fun w A c h => encNums_walk ct (by rw [HCX.out]; exact HX6.out) w A c h
       rw [HCX.out] at HE2
       go_wp2_with fail
       refine (HE1.out).mono ?_
       rintro x w6 ⟨rfl, hb6⟩
       have HB7 := Lib.hid (bstep HB6.out (Nat.le_refl _) hb6)
       have HE3 := Lib.hid (HE2.out w6 A2' c2' (HI2b.out.mono hb6))
       clear hb6
       go_wp2_with fail
       refine (HE3.out).mono ?_
       rintro x w7 ⟨rfl, hb7⟩
       have HB8 := Lib.hid (bstep HB7.out (Nat.le_refl _) hb7)
       clear hb7
       have ha6 := encNumF_len nx
       have hb6 := encNumF_len ct
       obtain ⟨a1, ha1⟩ : ∃ a, (encNumF nx).1 = a := ⟨_, rfl⟩
       obtain ⟨b1, hb1⟩ : ∃ b, (encNumF ct).1 = b := ⟨_, rfl⟩
       rw [ha1] at HE ha6 ⊢
       rw [hb1] at HE hb6 ⊢
       have ht9 := textF_len a1
       have HTx := Lib.hid fun w => text_at a1 (by omega) w
       have hd6 := HDl.out
       have z1 : (sB (textF a1)).size ≤ 600009 := by rw [sB_size]; omega
       have z2 : (sB hd).size ≤ 600000 := by rw [sB_size]; exact hd6
       have z3 : (sB b1).size ≤ 600000 := by rw [sB_size]; exact hb6
       have z4 : (sB (hd ++ textF a1)).size ≤ 1200009 := by rw [sB_size, List.length_append]; omega
       clear ha1 hb1 ha6 hb6 ht9 hd6
       go_wp2_with fail
       refine (HTx.out _).mono ?_
       rintro x w8 ⟨rfl, hb9⟩
       have HB9 := Lib.hid (bstep HB8.out (Nat.le_refl _) hb9)
       clear hb9
       go_wp2_with fail
       go_ret2
       rw [HE.out, sB_app]
       refine ⟨?_, bstep HB1.out (Nat.le_refl _) HB9.out⟩
       rw [sB_app]
       rfl
set_option maxRecDepth 100000 in
theorem encAs1_walk (l : List Str) (hl : l.length ≤ 100000) (w : World) (A : Option Addr) (c : Nat) (hF : InS w A l) : Calls Tryz.prog 62 #[.int .i64 1, .slice A l.length c] w fun e w' => e = .returned (.tuple #[.string (sB (encAsF 1 l).1), .int .i64 (encAsF 1 l).2]) ∧ Below w.heap.size w w' := by
 have HF := Lib.hid hF
 have hli : (l.length : Int) ≤ 100000 := by omega
 by_cases h4 : 4096 < l.length
 ·have HE : Hid (encAsF 1 l = ([], 9)) := Lib.hid (by unfold encAsF; rw [decide_eq_true h4]; rfl)
  have h4i : (4096 : Int) < l.length := by omega
  clear hF
  go_enter Tryz.func62, Tryz.ntmps62
  go_wp2_with fail
  go_ret2
  rw [HE.out]
  exact ⟨rfl, .refl _ _⟩
 ·have h4i : ¬ (4096 : Int) < l.length := by omega
  have HL4 : Hid (l.length ≤ 4096) := Lib.hid (by omega)
  cases hlong : l.any longS with
  | true =>
   have HE : Hid (encAsF 1 l = ([], 9)) := Lib.hid (by unfold encAsF; rw [hlong]; simp)
   have HC := Lib.hid (contF_walk l (by omega) w A c hF true hlong)
   clear hF hlong
   go_enter Tryz.func62, Tryz.ntmps62
   go_wp2_with fail
   refine (HC.out).mono ?_
   rintro x _ ⟨rfl, rfl⟩
   go_wp2_with fail
   go_ret2
   rw [HE.out]
   exact ⟨rfl, .refl _ _⟩
  | false =>
   have hw128 : ∀ s ∈ words l, s.length ≤ 128 := fun s hs => by
    have h1 := List.any_eq_false.1 hlong s ((words_mem l s).1 hs)
    unfold longS at h1; simpa using h1
   have HW128 := Lib.hid hw128
   have HWl := Lib.hid (words_len l)
   have HE0 : Hid (encAsF 1 l = (V.num 1 ++ V.num (words l).length ++ hdrF (words l) ++ textF (encNumF (if 1 = 1 then (eachF frontG (rlIx l)).1 else rlIx l)).1 ++ (encNumF (rlCt l)).1, 0)) := Lib.hid (by
    unfold encAsF; rw [decide_eq_false h4, hlong]; rfl)
   have HC := Lib.hid (contF_walk l (by omega) w A c hF false hlong)
   have HD := Lib.hid (dict_walk l hl w A c hF)
   have HNc := Lib.hid (fun w => num_at 1 (by decide) w)
   have HRl := Lib.hid (runsF_len l)
   clear hF hlong hw128
   go_enter Tryz.func62, Tryz.ntmps62
   go_wp2_with fail
   refine (HC.out).mono ?_
   rintro x _ ⟨rfl, rfl⟩
   go_wp2_with fail
   refine (HD.out).mono ?_
   rintro x w1 ⟨hb1, A1, c1, rfl, hin⟩
   have HB1 := Lib.hid hb1
   have HIn := Lib.hid hin
   have HF1 := Lib.hid (HF.out.mono hb1)
   clear hb1 hin HF HC HD
   obtain ⟨ws, hws⟩ : ∃ ws, words l = ws := ⟨_, rfl⟩
   rw [hws] at HIn HE0 HW128 HWl ⊢
   have HWs := Lib.hid hws
   clear hws
   have hwl : (ws.length : Int) ≤ 4096 := by have := HWl.out; have := HL4.out; omega
   go_wp2_with fail
   refine (HNc.out _).mono ?_
   rintro x w2 ⟨rfl, hb2⟩
   have HB2 := Lib.hid hb2
   clear hb2
   go_wp2_with fail
   refine (num_at ws.length (by omega) _).mono ?_
   rintro x w3 ⟨rfl, hb3⟩
   have HB3 := Lib.hid (bstep HB2.out (Nat.le_refl _) hb3)
   clear hb3
   have z1 : (sB (V.num 1)).size ≤ 9 := by rw [sB_size]; exact num_len _
   have z2 : (sB (V.num ws.length)).size ≤ 9 := by rw [sB_size]; exact num_len _
   go_wp2_with fail
   rw [sB_app]
   obtain ⟨pre, hpre⟩ : ∃ pre, V.num 1 ++ V.num ws.length = pre := ⟨_, rfl⟩
   have HPl : Hid (pre.length ≤ 18) := Lib.hid (by rw [← hpre, List.length_append]; have := num_len 1; have := num_len ws.length; omega)
   rw [hpre] at HE0 ⊢
   clear hpre z1 z2
   go_loopw [7, 41] (fun v i wr => StrR w1 pre ws v i wr) (fun _ i _ => ((ws.length : Int) - intOf i).toNat)
   case atStart => exact ⟨0, rfl, Nat.zero_le _, by simp [hdrF], HB3.out⟩
   case round =>
    obtain ⟨k, rfl, hk, rfl, hb⟩ := hrel
    have HBa := Lib.hid hb
    clear hb
    by_cases hlt : k < ws.length
    ·have hki : (k : Int) < ws.length := by omega
     obtain ⟨a, rfl, c0⟩ := HIn.out.at HBa.out hlt
     have HMem := Lib.hid (List.mem_of_getElem? (dflt_get hlt))
     have HT : Hid (hdrF (ws.take (k + 1)) = hdrF (ws.take k) ++ textF (ws.getD k default)) := Lib.hid (by rw [take_getDS hlt, hdrF_snoc])
     obtain ⟨s, hs⟩ : ∃ s, ws.getD k default = s := ⟨_, rfl⟩
     rw [hs] at c0 HMem HT
     have hs128 := HW128.out s HMem.out
     have z1 : (sB (pre ++ hdrF (ws.take k))).size ≤ 600000 := by
      rw [sB_size, List.length_append]
      have h1 := hdrF_len (ws.take k) fun x hx => HW128.out x (List.mem_of_mem_take hx)
      have h2 := HPl.out
      rw [List.length_take] at h1; omega
     have z2 : (sB (textF s)).size ≤ 137 := by rw [sB_size]; have := textF_len s; omega
     have HX := Lib.hid (fun w => text_at s (by omega) w)
     clear hs hs128
     go_wp2_with fail
     refine (HX.out _).mono ?_
     rintro x w4 ⟨rfl, hb4⟩
     have HB4 := Lib.hid (bstep HBa.out (Nat.le_refl _) hb4)
     clear hb4 HX
     go_wp2_with fail
     go_roundw
     case rel => exact ⟨k + 1, by go_num, by omega, by rw [sB_app, List.append_assoc, ← HT.out], HB4.out⟩
     case measure => simp [intOf]; omega
    ·obtain rfl : k = ws.length := by omega
     rw [List.take_length]
     have HR := Lib.hid (runs_walk l hl wr A c (HF1.out.mono HBa.out))
     obtain ⟨rs, hrs⟩ : ∃ rs, runsF l = rs := ⟨_, rfl⟩
     rw [hrs] at HR HRl
     have HRs := Lib.hid hrs
     have hdl : (pre ++ hdrF ws).length ≤ 600000 := by
      rw [List.length_append]
      have h1 := hdrF_len ws HW128.out
      have h2 := HPl.out
      omega
     obtain ⟨hd, hhd⟩ : ∃ hd, pre ++ hdrF ws = hd := ⟨_, rfl⟩
     have HHd := Lib.hid hhd
     rw [hhd] at hdl ⊢
     have HDl := Lib.hid hdl
     clear hrs hhd hdl
     go_wp2_with fail
     refine (HR.out).mono ?_
     rintro x w4 ⟨hb4, A4, c4, rfl, hin4⟩
     have HB4 := Lib.hid (bstep HBa.out (Nat.le_refl _) hb4)
     have HI4 := Lib.hid hin4
     clear hb4 hin4 HR
     have hrl4 : (rs.length : Int) ≤ 4096 := by have := HRl.out.1; have := HL4.out; omega
     go_wp2_with fail
     go_loopw [10, 11, 53] (fun v1 v2 i wr => EasR w4 rs v1 v2 i wr) (fun _ _ i _ => ((rs.length : Int) - intOf i).toNat)
     case atStart => exact ⟨0, rfl, Nat.zero_le _, .nil _ _ _ _, .nil _ _ _ _, (fun g hg => by cases hg), .refl _ _⟩
     case round =>
      obtain ⟨k, rfl, hk, hI⟩ := hrel
      have HI := Lib.hid hI
      obtain ⟨A1', c1', rfl⟩ := row_sl hI.o1.row
      obtain ⟨A2', c2', rfl⟩ := row_sl hI.o2.row
      by_cases hlt : k < rs.length
      ·have hki : (k : Int) < rs.length := by omega
       obtain ⟨r, hr⟩ : ∃ r, rs.getD k default = r := ⟨_, rfl⟩
       obtain ⟨a, rfl, c0, c1⟩ := inrp_at HI4.out hI.below hlt
       rw [hr] at c0 c1
       have hrb := HRl.out.2 r (by rw [← hr]; exact List.mem_of_getElem? (by rw [List.getD_eq_getElem?_getD, List.getElem?_eq_getElem hlt]; rfl))
       have hll := HL4.out
       have hx2 : (r.2 : Int) ≤ 4096 := by omega
       have hx1 : (1 : Int) ≤ r.2 := by omega
       have hlk : ((rs.take k).map fun r => (r.1 : Int)).length = k ∧ ((rs.take k).map fun r => (r.2 : Int) - 1).length = k := by simp; omega
       have hk4 : k ≤ 4096 := by omega
       have hS0 : TwoA w4 wr.heap.size (r.1 : Int) (r.2 : Int) ((rs.take k).map fun r => (r.1 : Int)) ((rs.take k).map fun r => (r.2 : Int) - 1) (.slice A1' k c1') (.slice A2' k c2') (wr.alloc (.cells #[.int .i64 (r.1 : Int), .int .i64 (r.2 : Int)] 165)).drew := by
        have hb := (Below.refl wr.heap.size wr).alloc (Nat.le_refl _) (.cells #[.int .i64 (r.1 : Int), .int .i64 (r.2 : Int)] 165)
        refine ⟨?_, ?_, hI.ne, heap_alloc_new _ _, ((hI.below.alloc hI.below.size _)).drew⟩
        ·rw [hlk.1]; exact (hI.o1.below hb).frame fun _ _ => rfl
        ·rw [hlk.2]; exact (hI.o2.below hb).frame fun _ _ => rfl
       have HM1 := Lib.hid (map_take_snoc (f := fun r : Nat × Nat => (r.1 : Int)) hlt)
       have HM2 := Lib.hid (map_take_snoc (f := fun r : Nat × Nat => (r.2 : Int) - 1) hlt)
       rw [hr] at HM1 HM2
       obtain ⟨l1, hl1⟩ : ∃ l1, ((rs.take k).map fun r => (r.1 : Int)) = l1 := ⟨_, rfl⟩
       obtain ⟨l2, hl2⟩ : ∃ l2, ((rs.take k).map fun r => (r.2 : Int) - 1) = l2 := ⟨_, rfl⟩
       obtain ⟨x1, hx1e⟩ : ∃ x1, (r.1 : Int) = x1 := ⟨_, rfl⟩
       obtain ⟨x2, hx2e⟩ : ∃ x2, (r.2 : Int) = x2 := ⟨_, rfl⟩
       rw [hl1, hl2] at hS0 hlk
       rw [hl1] at HM1
       rw [hl2] at HM2
       rw [hx1e] at hS0 c0
       rw [hx2e] at hS0 c1 hx2 hx1
       have HN1 : Hid (l1.length + 1 ≤ 1000000) := Lib.hid (by omega)
       have HN2 : Hid (l2.length + 1 ≤ 1000000) := Lib.hid (by omega)
       have HSW := Lib.hid hS0
       have HLk := Lib.hid hlk
       have HStep : Hid (∀ (v1 v2 : Value) (W : World), TwoA w4 wr.heap.size x1 x2 (l1 ++ [x1]) (l2 ++ [x2 - 1]) v1 v2 W → EasI w4 rs (k + 1) v1 v2 W) := Lib.hid (fun v1 v2 W h => by
        have a1 := h.o1
        have a2 := h.o2
        rw [List.length_append, hlk.1] at a1
        rw [List.length_append, hlk.2] at a2
        refine ⟨?_, ?_, h.ne, h.below⟩
        ·rw [HM1.out]; simp only [hx1e]; exact a1
        ·rw [HM2.out]; simp only [hx2e]; exact a2)
       have hwr2 : IntKind.i64.wrap (x2 - 1) = x2 - 1 := IntWalk.i64_in _ (by omega)
       clear hI hr hrb hll hlk hl1 hl2 hx1e hx2e hS0
       go_upto_region 16 with (fail)
       refine wp_region_noPanic ?_
       obtain ⟨W0, hW0⟩ : ∃ W, wr.alloc (.cells #[.int .i64 x1, .int .i64 x2] 165) = W := ⟨_, rfl⟩
       rw [hW0] at HSW ⊢
       clear hW0
       refine wp_region_D 13 (fun w' => w'.cell? ⟨wr.heap.size, 0, none⟩ = some (.int .i64 x1) ∧ w'.cell? ⟨wr.heap.size, 1, none⟩ = some (.int .i64 x2)) (by kernel_rfl) ⟨HSW.out.c0, HSW.out.c1⟩ (fun hU => ?_)
       have hC : (fun w' : World => w'.cell? ⟨wr.heap.size, 0, none⟩ = some (.int .i64 x1) ∧ w'.cell? ⟨wr.heap.size, 1, none⟩ = some (.int .i64 x2)) W0.drew := ⟨HSW.out.c0, HSW.out.c1⟩
       clear hU
       obtain ⟨W, hW⟩ : ∃ W, W0.drew = W := ⟨_, rfl⟩
       have HS := HSW
       rw [hW] at HS hC ⊢
       clear hW HSW
       refine tk 0 57 12 rfl rfl (.inr hC) ?_
       simp only [Act.put, zA, zB, zC]
       refine tk 1 58 11 rfl rfl (.inr hC) ?_
       simp only [Act.put, zA, zB, zC]
       refine tl 2 59 10 rfl rfl (.inr hC) ?_
       simp only [Act.put, zA, zB, zC]
       refine tk 5 62 9 rfl rfl (.inr hC) ?_
       simp only [Act.put, zA, zB, zC]
       refine tk 6 63 8 rfl rfl (.inr hC) ?_
       simp only [Act.put, zA, zB, zC]
       refine tl 7 64 7 rfl rfl (.inr hC) ?_
       simp only [Act.put, zA, zB, zC]
       refine tk 8 65 6 rfl rfl (.inr hC) ?_
       simp only [Act.put, zA, zB, zC]
       refine ry 5 [3, 9] ?_
       refine rn rfl (fun K hK => ?_) ?_
       ·go_simp
        obtain ⟨W, hW, hS, ht1, hk⟩ := HS.out.alloc x1
        try rw [hW]
        have HT1 := Lib.hid ht1
        have HK := Lib.hid hk
        have HS := Lib.hid hS
        try (have HT2 := Lib.hid (HK.out _ _ HT2.out))
        clear hW hS ht1 hk HK
        refine shut_C hK ?_ (fun hC => ?_)
        ·exact ⟨HS.out.c0, HS.out.c1⟩
        clear hK K
        try simp only [Act.put, zA, zB, zC]
        refine ry 4 [4, 9] ?_
        refine rn rfl (fun K hK => ?_) ?_
        ·obtain ⟨A1n, c1n, W, hrun, hS, hk⟩ := HS.out.push1 HN1.out HT1.out
         refine step_append_eq rfl (.tmp 57) (.tmp 60) 27 rfl _ _ _ _ rfl rfl hrun ?_
         have HK := Lib.hid hk
         have HS := Lib.hid hS
         try (have HT2 := Lib.hid (HK.out _ _ HT2.out))
         clear hrun hS hk HK
         refine shut_C hK ?_ (fun hC => ?_)
         ·exact ⟨HS.out.c0, HS.out.c1⟩
         clear hK K
         try simp only [Act.put, zA, zB, zC]
         refine ry 3 [9] ?_
         refine rn rfl (fun K hK => ?_) ?_
         ·go_simp
          obtain ⟨W, hW, hS, ht2, hk⟩ := HS.out.alloc (x2 - 1)
          try rw [hW]
          have HT2 := Lib.hid ht2
          have HK := Lib.hid hk
          have HS := Lib.hid hS
          try (have HT1 := Lib.hid (HK.out _ _ HT1.out))
          clear hW hS ht2 hk HK
          refine shut_C hK ?_ (fun hC => ?_)
          ·exact ⟨HS.out.c0, HS.out.c1⟩
          clear hK K
          try simp only [Act.put, zA, zB, zC]
          refine ry 2 [10] ?_
          refine rn rfl (fun K hK => ?_) ?_
          ·obtain ⟨A2n, c2n, W, hrun, hS, hk⟩ := HS.out.swap HN2.out HT2.out
           refine step_append_eq rfl (.tmp 62) (.tmp 66) 27 rfl _ _ _ _ rfl rfl hrun ?_
           have HK := Lib.hid hk
           have HS := Lib.hid hS
           try (have HT1 := Lib.hid (HK.out _ _ HT1.out))
           clear hrun hS hk HK
           refine shut_C hK ?_ (fun hC => ?_)
           ·exact ⟨HS.out.c0, HS.out.c1⟩
           clear hK K
           try simp only [Act.put, zA, zB, zC]
           refine tk 11 10 1 rfl rfl (.inr hC) ?_
           simp only [Act.put, zA, zB, zC]
           refine tk 12 11 0 rfl rfl (.inr hC) ?_
           simp only [Act.put, zA, zB, zC]
           refine wpAnyD_done (by kernel_rfl) ?_ _
           refine NoPanic.normal ?_
           go_wp2_with fail
           go_roundw
           case rel => exact ⟨k + 1, by go_num, by omega, HStep.out _ _ _ HS.out⟩
           case measure => simp [intOf]; omega
          exact rz
         exact rz
        refine rn rfl (fun K hK => ?_) ?_
        ·go_simp
         obtain ⟨W, hW, hS, ht2, hk⟩ := HS.out.alloc (x2 - 1)
         try rw [hW]
         have HT2 := Lib.hid ht2
         have HK := Lib.hid hk
         have HS := Lib.hid hS
         try (have HT1 := Lib.hid (HK.out _ _ HT1.out))
         clear hW hS ht2 hk HK
         refine shut_C hK ?_ (fun hC => ?_)
         ·exact ⟨HS.out.c0, HS.out.c1⟩
         clear hK K
         try simp only [Act.put, zA, zB, zC]
         refine ry 3 [4] ?_
         refine rn rfl (fun K hK => ?_) ?_
         ·obtain ⟨A1n, c1n, W, hrun, hS, hk⟩ := HS.out.push1 HN1.out HT1.out
          refine step_append_eq rfl (.tmp 57) (.tmp 60) 27 rfl _ _ _ _ rfl rfl hrun ?_
          have HK := Lib.hid hk
          have HS := Lib.hid hS
          try (have HT2 := Lib.hid (HK.out _ _ HT2.out))
          clear hrun hS hk HK
          refine shut_C hK ?_ (fun hC => ?_)
          ·exact ⟨HS.out.c0, HS.out.c1⟩
          clear hK K
          try simp only [Act.put, zA, zB, zC]
          refine ry 2 [10] ?_
          refine rn rfl (fun K hK => ?_) ?_
          ·obtain ⟨A2n, c2n, W, hrun, hS, hk⟩ := HS.out.swap HN2.out HT2.out
           refine step_append_eq rfl (.tmp 62) (.tmp 66) 27 rfl _ _ _ _ rfl rfl hrun ?_
           have HK := Lib.hid hk
           have HS := Lib.hid hS
           try (have HT1 := Lib.hid (HK.out _ _ HT1.out))
           clear hrun hS hk HK
           refine shut_C hK ?_ (fun hC => ?_)
           ·exact ⟨HS.out.c0, HS.out.c1⟩
           clear hK K
           try simp only [Act.put, zA, zB, zC]
           refine tk 11 10 1 rfl rfl (.inr hC) ?_
           simp only [Act.put, zA, zB, zC]
           refine tk 12 11 0 rfl rfl (.inr hC) ?_
           simp only [Act.put, zA, zB, zC]
           refine wpAnyD_done (by kernel_rfl) ?_ _
           refine NoPanic.normal ?_
           go_wp2_with fail
           go_roundw
           case rel => exact ⟨k + 1, by go_num, by omega, HStep.out _ _ _ HS.out⟩
           case measure => simp [intOf]; omega
          exact rz
         exact rz
        exact rz
       refine rn rfl (fun K hK => ?_) ?_
       ·go_simp
        obtain ⟨W, hW, hS, ht2, hk⟩ := HS.out.alloc (x2 - 1)
        try rw [hW]
        have HT2 := Lib.hid ht2
        have HK := Lib.hid hk
        have HS := Lib.hid hS
        try (have HT1 := Lib.hid (HK.out _ _ HT1.out))
        clear hW hS ht2 hk HK
        refine shut_C hK ?_ (fun hC => ?_)
        ·exact ⟨HS.out.c0, HS.out.c1⟩
        clear hK K
        try simp only [Act.put, zA, zB, zC]
        refine ry 4 [3] ?_
        refine rn rfl (fun K hK => ?_) ?_
        ·go_simp
         obtain ⟨W, hW, hS, ht1, hk⟩ := HS.out.alloc x1
         try rw [hW]
         have HT1 := Lib.hid ht1
         have HK := Lib.hid hk
         have HS := Lib.hid hS
         try (have HT2 := Lib.hid (HK.out _ _ HT2.out))
         clear hW hS ht1 hk HK
         refine shut_C hK ?_ (fun hC => ?_)
         ·exact ⟨HS.out.c0, HS.out.c1⟩
         clear hK K
         try simp only [Act.put, zA, zB, zC]
         refine ry 3 [4] ?_
         refine rn rfl (fun K hK => ?_) ?_
         ·obtain ⟨A1n, c1n, W, hrun, hS, hk⟩ := HS.out.push1 HN1.out HT1.out
          refine step_append_eq rfl (.tmp 57) (.tmp 60) 27 rfl _ _ _ _ rfl rfl hrun ?_
          have HK := Lib.hid hk
          have HS := Lib.hid hS
          try (have HT2 := Lib.hid (HK.out _ _ HT2.out))
          clear hrun hS hk HK
          refine shut_C hK ?_ (fun hC => ?_)
          ·exact ⟨HS.out.c0, HS.out.c1⟩
          clear hK K
          try simp only [Act.put, zA, zB, zC]
          refine ry 2 [10] ?_
          refine rn rfl (fun K hK => ?_) ?_
          ·obtain ⟨A2n, c2n, W, hrun, hS, hk⟩ := HS.out.swap HN2.out HT2.out
           refine step_append_eq rfl (.tmp 62) (.tmp 66) 27 rfl _ _ _ _ rfl rfl hrun ?_
           have HK := Lib.hid hk
           have HS := Lib.hid hS
           try (have HT1 := Lib.hid (HK.out _ _ HT1.out))
           clear hrun hS hk HK
           refine shut_C hK ?_ (fun hC => ?_)
           ·exact ⟨HS.out.c0, HS.out.c1⟩
           clear hK K
           try simp only [Act.put, zA, zB, zC]
           refine tk 11 10 1 rfl rfl (.inr hC) ?_
           simp only [Act.put, zA, zB, zC]
           refine tk 12 11 0 rfl rfl (.inr hC) ?_
           simp only [Act.put, zA, zB, zC]
           refine wpAnyD_done (by kernel_rfl) ?_ _
           refine NoPanic.normal ?_
           go_wp2_with fail
           go_roundw
           case rel => exact ⟨k + 1, by go_num, by omega, HStep.out _ _ _ HS.out⟩
           case measure => simp [intOf]; omega
          exact rz
         exact rz
        exact rz
       exact rz
      ·obtain rfl : k = rs.length := by omega
       obtain ⟨ix, hix⟩ : ∃ ix, (rs.map fun r => (r.1 : Int)) = ix := ⟨_, rfl⟩
       obtain ⟨ct, hct⟩ : ∃ ct, (rs.map fun r => (r.2 : Int) - 1) = ct := ⟨_, rfl⟩
       have ho1 := hI.o1
       have ho2 := hI.o2
       rw [List.take_length, hix] at ho1
       rw [List.take_length, hct] at ho2
       have hlx : ix.length = rs.length := by rw [← hix]; simp
       have hlc : ct.length = rs.length := by rw [← hct]; simp
       have hE : encAsF 1 l = (hd ++ textF (encNumF (if 1 = 1 then (eachF frontG ix).1 else ix)).1 ++ (encNumF ct).1, 0) := by
        have e1 : rlIx l = ix := by unfold rlIx; rw [HRs.out, hix]
        have e2 : rlCt l = ct := by unfold rlCt; rw [HRs.out, hct]
        rw [HE0.out, e1, e2, HHd.out]
        try rfl
       have HB5 := Lib.hid (bstep HB4.out (Nat.le_refl _) hI.below)
       have hin1 := ownI_in ho1
       have hin2 := ownI_in ho2
       have hll := HL4.out
       have hrl := HRl.out.1
       have h6 : rs.length ≤ 1000000 := by omega
       rw [← hlx]
       have hcx : ct.length = ix.length := by rw [hlc, hlx]
       have hx6 : ix.length ≤ 1000000 := by omega
       have HE := Lib.hid hE
       have HI1 := Lib.hid hin1
       have HI2 := Lib.hid hin2
       have HCX := Lib.hid hcx
       have HX6 := Lib.hid hx6
       have hxi : (ix.length : Int) ≤ 4096 := by omega
       clear hI ho1 ho2 hix hct hlx hlc hE hin1 hin2 hll hrl h6 hcx hx6
       have HFr := Lib.hid (front_walk ix HX6.out wr A1' c1' HI1.out)
       obtain ⟨nx, hnx⟩ : ∃ nx, (eachF frontG ix).1 = nx := ⟨_, rfl⟩
       have h01 : (if (1 : Nat) = 1 then (eachF frontG ix).1 else ix) = nx := hnx
       rw [h01] at HE
       rw [hnx] at HFr
       have hnl : nx.length ≤ 1000000 := by
        rw [← hnx]; unfold eachF
        split
        ·simp
        ·split
         ·rw [eachL_len]; exact HX6.out
         ·simp
       have HNl := Lib.hid hnl
       clear hnx h01 hnl
       go_wp2_with fail
       refine (HFr.out).mono ?_
       rintro x w5 ⟨hb5, A5, c5, rfl, hin5⟩
       have HB6 := Lib.hid (bstep HB5.out (Nat.le_refl _) hb5)
       have HE1 := Lib.hid (encNums_walk nx HNl.out w5 A5 c5 hin5.1)
       have HI2b := Lib.hid (HI2.out.mono hb5)
       clear hb5 hin5
       have HE2 := Lib.hid fun w A c h => encNums_walk ct (by rw [HCX.out]; exact HX6.out) w A c h
       rw [HCX.out] at HE2
       go_wp2_with fail
       refine (HE1.out).mono ?_
       rintro x w6 ⟨rfl, hb6⟩
       have HB7 := Lib.hid (bstep HB6.out (Nat.le_refl _) hb6)
       have HE3 := Lib.hid (HE2.out w6 A2' c2' (HI2b.out.mono hb6))
       clear hb6
       go_wp2_with fail
       refine (HE3.out).mono ?_
       rintro x w7 ⟨rfl, hb7⟩
       have HB8 := Lib.hid (bstep HB7.out (Nat.le_refl _) hb7)
       clear hb7
       have ha6 := encNumF_len nx
       have hb6 := encNumF_len ct
       obtain ⟨a1, ha1⟩ : ∃ a, (encNumF nx).1 = a := ⟨_, rfl⟩
       obtain ⟨b1, hb1⟩ : ∃ b, (encNumF ct).1 = b := ⟨_, rfl⟩
       rw [ha1] at HE ha6 ⊢
       rw [hb1] at HE hb6 ⊢
       have ht9 := textF_len a1
       have HTx := Lib.hid fun w => text_at a1 (by omega) w
       have hd6 := HDl.out
       have z1 : (sB (textF a1)).size ≤ 600009 := by rw [sB_size]; omega
       have z2 : (sB hd).size ≤ 600000 := by rw [sB_size]; exact hd6
       have z3 : (sB b1).size ≤ 600000 := by rw [sB_size]; exact hb6
       have z4 : (sB (hd ++ textF a1)).size ≤ 1200009 := by rw [sB_size, List.length_append]; omega
       clear ha1 hb1 ha6 hb6 ht9 hd6
       go_wp2_with fail
       refine (HTx.out _).mono ?_
       rintro x w8 ⟨rfl, hb9⟩
       have HB9 := Lib.hid (bstep HB8.out (Nat.le_refl _) hb9)
       clear hb9
       go_wp2_with fail
       go_ret2
       rw [HE.out, sB_app]
       refine ⟨?_, bstep HB1.out (Nat.le_refl _) HB9.out⟩
       rw [sB_app]
       rfl
end Go.Proofs.YtlmjefjimoghcaaGreat
