/- A part of the proofs of TopCounter and TopStrict: what the functions of the program do, each walked once, and plain laws about it. No condition. -/
import Derived.Test.YtlmjefjimoghcaaGreatA21
namespace Go.Proofs.YtlmjefjimoghcaaGreat
set_option linter.unusedSimpArgs false
set_option linter.unnecessarySimpa false
set_option linter.unusedVariables false
open Go.RowKit
attribute [local go_sem ↓] Go.wp_at_zero Go.wp_at_succ
def RetL (w : World) (x : Ending) (w' : World) : Prop := Below w.heap.size w w' ∧ ∃ (l : List Str) (ok : Bool) (A : Option Addr) (c : Nat), x = .returned (.tuple #[.slice A l.length c, .bool ok]) ∧ InS w' A l ∧ l.length ≤ 4096 ∧ ∀ s ∈ l, s.length ≤ 128
theorem retL_nil {w w' : World} (h : Below w.heap.size w w') : RetL w (.returned (.tuple #[.slice none 0 0, .bool false])) w' := ⟨h, [], false, none, 0, rfl, flat_nil _ _ _, by simp, fun s hs => by simp at hs⟩
structure RrI (w : World) (R m : Nat) (v : Value) (k : Nat) (wr : World) : Prop where
 ex : ∃ l : List Str, l.length = k ∧ OwnR w 9 1 v k (sc l) wr ∧ ∀ s ∈ l, s.length ≤ 128
 rd : RdS wr R m
 below : Below w.heap.size w wr
def RrR (w : World) (R m n : Nat) (v i : Value) (wr : World) : Prop := ∃ k : Nat, i = .int .i64 (k : Int) ∧ k ≤ n ∧ RrI w R m v k wr
structure RsI (w : World) (Q n : Nat) (wr : World) : Prop where
 ex : ∃ l : List (Int × Int), l.length = n ∧ PRow wr Q l ∧ ∀ r ∈ l, r.2 ≤ 1000000
 below : Below w.heap.size w wr
def RsR (w : World) (Q n : Nat) (i : Value) (wr : World) : Prop := ∃ k : Nat, i = .int .i64 (k : Int) ∧ k ≤ n ∧ RsI w Q n wr
theorem errne {er : Int} (h : ¬ er = 0) : (er != 0) = true := by simp [h]
theorem decNs_val (d : Dec) : ∀ k, ∀ v ∈ (decNs (half 64) d k).1, v < 2 ^ 62
 | 0, v, hv => by simp [decNs] at hv
 | k + 1, v, hv => by
  have e : (decNs (half 64) d (k + 1)).1 = (decNs (half 64) d k).1 ++ [(nuD (decNs (half 64) d k).2.1 (decNs (half 64) d k).2.2).1] := rfl
  rw [e, List.mem_append, List.mem_singleton] at hv
  rcases hv with hv | rfl
  ·exact decNs_val d k v hv
  ·exact (nuD_lt _ _).2
theorem decNumS_lt (data : List UInt8) (most : Int) : ∀ v ∈ (decNumS data most).1, v < 2 ^ 62 := by
 unfold decNumS
 split
 ·intro v hv; simp at hv
 ·split
  ·intro v hv; simp at hv
  ·split
   ·intro v hv; simp at hv
   ·split
    ·intro v hv; simp at hv
    ·simp only
     split
     ·exact decNs_val _ _
     ·intro v hv; simp at hv
theorem decNumF_lt (data : List UInt8) (most : Int) : ∀ v ∈ (decNumF data most).1, 0 ≤ v ∧ v < 2 ^ 62 := by
 unfold decNumF; split
 ·intro v hv; simp at hv
 ·rename_i h
  intro v hv
  refine ⟨?_, decNumS_lt data most v hv⟩
  have h2 : (decNumS data most).1.any negN = false := by simpa using h
  have := List.any_eq_false.1 h2 v hv
  unfold negN at this; simpa using this
set_option maxRecDepth 100000 in
set_option maxHeartbeats 2000000 in
theorem rlread_walk (data : List UInt8) (hd : data.length ≤ 100000) (w : World) : Calls Tryz.prog 61 #[.string (sB data)] w fun x w' => RetL w x w' := by
 have hsz := sB_size data
 have hdi : (data.length : Int) ≤ 100000 := by omega
 have HDl : Hid (data.length ≤ 100000) := Lib.hid hd
 obtain ⟨m, hm⟩ : ∃ m, data.length = m := ⟨_, rfl⟩
 have HN := Lib.hid fun w => new_rds data w
 rw [hm] at HN HDl hdi hsz
 clear hm hd
 go_enter Tryz.func61, Tryz.ntmps61
 go_wp2_with fail
 refine (HN.out _).mono ?_
 rintro x w1 ⟨rfl, hr1, hb1⟩
 obtain ⟨R, hR⟩ : ∃ R, w.heap.size = R := ⟨_, rfl⟩
 have HR := Lib.hid hR
 rw [hR] at hr1 ⊢
 have HB1 := Lib.hid hb1
 have HC := Lib.hid (rdsN hr1 1 (by decide))
 clear hR hr1 hb1
 go_wp2_with fail
 refine (HC.out).mono ?_
 rintro x w2 ⟨cd, rfl, hcd, hr2, ht2⟩
 have HB2 := Lib.hid (below_step HB1.out ht2 (by rw [HR.out]; exact Nat.le_refl _))
 have HC := Lib.hid (rdsN hr2 4096 (by decide))
 clear hr2 ht2
 go_wp2_with fail
 refine (HC.out).mono ?_
 rintro x w3 ⟨n, rfl, hn, hr3, ht3⟩
 have HB3 := Lib.hid (below_step HB2.out ht3 (by rw [HR.out]; exact Nat.le_refl _))
 have HR3 := Lib.hid hr3
 clear hr3 ht3 HC
 go_wp2_with fail
 go_loopw [7, 23] (fun v i wr => RrR w R m n v i wr) (fun _ i _ => ((n : Int) - intOf i).toNat)
 case atStart => exact ⟨0, rfl, Nat.zero_le _, ⟨⟨[], rfl, .nil _ _ _ _, fun s hs => by simp at hs⟩, HR3.out, HB3.out⟩⟩
 case round =>
  obtain ⟨k, rfl, hk, hI⟩ := hrel
  have HI := Lib.hid hI
  obtain ⟨l0, hl0, ho0, hm0⟩ := hI.ex
  obtain ⟨A', c', rfl⟩ := row_sl ho0.row
  have HO := Lib.hid ho0
  have HL0 := Lib.hid hl0
  have HM0 := Lib.hid hm0
  have HX := Lib.hid (rdsX hI.rd 128 (by decide))
  by_cases hlt : k < n
  ·have hki : (k : Int) < n := by omega
   clear hI hl0 ho0 hm0
   go_wp2_with fail
   refine (HX.out).mono ?_
   rintro x w4 ⟨s, rfl, hs128, hsm, hr4, ht4⟩
   have hne : (Value.slice A' k c').ownBlock ≠ some R := HI.out.rd.ne HO.out.row (by decide)
   have ho4 := HO.out.frame (w' := w4) fun g hg => ht4.block g (HO.out.lt hg) fun e => hne (e ▸ hg)
   have hb4 := below_step HI.out.below ht4 (by rw [HR.out]; exact Nat.le_refl _)
   have ho5 := ho4.below ((Below.refl _ _).alloc (Nat.le_refl _) (.cells #[.string (sB s)] 9))
   have hsz4 : w.heap.size ≤ (w4.alloc (.cells #[.string (sB s)] 9)).heap.size := by rw [World.size_alloc]; have := hb4.size; omega
   obtain ⟨A6, c6, W6, hrun, ho6, hg6, _⟩ := ho5.push Tryz.underlying31 rfl rfl rfl rfl rfl (by decide) (by omega) w4.heap.size (.string (sB s)) (by rw [cell_of_row _ _ _ _ _ _ (heap_alloc_new w4 _)]; rfl) rfl hsz4
   have hb6 := below_grown (hb4.alloc hb4.size (.cells #[.string (sB s)] 9)) hsz4 hg6 ho4.new
   have hr6 : RdS W6 R m := hr4.frame ((hg6.block R (by rw [World.size_alloc]; have := hr4.lt; omega) fun e => hne e.symm).trans (Below.heap_alloc w4 _ R hr4.lt))
   have HI6 : Hid (RrI w R m (.slice A6 (k + 1) c6) (k + 1) W6) := Lib.hid ⟨⟨l0 ++ [s], by simp [HL0.out], by rw [sc_append]; exact ho6, fun y hy => by
    rw [List.mem_append, List.mem_singleton] at hy
    rcases hy with hy | rfl
    ·exact HM0.out y hy
    ·omega⟩, hr6, hb6⟩
   have HE := Lib.hid (rdsR hr6)
   have HRUN := Lib.hid hrun
   clear hs128 hsm hr4 ht4 hne ho4 hb4 ho5 hsz4 hrun ho6 hg6 hb6 hr6 HX
   go_wp2_with (at_builtin; refine wpList_append_eq rfl _ _ _ rfl _ _ rfl rfl HRUN.out ?_)
   refine (HE.out).mono ?_
   rintro x _ ⟨er, rfl, rfl⟩
   clear HE HRUN
   by_cases her : er = 0
   ·subst her
    go_wp2_with fail
    go_roundw
    case rel => exact ⟨k + 1, by go_num, by omega, HI6.out⟩
    case measure => simp [intOf]; omega
   ·have hen := errne her
    go_wp2_with fail
    refine bodyPost_ret (results_tmp2 rfl _ _ _) rfl ?_
    exact retL_nil HI6.out.below
  ·obtain rfl : k = n := by omega
   have HX := Lib.hid (rdsX hI.rd (m : Int) (by omega))
   clear hI hl0 ho0 hm0
   go_wp2_with fail
   refine (HX.out).mono ?_
   rintro x w4 ⟨a, rfl, _, ham, hr4, ht4⟩
   have hne : (Value.slice A' k c').ownBlock ≠ some R := HI.out.rd.ne HO.out.row (by decide)
   have HO4 := Lib.hid (HO.out.frame (w' := w4) fun g hg => ht4.block g (HO.out.lt hg) fun e => hne (e ▸ hg))
   have HB4 := Lib.hid (below_step HI.out.below ht4 (by rw [HR.out]; exact Nat.le_refl _))
   have HR4 := Lib.hid hr4
   have HE := Lib.hid (rdsR hr4)
   have hml := HDl.out
   have HDa := Lib.hid fun w => decNums_walk a (by omega) 4096 w
   clear hne hr4 ht4 ham hml HX
   go_wp2_with fail
   refine (HE.out).mono ?_
   rintro x _ ⟨er, rfl, rfl⟩
   by_cases her : er = 0
   ·subst her
    have hla := decNumF_len a 4096
    obtain ⟨l1, hl1⟩ : ∃ l1, (decNumF a 4096).1 = l1 := ⟨_, rfl⟩
    obtain ⟨e1, he1⟩ : ∃ e1, (decNumF a 4096).2 = e1 := ⟨_, rfl⟩
    rw [hl1, he1] at HDa
    rw [hl1] at hla
    have HLa := Lib.hid hla
    have hlai : (l1.length : Int) ≤ 4096 := by omega
    clear hl1 he1 hla
    go_wp2_with fail
    refine (HDa.out _).mono ?_
    rintro x w5 ⟨hb5, A5, c5, rfl, hin5⟩
    have HB5 := Lib.hid (bstep HB4.out (Nat.le_refl _) hb5)
    have HO5 := Lib.hid (HO4.out.below hb5)
    have HI5 := Lib.hid hin5.1
    have HFr := Lib.hid hin5.2
    have hr5 := HR4.out.frame (w' := w5) (hb5.block R HR4.out.lt)
    have HL := Lib.hid (rdsL hr5)
    have HT := Lib.hid fun n => rdsT hr5 n
    have HR5 := Lib.hid hr5
    clear hb5 hin5 hr5 HDa
    go_wp2_with fail
    refine (HL.out).mono ?_
    rintro x _ ⟨q, rfl, hq, rfl⟩
    have hqi : (q : Int) ≤ 100000 := by have := HDl.out; omega
    go_wp2_with fail
    refine (HT.out _).mono ?_
    rintro x w6 ⟨b, rfl, hbm, hr6, ht6⟩
    have HB6 := Lib.hid (below_step HB5.out ht6 (by rw [HR.out]; exact Nat.le_refl _))
    have hne : (Value.slice A' k c').ownBlock ≠ some R := HR5.out.ne HO5.out.row (by decide)
    have HO6 := Lib.hid (HO5.out.frame (w' := w6) fun g hg => ht6.block g (HO5.out.lt hg) fun e => hne (e ▸ hg))
    have HI6 : Hid (InI w6 A5 l1) := Lib.hid (HI5.out.far HFr.out HR4.out.lt ht6)
    have hml := HDl.out
    have HDb := Lib.hid fun w => decNums_walk b (by omega) 4096 w
    have hlb := decNumF_len b 4096
    have hlb2 := decNumF_lt b 4096
    obtain ⟨l2, hl2⟩ : ∃ l2, (decNumF b 4096).1 = l2 := ⟨_, rfl⟩
    obtain ⟨e2, he2⟩ : ∃ e2, (decNumF b 4096).2 = e2 := ⟨_, rfl⟩
    rw [hl2, he2] at HDb
    rw [hl2] at hlb hlb2
    have HLb := Lib.hid hlb
    have HLb2 := Lib.hid hlb2
    have hlbi : (l2.length : Int) ≤ 4096 := by omega
    clear hbm hr6 ht6 hne hml hl2 he2 hlb hlb2
    go_wp2_with fail
    refine (HDb.out _).mono ?_
    rintro x w7 ⟨hb7, A7, c7, rfl, hin7⟩
    have HB7 := Lib.hid (bstep HB6.out (Nat.le_refl _) hb7)
    have HO7 := Lib.hid (HO6.out.below hb7)
    have HJ7 := Lib.hid (HI6.out.mono hb7)
    have HI7 := Lib.hid hin7.1
    clear hb7 hin7 HDb
    by_cases he1 : e1 = 0
    ·subst he1
     by_cases he2 : e2 = 0
     ·subst he2
      by_cases hll : l1.length = l2.length
      ·have hlli : ((l1.length : Int) != (l2.length : Int)) = false := by rw [hll]; simp
       by_cases hc1 : cd = 1
       ·subst hc1
        have HU := Lib.hid (unfront_walk l1 (by have := HLa.out; omega) w7 A5 c5 HJ7.out)
        have hfe : (eachF unfrontG l1).2 = 0 → (eachF unfrontG l1).1.length = l1.length := by
         unfold eachF
         split
         ·intro h; exact absurd h (by decide)
         ·split
          ·intro _; exact eachL_len _ _
          ·intro h; exact absurd h (by decide)
        obtain ⟨l3, hl3⟩ : ∃ l3, (eachF unfrontG l1).1 = l3 := ⟨_, rfl⟩
        obtain ⟨e3, he3⟩ : ∃ e3, (eachF unfrontG l1).2 = e3 := ⟨_, rfl⟩
        rw [hl3, he3] at HU hfe
        have HFe := Lib.hid hfe
        have HLL := Lib.hid hll
        rw [hll] at hlli HU ⊢
        clear hfe hl3 he3 hll hlai
        go_wp2_with fail
        refine (HU.out).mono ?_
        rintro x w8 ⟨hb8, A8, c8, rfl, hin8⟩
        have HB8 := Lib.hid (bstep HB7.out (Nat.le_refl _) hb8)
        have HO8 := Lib.hid (HO7.out.below hb8)
        have HX8 := Lib.hid hin8.1
        have HY8 := Lib.hid (HI7.out.mono hb8)
        clear hb8 hin8 HU
        by_cases he3 : e3 = 0
        ·subst he3
         have hl3 := HFe.out rfl
         rw [HLL.out] at hl3
         have HL3 := Lib.hid hl3
         rw [hl3]
         clear hl3
         obtain ⟨W9, hrun, hp9, hb9, hz9⟩ := made_prow w8 l2.length HLb.out
         have HI9 : Hid (RsI w8 w8.heap.size l2.length W9) := Lib.hid ⟨⟨_, List.length_replicate, hp9, fun r hr => by rw [(List.mem_replicate.1 hr).2]; decide⟩, hb9⟩
         obtain ⟨Q, hQ⟩ : ∃ Q, w8.heap.size = Q := ⟨_, rfl⟩
         rw [hQ] at HI9 hrun
         have HQ := Lib.hid hQ
         clear hp9 hb9 hz9
         go_wp2_with fail
         clear hQ hrun
         go_loopw [81] (fun i wr => RsR w8 Q l2.length i wr) (fun i _ => ((l2.length : Int) - intOf i).toNat)
         case atStart => exact ⟨0, rfl, Nat.zero_le _, HI9.out⟩
         case round =>
          obtain ⟨j, rfl, hj, hJ⟩ := hrel
          have HJ := Lib.hid hJ
          obtain ⟨pl, hpl, hpr, hpb⟩ := hJ.ex
          by_cases hjt : j < l2.length
          ·have hji : (j : Int) < l2.length := by omega
           obtain ⟨a7, rfl, q7⟩ := HY8.out.at hJ.below hjt
           obtain ⟨v2, hv2⟩ : ∃ v2, l2.getD j default = v2 := ⟨_, rfl⟩
           rw [hv2] at q7
           have hvb := (HLb2.out v2 (by rw [← hv2]; exact List.mem_of_getElem? (get_default hjt))).1
           by_cases hbig : 4096 ≤ v2
           ·clear hJ hpl hpr hpb hv2
            go_wp2_with fail
            refine bodyPost_ret (results_tmp2 rfl _ _ _) rfl ?_
            exact retL_nil (bstep HB8.out (Nat.le_refl _) HJ.out.below)
           ·have hjL : j < l3.length := by rw [HL3.out]; exact hjt
            obtain ⟨aL, hAL, qL⟩ := HX8.out.at hJ.below hjL
            subst hAL
            obtain ⟨v1, hv1⟩ : ∃ v1, l3.getD j default = v1 := ⟨_, rfl⟩
            rw [hv1] at qL
            have hjp : j < pl.length := by omega
            obtain ⟨p0, p1, pf⟩ := hpr.cells hjp
            have hset := PRow.set (w := wr.drew) hpr hjp v1 (v2 + 1)
            have HJ2 : Hid (RsI w8 Q l2.length ((wr.drew.setCell ⟨Q, j * 2, none⟩ (.int .i64 v1)).setCell ⟨Q, j * 2 + 1, none⟩ (.int .i64 (v2 + 1)))) := Lib.hid ⟨⟨pl.set j (v1, v2 + 1), by rw [List.length_set]; exact hpl, hset, fun r hr => by
             rcases List.mem_or_eq_of_mem_set hr with h | h
             ·exact hpb r h
             ·rw [h]; show v2 + 1 ≤ _; omega⟩, ((hJ.below.drew).setCell (p := ⟨Q, j * 2, none⟩) (by rw [HQ.out]; exact Nat.le_refl _) _).setCell (p := ⟨Q, j * 2 + 1, none⟩) (by rw [HQ.out]; exact Nat.le_refl _) _⟩
            have hwv : IntKind.i64.wrap (v2 + 1) = v2 + 1 := IntWalk.i64_in _ (by omega)
            have f0 := pf (j * 2)
            have f1 := pf (j * 2 + 1)
            clear hJ hpl hpr hpb hv2 hv1 hjL hjp hset pf
            go_upto_region 28 with (fail)
            go_still_tail 13, (by kernel_rfl)
            go_wp2_with fail
            go_roundw
            case rel => exact ⟨j + 1, by go_num, by omega, HJ2.out⟩
            case measure => simp [intOf]; omega
          ·obtain rfl : j = l2.length := by omega
           have hl2 := HLb.out
           have hex := fun c => expand_walk l0 (by rw [HL0.out]; omega) pl (by omega) hpb wr A' (some ⟨Q, 0, none⟩) c' c ((ownS_in HO8.out).mono hJ.below) (prow_in hpr)
           rw [hpl, HL0.out] at hex
           have HEx := Lib.hid hex
           clear hJ hpl hpr hpb hl2 hex
           go_wp2_with fail
           refine (HEx.out _).mono ?_
           rintro x w10 ⟨hb10, lo, eo, Ao, co, rfl, hino, hlo, hmo⟩
           have HBo : Hid (Below w.heap.size w w10) := Lib.hid (bstep (bstep HB8.out (Nat.le_refl _) HJ.out.below) (Nat.le_refl _) hb10)
           have HIo := Lib.hid hino
           have HLo := Lib.hid hlo
           have HMo := Lib.hid hmo
           clear hb10 hino hlo hmo HEx
           go_wp2_with fail
           refine bodyPost_ret (results_tmp2 rfl _ _ _) rfl ?_
           exact ⟨HBo.out, lo, _, Ao, co, rfl, HIo.out, HLo.out, fun s hs => HM0.out s (HMo.out s hs)⟩
        ·have hen := errne he3
         go_wp2_with fail
         refine bodyPost_ret (results_tmp2 rfl _ _ _) rfl ?_
         exact retL_nil HB8.out
       ·have hc0 : cd = 0 := by omega
        subst hc0
        have HL3 := Lib.hid hll
        have HO8 := HO7
        have HX8 := HJ7
        have HY8 := HI7
        have HB8 := HB7
        rw [hll] at hlli ⊢
        clear hll hlai
        obtain ⟨W9, hrun, hp9, hb9, hz9⟩ := made_prow w7 l2.length HLb.out
        have HI9 : Hid (RsI w7 w7.heap.size l2.length W9) := Lib.hid ⟨⟨_, List.length_replicate, hp9, fun r hr => by rw [(List.mem_replicate.1 hr).2]; decide⟩, hb9⟩
        obtain ⟨Q, hQ⟩ : ∃ Q, w7.heap.size = Q := ⟨_, rfl⟩
        rw [hQ] at HI9 hrun
        have HQ := Lib.hid hQ
        clear hp9 hb9 hz9
        go_wp2_with fail
        clear hQ hrun
        go_loopw [81] (fun i wr => RsR w7 Q l2.length i wr) (fun i _ => ((l2.length : Int) - intOf i).toNat)
        case atStart => exact ⟨0, rfl, Nat.zero_le _, HI9.out⟩
        case round =>
         obtain ⟨j, rfl, hj, hJ⟩ := hrel
         have HJ := Lib.hid hJ
         obtain ⟨pl, hpl, hpr, hpb⟩ := hJ.ex
         by_cases hjt : j < l2.length
         ·have hji : (j : Int) < l2.length := by omega
          obtain ⟨a7, rfl, q7⟩ := HY8.out.at hJ.below hjt
          obtain ⟨v2, hv2⟩ : ∃ v2, l2.getD j default = v2 := ⟨_, rfl⟩
          rw [hv2] at q7
          have hvb := (HLb2.out v2 (by rw [← hv2]; exact List.mem_of_getElem? (get_default hjt))).1
          by_cases hbig : 4096 ≤ v2
          ·clear hJ hpl hpr hpb hv2
           go_wp2_with fail
           refine bodyPost_ret (results_tmp2 rfl _ _ _) rfl ?_
           exact retL_nil (bstep HB8.out (Nat.le_refl _) HJ.out.below)
          ·have hjL : j < l1.length := by rw [HL3.out]; exact hjt
           obtain ⟨aL, hAL, qL⟩ := HX8.out.at hJ.below hjL
           subst hAL
           obtain ⟨v1, hv1⟩ : ∃ v1, l1.getD j default = v1 := ⟨_, rfl⟩
           rw [hv1] at qL
           have hjp : j < pl.length := by omega
           obtain ⟨p0, p1, pf⟩ := hpr.cells hjp
           have hset := PRow.set (w := wr.drew) hpr hjp v1 (v2 + 1)
           have HJ2 : Hid (RsI w7 Q l2.length ((wr.drew.setCell ⟨Q, j * 2, none⟩ (.int .i64 v1)).setCell ⟨Q, j * 2 + 1, none⟩ (.int .i64 (v2 + 1)))) := Lib.hid ⟨⟨pl.set j (v1, v2 + 1), by rw [List.length_set]; exact hpl, hset, fun r hr => by
            rcases List.mem_or_eq_of_mem_set hr with h | h
            ·exact hpb r h
            ·rw [h]; show v2 + 1 ≤ _; omega⟩, ((hJ.below.drew).setCell (p := ⟨Q, j * 2, none⟩) (by rw [HQ.out]; exact Nat.le_refl _) _).setCell (p := ⟨Q, j * 2 + 1, none⟩) (by rw [HQ.out]; exact Nat.le_refl _) _⟩
           have hwv : IntKind.i64.wrap (v2 + 1) = v2 + 1 := IntWalk.i64_in _ (by omega)
           have f0 := pf (j * 2)
           have f1 := pf (j * 2 + 1)
           clear hJ hpl hpr hpb hv2 hv1 hjL hjp hset pf
           go_upto_region 28 with (fail)
           go_still_tail 13, (by kernel_rfl)
           go_wp2_with fail
           go_roundw
           case rel => exact ⟨j + 1, by go_num, by omega, HJ2.out⟩
           case measure => simp [intOf]; omega
         ·obtain rfl : j = l2.length := by omega
          have hl2 := HLb.out
          have hex := fun c => expand_walk l0 (by rw [HL0.out]; omega) pl (by omega) hpb wr A' (some ⟨Q, 0, none⟩) c' c ((ownS_in HO8.out).mono hJ.below) (prow_in hpr)
          rw [hpl, HL0.out] at hex
          have HEx := Lib.hid hex
          clear hJ hpl hpr hpb hl2 hex
          go_wp2_with fail
          refine (HEx.out _).mono ?_
          rintro x w10 ⟨hb10, lo, eo, Ao, co, rfl, hino, hlo, hmo⟩
          have HBo : Hid (Below w.heap.size w w10) := Lib.hid (bstep (bstep HB8.out (Nat.le_refl _) HJ.out.below) (Nat.le_refl _) hb10)
          have HIo := Lib.hid hino
          have HLo := Lib.hid hlo
          have HMo := Lib.hid hmo
          clear hb10 hino hlo hmo HEx
          go_wp2_with fail
          refine bodyPost_ret (results_tmp2 rfl _ _ _) rfl ?_
          exact ⟨HBo.out, lo, _, Ao, co, rfl, HIo.out, HLo.out, fun s hs => HM0.out s (HMo.out s hs)⟩
      ·have hlli : ((l1.length : Int) != (l2.length : Int)) = true := by simp [bne]; omega
       go_wp2_with fail
       refine bodyPost_ret (results_tmp2 rfl _ _ _) rfl ?_
       exact retL_nil HB7.out
     ·have hen := errne he2
      go_wp2_with fail
      refine bodyPost_ret (results_tmp2 rfl _ _ _) rfl ?_
      exact retL_nil HB7.out
    ·have hen := errne he1
     go_wp2_with fail
     refine bodyPost_ret (results_tmp2 rfl _ _ _) rfl ?_
     exact retL_nil HB7.out
   ·have hen := errne her
    go_wp2_with fail
    refine bodyPost_ret (results_tmp2 rfl _ _ _) rfl ?_
    exact retL_nil HB4.out
/-- a list that its encoder writes so, or an error -/
def RetE (enc : List Str → List UInt8 × Int) (data : List UInt8) (w : World) (x : Ending) (w' : World) : Prop := Below w.heap.size w w' ∧ ∃ (l : List Str) (e : Int) (A : Option Addr) (c : Nat), x = .returned (.tuple #[.slice A l.length c, .int .i64 e]) ∧ InS w' A l ∧ l.length ≤ 4096 ∧ (∀ s ∈ l, s.length ≤ 128) ∧ (e = 0 → enc l = (data, 0))
theorem retE_nil {enc : List Str → List UInt8 × Int} {data : List UInt8} {w w' : World} {e : Int} (h : Below w.heap.size w w') (he : e ≠ 0) : RetE enc data w (.returned (.tuple #[.slice none 0 0, .int .i64 e])) w' := ⟨h, [], e, none, 0, rfl, flat_nil _ _ _, by simp, fun s hs => by simp at hs, fun h => absurd h he⟩
theorem str_ne (p s : Str) : ((sB p).toList != (sB s).toList) = !decide (p = s) := by rw [bne, str_eq]
set_option maxRecDepth 100000 in
theorem rldec_walk (data : List UInt8) (hd : data.length ≤ 100000) (most : Int) (w : World) : Calls Tryz.prog 20 #[.string (sB data), .int .i64 most] w fun x w' => RetE encRL data w x w' := by
 have HR := Lib.hid (rlread_walk data hd w)
 clear hd
 go_enter Tryz.func20, Tryz.ntmps20
 go_wp2_with fail
 refine (HR.out).mono ?_
 rintro x w1 ⟨hb1, l, ok, A, c, rfl, hin, hl, hs⟩
 have HB1 := Lib.hid hb1
 have HIn := Lib.hid hin
 have HL := Lib.hid hl
 have HS := Lib.hid hs
 have hE := fun w => encRL_walk l (by omega) w A c
 have hEl := encRL_len l
 obtain ⟨t, ht⟩ : ∃ t, (encRL l).1 = t := ⟨_, rfl⟩
 obtain ⟨e, he⟩ : ∃ e, (encRL l).2 = e := ⟨_, rfl⟩
 rw [ht, he] at hE
 have HEq : Hid (encRL l = (t, e)) := Lib.hid (by rw [← ht, ← he])
 have HE := Lib.hid (hE w1 hin)
 have hli : (l.length : Int) ≤ 4096 := by omega
 clear hb1 hin hl hs hE hEl ht he HR
 cases ok with
 | false =>
  go_wp2_with fail
  refine bodyPost_ret (results_tmp2 rfl _ _ _) rfl ?_
  exact retE_nil HB1.out (by decide)
 | true =>
  go_wp2_with fail
  refine (HE.out).mono ?_
  rintro x w2 ⟨rfl, hb2⟩
  have HB2 := Lib.hid (bstep HB1.out (Nat.le_refl _) hb2)
  have HI2 := Lib.hid (HIn.out.mono hb2)
  clear hb2 HE
  by_cases h0 : e = 0
  ·subst h0
   by_cases hq : t = data
   ·have hse := str_eq t data
    have hsn := str_ne t data
    rw [decide_eq_true hq] at hse hsn
    have HQ : Hid (encRL l = (data, 0)) := Lib.hid (by rw [HEq.out, hq])
    clear hq
    by_cases hm : most < (l.length : Int)
    ·go_wp2_with fail
     refine bodyPost_ret (results_tmp2 rfl _ _ _) rfl ?_
     exact retE_nil HB2.out (by decide)
    ·go_wp2_with fail
     refine bodyPost_ret (results_tmp2 rfl _ _ _) rfl ?_
     exact ⟨HB2.out, l, 0, A, c, rfl, HI2.out, HL.out, HS.out, fun _ => HQ.out⟩
   ·have hse := str_eq t data
    have hsn := str_ne t data
    rw [decide_eq_false hq] at hse hsn
    clear hq
    go_wp2_with fail
    refine bodyPost_ret (results_tmp2 rfl _ _ _) rfl ?_
    exact retE_nil HB2.out (by decide)
  ·have hen := errne h0
   go_wp2_with fail
   refine bodyPost_ret (results_tmp2 rfl _ _ _) rfl ?_
   exact retE_nil HB2.out (by decide)
end Go.Proofs.YtlmjefjimoghcaaGreat
