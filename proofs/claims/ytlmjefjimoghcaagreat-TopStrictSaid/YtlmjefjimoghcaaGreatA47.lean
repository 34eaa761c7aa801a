/- A part of the proofs of TopCounter and TopStrict: what the functions of the program do, each walked once, and plain laws about it. No condition. -/
import Derived.Test.YtlmjefjimoghcaaGreatA46
import Derived.Test.YtlmjefjimoghcaaGreatA30
namespace Go.Proofs.YtlmjefjimoghcaaGreat
set_option linter.unusedSimpArgs false
set_option linter.unnecessarySimpa false
set_option linter.unusedVariables false
open Go.RowKit
attribute [local go_sem ↓] Go.wp_at_zero Go.wp_at_succ
structure LrI (w0 : World) (kT kG bB bG nB nG dB dG D M N : Nat) (v : Value) (out : List UInt8) (wr : World) : Prop where
 o : LdO w0 wr kT kG bB bG nB nG dB dG D
 m : wr.heap[M]? = some (mObj kT bB nB dB)
 own : OwnR w0 5 1 v out.length (bcells out) wr
 le : out.length ≤ N
theorem LrI.k {w0 wr w' : World} {kT kG bB bG nB nG dB dG D M N : Nat} {v : Value} {out : List UInt8} (h : LrI w0 kT kG bB bG nB nG dB dG D M N v out wr) (hk : LdK w0 wr kT kG bB bG nB nG dB dG D w') : LrI w0 kT kG bB bG nB nG dB dG D M N v out w' := by
 refine ⟨hk.1, (hk.2.block M (Array.getElem?_eq_some_iff.1 h.m).1 (h.o.not h.m (.inr rfl))).trans h.m, h.own.frame fun g hg => ?_, h.le⟩
 obtain ⟨cur, hc⟩ := row_block h.own.row hg
 exact hk.2.block g (Array.getElem?_eq_some_iff.1 hc).1 (h.o.not hc (.inl rfl))
theorem LrI.drew {w0 wr : World} {kT kG bB bG nB nG dB dG D M N : Nat} {v : Value} {out : List UInt8} (h : LrI w0 kT kG bB bG nB nG dB dG D M N v out wr) : LrI w0 kT kG bB bG nB nG dB dG D M N v out wr.drew :=
 ⟨h.o.mono ((Below.refl _ _).drew), h.m, h.own.frame fun _ _ => rfl, h.le⟩
set_option maxRecDepth 100000 in
theorem LrI.push {w0 wr : World} {kT kG bB bG nB nG dB dG D M N : Nat} {v : Value} {out : List UInt8} (h : LrI w0 kT kG bB bG nB nG dB dG D M N v out wr) (hn : out.length + 1 ≤ N) (hN : N ≤ 100000) (b : UInt8) : ∃ A c w', (Builtin.append_ #[70, 70] 70 #[v, .slice (some ⟨wr.heap.size, 0, none⟩) 1 1]).run Tryz.prog (wr.alloc (.cells #[.int .u8 (b.toNat : Int)] 5)) = .ok (.slice A (out.length + 1) c) w' ∧ LrI w0 kT kG bB bG nB nG dB dG D M N (.slice A (out.length + 1) c) (out ++ [b]) w' := by
 have hb0 : Below wr.heap.size wr (wr.alloc (.cells #[.int .u8 (b.toNat : Int)] 5)) := (Below.refl _ _).alloc (Nat.le_refl _) _
 have h2 := h.own.below hb0
 have ho := h.o.mono hb0
 have hbe := h.o.below
 have hsz : w0.heap.size ≤ (wr.alloc (.cells #[.int .u8 (b.toNat : Int)] 5)).heap.size := by rw [World.size_alloc]; have := hbe.size; omega
 obtain ⟨A, c, w', hr, ho2, hg, _⟩ := h2.push Tryz.underlying70 rfl rfl rfl rfl rfl (by decide) (by omega) wr.heap.size (.int .u8 (b.toNat : Int)) (by rw [cell_of_row _ _ _ _ _ _ (heap_alloc_new wr _)]; rfl) rfl hsz
 have far : ∀ {g : Nat} {cs : Array Value} {t : TypeId}, (wr.alloc (.cells #[.int .u8 (b.toNat : Int)] 5)).heap[g]? = some (.cells cs t (0, 0)) → 5 ≠ t → w'.heap[g]? = some (.cells cs t (0, 0)) := fun {g cs t} hg2 ht =>
  (hg.block g (Array.getElem?_eq_some_iff.1 hg2).1 fun e => row_cells_ne h2.row hg2 ht e.symm rfl).trans hg2
 have hb2 := below_grown (hbe.alloc hbe.size (.cells #[.int .u8 (b.toNat : Int)] 5)) hsz hg h2.new
 refine ⟨A, c, w', hr, ⟨?_, far ((hb0.block M (Array.getElem?_eq_some_iff.1 h.m).1).trans h.m) (by decide), by rw [List.length_append, bcells_append]; exact ho2, by rw [List.length_append]; exact hn⟩⟩
 obtain ⟨k, b', n, d, l, dec, h1, h2', ⟨h3, h4⟩, ⟨h5, h6, h7, h8⟩, ⟨h9, h10, h11⟩, h12, h13, h14⟩ := ho.ex
 exact ⟨⟨k, b', n, d, l, dec, h1.frame ((far h1.obj (by decide)).trans h1.obj.symm), h2', ⟨far h3.to (by decide), h4⟩, ⟨far h5.to (by decide), h6, far h7.to (by decide), h8⟩, ⟨far h9.to (by decide), far h10.to (by decide), h11⟩, far h12.to (by decide), far h13.to (by decide), h14⟩, far ho.kt.to (by decide), ho.d8, ho.gw, ho.nd, hb2⟩
def LrR (w0 : World) (kT kG bB bG nB nG dB dG D M N : Nat) (v : Value) (wr : World) : Prop := ∃ out, LrI w0 kT kG bB bG nB nG dB dG D M N v out wr
def LrJ (w0 : World) (kT kG bB bG nB nG dB dG D M N q dst : Nat) (n0 : Nat) (v i : Value) (wr : World) : Prop := ∃ (k : Nat) (out : List UInt8), i = .int .i64 (k : Int) ∧ k ≤ q ∧ out.length = n0 + k ∧ LrI w0 kT kG bB bG nB nG dB dG D M N v out wr
def lrm (N : Nat) (v : Value) : Nat := match v with
 | .slice _ n _ => N - n
 | _ => 0
def LrP (w : World) (N : Nat) (x : Ending) (w' : World) : Prop := ∃ (s : List UInt8) (ok : Bool), x = .returned (.tuple #[.string (sB s), .bool ok]) ∧ s.length ≤ N ∧ Below w.heap.size w w'
set_option maxRecDepth 100000 in
set_option maxHeartbeats 4000000 in
theorem lzread_walk (data : List UInt8) (hd : data.length ≤ 100000) (N : Nat) (hN : N ≤ 4096) (w : World) : Calls Tryz.prog 49 #[.string (sB data), .int .i64 (N : Int)] w fun x w' => LrP w N x w' := by
 have HNS := Lib.hid fun w => newset_walk w
 have HND := Lib.hid fun w => newD_walk w data (by unfold maxLen; omega)
 have hNi : (N : Int) ≤ 4096 := by omega
 have HNl := Lib.hid hN
 clear hd hN
 go_enter Tryz.func49, Tryz.ntmps49
 go_wp2_with fail
 refine (HNS.out _).mono ?_
 rintro x w1 ⟨kT, kG, bB, bG, nB, nG, dB, dG, rfl, hset⟩
 unfold setV
 go_wp2_with fail
 refine (HND.out _).mono ?_
 rintro x w2 ⟨rfl, hb2, hde, hsz⟩
 have h2 := hset.mono hb2
 have q : ∀ {g : Nat} {o : Obj}, w1.heap[g]? = some o → g < w1.heap.size := fun h => (Array.getElem?_eq_some_iff.1 h).1
 have hd8 : ¬ In8 kT kG bB bG nB nG dB dG w1.heap.size := by
  rintro (h | h | h | h | h | h | h | h)
  ·have := q hset.kt.to; omega
  ·have := q hset.kr.to; omega
  ·have := q hset.bo.to; omega
  ·have := q hset.br.to; omega
  ·have := q hset.no.to; omega
  ·have := q hset.nr.to; omega
  ·have := q hset.dO.to; omega
  ·have := q hset.dr.to; omega
 have hLd : LdO w w2 kT kG bB bG nB nG dB dG w1.heap.size := ⟨⟨_, _, _, _, _, _, hde, by rw [hsz]; decide, ⟨h2.kr, List.length_replicate⟩, ⟨h2.bo, by decide, h2.br, List.length_replicate⟩, ⟨h2.no, h2.nr, List.length_replicate⟩, ⟨h2.dO, h2.dr, List.length_replicate⟩⟩, h2.kt, hd8, fun b hb => by
  rcases hb with rfl | hb
  ·exact hset.below.size
  ·exact hset.ge b hb, h2.nd, h2.below⟩
 have hb3 : Below w2.heap.size w2 (w2.alloc (mObj kT bB nB dB)) := (Below.refl _ _).alloc (Nat.le_refl _) _
 have hI : LrI w kT kG bB bG nB nG dB dG w1.heap.size w2.heap.size N (.slice none 0 0) [] (w2.alloc (mObj kT bB nB dB)) := ⟨hLd.mono hb3, heap_alloc_new _ _, .nil _ _ _ _, Nat.zero_le _⟩
 obtain ⟨D, hD⟩ : ∃ D, w1.heap.size = D := ⟨_, rfl⟩
 obtain ⟨M, hM⟩ : ∃ M, w2.heap.size = M := ⟨_, rfl⟩
 rw [hD, hM] at hI
 rw [hD]
 have HI := Lib.hid hI
 have HMe := Lib.hid hM
 clear hset hb2 hde hsz h2 q hd8 hLd hb3 hI hD hM
 go_wp2_with fail
 rw [HMe.out]
 go_loopw [8] (fun v wr => LrR w kT kG bB bG nB nG dB dG D M N v wr) (fun v _ => lrm N v)
 case atStart => exact ⟨[], HI.out⟩
 case round =>
  obtain ⟨out, hI⟩ := hrel
  have HI0 := Lib.hid hI
  have hle := hI.le
  obtain ⟨n0, hn0⟩ : ∃ n, out.length = n := ⟨_, rfl⟩
  have hrow := hI.own.row
  rw [hn0] at hrow hle
  obtain ⟨A', c', rfl⟩ := row_sl hrow
  have HN0 := Lib.hid hn0
  obtain ⟨m0, m1, m2, m3⟩ := setV_cells hI.m
  by_cases hlt : n0 < N
  ·have hli : (n0 : Int) < N := by omega
   have HKd := Lib.hid hI.o.kind
   clear hI hle hn0 hrow
   go_wp2_with fail
   refine (HKd.out).mono ?_
   rintro x w3 ⟨v, rfl, hk⟩
   have HI0 := Lib.hid (HI0.out.k hk)
   clear hk m0 m1 m2 m3 HKd
   obtain ⟨m0, m1, m2, m3⟩ := setV_cells HI0.out.m
   by_cases hv : v = 0
   ·have hvb : ((v : Int) == 0) = true := by simp [hv]
    have hvz : (v : Int) = 0 := by omega
    have HBy := Lib.hid HI0.out.o.byte
    clear hv
    go_wp2_with fail
    refine (HBy.out).mono ?_
    rintro x w4 ⟨b, rfl, hk⟩
    have hI4 := HI0.out.k hk
    obtain ⟨A5, c5, w5, hrun, hI5⟩ := hI4.push (by rw [HN0.out]; omega) (by have := HNl.out; omega) b
    rw [HN0.out] at hrun hI5
    have HI5 := Lib.hid hI5
    have HRUN := Lib.hid hrun
    clear hk hI4 hI5 hrun m0 m1 m2 m3 HBy hvz
    go_wp2_with (at_builtin; refine wpList_append_eq rfl _ _ _ rfl _ _ rfl rfl HRUN.out ?_)
    go_roundw
    case rel => exact ⟨_, HI5.out⟩
    case measure => (show N - (n0 + 1) < N - n0; omega)
   ·have hvb : ((v : Int) == 0) = false := by simp [hv]
    have HI0 := Lib.hid HI0.out.drew
    have HL1 := Lib.hid HI0.out.o.len
    clear hv
    go_upto_region 6 with (fail)
    refine wp_region_noPanic ?_
    refine wp_region_D 10 (fun w' : World => w'.cell? ⟨M, 2, none⟩ = some (.pointer (some ⟨nB, 0, none⟩)) ∧ w'.cell? ⟨M, 3, none⟩ = some (.pointer (some ⟨dB, 0, none⟩))) (by kernel_rfl) ⟨m2, m3⟩ (fun hU => ?_)
    have hC : (fun w' : World => w'.cell? ⟨M, 2, none⟩ = some (.pointer (some ⟨nB, 0, none⟩)) ∧ w'.cell? ⟨M, 3, none⟩ = some (.pointer (some ⟨dB, 0, none⟩))) w3.drew := ⟨m2, m3⟩
    clear hU
    refine tk 0 30 9 rfl rfl (.inr hC) ?_
    simp only [Act.put, zA, zB, zC]
    refine tl 1 31 8 rfl rfl (.inr hC) ?_
    simp only [Act.put, zA, zB, zC]
    refine tk 2 32 7 rfl rfl (.inr hC) ?_
    simp only [Act.put, zA, zB, zC]
    refine tk 4 34 6 rfl rfl (.inr hC) ?_
    simp only [Act.put, zA, zB, zC]
    refine tl 5 35 5 rfl rfl (.inr hC) ?_
    simp only [Act.put, zA, zB, zC]
    refine tk 6 36 4 rfl rfl (.inr hC) ?_
    simp only [Act.put, zA, zB, zC]
    refine ry 3 [3] ?_
    refine rn rfl (fun K hK => ?_) ?_
    ·go_simp
     go_at_call 93
     with_reducible refine (HL1.out).mono ?_
     rintro x wx ⟨lv, rfl, hk1⟩
     have HI1 := Lib.hid (HI0.out.k hk1)
     have HL2 := Lib.hid HI1.out.o.dst
     clear hk1
     go_wp2_with fail
     refine shut_C hK ?_ (fun hC => ?_)
     ·first
      | exact ⟨(setV_cells HI2.out.m).2.2.1, (setV_cells HI2.out.m).2.2.2⟩
      | exact ⟨(setV_cells HI1.out.m).2.2.1, (setV_cells HI1.out.m).2.2.2⟩
     clear hK K
     try simp only [Act.put, zA, zB, zC]
     refine ry 2 [7] ?_
     refine rn rfl (fun K hK => ?_) ?_
     ·go_simp
      go_at_call 93
      with_reducible refine (HL2.out).mono ?_
      rintro x wy ⟨dv, rfl, hk2⟩
      have HI2 := Lib.hid (HI1.out.k hk2)
      clear hk2
      go_wp2_with fail
      refine shut_C hK ?_ (fun hC => ?_)
      ·first
       | exact ⟨(setV_cells HI2.out.m).2.2.1, (setV_cells HI2.out.m).2.2.2⟩
       | exact ⟨(setV_cells HI1.out.m).2.2.1, (setV_cells HI1.out.m).2.2.2⟩
      clear hK K
      try simp only [Act.put, zA, zB, zC]
      refine tk 8 9 1 rfl rfl (.inr hC) ?_
      simp only [Act.put, zA, zB, zC]
      refine tk 9 10 0 rfl rfl (.inr hC) ?_
      simp only [Act.put, zA, zB, zC]
      refine wpAnyD_done (by kernel_rfl) ?_ _
      refine NoPanic.normal ?_
      clear hC m0 m1 m2 m3 HL1 HL2
      by_cases l0 : lv < 0
      ·go_wp2_with fail
       go_ret2
       exact ⟨[], false, rfl, Nat.zero_le _, HI2.out.o.below⟩
      by_cases l1 : 271 < lv
      ·go_wp2_with fail
       go_ret2
       exact ⟨[], false, rfl, Nat.zero_le _, HI2.out.o.below⟩
      have hle2 := HI2.out.le
      rw [HN0.out] at hle2
      by_cases l2 : (N : Int) - n0 < lv + 2
      ·go_wp2_with fail
       go_ret2
       exact ⟨[], false, rfl, Nat.zero_le _, HI2.out.o.below⟩
      by_cases l3 : dv < 0
      ·go_wp2_with fail
       go_ret2
       exact ⟨[], false, rfl, Nat.zero_le _, HI2.out.o.below⟩
      by_cases l4 : (n0 : Int) ≤ dv
      ·go_wp2_with fail
       go_ret2
       exact ⟨[], false, rfl, Nat.zero_le _, HI2.out.o.below⟩
      obtain ⟨q, hq⟩ : ∃ q : Nat, lv + 2 = (q : Int) := ⟨(lv + 2).toNat, by omega⟩
      obtain ⟨dd, rfl⟩ : ∃ d : Nat, dv = (d : Int) := ⟨dv.toNat, by omega⟩
      have hqn : Hid (n0 + q ≤ N ∧ dd < n0 ∧ 0 < q) := Lib.hid ⟨by omega, by omega, by omega⟩
      have hqb : (q : Int) ≤ 273 := by omega
      have hdb : (dd : Int) ≤ 4096 := by omega
      clear hle2
      go_wp2_with fail
      go_loopw [8, 65] (fun v i wr => LrJ w kT kG bB bG nB nG dB dG D M N q dd n0 v i wr) (fun _ i _ => ((q : Int) - intOf i).toNat)
      case atStart => exact ⟨0, out, rfl, Nat.zero_le _, HN0.out, HI2.out⟩
      case round =>
       obtain ⟨k, o2, rfl, hk, hol, hI2⟩ := hrel
       have HIk := Lib.hid hI2
       have hrow := hI2.own.row
       obtain ⟨g, hg⟩ : ∃ n, o2.length = n := ⟨_, rfl⟩
       rw [hg] at hrow hol
       obtain ⟨A2, c2, rfl⟩ := row_sl hrow
       by_cases hkq : k < q
       ·have hki : (k : Int) < q := by omega
        obtain ⟨h1, h2, h3⟩ := hqn.out
        obtain ⟨ix, hix⟩ : ∃ ix, g = ix + dd + 1 := ⟨g - dd - 1, by omega⟩
        have hown := hI2.own
        rw [hg] at hown
        obtain ⟨gb, rfl⟩ := row_g hown (by omega)
        obtain ⟨b, hb⟩ : ∃ b, o2.getD ix 0 = b := ⟨_, rfl⟩
        have cb := own_cell hown (q := ix) (by omega) hb
        have e1 : (g : Int) - dd - 1 = (ix : Int) := by omega
        have hgi : (g : Int) ≤ 4096 := by have := HNl.out; omega
        have hixg : (ix : Int) < g := by omega
        obtain ⟨A5, c5, w5, hrun, hI5⟩ := hI2.push (by omega) (by have := HNl.out; omega) b
        rw [hg] at hrun hI5
        have HI5 := Lib.hid hI5
        have HRUN := Lib.hid hrun
        have HOl : Hid ((o2 ++ [b]).length = n0 + (k + 1)) := Lib.hid (by rw [List.length_append, hg, hol]; rfl)
        clear hI2 hol hrow hg hix hown hb hrun hI5 h1 h2 h3 hk
        go_wp2_with (at_builtin; refine wpList_append_eq rfl _ _ _ rfl _ _ rfl rfl HRUN.out ?_)
        go_roundw
        case rel => exact ⟨k + 1, o2 ++ [b], by go_num, by omega, HOl.out, HI5.out⟩
        case measure => simp [intOf]; omega
       ·obtain rfl : k = q := by omega
        have hg2 : g = n0 + k := hol
        have HG2 := Lib.hid hg2
        clear hI2 hol hrow hg hk hg2
        go_wp2_with fail
        go_roundw
        case rel => exact ⟨_, HIk.out⟩
        case measure => (show N - g < N - n0; have := hqn.out; have := HG2.out; omega)
     exact rz
    exact rz
  ·have hge : ¬ (n0 : Int) < N := by omega
   have hstr := str_row (hI.own.row)
   clear hI hle hn0 hrow m0 m1 m2 m3
   go_wp2_with fail
   go_ret2
   exact ⟨out, true, rfl, HI0.out.le, HI0.out.o.below⟩
def RetZ (data : List UInt8) (w : World) (x : Ending) (w' : World) : Prop := Below w.heap.size w w' ∧ ∃ (s : List UInt8) (e : Int), x = .returned (.tuple #[.string (sB s), .int .i64 e]) ∧ s.length ≤ 4096 ∧ (e = 0 → lzEnc s = data)
theorem retZ_nil {data : List UInt8} {w w' : World} {e : Int} (h : Below w.heap.size w w') (he : e ≠ 0) : RetZ data w (.returned (.tuple #[.string ⟨#[]⟩, .int .i64 e])) w' := ⟨h, [], e, rfl, Nat.zero_le _, fun h => absurd h he⟩
set_option maxRecDepth 100000 in
set_option maxHeartbeats 1000000 in
theorem lzdec_walk (data : List UInt8) (hd : data.length ≤ 100000) (most : Int) (w : World) : Calls Tryz.prog 18 #[.string (sB data), .int .i64 most] w fun x w' => RetZ data w x w' := by
 have HX := Lib.hid (new_rds data w)
 have HD := Lib.hid hd
 clear hd
 go_enter Tryz.func18, Tryz.ntmps18
 go_wp2_with fail
 refine (HX.out).mono ?_
 rintro x w1 ⟨rfl, hr1, hb1⟩
 have HR1 := Lib.hid hr1
 have HB1 := Lib.hid hb1
 obtain ⟨R, hRe⟩ : ∃ R, w.heap.size = R := ⟨_, rfl⟩
 rw [hRe] at HR1 ⊢
 have HRe : Hid (w.heap.size ≤ R) := Lib.hid (Nat.le_of_eq hRe)
 clear hr1 hb1 HX hRe
 go_wp2_with fail
 refine (rdsN (by exact HR1.out) 4096 (by decide)).mono ?_
 rintro x w2 ⟨N, rfl, hN4, hr2, ht2⟩
 have HR2 := Lib.hid hr2
 have HB2 := Lib.hid (below_step HB1.out ht2 HRe.out)
 have HN : Hid (N ≤ 4096) := Lib.hid (by omega)
 clear hr2 ht2
 go_wp2_with fail
 refine (rdsR (by exact HR2.out)).mono ?_
 rintro x _ ⟨er, rfl, rfl⟩
 by_cases her : er = 0
 ·subst her
  by_cases hm : most < (N : Int)
  ·go_wp2_with fail
   refine bodyPost_ret (results_tmp2 rfl _ _ _) rfl ?_
   exact retZ_nil HB2.out (by decide)
  ·go_wp2_with fail
   refine (rdsL (by exact HR2.out)).mono ?_
   rintro x _ ⟨lf, rfl, -, rfl⟩
   go_wp2_with fail
   refine (rdsT (by exact HR2.out) _).mono ?_
   rintro x w3 ⟨sb, rfl, hsb, -, ht3⟩
   have HB3 := Lib.hid (below_step HB2.out ht3 HRe.out)
   have HRd := Lib.hid (lzread_walk sb (by have := HD.out; omega) N HN.out w3)
   clear hsb ht3
   go_wp2_with fail
   refine (HRd.out).mono ?_
   rintro x w4 ⟨s, ok, rfl, hs, hb4⟩
   have HB4 := Lib.hid (bstep HB3.out (Nat.le_refl _) hb4)
   have hs4 : s.length ≤ 4096 := by have := HN.out; omega
   have HS4 := Lib.hid hs4
   have HE := Lib.hid (lzenc_walk s hs4 w4)
   clear hs hb4 HRd hs4
   cases ok with
   | false =>
    go_wp2_with fail
    refine bodyPost_ret (results_tmp2 rfl _ _ _) rfl ?_
    exact retZ_nil HB4.out (by decide)
   | true =>
    go_wp2_with fail
    refine (HE.out).mono ?_
    rintro x w5 ⟨rfl, hb5⟩
    have HB5 := Lib.hid (bstep HB4.out (Nat.le_refl _) hb5)
    clear hb5 HE
    obtain ⟨t, ht⟩ : ∃ t, lzEnc s = t := ⟨_, rfl⟩
    rw [ht]
    by_cases hq : t = data
    ·have hse := str_eq t data
     have hsn := str_ne t data
     rw [decide_eq_true hq] at hse hsn
     have HQ : Hid (lzEnc s = data) := Lib.hid (ht.trans hq)
     clear hq ht
     go_wp2_with fail
     refine bodyPost_ret (results_tmp2 rfl _ _ _) rfl ?_
     exact ⟨HB5.out, s, 0, rfl, HS4.out, fun _ => HQ.out⟩
    ·have hse := str_eq t data
     have hsn := str_ne t data
     rw [decide_eq_false hq] at hse hsn
     clear hq ht
     go_wp2_with fail
     refine bodyPost_ret (results_tmp2 rfl _ _ _) rfl ?_
     exact retZ_nil HB5.out (by decide)
 ·have hern := errne her
  clear her
  go_wp2_with fail
  refine bodyPost_ret (results_tmp2 rfl _ _ _) rfl ?_
  exact retZ_nil HB2.out (by decide)
end Go.Proofs.YtlmjefjimoghcaaGreat
