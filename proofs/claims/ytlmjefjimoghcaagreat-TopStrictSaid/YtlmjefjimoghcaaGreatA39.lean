/- A part of the proofs of TopCounter and TopStrict: what the functions of the program do, each walked once, and plain laws about it. No condition. -/
import Derived.Test.YtlmjefjimoghcaaGreatA38
namespace Go.Proofs.YtlmjefjimoghcaaGreat
set_option linter.unusedSimpArgs false
set_option linter.unnecessarySimpa false
set_option linter.unusedVariables false
open Go.RowKit
attribute [local go_sem ↓] Go.wp_at_zero Go.wp_at_succ
def rowC (n : Nat) (b : List UInt8) (i : Nat) : Str := (List.range n).map fun k => charN (accV b (2 * (i * n + k)) 2)
def rowsC (n : Nat) (b : List UInt8) (c : Nat) : List Str := (List.range c).map fun i => rowC n b i
def rpB (n : Nat) (c : Nat) (er : Int) (b : List UInt8) : List Str × Bool := if er = 0 ∧ bitsOk b = true ∧ bitsN b = 2 * (c : Int) * (n : Int) then (rowsC n b c, true) else ([], false)
def rpF (n : Nat) (l : List UInt8) (er : Int) : List Str × Bool :=
 let a := rdN 4096 l er
 let t := rdT (a.1.length : Int) a.1 a.2.1
 rpB n a.2.2.toNat t.2.1 t.2.2
theorem put_gen {α : Type} [Inhabited α] (z : α) {o : List α} {k : Nat} (h : k < o.length) (x : α) (hx : o.getD k default = x) : (o.take k ++ List.replicate (o.length - k) z).set k x = o.take (k + 1) ++ List.replicate (o.length - (k + 1)) z := by
 have hl : (o.take k).length = k := by rw [List.length_take]; omega
 rw [List.set_append_right _ _ (Nat.le_of_eq hl), hl, Nat.sub_self, show o.length - k = (o.length - (k + 1)) + 1 by omega, List.replicate_succ, List.set_cons_zero, List.take_succ_eq_append_getElem h]
 have : o[k] = x := by rw [← hx]; simp [List.getD, h]
 rw [this]; simp
theorem rowC_len (n : Nat) (b : List UInt8) (i : Nat) : (rowC n b i).length = n := by simp [rowC]
theorem rowsC_len (n : Nat) (b : List UInt8) (c : Nat) : (rowsC n b c).length = c := by simp [rowsC]
theorem rowC_get {n : Nat} {b : List UInt8} {i k : Nat} (h : k < n) : (rowC n b i).getD k default = charN (accV b (2 * (i * n + k)) 2) := by simp [rowC, List.getD, h]
theorem rowsC_get {n : Nat} {b : List UInt8} {c i : Nat} (h : i < c) : (rowsC n b c).getD i default = rowC n b i := by simp [rowsC, List.getD, h]
theorem qdr {P : Program} {f : FuncId} {args : Array Value} {w : World} {n : Nat} {v : Value}
  (h : Calls P f args (w.drewN n) fun e w' => e = .returned v ∧ ∃ q, w' = (w.drewN n).drewN q) : Calls P f args (w.drewN n) fun e w'' => e = .returned v ∧ ∃ m, w'' = w.drewN m :=
 h.mono fun _ _ ⟨he, q, hm⟩ => ⟨he, n + q, by rw [hm, World.drewN_drewN]⟩
/-- what readPlain keeps -/
structure PrI (wb : World) (B G n c : Nat) (nb : Int) (b : List UInt8) (i k : Nat) (wr : World) : Prop where
 bits : RdB wr B b (2 * (i * n + k)) nb
 row : SRow wr G ((rowsC n b c).take i ++ List.replicate (c - i) [])
 below : Below wb.heap.size wb wr
def PrO (wb : World) (B G n c : Nat) (nb : Int) (b : List UInt8) (v : Value) (wr : World) : Prop := ∃ i : Nat, v = .int .i64 (i : Int) ∧ i ≤ c ∧ PrI wb B G n c nb b i 0 wr
def PrK (wb : World) (B G g n c : Nat) (nb : Int) (b : List UInt8) (i : Nat) (v : Value) (wr : World) : Prop := ∃ k : Nat, v = .int .i64 (k : Int) ∧ k ≤ n ∧ PrI wb B G n c nb b i k wr ∧ V.BRow wr g ((rowC n b i).take k ++ List.replicate (n - k) 0)
def RpP (R : Nat) (r : List Str × Bool) (w : World) (x : Ending) (w' : World) : Prop := Touch (fun k => k = R) w w' ∧ ∃ (A : Option Addr) (c : Nat), x = .returned (.tuple #[.slice A r.1.length c, .bool r.2]) ∧ InS w' A r.1
theorem rpP_nil {R : Nat} {w w' : World} (h : Touch (fun k => k = R) w w') : RpP R ([], false) w (.returned (.tuple #[.slice none 0 0, .bool false])) w' := ⟨h, none, 0, rfl, flat_nil _ _ _⟩
theorem rdb_ne {w : World} {B G n : Nat} {nb : Int} {b : List UInt8} {p : Nat} {t : TypeId} {cs : Array Value} (h : RdB w B b p nb) (hr : w.heap[G]? = some (.cells cs t (0, 0))) (ht : 233 ≠ t) : B ≠ G := cells_ne (show w.heap[B]? = some (.cells _ 233 (0, 0)) from h) hr ht
set_option maxRecDepth 100000 in
set_option maxHeartbeats 4000000 in
theorem rplain_walk (n : Nat) (h1 : 1 ≤ n) (h128 : n ≤ 128) {w : World} {R : Nat} {l : List UInt8} {er : Int} (hR : Rd w R l er) (hl : l.length ≤ 8000) : Calls Tryz.prog 112 #[.agg #[.int .i64 (n : Int)], .pointer (some ⟨R, 0, none⟩)] w fun x w' => RpP R (rpF n l er) w x w' := by
 obtain ⟨W0, hW0⟩ : ∃ W, w.alloc (.cells #[.int .i64 (n : Int)] 109) = W := ⟨_, rfl⟩
 have hb0 : Below w.heap.size w W0 := by rw [← hW0]; exact (Below.refl _ _).alloc (Nat.le_refl _) _
 obtain ⟨P, hP⟩ : ∃ P, w.heap.size = P := ⟨_, rfl⟩
 have hce : W0.heap[P]? = some (.cells #[.int .i64 (n : Int)] 109 (0, 0)) := by rw [← hW0, ← hP]; exact heap_alloc_new _ _
 have hlt : R < w.heap.size := (Array.getElem?_eq_some_iff.1 hR.to).1
 have hRP : P ≠ R := by omega
 have HCe := Lib.hid hce
 have HRP := Lib.hid hRP
 have HW0 := Lib.hid hW0
 have HPe := Lib.hid hP
 have HX := Lib.hid (rdN_walk (hR.frame (hb0.block R hlt)) 4096)
 have hv := rdN_val 4096 l er (by decide)
 have hl1 := rdN_len 4096 l er
 have HT0 : Hid (Touch (fun k => k = R) w W0) := Lib.hid (.of_below hb0)
 have HPw : Hid (P < W0.heap.size) := Lib.hid (Array.getElem?_eq_some_iff.1 hce).1
 have HN : Hid (1 ≤ n ∧ n ≤ 128) := Lib.hid ⟨h1, h128⟩
 have hF : rpF n l er = rpB n (rdN 4096 l er).2.2.toNat (rdT ((rdN 4096 l er).1.length : Int) (rdN 4096 l er).1 (rdN 4096 l er).2.1).2.1 (rdT ((rdN 4096 l er).1.length : Int) (rdN 4096 l er).1 (rdN 4096 l er).2.1).2.2 := rfl
 obtain ⟨⟨r1, e1, cv⟩, ha⟩ : ∃ a, rdN 4096 l er = a := ⟨_, rfl⟩
 rw [ha] at HX hv hl1 hF
 simp only at HX hv hl1 hF
 obtain ⟨c, rfl⟩ : ∃ c : Nat, cv = (c : Int) := ⟨cv.toNat, by omega⟩
 rw [Int.toNat_natCast] at hF
 have hl2 := rdT_len (r1.length : Int) r1 e1
 obtain ⟨⟨r2, e2, b⟩, hbt⟩ : ∃ a, rdT (r1.length : Int) r1 e1 = a := ⟨_, rfl⟩
 rw [hbt] at hF hl2
 simp only at hF hl2
 have HBt := Lib.hid hbt
 have HF := Lib.hid hF
 have hc4 : (c : Int) ≤ 4096 := hv.2
 have HBl : Hid (b.length ≤ 8000) := Lib.hid (by omega)
 have hni : (n : Int) ≤ 128 := by omega
 have hn1 : (1 : Int) ≤ n := by omega
 clear hb0 hW0 hlt hRP hR hce hP h1 h128 hv hl1 hF hl2 hbt ha hl
 go_enter Tryz.func112, Tryz.ntmps112
 go_upto_region 1 with (fail)
 rw [HW0.out, HPe.out]
 go_wp2_with fail
 refine (HX.out).mono ?_
 rintro x w1 ⟨rfl, hr1, ht1⟩
 have HR1 := Lib.hid hr1
 have HT1 := Lib.hid (HT0.out.trans ht1 fun _ _ h => h)
 have HC1 := Lib.hid ((ht1.block P HPw.out HRP.out).trans HCe.out)
 clear hr1 ht1 HX
 go_wp2_with fail
 refine (rdL_walk (by exact HR1.out)).mono ?_
 rintro x _ ⟨rfl, rfl⟩
 go_wp2_with fail
 have HY := Lib.hid (rdT_walk HR1.out (r1.length : Int))
 rw [HBt.out] at HY
 refine (HY.out).mono ?_
 rintro x w2 ⟨rfl, hr2, ht2⟩
 have HR2 := Lib.hid hr2
 have HT2 := Lib.hid (HT1.out.trans ht2 fun _ _ h => h)
 have HC2 := Lib.hid ((ht2.block P (Array.getElem?_eq_some_iff.1 HC1.out).1 HRP.out).trans HC1.out)
 have HZ := Lib.hid (newbits_walk b (by have := HBl.out; omega) w2)
 clear hr2 ht2 HY
 go_wp2_with fail
 refine (HZ.out).mono ?_
 rintro x w3 ⟨hb3, hcase⟩
 have HB3 := Lib.hid hb3
 have hR3 : Rd w3 R r2 e2 := HR2.out.frame (hb3.block R (Array.getElem?_eq_some_iff.1 HR2.out.to).1)
 have HRr : Hid (∀ k, Calls Tryz.prog 48 #[.pointer (some ⟨R, 0, none⟩)] (w3.drewN k) fun e w' => e = .returned (.int .i64 e2) ∧ w3.drewN k = w') := Lib.hid fun k => rdR_walk (show Rd (w3.drewN k) R r2 e2 from hR3)
 have hC3 := (hb3.block P (Array.getElem?_eq_some_iff.1 HC2.out).1).trans HC2.out
 have HC3 := Lib.hid hC3
 have cp := (one_cell hC3).1
 have HTz0 := Lib.hid (below_touch HT2.out hb3)
 clear hb3 HZ hR3 hC3
 by_cases hok : bitsOk b = true
 ·rw [if_pos hok] at hcase
  obtain ⟨B, hBge, rfl, hbits⟩ := hcase
  have HBits := Lib.hid hbits
  have HBge := Lib.hid hBge
  obtain ⟨nb, hnb⟩ : ∃ nb, bitsN b = nb := ⟨_, rfl⟩
  have hnb0 : 0 ≤ nb ∧ nb ≤ 65536 ∧ nb < 8 * (b.length : Int) := by
   have h2 := hok
   unfold bitsOk at h2
   simp only [Bool.and_eq_true, decide_eq_true_eq] at h2
   have h3 := tz_b (b.getD (b.length - 1) 0) h2.1.2
   have h4 := List.length_pos_iff.2 h2.1.1
   have h5 : bitsN b = 8 * (b.length : Int) - 1 - (Lib.trailingZeros8 (b.getD (b.length - 1) 0).toNat : Int) := rfl
   rw [← hnb]
   refine ⟨by omega, h2.2, by omega⟩
  rw [hnb] at HBits
  have HNb := Lib.hid hnb0
  have HLf : Hid (∀ k, Calls Tryz.prog 145 #[.pointer (some ⟨B, 0, none⟩)] (w3.drewN k) fun e w' => e = .returned (.int .i64 nb) ∧ ∃ q, w' = (w3.drewN k).drewN q) := Lib.hid fun k => by
   have := left_walk (show RdB (w3.drewN k) B b 0 nb from HBits.out) (by simp; omega) (by omega)
   rw [show nb - ((0 : Nat) : Int) = nb by simp] at this
   exact this
  obtain ⟨T, hT⟩ : ∃ T : Nat, 2 * c * n = T := ⟨_, rfl⟩
  have hcn : c * n ≤ 4096 * 128 := Nat.mul_le_mul (by omega) (by omega)
  have hT2 : 2 * (c : Int) * (n : Int) = (T : Int) := by rw [← hT]; simp
  have hTl : T ≤ 2000000 := by rw [← hT, Nat.mul_assoc]; omega
  have hw1 : IntKind.i64.wrap (2 * (c : Int)) = 2 * (c : Int) := IntWalk.i64_in _ (by omega)
  have hw2 : IntKind.i64.wrap (T : Int) = (T : Int) := IntWalk.i64_in _ (by omega)
  have hw3 : IntKind.i64.wrap (2 * (c : Int) * (n : Int)) = (T : Int) := by rw [hT2]; exact hw2
  have HF2 : Hid (rpF n l er = if e2 = 0 ∧ nb = (T : Int) then (rowsC n b c, true) else ([], false)) := Lib.hid (by
   rw [HF.out]; unfold rpB; rw [hnb, hT2]
   by_cases h : e2 = 0 ∧ nb = (T : Int)
   ·rw [if_pos ⟨h.1, hok, h.2⟩, if_pos h]
   ·rw [if_neg (fun h' => h ⟨h'.1, h'.2.2⟩), if_neg h])
  have HTt : Hid (2 * (c * n) = T) := Lib.hid (by rw [← hT, Nat.mul_assoc])
  clear hok hbits hBge hnb hnb0 hT hcn hTl
  by_cases he2 : e2 = 0
  ·subst he2
   by_cases hnt : nb = (T : Int)
   ·have hne : (nb != (T : Int)) = false := by rw [hnt]; simp
    have HE2 : Hid (rpF n l er = (rowsC n b c, true)) := Lib.hid (by rw [HF2.out, if_pos ⟨rfl, hnt⟩])
    have HNt := Lib.hid hnt
    clear hnt
    go_upto_region 3 with (fail)
    go_quiet (first | (go_at_call 48; refine qeq (HRr.out _)) | (go_at_call 145; refine qdr (HLf.out _)))
    obtain ⟨W, hW⟩ : ∃ W, w3.drewN nq = W := ⟨_, rfl⟩
    have hBW : Below w3.heap.size w3 W := by rw [← hW]; exact below_drewN (.refl _ _) _
    have HBitsW : Hid (RdB W B b 0 nb) := Lib.hid (by rw [← hW]; exact HBits.out)
    have HTz := Lib.hid (below_touch HTz0.out hBW)
    have HB3W := Lib.hid (bstep HB3.out (Nat.le_refl _) hBW)
    rw [hW]
    clear hW hBW cp hw1 hw2 hw3 hne HRr HLf
    obtain ⟨W4, hrun, hrow, hbw⟩ := made_srow W c (by omega)
    obtain ⟨G, hG⟩ : ∃ G, W.heap.size = G := ⟨_, rfl⟩
    rw [hG] at hrun hrow
    have HRow := Lib.hid hrow
    have HGge : Hid (w2.heap.size ≤ G) := Lib.hid (by have := HB3W.out.size; omega)
    have HBits4 : Hid (RdB W4 B b 0 nb) := Lib.hid ((hbw.block B (Array.getElem?_eq_some_iff.1 HBitsW.out).1).trans HBitsW.out)
    have HB24 := Lib.hid (bstep HB3W.out (Nat.le_refl _) hbw)
    have HTz4 := Lib.hid (below_touch HTz.out hbw)
    clear hrow hbw hG
    go_wp2_with fail
    clear hrun
    go_loopw [46] (fun v wr => PrO w2 B G n c nb b v wr) (fun v _ => ((c : Int) - intOf v).toNat)
    case atStart => exact ⟨0, rfl, Nat.zero_le _, by simpa using HBits4.out, by rw [List.take_zero, Nat.sub_zero]; exact HRow.out, HB24.out⟩
    case round =>
     obtain ⟨i, rfl, hi, hI⟩ := hrel
     have HI := Lib.hid hI
     by_cases hlt : i < c
     ·have hii : (i : Int) < c := by omega
      have hCr := (hI.below.block P (Array.getElem?_eq_some_iff.1 HC2.out).1).trans HC2.out
      have cp := (one_cell hCr).1
      obtain ⟨W5, hrun, hrow, hbw, -⟩ := make_bytes n (by omega) wr
      obtain ⟨g, hg⟩ : ∃ g, wr.heap.size = g := ⟨_, rfl⟩
      rw [hg] at hrun hrow
      have HRow5 := Lib.hid hrow
      have HI5 : Hid (PrI w2 B G n c nb b i 0 W5) := Lib.hid ⟨(hbw.block B (Array.getElem?_eq_some_iff.1 hI.bits).1).trans hI.bits, hI.row.mono hbw, bstep hI.below (Nat.le_refl _) hbw⟩
      have HGg : Hid (w2.heap.size ≤ g ∧ B ≠ g ∧ G ≠ g) := Lib.hid ⟨by have := hI.below.size; omega, by have := (Array.getElem?_eq_some_iff.1 hI.bits).1; omega, by have := (Array.getElem?_eq_some_iff.1 hI.row.to).1; omega⟩
      clear hI hCr hrow hbw hg
      go_wp2_with fail
      clear hrun cp
      go_loopw [54] (fun v wr => PrK w2 B G g n c nb b i v wr) (fun v _ => ((n : Int) - intOf v).toNat)
      case atStart => exact ⟨0, rfl, Nat.zero_le _, HI5.out, by rw [List.take_zero, Nat.sub_zero]; exact HRow5.out⟩
      case round =>
       obtain ⟨k, rfl, hk, hIk, hbr⟩ := hrel
       have HIk := Lib.hid hIk
       have HBr := Lib.hid hbr
       by_cases hkn : k < n
       ·have hki : (k : Int) < n := by omega
        obtain ⟨p, hp⟩ : ∃ p, 2 * (i * n + k) = p := ⟨_, rfl⟩
        have hpT : p + 2 ≤ T := by
         have h1 : i * n + n ≤ c * n := by
          have := Nat.mul_le_mul_right n (show i + 1 ≤ c by omega)
          rw [Nat.add_mul, Nat.one_mul] at this; exact this
         have := HTt.out
         omega
        have hbk := hIk.bits
        rw [hp] at hbk
        have hnbT := HNt.out
        have HGt := Lib.hid (get_two hbk (by omega) HNb.out.2.2 (by have := HBl.out; omega))
        obtain ⟨v, hv⟩ : ∃ v, accV b p 2 = v := ⟨_, rfl⟩
        have hv4 : v < 4 := by rw [← hv]; exact accV_lt b p 2
        rw [hv] at HGt
        have HCh := Lib.hid fun w => charN_w v (by omega) w
        have HRg : Hid ((rowC n b i).getD k default = charN v) := Lib.hid (by rw [rowC_get hkn, hp, hv])
        have HPe2 : Hid (p + 2 = 2 * (i * n + (k + 1))) := Lib.hid (by omega)
        clear hIk hbr hp hpT hbk hnbT hv hv4
        go_wp2_with fail
        refine (HGt.out).mono ?_
        rintro x w6 ⟨rfl, hb6, ht6⟩
        have HB6 := Lib.hid hb6
        have HT6 := Lib.hid ht6
        have h6r : V.BRow w6 g ((rowC n b i).take k ++ List.replicate (n - k) 0) := HBr.out.block (ht6.block g HBr.out.lt (Ne.symm HGg.out.2.1))
        have hlen : ((rowC n b i).take k ++ List.replicate (n - k) 0).length = n := by rw [List.length_append, List.length_take, List.length_replicate, rowC_len]; omega
        have g0 := h6r.cell k (by rw [hlen]; exact hkn)
        have gf := h6r.frozen k (by rw [hlen]; exact hkn)
        have hset := h6r.set_ k (by rw [hlen]; exact hkn) (charN v) _ rfl
        have hpg := put_gen (0 : UInt8) (o := rowC n b i) (k := k) (by rw [rowC_len]; exact hkn) (charN v) HRg.out
        rw [rowC_len] at hpg
        rw [hpg] at hset
        have HSet := Lib.hid hset
        have hB6 := below_step HIk.out.below ht6 HBge.out
        have h6G := ht6.block G (Array.getElem?_eq_some_iff.1 HIk.out.row.to).1 (rdb_ne (n := n) HIk.out.bits HIk.out.row.to (by decide)).symm
        have hI7 : PrI w2 B G n c nb b i (k + 1) (w6.setCell ⟨g, k, none⟩ (.int .u8 ((charN v).toNat : Int))) := by
         refine ⟨?_, ?_, hB6.setCell (p := ⟨g, k, none⟩) HGg.out.1 _⟩
         ·have h := hb6
          rw [HPe2.out] at h
          exact (Below.heap_setCell w6 ⟨g, k, none⟩ _ B HGg.out.2.1).trans h
         ·exact (Below.heap_setCell w6 ⟨g, k, none⟩ _ G HGg.out.2.2).trans (h6G.trans HIk.out.row.to)
        have HI7 := Lib.hid hI7
        clear hb6 ht6 h6r hlen hset hpg HGt hB6 h6G hI7
        go_wp2_with fail
        refine (HCh.out _).mono ?_
        rintro x _ ⟨rfl, rfl⟩
        go_wp2_with fail
        go_roundw
        case rel => exact ⟨k + 1, by go_num, by omega, HI7.out, HSet.out⟩
        case measure => simp [intOf]; omega
       ·obtain rfl : k = n := by omega
        have hlk : (rowC k b i).length = k := rowC_len _ _ _
        have htk : (rowC k b i).take k = rowC k b i := List.take_of_length_le (by omega)
        rw [htk, Nat.sub_self, List.replicate_zero, List.append_nil] at hbr
        have hstr := hbr.str k k hlk.symm
        have hrl : (rowsC k b c).length = c := rowsC_len _ _ _
        have hrow := hIk.row
        have g0 := hrow.cell (i := i) (by rw [List.length_append, List.length_take, List.length_replicate, hrl]; omega)
        have gf := hrow.fr i
        have hset := hrow.set i (rowC k b i)
        have hpg := put_gen ([] : Str) (o := rowsC k b c) (k := i) (by rw [hrl]; exact hlt) (rowC k b i) (rowsC_get hlt)
        rw [hrl] at hpg
        rw [hpg] at hset
        have HSet := Lib.hid hset
        have HBi : Hid (RdB (wr.setCell ⟨G, i, none⟩ (.string (sB (rowC k b i)))) B b (2 * ((i + 1) * k + 0)) nb) := Lib.hid (by
         have h := hIk.bits
         rw [show i * k + k = (i + 1) * k + 0 by rw [Nat.add_mul, Nat.one_mul]; rfl] at h
         exact (Below.heap_setCell wr ⟨G, i, none⟩ _ B (rdb_ne (n := k) hIk.bits hIk.row.to (by decide))).trans h)
        have HBe : Hid (Below w2.heap.size w2 (wr.setCell ⟨G, i, none⟩ (.string (sB (rowC k b i))))) := Lib.hid (hIk.below.setCell (p := ⟨G, i, none⟩) HGge.out _)
        have hsb : (⟨(rowC k b i).toArray⟩ : ByteArray) = sB (rowC k b i) := rfl
        rw [hsb] at hstr
        clear hIk hbr hlk htk hrl hrow hset hpg hsb
        go_wp2_with fail
        go_roundw
        case rel => exact ⟨i + 1, by go_num, by omega, ⟨HBi.out, HSet.out, HBe.out⟩⟩
        case measure => simp [intOf]; omega
     ·obtain rfl : i = c := by omega
      have hr := hI.row
      have hrl := rowsC_len n b i
      rw [List.take_of_length_le (by omega), Nat.sub_self, List.replicate_zero, List.append_nil] at hr
      have HRr := Lib.hid hr
      have HRl := Lib.hid hrl
      have HTf := Lib.hid (below_touch HT2.out hI.below)
      clear hI hr hrl
      go_wp2_with fail
      refine bodyPost_ret (results_tmp2 rfl _ _ _) rfl ?_
      rw [HE2.out]
      exact ⟨HTf.out, some ⟨G, 0, none⟩, i, by rw [HRl.out]; rfl, srow_in HRr.out⟩
   ·have hne : (nb != (T : Int)) = true := bne_iff_ne.2 hnt
    have HE2 : Hid (rpF n l er = ([], false)) := Lib.hid (by rw [HF2.out, if_neg (fun h => hnt h.2)])
    clear hnt
    go_upto_region 3 with (fail)
    go_quiet (first | (go_at_call 48; refine qeq (HRr.out _)) | (go_at_call 145; refine qdr (HLf.out _)))
    have HTz := Lib.hid (below_touch HTz0.out (below_drewN (.refl _ _) nq))
    clear hw1 hw2 hw3
    go_wp2_with fail
    refine bodyPost_ret (results_tmp2 rfl _ _ _) rfl ?_
    rw [HE2.out]
    exact rpP_nil HTz.out
  ·have hen := errne he2
   have HE2 : Hid (rpF n l er = ([], false)) := Lib.hid (by rw [HF2.out, if_neg (fun h => he2 h.1)])
   clear he2
   go_upto_region 3 with (fail)
   go_quiet (first | (go_at_call 48; refine qeq (HRr.out _)) | (go_at_call 145; refine qdr (HLf.out _)))
   have HTz := Lib.hid (below_touch HTz0.out (below_drewN (.refl _ _) nq))
   clear hw1 hw2 hw3
   go_wp2_with fail
   refine bodyPost_ret (results_tmp2 rfl _ _ _) rfl ?_
   rw [HE2.out]
   exact rpP_nil HTz.out
 ·rw [if_neg hok] at hcase
  subst hcase
  have HE2 : Hid (rpF n l er = ([], false)) := Lib.hid (by rw [HF.out]; unfold rpB; rw [if_neg (fun h => hok h.2.1)])
  clear hok
  by_cases he2 : e2 = 0
  ·subst he2
   go_upto_region 3 with (fail)
   go_quiet (first | (go_at_call 48; refine qeq (HRr.out _)))
   have HTz := Lib.hid (below_touch HTz0.out (below_drewN (.refl _ _) nq))
   go_wp2_with fail
   refine bodyPost_ret (results_tmp2 rfl _ _ _) rfl ?_
   rw [HE2.out]
   exact rpP_nil HTz.out
  ·have hen := errne he2
   clear he2
   go_upto_region 3 with (fail)
   go_quiet (first | (go_at_call 48; refine qeq (HRr.out _)))
   have HTz := Lib.hid (below_touch HTz0.out (below_drewN (.refl _ _) nq))
   go_wp2_with fail
   refine bodyPost_ret (results_tmp2 rfl _ _ _) rfl ?_
   rw [HE2.out]
   exact rpP_nil HTz.out
end Go.Proofs.YtlmjefjimoghcaaGreat
