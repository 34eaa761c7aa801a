/- A part of the proofs of TopCounter and TopStrict: what the functions of the program do, each walked once, and plain laws about it. No condition. -/
import Derived.Test.YtlmjefjimoghcaaGreatA43
import Derived.Test.YtlmjefjimoghcaaGreatA20
namespace Go.Proofs.YtlmjefjimoghcaaGreat
set_option linter.unusedSimpArgs false
set_option linter.unnecessarySimpa false
set_option linter.unusedVariables false
open Go.RowKit
attribute [local go_sem ↓] Go.wp_at_zero Go.wp_at_succ
/-- what Parse keeps from place to place -/
structure PaB (w0 w : World) (T C G : Nat) (best : List Stp) : Prop where
 ct : w.heap[T]? = some (.cells #[.slice (some ⟨G, 0, none⟩) best.length best.length] 185 (0, 0))
 cc : w.heap[C]? = some (.cells #[.int .i64 9, .int .i64 12, .int .i64 1, .int .i64 1] 152 (0, 0))
 row : SpRow w G best
 gT : w0.heap.size ≤ T
 gG : w0.heap.size ≤ G
 below : Below w0.heap.size w0 w
theorem PaB.mono {w0 w w' : World} {T C G : Nat} {best : List Stp} (h : PaB w0 w T C G best) (hb : Below w.heap.size w w') : PaB w0 w' T C G best := by
 have k : ∀ g o, w.heap[g]? = some o → w'.heap[g]? = some o := fun g o h => (hb.block g (Array.getElem?_eq_some_iff.1 h).1).trans h
 exact ⟨k _ _ h.ct, k _ _ h.cc, h.row.mono hb, h.gT, h.gG, bstep h.below (Nat.le_refl _) hb⟩
def Pa1 (w0 : World) (T C G : Nat) (s : List UInt8) (v : Value) (wr : World) : Prop := ∃ (I j : Nat), v = .pointer (some ⟨I, 0, none⟩) ∧ j ≤ s.length ∧ w0.heap.size ≤ I ∧ wr.heap[I]? = some (.cells #[.int .i64 ((s.length : Int) - 1 - (j : Int))] 3 (0, 0)) ∧ PaB w0 wr T C G (bestP s j)
def Pa2 (wc : World) (T I C S G i n : Nat) (L : List (Nat × Nat)) (best0 : List Stp) (v : Value) (wr : World) : Prop := ∃ (k : Nat) (st : Bool × List Stp), ((k = 0 ∧ v = .int .i64 (-1)) ∨ ∃ q : Nat, k = q + 1 ∧ v = .int .i64 (q : Int)) ∧ k ≤ L.length ∧ runK i L L.length (false, best0) = runK i L k st ∧ PaO wr T I C S G i st ∧ Tr n i best0 st ∧ Touch (fun k => k = G ∨ k = S) wc wr
def Pa3 (wc : World) (T I C S G i n d lo : Nat) (best0 : List Stp) (R : Bool × List Stp) (v : Value) (wr : World) : Prop := ∃ (m : Nat) (st : Bool × List Stp), v = .int .i64 (m : Int) ∧ m ≤ 273 ∧ i + m ≤ n ∧ R = runN i d lo m st ∧ PaO wr T I C S G i st ∧ Tr n i best0 st ∧ Touch (fun k => k = G ∨ k = S) wc wr
def mPa (v : Value) (wr : World) : Nat := match v with
 | .pointer (some a) => (match wr.cell? a with
  | some (.int _ t) => (t + 1).toNat
  | _ => 0)
 | _ => 0
theorem mPa_eq {wr : World} {I : Nat} {t : Int} (h : wr.heap[I]? = some (.cells #[.int .i64 t] 3 (0, 0))) : mPa (.pointer (some ⟨I, 0, none⟩)) wr = (t + 1).toNat := by
 show (match wr.cell? ⟨I, 0, none⟩ with
  | some (.int _ t) => (t + 1).toNat
  | _ => 0) = _
 rw [(one_cell h).1]
theorem candG_len {s : List UInt8} {i m : Nat} (hm : m ≤ 4096) : ∀ (k : Nat) (st : Nat × List (Nat × Nat)), st.2.length + 1 ≤ st.1 → st.1 ≤ 4096 → (candG s i m k st).2.length ≤ 4096
 | 0, st, h, hb => by unfold candG; omega
 | k + 1, st, h, hb => by
  have hc := candS_b (s := s) (i := i) (m := m) (j := k) (b := st.1) (out := st.2) hm h hb
  unfold candG
  split
  ·exact candG_len hm k _ hc.1 hc.2
  ·have := hc.1
   have := hc.2
   show (candS s i m (st.1, st.2) k).2.2.length ≤ 4096
   omega
theorem candL_len (s : List UInt8) (i : Nat) : (candL s i).length ≤ 4096 := candG_len (by omega) i (1, []) (by simp) (by omega)
def Pa4 (w0 : World) (n : Nat) (best : List Stp) (R : List Pc) (v u : Value) (wr : World) : Prop := ∃ (i : Nat) (xs : List Pc), u = .int .i64 (i : Int) ∧ i ≤ n ∧ xs.length ≤ i ∧ OwnR w0 97 3 v xs.length (pcs3 xs) wr ∧ R = xs ++ outP n best (n - i) i ∧ Below w0.heap.size w0 wr
theorem flat_rp {w' : World} {T : Nat → Prop} {A : Option Addr} {l : List (Nat × Nat)} (h : Flat w' T A (rcells l)) {k : Nat} (hk : k < l.length) : ∃ a, A = some a ∧ w'.cell? (a.add (k * 2)) = some (.int .i64 ((l.getD k default).1 : Int)) ∧ w'.cell? ⟨(a.add (k * 2)).block, (a.add (k * 2)).off + 1, none⟩ = some (.int .i64 ((l.getD k default).2 : Int)) := by
 obtain ⟨h1, h2⟩ := rp_get hk
 obtain ⟨a, e1, _, c1⟩ := h _ _ h1
 obtain ⟨a2, e2, _, c2⟩ := h _ _ h2
 rw [e1] at e2; injection e2 with e2
 refine ⟨a, e1, c1, ?_⟩
 rw [add_succ a (k * 2) 1 (by decide), e2]
 exact c2
def ParP (w : World) (s : List UInt8) (x : Ending) (w' : World) : Prop := ∃ A c, x = .returned (.tuple #[.slice A (piecesF s).length c, .int .i64 0]) ∧ InPc w' A (piecesF s) ∧ Below w.heap.size w w'
set_option maxRecDepth 100000 in
set_option maxHeartbeats 4000000 in
theorem parse_walk (s : List UInt8) (hs : s.length ≤ 4096) (w : World) : Calls Tryz.prog 95 #[costV, .string (sB s), .int .i64 4096] w fun x w' => ParP w s x w' := by
 have HVc := Lib.hid fun w => vcost_walk w
 unfold costV at HVc ⊢
 have HVw := Lib.hid fun w => vwin_walk w
 have hsz := sB_size s
 obtain ⟨n, hn⟩ : ∃ n, s.length = n := ⟨_, rfl⟩
 rw [hn] at hsz hs
 have hni : (n : Int) ≤ 4096 := by omega
 have hdec : decide (4096 < (n : Int)) = false := by simp; omega
 have HN := Lib.hid hn
 have HNl := Lib.hid hs
 clear hn hs
 obtain ⟨W0, hW0⟩ : ∃ W, w.alloc (.cells #[.int .i64 9, .int .i64 12, .int .i64 1, .int .i64 1] 152) = W := ⟨_, rfl⟩
 have hb0 : Below w.heap.size w W0 := by rw [← hW0]; exact (Below.refl _ _).alloc (Nat.le_refl _) _
 obtain ⟨C, hC⟩ : ∃ C, w.heap.size = C := ⟨_, rfl⟩
 have hcc : W0.heap[C]? = some (.cells #[.int .i64 9, .int .i64 12, .int .i64 1, .int .i64 1] 152 (0, 0)) := by rw [← hW0, ← hC]; exact heap_alloc_new _ _
 have HCc := Lib.hid hcc
 have HB0 := Lib.hid hb0
 have HW0 := Lib.hid hW0
 have HCe := Lib.hid hC
 have c0 : W0.cell? ⟨C, 0, none⟩ = some (.int .i64 9) := by rw [cell_of_row W0 _ 0 _ _ _ hcc]; rfl
 have c1 : W0.cell? ⟨C, 1, none⟩ = some (.int .i64 12) := by rw [cell_of_row W0 _ 1 _ _ _ hcc]; rfl
 have c2 : W0.cell? ⟨C, 2, none⟩ = some (.int .i64 1) := by rw [cell_of_row W0 _ 2 _ _ _ hcc]; rfl
 have c3 : W0.cell? ⟨C, 3, none⟩ = some (.int .i64 1) := by rw [cell_of_row W0 _ 3 _ _ _ hcc]; rfl
 clear hcc hb0 hW0 hC
 go_enter Tryz.func95, Tryz.ntmps95
 go_upto_region 1 with (fail)
 rw [HW0.out, HCe.out]
 go_wp2_with fail
 refine (HVc.out _).mono ?_
 rintro x w1 ⟨rfl, hb1⟩
 have HB1 := Lib.hid (bstep HB0.out (Nat.le_refl _) hb1)
 have HC1 := Lib.hid ((hb1.block C (Array.getElem?_eq_some_iff.1 HCc.out).1).trans HCc.out)
 clear hb1 c0 c1 c2 c3
 go_wp2_with fail
 refine (HVw.out _).mono ?_
 rintro x w2 ⟨rfl, hb2⟩
 have HB2 := Lib.hid (bstep HB1.out (Nat.le_refl _) hb2)
 have HC2 := Lib.hid ((hb2.block C (Array.getElem?_eq_some_iff.1 HC1.out).1).trans HC1.out)
 clear hb2
 obtain ⟨W3, hrun, hrow, hbw, hsz3⟩ := made_sprow w2 (n + 1) (by have := HNl.out; omega)
 have hrun' : (Instr.makeSlice 185 (.int .i64 ((n : Int) + 1)) (.int .i64 ((n : Int) + 1))).run Tryz.prog w2 = .ok (.slice (some ⟨w2.heap.size, 0, none⟩) (n + 1) (n + 1)) W3 := hrun
 have HRow := Lib.hid hrow
 have HB3 := Lib.hid (bstep HB2.out (Nat.le_refl _) hbw)
 have HC3 := Lib.hid ((hbw.block C (Array.getElem?_eq_some_iff.1 HC2.out).1).trans HC2.out)
 obtain ⟨G, hG⟩ : ∃ G, w2.heap.size = G := ⟨_, rfl⟩
 rw [hG] at hrun' HRow
 have HGe : Hid (w.heap.size ≤ G) := Lib.hid (by have := HB2.out.size; omega)
 clear hrun hrow hbw hsz3 hG
 go_wp2_with fail
 obtain ⟨T, hT⟩ : ∃ T, W3.heap.size = T := ⟨_, rfl⟩
 obtain ⟨W5, hW5⟩ : ∃ W, (W3.alloc (.cells #[.slice (some ⟨G, 0, none⟩) (n + 1) (n + 1)] 185)).alloc (.cells #[.int .i64 ((n : Int) - 1)] 3) = W := ⟨_, rfl⟩
 have h45 : Below W3.heap.size W3 W5 := by rw [← hW5]; exact ((Below.refl _ _).alloc (Nat.le_refl _) _).alloc (by simp) _
 have hct : W5.heap[T]? = some (.cells #[.slice (some ⟨G, 0, none⟩) (n + 1) (n + 1)] 185 (0, 0)) := by
  rw [← hW5, ← hT]; exact (Below.heap_alloc _ _ _ (by rw [World.size_alloc]; omega)).trans (heap_alloc_new _ _)
 have hci : W5.heap[T + 1]? = some (.cells #[.int .i64 ((n : Int) - 1)] 3 (0, 0)) := by
  have := heap_alloc_new (W3.alloc (.cells #[.slice (some ⟨G, 0, none⟩) (n + 1) (n + 1)] 185)) (.cells #[.int .i64 ((n : Int) - 1)] 3)
  rw [World.size_alloc, hT] at this
  rw [← hW5]; exact this
 rw [hW5, hT]
 have HStart : Hid (Pa1 w T C G s (.pointer (some ⟨T + 1, 0, none⟩)) W5) := Lib.hid (by
  have hTs : w.heap.size ≤ T := by have := HB3.out.size; omega
  refine ⟨T + 1, 0, rfl, Nat.zero_le _, by omega, ?_, ?_, ?_, ?_, hTs, HGe.out, bstep HB3.out (Nat.le_refl _) h45⟩
  ·rw [HN.out]; simpa using hci
  ·rw [show (bestP s 0).length = n + 1 by simp [bestP, HN.out]]; exact hct
  ·exact (h45.block C (Array.getElem?_eq_some_iff.1 HC3.out).1).trans HC3.out
  ·have := HRow.out.mono h45
   rw [← HN.out] at this
   exact this)
 obtain ⟨I0, hI0⟩ : ∃ I0, T + 1 = I0 := ⟨_, rfl⟩
 rw [hI0] at HStart ⊢
 clear h45 hct hci hW5 hT hrun' hI0
 go_loopw [9] (fun v wr => Pa1 w T C G s v wr) (fun v wr => mPa v wr)
 case atStart => exact HStart.out
 case round =>
  obtain ⟨I, j, rfl, hj, hI, hci, hB⟩ := hrel
  have HI := Lib.hid hI
  have HCi := Lib.hid hci
  have HB := Lib.hid hB
  rw [HN.out] at hj
  have hlen := HN.out
  have HFj := Lib.hid (fin_all s j (by omega))
  by_cases hlt : j < n
  ·obtain ⟨i, hi⟩ : ∃ i, i + j + 1 = n := ⟨n - 1 - j, by omega⟩
   have hii : (s.length : Int) - 1 - (j : Int) = (i : Int) := by omega
   rw [hii] at hci
   have ki := (one_cell hci).1
   have hi0 : (0 : Int) ≤ i := by omega
   have hin : (i : Int) < n := by omega
   have HIj := Lib.hid hi
   obtain ⟨Wa, hWa⟩ : ∃ W, wr.alloc (.cells #[.bool false] 4) = W := ⟨_, rfl⟩
   have hba : Below wr.heap.size wr Wa := by rw [← hWa]; exact (Below.refl _ _).alloc (Nat.le_refl _) _
   obtain ⟨S, hS⟩ : ∃ S, wr.heap.size = S := ⟨_, rfl⟩
   have hcs : Wa.heap[S]? = some (.cells #[.bool false] 4 (0, 0)) := by rw [← hWa, ← hS]; exact heap_alloc_new _ _
   have hBa := hB.mono hba
   have hia := (hba.block I (Array.getElem?_eq_some_iff.1 hci).1).trans hci
   have kia := (one_cell hia).1
   have HSg : Hid (w.heap.size ≤ S) := Lib.hid (by have := hB.below.size; omega)
   have HOa : Hid (PaO Wa T I C S G i (false, bestP s j)) := Lib.hid ⟨hBa.ct, hia, hBa.cc, hcs, hBa.row⟩
   have HBa := Lib.hid hBa.below
   have HWa := Lib.hid hWa
   have HSe := Lib.hid hS
   have hil : i ≤ s.length := by omega
   have hs4 : s.length ≤ 4096 := by have := HNl.out; omega
   have HCa := Lib.hid (cand_walk s hs4 i hil Wa)
   have hLl := candL_len s i
   have HLk := Lib.hid (candL_ok (s := s) (i := i) hil)
   obtain ⟨L, hL⟩ : ∃ L, candL s i = L := ⟨_, rfl⟩
   rw [hL] at HCa HLk hLl
   have hL4 : (L.length : Int) ≤ 4096 := by omega
   have HLe := Lib.hid hL
   obtain ⟨best0, hbe⟩ : ∃ b, bestP s j = b := ⟨_, rfl⟩
   rw [hbe] at HOa HFj
   have HBe := Lib.hid hbe
   clear hii hi hba hcs hBa hia hWa hS hil hs4 hL hbe hci hB hI hj hlen hlt hLl
   go_upto_region 10 with (fail)
   rw [HWa.out, HSe.out]
   clear ki
   go_wp2_with fail
   refine (HCa.out).mono ?_
   rintro x w5 ⟨A, c, rfl, hfl, hb5⟩
   have HFl := Lib.hid hfl
   have HO5 := Lib.hid (HOa.out.mono hb5)
   have HB5 := Lib.hid (bstep HBa.out (Nat.le_refl _) hb5)
   have HGS : Hid (G < Wa.heap.size ∧ S < Wa.heap.size) := Lib.hid ⟨(Array.getElem?_eq_some_iff.1 HOa.out.row.to).1, (Array.getElem?_eq_some_iff.1 HOa.out.cs).1⟩
   have HFt : Hid (∀ W, Touch (fun k => k = G ∨ k = S) w5 W → Flat W (fun k => Wa.heap.size ≤ k ∧ k < w5.heap.size) A (rcells L)) := Lib.hid fun W ht => HFl.out.frame fun k hk _ => ht.block k hk.2 (by rintro (e | e) <;> (have := HGS.out; omega))
   clear hfl hb5 kia HCa
   go_wp2_with fail
   have HTr0 : Hid (Tr n i best0 (false, best0)) := Lib.hid (by have := fin_tr HFj.out i; rw [HN.out] at this; exact this)
   go_loopw [13] (fun v wr => Pa2 w5 T I C S G i n L best0 v wr) (fun v _ => (intOf v + 1).toNat)
   case atStart =>
    refine ⟨L.length, (false, best0), ?_, Nat.le_refl _, rfl, HO5.out, HTr0.out, .refl _ _⟩
    rcases hq : L.length with _ | q
    ·exact .inl ⟨rfl, rfl⟩
    ·exact .inr ⟨q, rfl, by congr 1; omega⟩
   case round =>
    obtain ⟨k, st, hkv, hk, he, hO, htr, ht⟩ := hrel
    have HE := Lib.hid he
    have HO := Lib.hid hO
    have HTr := Lib.hid htr
    have HTt := Lib.hid ht
    have hfl := HFt.out wr ht
    rcases hkv with ⟨rfl, rfl⟩ | ⟨q, rfl, rfl⟩
    ·clear he hO htr ht hk hfl
     have hlen2 : st.2.length = n + 1 := HTr.out.bd.len
     have hn4 := HNl.out
     have hij := HIj.out
     have hbb := HTr.out.bd.b (i + 1) (by omega)
     obtain ⟨y, hy⟩ : ∃ y, gB s i = y := ⟨_, rfl⟩
     have HT0 := try_walk HO.out 1 0 y.toNat (by omega) (by omega) (by omega) (by omega) (by omega) (by omega)
     unfold pieceV at HT0
     rw [show ((0 : Nat) : Int) = 0 from rfl, show ((1 : Nat) : Int) = 1 from rfl] at HT0
     have HTy := Lib.hid HT0
     have hts := HTr.out.step (l := 1) (d := 0) (b := y.toNat) (by omega) (by omega) (by omega) (by omega) y.toNat_lt (.inl rfl)
     have hfin := fin_step (j := j) (best0 := best0) (by have := HFj.out; rw [HN.out] at this; exact this) hij hts.1 hts.2
     have hst : bestP s (j + 1) = (tryF i 1 0 y.toNat st).2 := by
      show stepI s (bestP s j) (s.length - (j + 1)) = _
      have e1 : s.length - (j + 1) = i := by rw [HN.out]; omega
      have e2 := HE.out
      unfold stepI
      rw [e1, HBe.out, HLe.out, hy, e2]; rfl
     have G0 := sB_at (s := s) (i := i) (by rw [HN.out]; omega)
     rw [hy] at G0
     have HSt := Lib.hid hst
     have ki := (one_cell HO.out.ci).1
     have HTb : Hid (Below w.heap.size w wr) := Lib.hid (HB5.out.trans (HTt.out.below _ HB5.out.size fun k hk => by rcases hk with rfl | rfl; exact HB.out.gG; exact HSg.out))
     clear hlen2 hn4 hij hbb HT0 hts hfin hst hy
     go_wp2_with fail
     refine (HTy.out).mono ?_
     rintro x w6 ⟨rfl, hO6, ht6⟩
     have ki6 := (one_cell hO6.ci).1
     have HO6 := Lib.hid hO6
     have HB6 := Lib.hid (HTb.out.trans (ht6.below _ HTb.out.size fun k hk => by rcases hk with rfl | rfl; exact HB.out.gG; exact HSg.out))
     clear hO6 ht6 HTy ki
     go_wp2_with fail
     go_roundw
     case rel =>
      refine ⟨w6.heap.size, j + 1, rfl, by have := HIj.out; have := HN.out; omega, HB6.out.size, ?_, ?_⟩
      ·rw [heap_alloc_new, show (s.length : Int) - 1 - ((j + 1 : Nat) : Int) = (i : Int) - 1 by have := HIj.out; have := HN.out; omega]
      ·have hb := (Below.refl w6.heap.size w6).alloc (Nat.le_refl _) (.cells #[.int .i64 ((i : Int) - 1)] 3)
       have h6 := HO6.out.mono hb
       rw [HSt.out]
       exact ⟨h6.ct, h6.cc, h6.row, HB.out.gT, HB.out.gG, bstep HB6.out (Nat.le_refl _) hb⟩
     case measure =>
      rw [mPa_eq HCi.out, mPa_eq (heap_alloc_new _ _)]
      have := HIj.out
      have := HN.out
      omega
    ·have hqL : q < L.length := by omega
     obtain ⟨a, rfl, p0, p1⟩ := flat_rp hfl hqL
     have hc := HLk.out _ (List.mem_of_getElem? (get_default hqL))
     obtain ⟨⟨h, d⟩, hp⟩ : ∃ p, L.getD q default = p := ⟨_, rfl⟩
     rw [hp] at p0 p1 hc
     obtain ⟨lo, hlo⟩ : ∃ lo, loK L q = lo := ⟨_, rfl⟩
     have hlp := loK_pos HLk.out hqL
     rw [hlo] at hlp
     have HRk : Hid (runK i L (q + 1) st = runK i L q (runN i d lo h st)) := Lib.hid (by rw [← hlo]; show runK i L q (runN i (L.getD q default).2 (loK L q) (L.getD q default).1 st) = _; rw [hp])
     have HP1 : Hid (∀ W, Touch (fun k => k = G ∨ k = S) w5 W → W.cell? ⟨(a.add (q * 2)).block, (a.add (q * 2)).off + 1, none⟩ = some (.int .i64 (d : Int))) := Lib.hid fun W hW => by
      obtain ⟨a', ha', _, p1'⟩ := flat_rp (HFt.out W hW) hqL
      injection ha' with ha'
      subst ha'
      rw [hp] at p1'
      exact p1'
     have hqi : (q : Int) < L.length := by omega
     have HC2 := Lib.hid hc
     have HLp := Lib.hid hlp
     have HQL := Lib.hid hqL
     have hlw : (q = 0 ∧ lo = 1) ∨ ∃ r, q = r + 1 ∧ wr.cell? (a.add (r * 2)) = some (.int .i64 (lo : Int)) := by
      rcases q with _ | r
      ·exact .inl ⟨rfl, hlo.symm⟩
      ·refine .inr ⟨r, rfl, ?_⟩
       obtain ⟨a', ha', p0', _⟩ := flat_rp hfl (show r < L.length by omega)
       injection ha' with ha'
       subst ha'
       rw [p0', ← hlo]; rfl
     clear he hO htr ht hk hfl hc hp hlo hlp hqL
     rcases hlw with ⟨rfl, rfl⟩ | ⟨r, hr, pl⟩
     ·have ea : a.add (0 * 2) = a := by simp [Addr.add]
      rw [ea] at p0 p1 HP1
      clear ea
      have HP1g := HP1
      go_wp2_with fail
      go_loopw [15] (fun v wr => Pa3 w5 T I C S G i n d 1 best0 (runN i d 1 h st) v wr) (fun v _ => (intOf v).toNat)
      case atStart => exact ⟨h, st, rfl, HC2.out.2.1, by have := HC2.out.2.2.1; rw [HN.out] at this; exact this, rfl, HO.out, HTr.out, HTt.out⟩
      case round =>
       obtain ⟨m, st2, rfl, hm, him, hR, hO2, htr2, ht2⟩ := hrel
       by_cases hlt : 1 < m
       ·have hmi : (1 : Int) < m := by omega
        have pd := HP1g.out _ ht2
        have hc2 := HC2.out
        have hlen2 : st2.2.length = n + 1 := htr2.bd.len
        have hbb := htr2.bd.b (i + m) him
        have hn4 := HNl.out
        have HT0 := try_walk hO2 m d 0 (by omega) (by have := hc2.2.2.2.2; simp only at this; omega) (by omega) (by omega) (by omega) (by omega)
        unfold pieceV at HT0
        rw [show ((0 : Nat) : Int) = 0 from rfl] at HT0
        have HTy := Lib.hid HT0
        have HTs := Lib.hid (htr2.step (l := m) (d := d) (b := 0) (by omega) him hm (by have := hc2.2.2.2.2; simp only at this; omega) (by decide) (.inr (by have := HLp.out.1; omega))).1
        obtain ⟨m', hm'⟩ : ∃ m', m = m' + 1 := ⟨m - 1, by omega⟩
        have HRm : Hid (runN i d 1 h st = runN i d 1 m' (tryF i m d 0 st2)) := Lib.hid (by rw [hR, hm']; show (if 1 < m' + 1 then _ else _) = _; rw [if_pos (by omega)])
        have HMe := Lib.hid hm'
        have hmm : (m : Int) - 1 = (m' : Int) := by omega
        have hmb' : (m' : Int) ≤ 273 := by omega
        have HTt2 := Lib.hid ht2
        have HMb : Hid (m' ≤ 273 ∧ i + m' ≤ n) := Lib.hid ⟨by omega, by omega⟩
        clear hR hO2 htr2 ht2 hc2 hlen2 hbb HT0 hm' hm him hn4
        go_wp2_with fail
        refine (HTy.out).mono ?_
        rintro x w6 ⟨rfl, hO6, ht6⟩
        have HO6 := Lib.hid hO6
        have HT6 := Lib.hid (HTt2.out.trans ht6 fun _ _ h => h)
        clear hO6 ht6 HTy pd
        go_wp2_with fail
        go_roundw
        case rel => exact ⟨m', _, by go_num, HMb.out.1, HMb.out.2, HRm.out, HO6.out, HTs.out, HT6.out⟩
        case measure => (simp [intOf]; have := HMe.out; omega)
       ·have hmi : ¬ (1 : Int) < m := by omega
        have hR2 : runN i d 1 h st = st2 := by rw [hR]; exact runN_stop i d 1 st2 m (by omega)
        have HRf : Hid (runK i L L.length (false, best0) = runK i L 0 st2) := Lib.hid (by rw [HE.out, HRk.out, hR2])
        have HO6 := Lib.hid hO2
        have HTs := Lib.hid htr2
        have HT6 := Lib.hid ht2
        clear hR hO2 htr2 ht2 hR2 hm him
        go_wp2_with fail
        go_roundw
        case rel =>
         refine ⟨0, st2, ?_, by have := HQL.out; omega, HRf.out, HO6.out, HTs.out, HT6.out⟩
         first
         | exact .inl ⟨rfl, rfl⟩
         | exact .inr ⟨r, HQr.out, by go_num⟩
        case measure => (simp [intOf]; try omega)
     ·have hqr : (q : Int) - 1 = (r : Int) := by omega
      have hq0 : (0 : Int) < q := by omega
      have hrl : (r : Int) < L.length := by omega
      have HQr := Lib.hid hr
      clear hr
      have HP1g := HP1
      go_wp2_with fail
      go_loopw [15] (fun v wr => Pa3 w5 T I C S G i n d lo best0 (runN i d lo h st) v wr) (fun v _ => (intOf v).toNat)
      case atStart => exact ⟨h, st, rfl, HC2.out.2.1, by have := HC2.out.2.2.1; rw [HN.out] at this; exact this, rfl, HO.out, HTr.out, HTt.out⟩
      case round =>
       obtain ⟨m, st2, rfl, hm, him, hR, hO2, htr2, ht2⟩ := hrel
       by_cases hlt : lo < m
       ·have hmi : (lo : Int) < m := by omega
        have pd := HP1g.out _ ht2
        have hc2 := HC2.out
        have hlen2 : st2.2.length = n + 1 := htr2.bd.len
        have hbb := htr2.bd.b (i + m) him
        have hn4 := HNl.out
        have HT0 := try_walk hO2 m d 0 (by omega) (by have := hc2.2.2.2.2; simp only at this; omega) (by omega) (by omega) (by omega) (by omega)
        unfold pieceV at HT0
        rw [show ((0 : Nat) : Int) = 0 from rfl] at HT0
        have HTy := Lib.hid HT0
        have HTs := Lib.hid (htr2.step (l := m) (d := d) (b := 0) (by omega) him hm (by have := hc2.2.2.2.2; simp only at this; omega) (by decide) (.inr (by have := HLp.out.1; omega))).1
        obtain ⟨m', hm'⟩ : ∃ m', m = m' + 1 := ⟨m - 1, by omega⟩
        have HRm : Hid (runN i d lo h st = runN i d lo m' (tryF i m d 0 st2)) := Lib.hid (by rw [hR, hm']; show (if lo < m' + 1 then _ else _) = _; rw [if_pos (by omega)])
        have HMe := Lib.hid hm'
        have hmm : (m : Int) - 1 = (m' : Int) := by omega
        have hmb' : (m' : Int) ≤ 273 := by omega
        have HTt2 := Lib.hid ht2
        have HMb : Hid (m' ≤ 273 ∧ i + m' ≤ n) := Lib.hid ⟨by omega, by omega⟩
        clear hR hO2 htr2 ht2 hc2 hlen2 hbb HT0 hm' hm him hn4
        go_wp2_with fail
        refine (HTy.out).mono ?_
        rintro x w6 ⟨rfl, hO6, ht6⟩
        have HO6 := Lib.hid hO6
        have HT6 := Lib.hid (HTt2.out.trans ht6 fun _ _ h => h)
        clear hO6 ht6 HTy pd
        go_wp2_with fail
        go_roundw
        case rel => exact ⟨m', _, by go_num, HMb.out.1, HMb.out.2, HRm.out, HO6.out, HTs.out, HT6.out⟩
        case measure => (simp [intOf]; have := HMe.out; omega)
       ·have hmi : ¬ (lo : Int) < m := by omega
        have hR2 : runN i d lo h st = st2 := by rw [hR]; exact runN_stop i d lo st2 m (by omega)
        have HRf : Hid (runK i L L.length (false, best0) = runK i L q st2) := Lib.hid (by rw [HE.out, HRk.out, hR2])
        have HO6 := Lib.hid hO2
        have HTs := Lib.hid htr2
        have HT6 := Lib.hid ht2
        clear hR hO2 htr2 ht2 hR2 hm him
        go_wp2_with fail
        go_roundw
        case rel =>
         refine ⟨q, st2, ?_, by have := HQL.out; omega, HRf.out, HO6.out, HTs.out, HT6.out⟩
         first
         | exact .inl ⟨rfl, rfl⟩
         | exact .inr ⟨r, HQr.out, by go_num⟩
        case measure => (simp [intOf]; try omega)
  ·obtain rfl : j = n := by omega
   have hii : (s.length : Int) - 1 - (j : Int) = -1 := by rw [hlen]; omega
   rw [hii] at hci
   have ki := (one_cell hci).1
   clear hci hB hI hj hii hlen hlt
   go_wp2_with fail
   rw [HN.out] at HFj
   have hB := HB.out
   obtain ⟨best, hbe⟩ : ∃ b, bestP s j = b := ⟨_, rfl⟩
   rw [hbe] at hB HFj
   have HPc : Hid (piecesF s = outP j best j 0) := Lib.hid (by unfold piecesF; rw [HN.out, hbe])
   have HBp := Lib.hid hB
   obtain ⟨Wb, hWb⟩ : ∃ W, W = wr := ⟨_, rfl⟩
   subst hWb
   clear hB hbe ki
   go_loopw [16, 17] (fun v u wr => Pa4 Wb j best (piecesF s) v u wr) (fun _ u _ => ((j : Int) - intOf u).toNat)
   case atStart => exact ⟨0, [], rfl, Nat.zero_le _, Nat.zero_le _, .nil _ _ _ _, by rw [HPc.out, Nat.sub_zero]; rfl, .refl _ _⟩
   case round =>
    obtain ⟨i, xs, rfl, hi, hxl, ho, hR, hb⟩ := hrel
    have HO := Lib.hid ho
    have HR := Lib.hid hR
    have HBw := Lib.hid hb
    obtain ⟨A', c', rfl⟩ := row_sl ho.row
    have h1 := HBp.out.mono hb
    have hbl : best.length = j + 1 := HFj.out.bd.len
    by_cases hlt : i < j
    ·have hij : (i : Int) < j := by omega
     have hik : i < best.length := by omega
     have hok := HFj.out.ok i hlt (by omega)
     have hst := outP_step (n := j) (best := best) (fun k hk => (HFj.out.ok k hk (by omega)).1) hlt
     obtain ⟨x0, x1, x2, x3, x4⟩ := h1.row.five hik
     have kt := (one_cell h1.ct).1
     rw [hbl] at kt
     obtain ⟨x, hx⟩ : ∃ x, best.getD i default = x := ⟨_, rfl⟩
     rw [hx] at x2 x3 x4 hok hst
     have hn4 := HNl.out
     obtain ⟨A4, c4, W4, hrun, ho4, hb4, hg4⟩ := push_pc ho hb (by omega) (firstP x)
     have h4 := HBp.out.mono hb4
     have y2 := (h4.row.five hik).2.2.1
     rw [hx] at y2
     have kt4 := (one_cell h4.ct).1
     rw [hbl] at kt4
     have HO4 : Hid (OwnR Wb 97 3 (.slice A4 (xs.length + 1) c4) (xs.length + 1) (pcs3 (xs ++ [firstP x])) W4) := Lib.hid ho4
     have HB4 := Lib.hid hb4
     have hrun2 : (Builtin.append_ #[87, 87] 87 #[.slice A' xs.length c', .slice (some ⟨wr.heap.size, 0, none⟩) 1 1]).run Tryz.prog (wr.alloc (.cells #[.int .i64 (x.len : Int), .int .i64 (x.dst : Int), .int .u8 (x.byt : Int)] 97)) = .ok (.slice A4 (xs.length + 1) c4) W4 := hrun
     have HRUN := Lib.hid hrun2
     have hxj : (i : Int) + (x.len : Int) ≤ j := by have := hok.2.1; omega
     have HSt : Hid (piecesF s = (xs ++ [firstP x]) ++ outP j best (j - (i + x.len)) (i + x.len)) := Lib.hid (by rw [HR.out, hst]; simp)
     have HX1 : Hid (1 ≤ x.len ∧ i + x.len ≤ j ∧ xs.length ≤ i) := Lib.hid ⟨hok.1, hok.2.1, hxl⟩
     clear ho hR hb h1 hbl hik hok hst x0 x1 hx hrun hrun2 ho4 hb4 hg4 h4 hn4 hxl hi
     go_wp2_with (at_builtin; refine wpList_append_eq rfl _ _ _ rfl _ _ rfl rfl HRUN.out ?_)
     go_roundw
     case rel => exact ⟨i + x.len, xs ++ [firstP x], by go_num, HX1.out.2.1, by rw [List.length_append]; have := HX1.out; simp; omega, by rw [List.length_append]; exact HO4.out, HSt.out, HB4.out⟩
     case measure => (simp [intOf]; have := HX1.out; omega)
    ·have hge : ¬ (i : Int) < j := by omega
     have hR2 : piecesF s = xs := by rw [hR, outP_stop j best _ i hlt, List.append_nil]
     have HR2 := Lib.hid hR2
     have HIn : Hid (InPc wr A' xs) := Lib.hid ((row_flat ho.row).mono fun _ h => h.2)
     clear ho hR hb h1 hbl hR2 hxl hi
     go_wp2_with fail
     refine bodyPost_ret (results_tmp2 rfl _ _ _) rfl ?_
     refine ⟨A', c', by rw [HR2.out]; rfl, by rw [HR2.out]; exact HIn.out, bstep HBp.out.below (Nat.le_refl _) HBw.out⟩
end Go.Proofs.YtlmjefjimoghcaaGreat
