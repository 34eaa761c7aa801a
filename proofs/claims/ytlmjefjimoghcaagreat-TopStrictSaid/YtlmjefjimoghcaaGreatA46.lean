/- A part of the proofs of TopCounter and TopStrict: what the functions of the program do, each walked once, and plain laws about it. No condition. -/
import Derived.Test.YtlmjefjimoghcaaGreatA45
namespace Go.Proofs.YtlmjefjimoghcaaGreat
set_option linter.unusedSimpArgs false
set_option linter.unnecessarySimpa false
set_option linter.unusedVariables false
open Go.RowKit
attribute [local go_sem ↓] Go.wp_at_zero Go.wp_at_succ
def POk (n : Nat) (p : Pc) : Prop := 1 ≤ p.1 ∧ p.1 ≤ 273 ∧ p.2.1 ≤ 4096 ∧ p.2.2 < 256 ∧ (p.2.1 = 0 ∨ 2 ≤ p.1)
def sumL (l : List Pc) : Nat := (l.map fun p => p.1).sum
theorem outP_ok {n : Nat} {best : List Stp} (h : ∀ k, k < n → Ok1 n k (best.getD k default)) : ∀ (f i : Nat), (∀ p ∈ outP n best f i, POk n p) ∧ sumL (outP n best f i) ≤ n - i
 | 0, i => ⟨(fun p hp => by cases hp), by simp [outP, sumL]⟩
 | f + 1, i => by
  by_cases hi : i < n
  ·have hk := h i hi
   obtain ⟨h1, h2⟩ := outP_ok h f (i + (best.getD i default).len)
   have e : outP n best (f + 1) i = firstP (best.getD i default) :: outP n best f (i + (best.getD i default).len) := by show (if i < n then _ else _) = _; rw [if_pos hi]
   rw [e]
   refine ⟨fun p hp => ?_, ?_⟩
   ·rcases List.mem_cons.1 hp with rfl | hp
    ·exact ⟨hk.1, hk.2.2.1, hk.2.2.2.1, hk.2.2.2.2.1, hk.2.2.2.2.2⟩
    ·exact h1 p hp
   ·have e2 : sumL (firstP (best.getD i default) :: outP n best f (i + (best.getD i default).len)) = (best.getD i default).len + sumL (outP n best f (i + (best.getD i default).len)) := by simp [sumL, firstP]
    rw [e2]
    have := hk.2.1
    omega
  ·have e : outP n best (f + 1) i = [] := outP_stop n best _ i hi
   rw [e]
   exact ⟨(fun p hp => by cases hp), by simp [sumL]⟩
theorem piecesF_ok (s : List UInt8) : (∀ p ∈ piecesF s, POk s.length p) ∧ sumL (piecesF s) ≤ s.length := by
 have := outP_ok (n := s.length) (best := bestP s s.length) (fun k hk => (fin_all s s.length (Nat.le_refl _)).ok k hk (by omega)) s.length 0
 exact this
theorem sumL_take (l : List Pc) (k : Nat) : sumL (l.take k) ≤ sumL l := by
 have e : ∀ a b : List Pc, sumL (a ++ b) = sumL a + sumL b := fun a b => by unfold sumL; rw [List.map_append, List.sum_append]
 have h := congrArg sumL (List.take_append_drop k l)
 rw [e] at h
 omega
theorem sumL_snoc (l : List Pc) (p : Pc) : sumL (l ++ [p]) = sumL l + p.1 := by simp [sumL]
theorem sumL_len (l : List Pc) (h : ∀ p ∈ l, 1 ≤ p.1) : l.length ≤ sumL l := by
 induction l with
 | nil => exact Nat.le_refl _
 | cons p l ih =>
  have h1 := h p (by simp)
  have h2 := ih fun q hq => h q (by simp [hq])
  have e : sumL (p :: l) = p.1 + sumL l := by simp [sumL]
  rw [e, List.length_cons]; omega
theorem take_getG {α : Type} [Inhabited α] {l : List α} {k : Nat} (h : k < l.length) : l.take (k + 1) = l.take k ++ [l.getD k default] := by
 rw [List.take_succ_eq_append_getElem h]; simp [List.getD, h]
theorem pcs3_get {l : List Pc} {k : Nat} (hk : k < l.length) (j : Nat) (hj : j < 3) : (pcs3 l)[k * 3 + j]? = (pcc (l.getD k default))[j]? := by
 have e1 : l = l.take k ++ (l.getD k default :: l.drop (k + 1)) := by
  have e2 : l.getD k default :: l.drop (k + 1) = l.drop k := by rw [List.drop_eq_getElem_cons hk]; simp [List.getD, hk]
  rw [e2, List.take_append_drop]
 have e3 : pcs3 l = pcs3 (l.take k) ++ (pcc (l.getD k default) ++ pcs3 (l.drop (k + 1))) := by
  have := congrArg pcs3 e1
  rw [pcs3_append] at this
  exact this
 have hl : (pcs3 (l.take k)).length = k * 3 := by rw [pcs3_length, List.length_take]; congr 1; omega
 rw [e3, List.getElem?_append_right (by omega), hl, show k * 3 + j - k * 3 = j by omega, List.getElem?_append_left (by show j < 3; exact hj)]
theorem inpc_at {w : World} {A : Option Addr} {l : List Pc} (h : InPc w A l) {w' : World} (hb : Below w.heap.size w w') {k : Nat} (hk : k < l.length) : ∃ a, A = some a ∧ w'.cell? (a.add (k * 3)) = some (.int .i64 ((l.getD k default).1 : Int)) ∧ w'.cell? ⟨(a.add (k * 3)).block, (a.add (k * 3)).off + 1, none⟩ = some (.int .i64 ((l.getD k default).2.1 : Int)) ∧ w'.cell? ⟨(a.add (k * 3)).block, (a.add (k * 3)).off + 2, none⟩ = some (.int .u8 ((l.getD k default).2.2 : Int)) := by
 have h0 := pcs3_get hk 0 (by decide)
 have h1 := pcs3_get hk 1 (by decide)
 have h2 := pcs3_get hk 2 (by decide)
 have hf := Flat.frame (w' := w') h fun k hk _ => hb.block k hk
 obtain ⟨a, e1, _, c1⟩ := hf _ _ (h0.trans rfl)
 obtain ⟨a2, e2, _, c2⟩ := hf _ _ (h1.trans rfl)
 obtain ⟨a3, e3, _, c3⟩ := hf _ _ (h2.trans rfl)
 rw [e1] at e2 e3
 injection e2 with e2
 injection e3 with e3
 subst e2 e3
 refine ⟨a, e1, c1, ?_, ?_⟩
 ·rw [add_succ a (k * 3) 1 (by decide)]; exact c2
 ·rw [add_succ a (k * 3) 2 (by decide)]; exact c3
theorem InPc.mono' {w w' : World} {A : Option Addr} {l : List Pc} (h : InPc w A l) (hb : Below w.heap.size w w') : InPc w' A l :=
 (Flat.frame (w' := w') h fun k hk _ => hb.block k hk).mono fun k hk => Nat.lt_of_lt_of_le hk hb.size
theorem lzO_new {w0 w w' : World} {kT kG bB bG nB nG dB dG : Nat} (h : SetN w0 w kT kG bB bG nB nG dB dG) (hb : Below w.heap.size w w') (en : EnO (fun k => k = w.heap.size) w.heap.size newE w' (.slice none 0 0)) : LzO w0 w' kT kG bB bG nB nG dB dG w.heap.size (fun k => k = w.heap.size) lz0 := by
 have h' := h.mono hb
 have q : ∀ {g : Nat} {o : Obj}, w.heap[g]? = some o → g < w.heap.size := fun h => (Array.getElem?_eq_some_iff.1 h).1
 have hlt : ∀ b, In8 kT kG bB bG nB nG dB dG b → b < w.heap.size := by
  rintro b (rfl | rfl | rfl | rfl | rfl | rfl | rfl | rfl)
  ·exact q h.kt.to
  ·exact q h.kr.to
  ·exact q h.bo.to
  ·exact q h.br.to
  ·exact q h.no.to
  ·exact q h.nr.to
  ·exact q h.dO.to
  ·exact q h.dr.to
 refine ⟨⟨_, en⟩, newE_ok, h'.kt, h'.kr, List.length_replicate, h'.bo, h'.br, List.length_replicate, by decide, h'.no, h'.nr, List.length_replicate, h'.dO, h'.dr, List.length_replicate, fun b hb e => ?_, fun b hb => ?_, h.nd, h'.below⟩
 ·have := hlt b hb; omega
 ·rcases hb with rfl | hb
  ·exact h.below.size
  ·exact h.ge b hb
def LzR (w2 : World) (kT kG bB bG nB nG dB dG E M X : Nat) (ps : List Pc) (i : Value) (wr : World) : Prop := ∃ (k : Nat) (S : Nat → Prop), i = .int .i64 (k : Int) ∧ k ≤ ps.length ∧ LzX w2 wr kT kG bB bG nB nG dB dG E S ((ps.take k).foldl lzW lz0) [(M, mObj kT bB nB dB), (X, cObj E)] ∧ ((ps.take k).foldl lzW lz0).e.out.length ≤ 137 * sumL (ps.take k)
set_option maxRecDepth 100000 in
set_option maxHeartbeats 2000000 in
theorem lzenc_walk (s : List UInt8) (hs : s.length ≤ 4096) (w : World) : Calls Tryz.prog 19 #[.string (sB s)] w fun x w' => x = .returned (.tuple #[.string (sB (lzEnc s)), .int .i64 0]) ∧ Below w.heap.size w w' := by
 have HP := Lib.hid (pieces_walk s hs w)
 have hsz := sB_size s
 have HNm := Lib.hid fun w => num_at s.length (by omega) w
 have hpo := piecesF_ok s
 have hpl := sumL_len (piecesF s) fun p hp => (hpo.1 p hp).1
 by_cases h0 : s = []
 ·subst h0
  have HE : Hid (lzEnc [] = V.num 0) := Lib.hid rfl
  have HNm : Hid (∀ w : World, Calls Tryz.prog 53 #[.int .i64 0] w fun e w' => e = .returned (.string (sB (V.num 0))) ∧ Below w.heap.size w w') := Lib.hid fun w => num_at 0 (by decide) w
  have hz : sB [] = ⟨#[]⟩ := rfl
  rw [hz] at HP ⊢
  clear hpo hpl hsz hs hz
  go_enter Tryz.func19, Tryz.ntmps19
  go_wp2_with fail
  refine (HP.out).mono ?_
  rintro x w1 ⟨A, c, rfl, -, hb1⟩
  have HB1 := Lib.hid hb1
  clear hb1 HP
  go_wp2_with fail
  refine (HNm.out _).mono ?_
  rintro x w2 ⟨rfl, hb2⟩
  have HB2 := Lib.hid (bstep HB1.out (Nat.le_refl _) hb2)
  clear hb2
  go_wp2_with fail
  go_ret2
  rw [HE.out]
  exact ⟨rfl, HB2.out⟩
 ·have hse : ((sB s).toList == ([] : List UInt8)) = false := by
   rw [sB_toList]; simpa using h0
  have HE : Hid (lzEnc s = V.num s.length ++ finE ((piecesF s).foldl lzW lz0).e) := Lib.hid (by unfold lzEnc; rw [if_neg h0])
  obtain ⟨ps, hps⟩ : ∃ ps, piecesF s = ps := ⟨_, rfl⟩
  have hP := HP.out
  unfold ParP at hP
  rw [hps] at HE hpo hpl hP
  have HP := Lib.hid hP
  have HPo := Lib.hid hpo
  have hs4 : ps.length ≤ 4096 := by omega
  have hpi : (ps.length : Int) ≤ 4096 := by omega
  have HSl : Hid (s.length ≤ 4096) := Lib.hid hs
  have HNS := Lib.hid fun w => newset_walk w
  have HNE := Lib.hid fun w => newE_walk w
  clear hP hpo hpl hs hps hs4 h0
  go_enter Tryz.func19, Tryz.ntmps19
  go_wp2_with fail
  refine (HP.out).mono ?_
  rintro x w1 ⟨A, c, rfl, hi1, hb1⟩
  have HB1 := Lib.hid hb1
  have HI1 := Lib.hid hi1
  clear hb1 HP hi1
  go_wp2_with fail
  refine (HNm.out _).mono ?_
  rintro x w2 ⟨rfl, hb2⟩
  have HB2 := Lib.hid (bstep HB1.out (Nat.le_refl _) hb2)
  have HI2 := Lib.hid (HI1.out.mono' hb2)
  clear hb2
  go_wp2_with fail
  refine (HNS.out _).mono ?_
  rintro x w3 ⟨kT, kG, bB, bG, nB, nG, dB, dG, rfl, hset⟩
  have HSet := Lib.hid hset
  clear hset
  unfold setV
  go_wp2_with fail
  refine (HNE.out _).mono ?_
  rintro x w4 ⟨rfl, hb4, en4⟩
  have ho4 := lzO_new HSet.out hb4 en4
  have hx4 : LzX w2 w4 kT kG bB bG nB nG dB dG w3.heap.size (fun k => k = w3.heap.size) lz0 [] := ⟨ho4, fun q hq => by cases hq⟩
  obtain ⟨E, hE⟩ : ∃ E, w3.heap.size = E := ⟨_, rfl⟩
  rw [hE] at hx4 ⊢
  have HX4 := Lib.hid hx4
  clear hb4 en4 ho4 hx4 hE
  go_wp2_with fail
  have hx5 := (HX4.out.cons (mObj kT bB nB dB)).cons (cObj E)
  rw [World.size_alloc] at hx5
  obtain ⟨M, hM⟩ : ∃ M, w4.heap.size = M := ⟨_, rfl⟩
  obtain ⟨X, hX⟩ : ∃ X, w4.heap.size + 1 = X := ⟨_, rfl⟩
  rw [hX, hM] at hx5
  rw [hX, hM]
  obtain ⟨W5, hW5⟩ : ∃ W, (w4.alloc (mObj kT bB nB dB)).alloc (cObj E) = W := ⟨_, rfl⟩
  rw [hW5] at hx5
  have hW5' : (w4.alloc (.cells #[.pointer (some ⟨kT, 0, none⟩), .pointer (some ⟨bB, 0, none⟩), .pointer (some ⟨nB, 0, none⟩), .pointer (some ⟨dB, 0, none⟩)] 92)).alloc (.cells #[.pointer (some ⟨E, 0, none⟩)] 94) = W5 := hW5
  rw [hW5']
  have HX5 : Hid (LzX w2 W5 kT kG bB bG nB nG dB dG E (fun k => k = E) lz0 [(M, mObj kT bB nB dB), (X, cObj E)]) := Lib.hid (hx5.sub (by intro q hq; simp at hq ⊢; rcases hq with h | h <;> simp [h]))
  clear hx5 hW5 hW5' hM hX
  go_loopw [31] (fun i wr => LzR w2 kT kG bB bG nB nG dB dG E M X ps i wr) (fun i _ => ((ps.length : Int) - intOf i).toNat)
  case atStart => exact ⟨0, _, rfl, Nat.zero_le _, HX5.out, Nat.zero_le _⟩
  case round =>
   obtain ⟨k, S, rfl, hk, hx, ho⟩ := hrel
   by_cases hlt : k < ps.length
   ·have hki : (k : Int) < ps.length := by omega
    obtain ⟨a, rfl, q0, q1, q2⟩ := inpc_at HI2.out hx.o.below hlt
    have hpk := HPo.out.1 _ (List.mem_of_getElem? (get_default hlt))
    have htk := take_getG hlt
    obtain ⟨⟨l, d, b⟩, hp⟩ : ∃ p, ps.getD k default = p := ⟨_, rfl⟩
    rw [hp] at q0 q1 q2 hpk htk
    obtain ⟨p1, p2, p3, p4, p5⟩ := hpk
    simp only at q0 q1 q2 p1 p2 p3 p4 p5
    have hst := sumL_take ps k
    have hsl := HPo.out.2
    have hs4 := HSl.out
    have hwr := lzwrite_walk (hx.mono ((Below.refl wr.heap.size wr).alloc (Nat.le_refl _) (pObj l d b))) l d b p1 (by omega) (by omega) p4 p5 (by omega)
    unfold pieceV at hwr
    have HWr := Lib.hid hwr
    have HTk : Hid ((ps.take (k + 1)).foldl lzW lz0 = lzW ((ps.take k).foldl lzW lz0) (l, d, b) ∧ sumL (ps.take (k + 1)) = sumL (ps.take k) + l) := Lib.hid (by rw [htk, List.foldl_append, sumL_snoc]; exact ⟨rfl, rfl⟩)
    have HOl := Lib.hid ho
    clear hx ho hk hp p1 p2 p3 p4 p5 hst hsl hs4 htk hwr
    go_wp2_with fail
    refine (HWr.out).mono ?_
    rintro x w6 ⟨rfl, S6, hx6, ho6⟩
    have HX6 := Lib.hid hx6
    have HO6 := Lib.hid ho6
    clear hx6 ho6 HWr q0 q1 q2
    go_wp2_with fail
    go_roundw
    case rel => exact ⟨k + 1, S6, by go_num, by omega, by rw [HTk.out.1]; exact HX6.out, by rw [HTk.out.1, HTk.out.2]; have := HO6.out; have := HOl.out; omega⟩
    case measure => simp [intOf]; omega
   ·obtain rfl : k = ps.length := by omega
    rw [List.take_length] at hx ho
    have hx0 := (one_cell (hx.x (X, cObj E) (by simp)).1).1
    obtain ⟨vo, en⟩ := hx.o.en
    have hsl := HPo.out.2
    have hs4 := HSl.out
    have HFn := Lib.hid (fin_walk en hx.o.ok (by omega))
    obtain ⟨e, he⟩ : ∃ e, (ps.foldl lzW lz0).e = e := ⟨_, rfl⟩
    rw [he] at HFn HE ho
    have HBx := Lib.hid hx.o.below
    have z1 : (sB (V.num s.length)).size ≤ 9 := by rw [sB_size]; exact num_len _
    have z2 : (sB (finE e)).size ≤ 700000 := by rw [sB_size, finE_len]; omega
    clear hx ho hk en hsl hs4 he
    go_wp2_with fail
    refine (HFn.out).mono ?_
    rintro x w6 ⟨rfl, hb6⟩
    have HB6 := Lib.hid (bstep HBx.out (Nat.le_refl _) hb6)
    clear hb6 HFn hx0
    go_wp2_with fail
    go_ret2
    rw [HE.out, ← sB_app]
    exact ⟨rfl, bstep HB2.out (Nat.le_refl _) HB6.out⟩
/-- the models beside a decoder -/
structure LdO (w0 w : World) (kT kG bB bG nB nG dB dG D : Nat) : Prop where
 ex : ∃ (k b n d : List Int) (l : Nat) (dec : Dec), DeO D dec w ∧ 2 ^ 24 ≤ dec.size ∧ (IRow w kG k ∧ k.length = 2) ∧ (BytO bB bG l w ∧ l < 256 ∧ IRow w bG b ∧ b.length = 2048) ∧ (NumO nB nG w ∧ IRow w nG n ∧ n.length = 64) ∧ (NumO dB dG w ∧ IRow w dG d ∧ d.length = 64)
 kt : TRow w kT (tcells kG 1 2 1)
 d8 : ¬ In8 kT kG bB bG nB nG dB dG D
 gw : ∀ b, (b = D ∨ In8 kT kG bB bG nB nG dB dG b) → w0.heap.size ≤ b
 nd : [kT, kG, bB, bG, nB, nG, dB, dG].Nodup
 below : Below w0.heap.size w0 w
section
variable {w0 w w' : World} {kT kG bB bG nB nG dB dG D G B : Nat}
def T8 (kT kG bB bG nB nG dB dG D : Nat) (k : Nat) : Prop := k = D ∨ In8 kT kG bB bG nB nG dB dG k
theorem LdO.mono (h : LdO w0 w kT kG bB bG nB nG dB dG D) (hb : Below w.heap.size w w') : LdO w0 w' kT kG bB bG nB nG dB dG D := by
 have q : ∀ {g : Nat} {o : Obj}, w.heap[g]? = some o → w'.heap[g]? = some o := fun h => (hb.block _ (Array.getElem?_eq_some_iff.1 h).1).trans h
 obtain ⟨k, b, n, d, l, dec, h1, h2, ⟨h3, h4⟩, ⟨h5, h6, h7, h8⟩, ⟨h9, h10, h11⟩, h12, h13, h14⟩ := h.ex
 exact ⟨⟨k, b, n, d, l, dec, h1.frame (hb.block D (Array.getElem?_eq_some_iff.1 h1.obj).1), h2, ⟨q h3, h4⟩, ⟨q h5, h6, q h7, h8⟩, ⟨q h9, q h10, h11⟩, q h12, q h13, h14⟩, q h.kt, h.d8, h.gw, h.nd, bstep h.below (Nat.le_refl _) hb⟩
/-- the types of the blocks -/
theorem LdO.ty (h : LdO w0 w kT kG bB bG nB nG dB dG D) {g : Nat} (hg : T8 kT kG bB bG nB nG dB dG D g) : ∃ cs t, w.heap[g]? = some (.cells cs t (0, 0)) ∧ (t = 176 ∨ t = 135 ∨ t = 3 ∨ t = 140 ∨ t = 145) := by
 obtain ⟨k, b, n, d, l, dec, h1, h2, ⟨h3, h4⟩, ⟨h5, h6, h7, h8⟩, ⟨h9, h10, h11⟩, h12, h13, h14⟩ := h.ex
 rcases hg with rfl | rfl | rfl | rfl | rfl | rfl | rfl | rfl | rfl
 ·exact ⟨_, _, h1.obj, by simp⟩
 ·exact ⟨_, _, h.kt.to, by simp⟩
 ·exact ⟨_, _, h3.to, by simp⟩
 ·exact ⟨_, _, h5.to, by simp⟩
 ·exact ⟨_, _, h7.to, by simp⟩
 ·exact ⟨_, _, h9.to, by simp⟩
 ·exact ⟨_, _, h10.to, by simp⟩
 ·exact ⟨_, _, h12.to, by simp⟩
 ·exact ⟨_, _, h13.to, by simp⟩
theorem LdO.not (h : LdO w0 w kT kG bB bG nB nG dB dG D) {g : Nat} {cs : Array Value} {t : TypeId} (hg : w.heap[g]? = some (.cells cs t (0, 0))) (ht : t = 5 ∨ t = 92) : ¬ T8 kT kG bB bG nB nG dB dG D g := fun h8 => by
 obtain ⟨cs', t', h1, h2⟩ := h.ty h8
 rw [hg] at h1
 injection h1 with h1
 injection h1 with _ h1
 subst h1
 rcases ht with rfl | rfl <;> rcases h2 with h2 | h2 | h2 | h2 | h2 <;> exact absurd h2 (by decide)
theorem LdO.low (h : LdO w0 w kT kG bB bG nB nG dB dG D) (ht : Touch (T8 kT kG bB bG nB nG dB dG D) w w') : Below w0.heap.size w0 w' := h.below.trans (ht.below _ h.below.size fun k hk => h.gw k hk)
/-- a model is stepped: D, G and B change -/
theorem LdO.far (h : LdO w0 w kT kG bB bG nB nG dB dG D) (ht : Touch (fun k => k = D ∨ k = G ∨ k = B) w w') {g : Nat} {o : Obj} (h8 : In8 kT kG bB bG nB nG dB dG g) (hG : g ≠ G) (hB : g ≠ B) (hg : w.heap[g]? = some o) : w'.heap[g]? = some o :=
 (ht.block g (Array.getElem?_eq_some_iff.1 hg).1 (by rintro (e | e | e); exact h.d8 (e ▸ h8); exact hG e; exact hB e)).trans hg
theorem t8_of (ht : Touch (fun k => k = D ∨ k = G ∨ k = B) w w') (hG : In8 kT kG bB bG nB nG dB dG G) (hB : In8 kT kG bB bG nB nG dB dG B) : Touch (T8 kT kG bB bG nB nG dB dG D) w w' := ht.mono fun k hk => by
 rcases hk with h | h | h
 ·exact .inl h
 ·exact .inr (h ▸ hG)
 ·exact .inr (h ▸ hB)
def LdK (w0 w : World) (kT kG bB bG nB nG dB dG D : Nat) (w' : World) : Prop := LdO w0 w' kT kG bB bG nB nG dB dG D ∧ Touch (T8 kT kG bB bG nB nG dB dG D) w w'
theorem LdO.kind (h : LdO w0 w kT kG bB bG nB nG dB dG D) : Calls Tryz.prog 91 #[.pointer (some ⟨kT, 0, none⟩), .pointer (some ⟨D, 0, none⟩)] w fun x w' => ∃ v : Nat, x = .returned (.int .i64 (v : Int)) ∧ LdK w0 w kT kG bB bG nB nG dB dG D w' := by
 have hnd := h.nd
 simp only [List.nodup_cons, List.mem_cons, List.not_mem_nil, or_false, not_or, not_false_eq_true, and_true, List.nodup_nil] at hnd
 obtain ⟨⟨a1, a2, a3, a4, a5, a6, a7⟩, ⟨b1, b2, b3, b4, b5, b6⟩, ⟨c1, c2, c3, c4, c5⟩, ⟨d1, d2, d3, d4⟩, ⟨e1, e2, e3⟩, ⟨f1, f2⟩, g1⟩ := hnd
 have i0 : In8 kT kG bB bG nB nG dB dG kT := .inl rfl
 have i1 : In8 kT kG bB bG nB nG dB dG kG := .inr (.inl rfl)
 have i2 : In8 kT kG bB bG nB nG dB dG bB := .inr (.inr (.inl rfl))
 have i3 : In8 kT kG bB bG nB nG dB dG bG := .inr (.inr (.inr (.inl rfl)))
 have i4 : In8 kT kG bB bG nB nG dB dG nB := .inr (.inr (.inr (.inr (.inl rfl))))
 have i5 : In8 kT kG bB bG nB nG dB dG nG := .inr (.inr (.inr (.inr (.inr (.inl rfl)))))
 have i6 : In8 kT kG bB bG nB nG dB dG dB := .inr (.inr (.inr (.inr (.inr (.inr (.inl rfl))))))
 have i7 : In8 kT kG bB bG nB nG dB dG dG := .inr (.inr (.inr (.inr (.inr (.inr (.inr rfl))))))
 obtain ⟨k, b, n, d, l, dec, h1, h2, ⟨h3, h4⟩, ⟨h5, h6, h7, h8⟩, ⟨h9, h10, h11⟩, h12, h13, h14⟩ := h.ex
 have hsl := h1.sl
 refine (treeD_walk h1 h2 (trow_tr h.kt) (by decide) (by decide) h3 (by omega) (fun e => h.d8 (e ▸ i1)) (fun e => h.d8 (e ▸ i0)) a1).mono ?_
 rintro x w' ⟨rfl, r⟩
 have ht : Touch (fun k => k = D ∨ k = kG ∨ k = kG) w w' := r.touch.mono fun k hk => hk.elim .inl fun h => .inr (.inl h)
 have h8' := t8_of ht i1 i1
 have hz := trD_size 1 0 1 k dec h2 hsl
 have hlen := trD_len 1 0 1 k dec
 refine ⟨_, rfl, ⟨⟨_, b, n, d, l, _, r.de, hz.1, ⟨r.row, by rw [hlen]; exact h4⟩, ⟨h.far ht i2 (Ne.symm b1) (Ne.symm b1) h5, h6, h.far ht i3 (Ne.symm b2) (Ne.symm b2) h7, h8⟩, ⟨h.far ht i4 (Ne.symm b3) (Ne.symm b3) h9, h.far ht i5 (Ne.symm b4) (Ne.symm b4) h10, h11⟩, h.far ht i6 (Ne.symm b5) (Ne.symm b5) h12, h.far ht i7 (Ne.symm b6) (Ne.symm b6) h13, h14⟩, h.far ht i0 a1 a1 h.kt, h.d8, h.gw, h.nd, h.low h8'⟩, h8'⟩
theorem LdO.byte (h : LdO w0 w kT kG bB bG nB nG dB dG D) : Calls Tryz.prog 92 #[.pointer (some ⟨bB, 0, none⟩), .pointer (some ⟨D, 0, none⟩)] w fun x w' => ∃ v : UInt8, x = .returned (.int .u8 (v.toNat : Int)) ∧ LdK w0 w kT kG bB bG nB nG dB dG D w' := by
 have hnd := h.nd
 simp only [List.nodup_cons, List.mem_cons, List.not_mem_nil, or_false, not_or, not_false_eq_true, and_true, List.nodup_nil] at hnd
 obtain ⟨⟨a1, a2, a3, a4, a5, a6, a7⟩, ⟨b1, b2, b3, b4, b5, b6⟩, ⟨c1, c2, c3, c4, c5⟩, ⟨d1, d2, d3, d4⟩, ⟨e1, e2, e3⟩, ⟨f1, f2⟩, g1⟩ := hnd
 have i0 : In8 kT kG bB bG nB nG dB dG kT := .inl rfl
 have i1 : In8 kT kG bB bG nB nG dB dG kG := .inr (.inl rfl)
 have i2 : In8 kT kG bB bG nB nG dB dG bB := .inr (.inr (.inl rfl))
 have i3 : In8 kT kG bB bG nB nG dB dG bG := .inr (.inr (.inr (.inl rfl)))
 have i4 : In8 kT kG bB bG nB nG dB dG nB := .inr (.inr (.inr (.inr (.inl rfl))))
 have i5 : In8 kT kG bB bG nB nG dB dG nG := .inr (.inr (.inr (.inr (.inr (.inl rfl)))))
 have i6 : In8 kT kG bB bG nB nG dB dG dB := .inr (.inr (.inr (.inr (.inr (.inr (.inl rfl))))))
 have i7 : In8 kT kG bB bG nB nG dB dG dG := .inr (.inr (.inr (.inr (.inr (.inr (.inr rfl))))))
 obtain ⟨k, b, n, d, l, dec, h1, h2, ⟨h3, h4⟩, ⟨h5, h6, h7, h8⟩, ⟨h9, h10, h11⟩, h12, h13, h14⟩ := h.ex
 have hsl := h1.sl
 refine (bytD_walk h1 h2 h5 h6 h7 h8 (fun e => h.d8 (e ▸ i3)) (fun e => h.d8 (e ▸ i2)) c1).mono ?_
 rintro x w' ⟨rfl, r, hbo⟩
 have ht := r.touch
 have h8' := t8_of ht i3 i2
 obtain ⟨hz, hlen, hv⟩ := byD_keep b l dec h2 hsl
 refine ⟨UInt8.ofNat (byD b l dec).1, ?_, ⟨⟨k, _, n, d, _, _, r.de, hz, ⟨h.far ht i1 b2 b1 h3, h4⟩, ⟨hbo, hv, r.row, by rw [hlen]; exact h8⟩, ⟨h.far ht i4 (Ne.symm d1) (Ne.symm c2) h9, h.far ht i5 (Ne.symm d2) (Ne.symm c3) h10, h11⟩, h.far ht i6 (Ne.symm d3) (Ne.symm c4) h12, h.far ht i7 (Ne.symm d4) (Ne.symm c5) h13, h14⟩, h.far ht i0 a3 a2 h.kt, h.d8, h.gw, h.nd, h.low h8'⟩, h8'⟩
 rw [UInt8.toNat_ofNat', Nat.mod_eq_of_lt hv]
theorem LdO.len (h : LdO w0 w kT kG bB bG nB nG dB dG D) : Calls Tryz.prog 93 #[.pointer (some ⟨nB, 0, none⟩), .pointer (some ⟨D, 0, none⟩)] w fun x w' => ∃ v : Int, x = .returned (.int .i64 v) ∧ LdK w0 w kT kG bB bG nB nG dB dG D w' := by
 have hnd := h.nd
 simp only [List.nodup_cons, List.mem_cons, List.not_mem_nil, or_false, not_or, not_false_eq_true, and_true, List.nodup_nil] at hnd
 obtain ⟨⟨a1, a2, a3, a4, a5, a6, a7⟩, ⟨b1, b2, b3, b4, b5, b6⟩, ⟨c1, c2, c3, c4, c5⟩, ⟨d1, d2, d3, d4⟩, ⟨e1, e2, e3⟩, ⟨f1, f2⟩, g1⟩ := hnd
 have i0 : In8 kT kG bB bG nB nG dB dG kT := .inl rfl
 have i1 : In8 kT kG bB bG nB nG dB dG kG := .inr (.inl rfl)
 have i2 : In8 kT kG bB bG nB nG dB dG bB := .inr (.inr (.inl rfl))
 have i3 : In8 kT kG bB bG nB nG dB dG bG := .inr (.inr (.inr (.inl rfl)))
 have i4 : In8 kT kG bB bG nB nG dB dG nB := .inr (.inr (.inr (.inr (.inl rfl))))
 have i5 : In8 kT kG bB bG nB nG dB dG nG := .inr (.inr (.inr (.inr (.inr (.inl rfl)))))
 have i6 : In8 kT kG bB bG nB nG dB dG dB := .inr (.inr (.inr (.inr (.inr (.inr (.inl rfl))))))
 have i7 : In8 kT kG bB bG nB nG dB dG dG := .inr (.inr (.inr (.inr (.inr (.inr (.inr rfl))))))
 obtain ⟨k, b, n, d, l, dec, h1, h2, ⟨h3, h4⟩, ⟨h5, h6, h7, h8⟩, ⟨h9, h10, h11⟩, h12, h13, h14⟩ := h.ex
 have hsl := h1.sl
 refine (numD_walk h1 h2 h9 h10 h11 (fun e => h.d8 (e ▸ i5)) (fun e => h.d8 (e ▸ i4)) e1).mono ?_
 rintro x w' ⟨rfl, r, hbo⟩
 have ht := r.touch
 have h8' := t8_of ht i5 i4
 obtain ⟨hz, hlen⟩ := nuD_keep n dec h2 hsl
 exact ⟨_, rfl, ⟨⟨k, b, _, d, l, _, r.de, hz, ⟨h.far ht i1 b4 b3 h3, h4⟩, ⟨h.far ht i2 c3 c2 h5, h6, h.far ht i3 d2 d1 h7, h8⟩, ⟨hbo, r.row, by rw [hlen]; exact h11⟩, h.far ht i6 (Ne.symm f1) (Ne.symm e2) h12, h.far ht i7 (Ne.symm f2) (Ne.symm e3) h13, h14⟩, h.far ht i0 a5 a4 h.kt, h.d8, h.gw, h.nd, h.low h8'⟩, h8'⟩
theorem LdO.dst (h : LdO w0 w kT kG bB bG nB nG dB dG D) : Calls Tryz.prog 93 #[.pointer (some ⟨dB, 0, none⟩), .pointer (some ⟨D, 0, none⟩)] w fun x w' => ∃ v : Int, x = .returned (.int .i64 v) ∧ LdK w0 w kT kG bB bG nB nG dB dG D w' := by
 have hnd := h.nd
 simp only [List.nodup_cons, List.mem_cons, List.not_mem_nil, or_false, not_or, not_false_eq_true, and_true, List.nodup_nil] at hnd
 obtain ⟨⟨a1, a2, a3, a4, a5, a6, a7⟩, ⟨b1, b2, b3, b4, b5, b6⟩, ⟨c1, c2, c3, c4, c5⟩, ⟨d1, d2, d3, d4⟩, ⟨e1, e2, e3⟩, ⟨f1, f2⟩, g1⟩ := hnd
 have i0 : In8 kT kG bB bG nB nG dB dG kT := .inl rfl
 have i1 : In8 kT kG bB bG nB nG dB dG kG := .inr (.inl rfl)
 have i2 : In8 kT kG bB bG nB nG dB dG bB := .inr (.inr (.inl rfl))
 have i3 : In8 kT kG bB bG nB nG dB dG bG := .inr (.inr (.inr (.inl rfl)))
 have i4 : In8 kT kG bB bG nB nG dB dG nB := .inr (.inr (.inr (.inr (.inl rfl))))
 have i5 : In8 kT kG bB bG nB nG dB dG nG := .inr (.inr (.inr (.inr (.inr (.inl rfl)))))
 have i6 : In8 kT kG bB bG nB nG dB dG dB := .inr (.inr (.inr (.inr (.inr (.inr (.inl rfl))))))
 have i7 : In8 kT kG bB bG nB nG dB dG dG := .inr (.inr (.inr (.inr (.inr (.inr (.inr rfl))))))
 obtain ⟨k, b, n, d, l, dec, h1, h2, ⟨h3, h4⟩, ⟨h5, h6, h7, h8⟩, ⟨h9, h10, h11⟩, h12, h13, h14⟩ := h.ex
 have hsl := h1.sl
 refine (numD_walk h1 h2 h12 h13 h14 (fun e => h.d8 (e ▸ i7)) (fun e => h.d8 (e ▸ i6)) g1).mono ?_
 rintro x w' ⟨rfl, r, hbo⟩
 have ht := r.touch
 have h8' := t8_of ht i7 i6
 obtain ⟨hz, hlen⟩ := nuD_keep d dec h2 hsl
 exact ⟨_, rfl, ⟨⟨k, b, n, _, l, _, r.de, hz, ⟨h.far ht i1 b6 b5 h3, h4⟩, ⟨h.far ht i2 c5 c4 h5, h6, h.far ht i3 d4 d3 h7, h8⟩, ⟨h.far ht i4 e3 e2 h9, h.far ht i5 f2 f1 h10, h11⟩, hbo, r.row, by rw [hlen]; exact h14⟩, h.far ht i0 a7 a6 h.kt, h.d8, h.gw, h.nd, h.low h8'⟩, h8'⟩
end
end Go.Proofs.YtlmjefjimoghcaaGreat
