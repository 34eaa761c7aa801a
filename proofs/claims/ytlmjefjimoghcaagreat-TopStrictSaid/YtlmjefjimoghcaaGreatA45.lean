/- A part of the proofs of TopCounter and TopStrict: what the functions of the program do, each walked once, and plain laws about it. No condition. -/
import Derived.Test.YtlmjefjimoghcaaGreatA44
import Derived.Test.YtlmjefjimoghcaaGreatA16
namespace Go.Proofs.YtlmjefjimoghcaaGreat
set_option linter.unusedSimpArgs false
set_option linter.unnecessarySimpa false
set_option linter.unusedVariables false
open Go.RowKit
attribute [local go_sem ↓] Go.wp_at_zero Go.wp_at_succ
set_option maxRecDepth 100000 in
theorem pieces_walk (s : List UInt8) (hs : s.length ≤ 4096) (w : World) : Calls Tryz.prog 52 #[.string (sB s)] w fun x w' => ParP w s x w' := by
 have HP := Lib.hid (parse_walk s hs w)
 unfold costV at HP
 clear hs
 go_enter Tryz.func52, Tryz.ntmps52
 go_wp2_with fail
 refine (HP.out).mono ?_
 rintro x w1 ⟨A, c, rfl, hi, hb⟩
 have HI := Lib.hid hi
 have HB := Lib.hid hb
 clear hi hb HP
 go_wp2_with fail
 go_ret2
 exact ⟨A, c, rfl, HI.out, HB.out⟩
structure LzS where
 k : List Int
 b : List Int
 l : Nat
 n : List Int
 d : List Int
 e : Enc
def lz0 : LzS := ⟨half 2, half 2048, 0, half 64, half 64, newE⟩
def lzW (st : LzS) (p : Pc) : LzS :=
 if p.2.1 = 0 then
  let a := trE 1 0 0 1 st.k st.e
  let c := byE st.b st.l p.2.2 a.2
  { st with k := a.1, b := c.1, l := p.2.2, e := c.2 }
 else
  let a := trE 1 0 1 1 st.k st.e
  let c := nuE st.n (p.1 - 2) a.2
  let g := nuE st.d (p.2.1 - 1) c.2
  { st with k := a.1, n := c.1, d := g.1, e := g.2 }
def lzEnc (s : List UInt8) : List UInt8 := if s = [] then V.num 0 else V.num s.length ++ finE ((piecesF s).foldl lzW lz0).e
theorem trow_tr {w : World} {T G : Nat} (h : TRow w T (tcells G 1 2 1)) : TrO T 0 1 2 G 0 w := ⟨by rw [cell_of_row w T _ _ _ _ h.to]; rfl, by rw [cell_of_row w T _ _ _ _ h.to]; rfl⟩
structure LzO (w0 w : World) (kT kG bB bG nB nG dB dG E : Nat) (S : Nat → Prop) (st : LzS) : Prop where
 en : ∃ vo, EnO S E st.e w vo
 ok : EOk st.e
 kt : TRow w kT (tcells kG 1 2 1)
 kr : IRow w kG st.k
 kl : st.k.length = 2
 bo : BytO bB bG st.l w
 br : IRow w bG st.b
 bl : st.b.length = 2048
 ll : st.l < 256
 no : NumO nB nG w
 nr : IRow w nG st.n
 nl : st.n.length = 64
 dO : NumO dB dG w
 dr : IRow w dG st.d
 dl : st.d.length = 64
 ns : ∀ b, (b = kT ∨ b = kG ∨ b = bB ∨ b = bG ∨ b = nB ∨ b = nG ∨ b = dB ∨ b = dG) → ¬ S b
 gw : ∀ b, (S b ∨ b = kT ∨ b = kG ∨ b = bB ∨ b = bG ∨ b = nB ∨ b = nG ∨ b = dB ∨ b = dG) → w0.heap.size ≤ b
 nd : [kT, kG, bB, bG, nB, nG, dB, dG].Nodup
 below : Below w0.heap.size w0 w
section
variable {w0 w w' : World} {kT kG bB bG nB nG dB dG E G B : Nat} {S S' : Nat → Prop} {st : LzS}
/-- b is one of the blocks of the models -/
def In8 (kT kG bB bG nB nG dB dG b : Nat) : Prop := b = kT ∨ b = kG ∨ b = bB ∨ b = bG ∨ b = nB ∨ b = nG ∨ b = dB ∨ b = dG
theorem LzO.lt (h : LzO w0 w kT kG bB bG nB nG dB dG E S st) {b : Nat} (hb : In8 kT kG bB bG nB nG dB dG b) : b < w.heap.size := by
 have q : ∀ {g : Nat} {o : Obj}, w.heap[g]? = some o → g < w.heap.size := fun h => (Array.getElem?_eq_some_iff.1 h).1
 rcases hb with rfl | rfl | rfl | rfl | rfl | rfl | rfl | rfl
 ·exact q h.kt.to
 ·exact q h.kr.to
 ·exact q h.bo.to
 ·exact q h.br.to
 ·exact q h.no.to
 ·exact q h.nr.to
 ·exact q h.dO.to
 ·exact q h.dr.to
theorem LzO.far (h : LzO w0 w kT kG bB bG nB nG dB dG E S st) (ht : Touch (fun k => S k ∨ k = G ∨ k = B) w w') {b : Nat} (hb : In8 kT kG bB bG nB nG dB dG b) (h1 : b ≠ G) (h2 : b ≠ B) : w'.heap[b]? = w.heap[b]? :=
 ht.block b (h.lt hb) (by rintro (e | e | e); exact h.ns b hb e; exact h1 e; exact h2 e)
theorem LzO.next (h : LzO w0 w kT kG bB bG nB nG dB dG E S st) (ht : Touch (fun k => S k ∨ k = G ∨ k = B) w w') (hG : In8 kT kG bB bG nB nG dB dG G) (hB : In8 kT kG bB bG nB nG dB dG B) (hS : ∀ k, S' k → S k ∨ w.heap.size ≤ k) :
  (∀ b, In8 kT kG bB bG nB nG dB dG b → ¬ S' b) ∧ (∀ b, (S' b ∨ In8 kT kG bB bG nB nG dB dG b) → w0.heap.size ≤ b) ∧ Below w0.heap.size w0 w' := by
 refine ⟨fun b hb hs => ?_, fun b hb => ?_, h.below.trans (ht.below _ h.below.size fun k hk => ?_)⟩
 ·rcases hS b hs with h1 | h1
  ·exact h.ns b hb h1
  ·have := h.lt hb; omega
 ·rcases hb with hb | hb
  ·rcases hS b hb with h1 | h1
   ·exact h.gw b (.inl h1)
   ·have := h.below.size; omega
  ·exact h.gw b (.inr hb)
 ·rcases hk with hk | rfl | rfl
  ·exact h.gw k (.inl hk)
  ·exact h.gw _ (.inr hG)
  ·exact h.gw _ (.inr hB)
theorem LzO.stepK (h : LzO w0 w kT kG bB bG nB nG dB dG E S st) {k' : List Int} {e' : Enc} (r : TrRes S E kG (k', e') w w') (hk : k'.length = 2) (ok : EOk e') : ∃ S', LzO w0 w' kT kG bB bG nB nG dB dG E S' { st with k := k', e := e' } ∧ (∀ k, S' k → S k ∨ w.heap.size ≤ k) ∧ Touch (fun k => S k ∨ k = kG ∨ k = kG) w w' := by
 obtain ⟨S', vo, en, hS⟩ := r.ex
 have ht : Touch (fun k => S k ∨ k = kG ∨ k = kG) w w' := r.touch.mono fun k hk => hk.elim .inl fun h => .inr (.inl h)
 have hn := h.next ht (.inr (.inl rfl)) (.inr (.inl rfl)) hS
 have hnd := h.nd
 simp only [List.nodup_cons, List.mem_cons, List.not_mem_nil, or_false, not_or, not_false_eq_true, and_true, List.nodup_nil] at hnd
 obtain ⟨⟨a1, a2, a3, a4, a5, a6, a7⟩, ⟨b1, b2, b3, b4, b5, b6⟩, ⟨c1, c2, c3, c4, c5⟩, ⟨d1, d2, d3, d4⟩, ⟨e1, e2, e3⟩, ⟨f1, f2⟩, g1⟩ := hnd
 have f := fun {b : Nat} (hb : In8 kT kG bB bG nB nG dB dG b) h1 => h.far ht hb h1 h1
 exact ⟨S', ⟨⟨vo, en⟩, ok, (f (.inl rfl) (by first | assumption | (apply Ne.symm; assumption))).trans h.kt.to, r.row, hk, (f (.inr (.inr (.inl rfl))) (by first | assumption | (apply Ne.symm; assumption))).trans h.bo.to, (f (.inr (.inr (.inr (.inl rfl)))) (by first | assumption | (apply Ne.symm; assumption))).trans h.br.to, h.bl, h.ll, (f (.inr (.inr (.inr (.inr (.inl rfl))))) (by first | assumption | (apply Ne.symm; assumption))).trans h.no.to, (f (.inr (.inr (.inr (.inr (.inr (.inl rfl)))))) (by first | assumption | (apply Ne.symm; assumption))).trans h.nr.to, h.nl, (f (.inr (.inr (.inr (.inr (.inr (.inr (.inl rfl))))))) (by first | assumption | (apply Ne.symm; assumption))).trans h.dO.to, (f (.inr (.inr (.inr (.inr (.inr (.inr (.inr rfl))))))) (by first | assumption | (apply Ne.symm; assumption))).trans h.dr.to, h.dl, hn.1, hn.2.1, h.nd, hn.2.2⟩, hS, ht⟩
theorem LzO.stepB (h : LzO w0 w kT kG bB bG nB nG dB dG E S st) {b' : List Int} {e' : Enc} {c : Nat} (r : MoRes S E bB bG (b', e') w w') (hc : BytO bB bG c w') (hc8 : c < 256) (hk : b'.length = 2048) (ok : EOk e') : ∃ S', LzO w0 w' kT kG bB bG nB nG dB dG E S' { st with b := b', l := c, e := e' } ∧ (∀ k, S' k → S k ∨ w.heap.size ≤ k) := by
 obtain ⟨S', vo, en, hS⟩ := r.ex
 have ht := r.touch
 have hn := h.next ht (.inr (.inr (.inr (.inl rfl)))) (.inr (.inr (.inl rfl))) hS
 have hnd := h.nd
 simp only [List.nodup_cons, List.mem_cons, List.not_mem_nil, or_false, not_or, not_false_eq_true, and_true, List.nodup_nil] at hnd
 obtain ⟨⟨a1, a2, a3, a4, a5, a6, a7⟩, ⟨b1, b2, b3, b4, b5, b6⟩, ⟨c1, c2, c3, c4, c5⟩, ⟨d1, d2, d3, d4⟩, ⟨e1, e2, e3⟩, ⟨f1, f2⟩, g1⟩ := hnd
 have f := fun {b : Nat} (hb : In8 kT kG bB bG nB nG dB dG b) h1 h2 => h.far ht hb h1 h2
 exact ⟨S', ⟨⟨vo, en⟩, ok, (f (.inl rfl) (by first | assumption | (apply Ne.symm; assumption)) (by first | assumption | (apply Ne.symm; assumption))).trans h.kt.to, (f (.inr (.inl rfl)) (by first | assumption | (apply Ne.symm; assumption)) (by first | assumption | (apply Ne.symm; assumption))).trans h.kr.to, h.kl, hc, r.row, hk, hc8, (f (.inr (.inr (.inr (.inr (.inl rfl))))) (by first | assumption | (apply Ne.symm; assumption)) (by first | assumption | (apply Ne.symm; assumption))).trans h.no.to, (f (.inr (.inr (.inr (.inr (.inr (.inl rfl)))))) (by first | assumption | (apply Ne.symm; assumption)) (by first | assumption | (apply Ne.symm; assumption))).trans h.nr.to, h.nl, (f (.inr (.inr (.inr (.inr (.inr (.inr (.inl rfl))))))) (by first | assumption | (apply Ne.symm; assumption)) (by first | assumption | (apply Ne.symm; assumption))).trans h.dO.to, (f (.inr (.inr (.inr (.inr (.inr (.inr (.inr rfl))))))) (by first | assumption | (apply Ne.symm; assumption)) (by first | assumption | (apply Ne.symm; assumption))).trans h.dr.to, h.dl, hn.1, hn.2.1, h.nd, hn.2.2⟩, hS⟩
theorem LzO.stepN (h : LzO w0 w kT kG bB bG nB nG dB dG E S st) {b' : List Int} {e' : Enc} (r : MoRes S E nB nG (b', e') w w') (hc : NumO nB nG w') (hk : b'.length = 64) (ok : EOk e') : ∃ S', LzO w0 w' kT kG bB bG nB nG dB dG E S' { st with n := b', e := e' } ∧ (∀ k, S' k → S k ∨ w.heap.size ≤ k) := by
 obtain ⟨S', vo, en, hS⟩ := r.ex
 have ht := r.touch
 have hn := h.next ht (.inr (.inr (.inr (.inr (.inr (.inl rfl)))))) (.inr (.inr (.inr (.inr (.inl rfl))))) hS
 have hnd := h.nd
 simp only [List.nodup_cons, List.mem_cons, List.not_mem_nil, or_false, not_or, not_false_eq_true, and_true, List.nodup_nil] at hnd
 obtain ⟨⟨a1, a2, a3, a4, a5, a6, a7⟩, ⟨b1, b2, b3, b4, b5, b6⟩, ⟨c1, c2, c3, c4, c5⟩, ⟨d1, d2, d3, d4⟩, ⟨e1, e2, e3⟩, ⟨f1, f2⟩, g1⟩ := hnd
 have f := fun {b : Nat} (hb : In8 kT kG bB bG nB nG dB dG b) h1 h2 => h.far ht hb h1 h2
 exact ⟨S', ⟨⟨vo, en⟩, ok, (f (.inl rfl) (by first | assumption | (apply Ne.symm; assumption)) (by first | assumption | (apply Ne.symm; assumption))).trans h.kt.to, (f (.inr (.inl rfl)) (by first | assumption | (apply Ne.symm; assumption)) (by first | assumption | (apply Ne.symm; assumption))).trans h.kr.to, h.kl, (f (.inr (.inr (.inl rfl))) (by first | assumption | (apply Ne.symm; assumption)) (by first | assumption | (apply Ne.symm; assumption))).trans h.bo.to, (f (.inr (.inr (.inr (.inl rfl)))) (by first | assumption | (apply Ne.symm; assumption)) (by first | assumption | (apply Ne.symm; assumption))).trans h.br.to, h.bl, h.ll, hc, r.row, hk, (f (.inr (.inr (.inr (.inr (.inr (.inr (.inl rfl))))))) (by first | assumption | (apply Ne.symm; assumption)) (by first | assumption | (apply Ne.symm; assumption))).trans h.dO.to, (f (.inr (.inr (.inr (.inr (.inr (.inr (.inr rfl))))))) (by first | assumption | (apply Ne.symm; assumption)) (by first | assumption | (apply Ne.symm; assumption))).trans h.dr.to, h.dl, hn.1, hn.2.1, h.nd, hn.2.2⟩, hS⟩
theorem LzO.stepD (h : LzO w0 w kT kG bB bG nB nG dB dG E S st) {b' : List Int} {e' : Enc} (r : MoRes S E dB dG (b', e') w w') (hc : NumO dB dG w') (hk : b'.length = 64) (ok : EOk e') : ∃ S', LzO w0 w' kT kG bB bG nB nG dB dG E S' { st with d := b', e := e' } ∧ (∀ k, S' k → S k ∨ w.heap.size ≤ k) := by
 obtain ⟨S', vo, en, hS⟩ := r.ex
 have ht := r.touch
 have hn := h.next ht (.inr (.inr (.inr (.inr (.inr (.inr (.inr rfl))))))) (.inr (.inr (.inr (.inr (.inr (.inr (.inl rfl))))))) hS
 have hnd := h.nd
 simp only [List.nodup_cons, List.mem_cons, List.not_mem_nil, or_false, not_or, not_false_eq_true, and_true, List.nodup_nil] at hnd
 obtain ⟨⟨a1, a2, a3, a4, a5, a6, a7⟩, ⟨b1, b2, b3, b4, b5, b6⟩, ⟨c1, c2, c3, c4, c5⟩, ⟨d1, d2, d3, d4⟩, ⟨e1, e2, e3⟩, ⟨f1, f2⟩, g1⟩ := hnd
 have f := fun {b : Nat} (hb : In8 kT kG bB bG nB nG dB dG b) h1 h2 => h.far ht hb h1 h2
 exact ⟨S', ⟨⟨vo, en⟩, ok, (f (.inl rfl) (by first | assumption | (apply Ne.symm; assumption)) (by first | assumption | (apply Ne.symm; assumption))).trans h.kt.to, (f (.inr (.inl rfl)) (by first | assumption | (apply Ne.symm; assumption)) (by first | assumption | (apply Ne.symm; assumption))).trans h.kr.to, h.kl, (f (.inr (.inr (.inl rfl))) (by first | assumption | (apply Ne.symm; assumption)) (by first | assumption | (apply Ne.symm; assumption))).trans h.bo.to, (f (.inr (.inr (.inr (.inl rfl)))) (by first | assumption | (apply Ne.symm; assumption)) (by first | assumption | (apply Ne.symm; assumption))).trans h.br.to, h.bl, h.ll, (f (.inr (.inr (.inr (.inr (.inl rfl))))) (by first | assumption | (apply Ne.symm; assumption)) (by first | assumption | (apply Ne.symm; assumption))).trans h.no.to, (f (.inr (.inr (.inr (.inr (.inr (.inl rfl)))))) (by first | assumption | (apply Ne.symm; assumption)) (by first | assumption | (apply Ne.symm; assumption))).trans h.nr.to, h.nl, hc, r.row, hk, hn.1, hn.2.1, h.nd, hn.2.2⟩, hS⟩
theorem LzO.mono (h : LzO w0 w kT kG bB bG nB nG dB dG E S st) (hb : Below w.heap.size w w') : LzO w0 w' kT kG bB bG nB nG dB dG E S st := by
 have k : ∀ g o, w.heap[g]? = some o → w'.heap[g]? = some o := fun g o h => (hb.block g (Array.getElem?_eq_some_iff.1 h).1).trans h
 obtain ⟨vo, en⟩ := h.en
 exact ⟨⟨vo, en.frame hb.size fun q hq => hb.block q (en.lt q hq)⟩, h.ok, k _ _ h.kt, k _ _ h.kr, h.kl, k _ _ h.bo, k _ _ h.br, h.bl, h.ll, k _ _ h.no, k _ _ h.nr, h.nl, k _ _ h.dO, k _ _ h.dr, h.dl, h.ns, h.gw, h.nd, bstep h.below (Nat.le_refl _) hb⟩
/-- with other blocks that stay -/
structure LzX (w0 w : World) (kT kG bB bG nB nG dB dG E : Nat) (S : Nat → Prop) (st : LzS) (X : List (Nat × Obj)) : Prop where
 o : LzO w0 w kT kG bB bG nB nG dB dG E S st
 x : ∀ q ∈ X, w.heap[q.1]? = some q.2 ∧ ¬ S q.1 ∧ ¬ In8 kT kG bB bG nB nG dB dG q.1
theorem LzX.next {X : List (Nat × Obj)} {st' : LzS} (h : LzX w0 w kT kG bB bG nB nG dB dG E S st X) (ht : Touch (fun k => S k ∨ k = G ∨ k = B) w w') (hG : In8 kT kG bB bG nB nG dB dG G) (hB : In8 kT kG bB bG nB nG dB dG B) (h' : LzO w0 w' kT kG bB bG nB nG dB dG E S' st') (hS : ∀ k, S' k → S k ∨ w.heap.size ≤ k) : LzX w0 w' kT kG bB bG nB nG dB dG E S' st' X := by
 refine ⟨h', fun q hq => ?_⟩
 obtain ⟨h1, h2, h3⟩ := h.x q hq
 have hl := (Array.getElem?_eq_some_iff.1 h1).1
 refine ⟨(ht.block q.1 hl (by rintro (e | e | e); exact h2 e; exact h3 (e ▸ hG); exact h3 (e ▸ hB))).trans h1, fun e => ?_, h3⟩
 rcases hS _ e with e | e
 ·exact h2 e
 ·omega
theorem LzX.mono {X : List (Nat × Obj)} (h : LzX w0 w kT kG bB bG nB nG dB dG E S st X) (hb : Below w.heap.size w w') : LzX w0 w' kT kG bB bG nB nG dB dG E S st X :=
 ⟨h.o.mono hb, fun q hq => by
  obtain ⟨h1, h2⟩ := h.x q hq
  exact ⟨(hb.block _ (Array.getElem?_eq_some_iff.1 h1).1).trans h1, h2⟩⟩
theorem LzX.cons {X : List (Nat × Obj)} (h : LzX w0 w kT kG bB bG nB nG dB dG E S st X) (o : Obj) : LzX w0 (w.alloc o) kT kG bB bG nB nG dB dG E S st ((w.heap.size, o) :: X) := by
 have h1 := h.mono ((Below.refl w.heap.size w).alloc (Nat.le_refl _) o)
 refine ⟨h1.o, fun q hq => ?_⟩
 rcases List.mem_cons.1 hq with rfl | hq
 ·obtain ⟨vo, en⟩ := h.o.en
  exact ⟨heap_alloc_new _ _, fun e => absurd (en.lt _ e) (by simp), fun e => absurd (h.o.lt e) (by simp)⟩
 ·exact h1.x q hq
theorem LzX.sub {X Y : List (Nat × Obj)} (h : LzX w0 w kT kG bB bG nB nG dB dG E S st X) (hs : ∀ q ∈ Y, q ∈ X) : LzX w0 w kT kG bB bG nB nG dB dG E S st Y := ⟨h.o, fun q hq => h.x q (hs q hq)⟩
end
/-- a new set of models -/
structure SetN (w0 w : World) (kT kG bB bG nB nG dB dG : Nat) : Prop where
 kt : TRow w kT (tcells kG 1 2 1)
 kr : IRow w kG (half 2)
 bo : BytO bB bG 0 w
 br : IRow w bG (half 2048)
 no : NumO nB nG w
 nr : IRow w nG (half 64)
 dO : NumO dB dG w
 dr : IRow w dG (half 64)
 ge : ∀ b, In8 kT kG bB bG nB nG dB dG b → w0.heap.size ≤ b
 nd : [kT, kG, bB, bG, nB, nG, dB, dG].Nodup
 below : Below w0.heap.size w0 w
theorem SetN.mono {w0 w w' : World} {kT kG bB bG nB nG dB dG : Nat} (h : SetN w0 w kT kG bB bG nB nG dB dG) (hb : Below w.heap.size w w') : SetN w0 w' kT kG bB bG nB nG dB dG := by
 have k : ∀ g o, w.heap[g]? = some o → w'.heap[g]? = some o := fun g o h => (hb.block g (Array.getElem?_eq_some_iff.1 h).1).trans h
 exact ⟨k _ _ h.kt, k _ _ h.kr, k _ _ h.bo, k _ _ h.br, k _ _ h.no, k _ _ h.nr, k _ _ h.dO, k _ _ h.dr, h.ge, h.nd, bstep h.below (Nat.le_refl _) hb⟩
def setV (kT bB nB dB : Nat) : Value := .agg #[.pointer (some ⟨kT, 0, none⟩), .pointer (some ⟨bB, 0, none⟩), .pointer (some ⟨nB, 0, none⟩), .pointer (some ⟨dB, 0, none⟩)]
set_option maxRecDepth 100000 in
set_option maxHeartbeats 1000000 in
theorem newset_walk (w : World) : Calls Tryz.prog 54 #[] w fun x w' => ∃ kT kG bB bG nB nG dB dG, x = .returned (setV kT bB nB dB) ∧ SetN w w' kT kG bB bG nB nG dB dG := by
 have HT := Lib.hid fun w => newTree_walk w
 have HB := Lib.hid fun w => newBytes_walk w
 have HN := Lib.hid fun w => newNumbers_walk w
 go_enter Tryz.func54, Tryz.ntmps54
 go_upto_region 1 with (fail)
 obtain ⟨R, hR⟩ : ∃ R, w.heap.size = R := ⟨_, rfl⟩
 obtain ⟨W0, hW0⟩ : ∃ W, w.alloc (.cells #[.pointer none, .pointer none, .pointer none, .pointer none] 92) = W := ⟨_, rfl⟩
 have hb0 : Below w.heap.size w W0 := by rw [← hW0]; exact (Below.refl _ _).alloc (Nat.le_refl _) _
 have hr0 : W0.heap[R]? = some (.cells #[.pointer none, .pointer none, .pointer none, .pointer none] 92 (0, 0)) := by rw [← hW0, ← hR]; exact heap_alloc_new _ _
 have HB0 := Lib.hid hb0
 have HR0 := Lib.hid hr0
 have HRe : Hid (w.heap.size ≤ R) := Lib.hid (Nat.le_of_eq hR)
 rw [hW0, hR]
 clear hb0 hr0 hW0 hR
 go_wp2_with fail
 refine (HT.out _).mono ?_
 rintro x w1 ⟨kG, kT, rfl, g1, g2, g3, hb1, hk, ht⟩
 go_wp2_with fail
 refine (HB.out _).mono ?_
 rintro x w2 ⟨bG, bB, rfl, g4, g5, g6, hb2, hb, hbo⟩
 go_wp2_with fail
 refine (HN.out _).mono ?_
 rintro x w3 ⟨nG, nB, rfl, g7, g8, g9, hb3, hn, hno⟩
 go_wp2_with fail
 refine (HN.out _).mono ?_
 rintro x w4 ⟨dG, dB, rfl, g10, g11, g12, hb4, hd, hdo⟩
 have hkl := (Array.getElem?_eq_some_iff.1 hk.to).1
 have htl := (Array.getElem?_eq_some_iff.1 ht.to).1
 have hbl := (Array.getElem?_eq_some_iff.1 hb.to).1
 have hbol := (Array.getElem?_eq_some_iff.1 hbo.to).1
 have hnl := (Array.getElem?_eq_some_iff.1 hn.to).1
 have hnol := (Array.getElem?_eq_some_iff.1 hno.to).1
 have hdl := (Array.getElem?_eq_some_iff.1 hd.to).1
 have hdol := (Array.getElem?_eq_some_iff.1 hdo.to).1
 have hRl := (Array.getElem?_eq_some_iff.1 HR0.out).1
 have s1 := hb1.size
 have s2 := hb2.size
 have s3 := hb3.size
 have s4 := hb4.size
 have s0 := HB0.out.size
 have hr4 : w4.heap[R]? = some (.cells #[.pointer none, .pointer none, .pointer none, .pointer none] 92 (0, 0)) := by
  rw [hb4.block R (by omega), hb3.block R (by omega), hb2.block R (by omega), hb1.block R hRl]; exact HR0.out
 have k : ∀ {a b : World}, Below a.heap.size a b → ∀ {g : Nat} {o : Obj}, a.heap[g]? = some o → b.heap[g]? = some o := fun hb g o h => (hb.block g (Array.getElem?_eq_some_iff.1 h).1).trans h
 have HSet : Hid (SetN w w4 kT kG bB bG nB nG dB dG) := Lib.hid (by
  refine ⟨k hb4 (k hb3 (k hb2 ht.to)), k hb4 (k hb3 (k hb2 hk.to)), k hb4 (k hb3 hbo.to), k hb4 (k hb3 hb.to), k hb4 hno.to, k hb4 hn.to, hdo, hd, ?_, ?_, ((HB0.out.trans (hb1.mono (by omega))).trans (hb2.mono (by omega))).trans ((hb3.mono (by omega)).trans (hb4.mono (by omega)))⟩
  ·rintro b (rfl | rfl | rfl | rfl | rfl | rfl | rfl | rfl) <;> omega
  ·simp only [List.nodup_cons, List.mem_cons, List.not_mem_nil, or_false, not_or, not_false_eq_true, and_true, List.nodup_nil]
   refine ⟨⟨?_, ?_, ?_, ?_, ?_, ?_, ?_⟩, ⟨?_, ?_, ?_, ?_, ?_, ?_⟩, ⟨?_, ?_, ?_, ?_, ?_⟩, ⟨?_, ?_, ?_, ?_⟩, ⟨?_, ?_, ?_⟩, ⟨?_, ?_⟩, ?_⟩ <;> omega)
 have HR4 := Lib.hid hr4
 have hfr := fr_of hr4
 have c0 : w4.cell? ⟨R, 0, none⟩ = some (.pointer none) := by rw [cell_of_row w4 R 0 _ _ _ hr4]; rfl
 have c1 : w4.cell? ⟨R, 1, none⟩ = some (.pointer none) := by rw [cell_of_row w4 R 1 _ _ _ hr4]; rfl
 have c2 : w4.cell? ⟨R, 2, none⟩ = some (.pointer none) := by rw [cell_of_row w4 R 2 _ _ _ hr4]; rfl
 have c3 : w4.cell? ⟨R, 3, none⟩ = some (.pointer none) := by rw [cell_of_row w4 R 3 _ _ _ hr4]; rfl
 clear g1 g2 g3 hb1 hk ht g4 g5 g6 hb2 hb hbo g7 g8 g9 hb3 hn hno g10 g11 g12 hb4 hd hdo hkl htl hbl hbol hnl hnol hdl hdol hRl s1 s2 s3 s4 s0 hr4 k
 go_wp2_with fail
 obtain ⟨WF, hWF⟩ : ∃ W, (((w4.setCell ⟨R, 0, none⟩ (.pointer (some ⟨kT, 0, none⟩))).setCell ⟨R, 1, none⟩ (.pointer (some ⟨bB, 0, none⟩))).setCell ⟨R, 2, none⟩ (.pointer (some ⟨nB, 0, none⟩))).setCell ⟨R, 3, none⟩ (.pointer (some ⟨dB, 0, none⟩)) = W := ⟨_, rfl⟩
 have hrF : WF.heap[R]? = some (.cells #[.pointer (some ⟨kT, 0, none⟩), .pointer (some ⟨bB, 0, none⟩), .pointer (some ⟨nB, 0, none⟩), .pointer (some ⟨dB, 0, none⟩)] 92 (0, 0)) := by
  rw [← hWF]
  exact heap_setCell_any _ R 3 _ _ _ _ (heap_setCell_any _ R 2 _ _ _ _ (heap_setCell_any _ R 1 _ _ _ _ (heap_setCell_any w4 R 0 _ _ _ _ HR4.out)))
 have d0 : WF.cell? ⟨R, 0, none⟩ = some (.pointer (some ⟨kT, 0, none⟩)) := by rw [cell_of_row WF R 0 _ _ _ hrF]; rfl
 have d1 : WF.cell? ⟨R, 1, none⟩ = some (.pointer (some ⟨bB, 0, none⟩)) := by rw [cell_of_row WF R 1 _ _ _ hrF]; rfl
 have d2 : WF.cell? ⟨R, 2, none⟩ = some (.pointer (some ⟨nB, 0, none⟩)) := by rw [cell_of_row WF R 2 _ _ _ hrF]; rfl
 have d3 : WF.cell? ⟨R, 3, none⟩ = some (.pointer (some ⟨dB, 0, none⟩)) := by rw [cell_of_row WF R 3 _ _ _ hrF]; rfl
 rw [hWF]
 refine bodyPost_ret (v := setV kT bB nB dB) ?_ rfl ?_
 ·have hres : Tryz.f54.results = #[.cell 0 92] := rfl
  unfold setV
  simp [results, hres, d0, d1, d2, d3, go_sem]
 ·have h := HSet.out
  have far : ∀ {g : Nat} {a : Array Value} {t : TypeId}, w4.heap[g]? = some (.cells a t (0, 0)) → t ≠ 92 → WF.heap[g]? = some (.cells a t (0, 0)) := fun {g a t} hg ht => by
   have hne := cells_ne hg HR4.out ht
   rw [← hWF]
   exact ((Below.heap_setCell _ ⟨R, 3, none⟩ _ g hne).trans ((Below.heap_setCell _ ⟨R, 2, none⟩ _ g hne).trans ((Below.heap_setCell _ ⟨R, 1, none⟩ _ g hne).trans (Below.heap_setCell w4 ⟨R, 0, none⟩ _ g hne)))).trans hg
  have hb : Below w.heap.size w WF := by
   rw [← hWF]
   exact (((h.below.setCell (p := ⟨R, 0, none⟩) HRe.out _).setCell (p := ⟨R, 1, none⟩) HRe.out _).setCell (p := ⟨R, 2, none⟩) HRe.out _).setCell (p := ⟨R, 3, none⟩) HRe.out _
  exact ⟨kT, kG, bB, bG, nB, nG, dB, dG, rfl, far h.kt.to (by decide), far h.kr.to (by decide), far h.bo.to (by decide), far h.br.to (by decide), far h.no.to (by decide), far h.nr.to (by decide), far h.dO.to (by decide), far h.dr.to (by decide), h.ge, h.nd, hb⟩
theorem setV_cells {w : World} {M : Nat} {a b c d : Nat} (h : w.heap[M]? = some (.cells #[.pointer (some ⟨a, 0, none⟩), .pointer (some ⟨b, 0, none⟩), .pointer (some ⟨c, 0, none⟩), .pointer (some ⟨d, 0, none⟩)] 92 (0, 0))) : w.cell? ⟨M, 0, none⟩ = some (.pointer (some ⟨a, 0, none⟩)) ∧ w.cell? ⟨M, 1, none⟩ = some (.pointer (some ⟨b, 0, none⟩)) ∧ w.cell? ⟨M, 2, none⟩ = some (.pointer (some ⟨c, 0, none⟩)) ∧ w.cell? ⟨M, 3, none⟩ = some (.pointer (some ⟨d, 0, none⟩)) := by
 refine ⟨?_, ?_, ?_, ?_⟩ <;> rw [cell_of_row w M _ _ _ _ h] <;> rfl
abbrev mObj (a b c d : Nat) : Obj := .cells #[.pointer (some ⟨a, 0, none⟩), .pointer (some ⟨b, 0, none⟩), .pointer (some ⟨c, 0, none⟩), .pointer (some ⟨d, 0, none⟩)] 92 (0, 0)
abbrev cObj (E : Nat) : Obj := .cells #[.pointer (some ⟨E, 0, none⟩)] 94 (0, 0)
abbrev pObj (l d b : Nat) : Obj := .cells #[.int .i64 (l : Int), .int .i64 (d : Int), .int .u8 (b : Int)] 97 (0, 0)
set_option maxRecDepth 100000 in
set_option maxHeartbeats 2000000 in
theorem lzwrite_walk {w0 w : World} {kT kG bB bG nB nG dB dG E : Nat} {S : Nat → Prop} {st : LzS} {M X : Nat} (h : LzX w0 w kT kG bB bG nB nG dB dG E S st [(M, mObj kT bB nB dB), (X, cObj E)]) (l d b : Nat) (hl1 : 1 ≤ l) (hl : l ≤ 10000) (hd : d ≤ 10000) (hb : b < 256) (hld : d = 0 ∨ 2 ≤ l) (ho : st.e.out.length ≤ 790000) :
  Calls Tryz.prog 56 #[pieceV l d b, .pointer (some ⟨M, 0, none⟩), .pointer (some ⟨X, 0, none⟩)] w fun x w' => x = .returned (.tuple #[]) ∧ ∃ S', LzX w0 w' kT kG bB bG nB nG dB dG E S' (lzW st (l, d, b)) [(M, mObj kT bB nB dB), (X, cObj E)] ∧ (lzW st (l, d, b)).e.out.length ≤ st.e.out.length + 137 * l := by
 unfold pieceV
 obtain ⟨P, hP⟩ : ∃ P, w.heap.size = P := ⟨_, rfl⟩
 obtain ⟨W0, hW0⟩ : ∃ W, w.alloc (.cells #[.int .i64 (l : Int), .int .i64 (d : Int), .int .u8 (b : Int)] 97) = W := ⟨_, rfl⟩
 have h0 := h.cons (pObj l d b)
 rw [hP] at h0
 have h0' : LzX w0 W0 kT kG bB bG nB nG dB dG E S st [(P, pObj l d b), (M, mObj kT bB nB dB), (X, cObj E)] := by rw [← hW0]; exact h0
 have H0 := Lib.hid h0'
 have HW0 := Lib.hid hW0
 have HPe := Lib.hid hP
 have hnd := h.o.nd
 simp only [List.nodup_cons, List.mem_cons, List.not_mem_nil, or_false, not_or, not_false_eq_true, and_true, List.nodup_nil] at hnd
 obtain ⟨⟨n01, -⟩, -, ⟨n23, -⟩, -, ⟨n45, -⟩, -, n67⟩ := hnd
 have HND : Hid (kT ≠ kG ∧ bB ≠ bG ∧ nB ≠ nG ∧ dB ≠ dG) := Lib.hid ⟨n01, n23, n45, n67⟩
 have HLn : Hid (st.e.out.length ≤ 790000 ∧ l ≤ 10000 ∧ d ≤ 10000) := Lib.hid ⟨ho, hl, hd⟩
 have hli : (l : Int) ≤ 10000 := by omega
 have hdi : (d : Int) ≤ 10000 := by omega
 have hbi : (b : Int) < 256 := by omega
 have HBl := Lib.hid hb
 clear h h0 h0' hW0 hP n01 n23 n45 n67 hl hd hb ho
 have hkl := H0.out.o.kl
 by_cases hd0 : d = 0
 ·have hLz : lzW st (l, d, b) = { st with k := (trE 1 0 0 1 st.k st.e).1, b := (byE st.b st.l b (trE 1 0 0 1 st.k st.e).2).1, l := b, e := (byE st.b st.l b (trE 1 0 0 1 st.k st.e).2).2 } := by unfold lzW; rw [if_pos hd0]
  have hdi0 : ((d : Int) == 0) = true := by simp [hd0]
  have HDz : Hid ((d : Int) = 0) := Lib.hid (by omega)
  obtain ⟨vo, en⟩ := H0.out.o.en
  have hT := treeE_walk en H0.out.o.ok (trow_tr H0.out.o.kt) (by decide) (by decide) H0.out.o.kr (by omega) (H0.out.o.ns _ (.inr (.inl rfl))) (H0.out.o.ns _ (.inl rfl)) HND.out.1 (by have := HLn.out.1; omega) 0 (by decide)
  have hto := trE_ok 1 0 0 1 st.k st.e H0.out.o.ok
  have htl := trE_len 1 0 0 1 st.k st.e
  obtain ⟨⟨k1, e1⟩, hk1⟩ : ∃ r, trE 1 0 0 1 st.k st.e = r := ⟨_, rfl⟩
  rw [hk1] at hT hto htl hLz
  simp only at hto htl hLz
  have hbo := byE_ok hto.1 st.b st.l b
  obtain ⟨⟨k2, e2⟩, hk2⟩ : ∃ r, byE st.b st.l b e1 = r := ⟨_, rfl⟩
  rw [hk2] at hbo hLz
  simp only at hbo hLz
  have HK2 := Lib.hid hk2
  have HT := Lib.hid hT
  have HLz := Lib.hid hLz
  have HTo := Lib.hid hto
  have HTl : Hid (k1.length = 2) := Lib.hid (by omega)
  have HBo := Lib.hid hbo
  have hm := ((H0.out).x (M, mObj kT bB nB dB) (by simp)).1
  have hx := ((H0.out).x (X, cObj E) (by simp)).1
  have hp := ((H0.out).x (P, pObj l d b) (by simp)).1
  obtain ⟨m0, m1, m2, m3⟩ := setV_cells hm
  have x0 := (one_cell hx).1
  have p0 : (W0).cell? ⟨P, 0, none⟩ = some (.int .i64 (l : Int)) := by rw [cell_of_row _ P 0 _ _ _ hp]; rfl
  have p1 : (W0).cell? ⟨P, 1, none⟩ = some (.int .i64 (d : Int)) := by rw [cell_of_row _ P 1 _ _ _ hp]; rfl
  have p2 : (W0).cell? ⟨P, 2, none⟩ = some (.int .u8 (b : Int)) := by rw [cell_of_row _ P 2 _ _ _ hp]; rfl
  clear hm hx hp
  clear en hT hto htl hLz hk1 hk2 hbo hd0 hkl
  go_enter Tryz.func56, Tryz.ntmps56
  go_upto_region 1 with (fail)
  rw [HW0.out, HPe.out]
  have hdz := HDz.out
  go_wp2_with fail
  refine (HT.out).mono ?_
  rintro x w1 ⟨rfl, r1⟩
  obtain ⟨S1, o1, hS1, ht1⟩ := H0.out.o.stepK r1 HTl.out HTo.out.1
  have H1 := Lib.hid (H0.out.next ht1 (.inr (.inl rfl)) (.inr (.inl rfl)) o1 hS1)
  clear m0 m1 m2 m3 x0 p0 p1 p2
  clear r1 o1 hS1 ht1 HT
  obtain ⟨vo, en⟩ := H1.out.o.en
  have hT := (bytE_walk (L := st.b) (l := st.l) (e := e1) en H1.out.o.ok H1.out.o.bo H1.out.o.ll H1.out.o.br H1.out.o.bl (H1.out.o.ns _ (.inr (.inr (.inr (.inl rfl))))) (H1.out.o.ns _ (.inr (.inr (.inl rfl)))) HND.out.2.1 (by have := HLn.out.1; have := HTo.out.2; show e1.out.length + 16 ≤ 800000; omega) b HBl.out)
  rw [HK2.out] at hT
  have HT := Lib.hid hT
  clear hT
  have hm := ((H1.out).x (M, mObj kT bB nB dB) (by simp)).1
  have hx := ((H1.out).x (X, cObj E) (by simp)).1
  have hp := ((H1.out).x (P, pObj l d b) (by simp)).1
  obtain ⟨m0, m1, m2, m3⟩ := setV_cells hm
  have x0 := (one_cell hx).1
  have p0 : (w1).cell? ⟨P, 0, none⟩ = some (.int .i64 (l : Int)) := by rw [cell_of_row _ P 0 _ _ _ hp]; rfl
  have p1 : (w1).cell? ⟨P, 1, none⟩ = some (.int .i64 (d : Int)) := by rw [cell_of_row _ P 1 _ _ _ hp]; rfl
  have p2 : (w1).cell? ⟨P, 2, none⟩ = some (.int .u8 (b : Int)) := by rw [cell_of_row _ P 2 _ _ _ hp]; rfl
  clear hm hx hp
  clear en
  go_wp2_with fail
  refine (HT.out).mono ?_
  rintro x w2 ⟨rfl, r2, hbo2⟩
  obtain ⟨S2, o2, hS2⟩ := H1.out.o.stepB r2 hbo2 HBl.out (by rw [HBo.out.2.2]; exact H1.out.o.bl) HBo.out.1
  have H2 := Lib.hid (H1.out.next r2.touch (.inr (.inr (.inr (.inl rfl)))) (.inr (.inr (.inl rfl))) o2 hS2)
  clear m0 m1 m2 m3 x0 p0 p1 p2
  clear r2 o2 hS2 hbo2 HT
  go_wp2_with fail
  refine bodyPost_ret (results_none rfl _ _ _) rfl ?_
  rw [HLz.out]
  refine ⟨rfl, S2, H2.out.sub (by intro q hq; simp at hq ⊢; rcases hq with h | h <;> simp [h]), ?_⟩
  have h1 := HTo.out.2
  have h2 := HBo.out.2.1
  show e2.out.length ≤ _
  omega
 ·have hl2 : 2 ≤ l := hld.resolve_left hd0
  obtain ⟨l2, hl2e⟩ : ∃ q, l - 2 = q := ⟨_, rfl⟩
  obtain ⟨d1, hd1e⟩ : ∃ q, d - 1 = q := ⟨_, rfl⟩
  have hLz : lzW st (l, d, b) = { st with k := (trE 1 0 1 1 st.k st.e).1, n := (nuE st.n l2 (trE 1 0 1 1 st.k st.e).2).1, d := (nuE st.d d1 (nuE st.n l2 (trE 1 0 1 1 st.k st.e).2).2).1, e := (nuE st.d d1 (nuE st.n l2 (trE 1 0 1 1 st.k st.e).2).2).2 } := by unfold lzW; rw [if_neg hd0, ← hl2e, ← hd1e]
  have hdi0 : ((d : Int) == 0) = false := by simp [hd0]
  have hli2 : (l : Int) - 2 = (l2 : Int) := by omega
  have hdi1 : (d : Int) - 1 = (d1 : Int) := by omega
  have hl2b : (l2 : Int) ≤ 10000 := by omega
  have hd1b : (d1 : Int) ≤ 10000 := by omega
  obtain ⟨vo, en⟩ := H0.out.o.en
  have hT := treeE_walk en H0.out.o.ok (trow_tr H0.out.o.kt) (by decide) (by decide) H0.out.o.kr (by omega) (H0.out.o.ns _ (.inr (.inl rfl))) (H0.out.o.ns _ (.inl rfl)) HND.out.1 (by have := HLn.out.1; omega) 1 (by decide)
  have hto := trE_ok 1 0 1 1 st.k st.e H0.out.o.ok
  have htl := trE_len 1 0 1 1 st.k st.e
  obtain ⟨⟨k1, e1⟩, hk1⟩ : ∃ r, trE 1 0 1 1 st.k st.e = r := ⟨_, rfl⟩
  rw [hk1] at hT hto htl hLz
  simp only at hto htl hLz
  have hno := nuE_ok hto.1 st.n l2 (by omega)
  obtain ⟨⟨k2, e2⟩, hk2⟩ : ∃ r, nuE st.n l2 e1 = r := ⟨_, rfl⟩
  rw [hk2] at hno hLz
  simp only at hno hLz
  have hdo := nuE_ok hno.1 st.d d1 (by omega)
  obtain ⟨⟨k3, e3⟩, hk3⟩ : ∃ r, nuE st.d d1 e2 = r := ⟨_, rfl⟩
  rw [hk3] at hdo hLz
  simp only at hdo hLz
  have HK2 := Lib.hid hk2
  have HK3 := Lib.hid hk3
  have HT := Lib.hid hT
  have HLz := Lib.hid hLz
  have HTo := Lib.hid hto
  have HTl : Hid (k1.length = 2) := Lib.hid (by omega)
  have HNo := Lib.hid hno
  have HDo := Lib.hid hdo
  have HL2 : Hid (l2 ≤ 10000 ∧ d1 ≤ 10000) := Lib.hid ⟨by omega, by omega⟩
  have hm := ((H0.out).x (M, mObj kT bB nB dB) (by simp)).1
  have hx := ((H0.out).x (X, cObj E) (by simp)).1
  have hp := ((H0.out).x (P, pObj l d b) (by simp)).1
  obtain ⟨m0, m1, m2, m3⟩ := setV_cells hm
  have x0 := (one_cell hx).1
  have p0 : (W0).cell? ⟨P, 0, none⟩ = some (.int .i64 (l : Int)) := by rw [cell_of_row _ P 0 _ _ _ hp]; rfl
  have p1 : (W0).cell? ⟨P, 1, none⟩ = some (.int .i64 (d : Int)) := by rw [cell_of_row _ P 1 _ _ _ hp]; rfl
  have p2 : (W0).cell? ⟨P, 2, none⟩ = some (.int .u8 (b : Int)) := by rw [cell_of_row _ P 2 _ _ _ hp]; rfl
  clear hm hx hp
  clear en hT hto htl hLz hk1 hk2 hk3 hno hdo hd0 hkl hl2 hl2e hd1e
  go_enter Tryz.func56, Tryz.ntmps56
  go_upto_region 1 with (fail)
  rw [HW0.out, HPe.out]
  go_wp2_with fail
  refine (HT.out).mono ?_
  rintro x w1 ⟨rfl, r1⟩
  obtain ⟨S1, o1, hS1, ht1⟩ := H0.out.o.stepK r1 HTl.out HTo.out.1
  have H1 := Lib.hid (H0.out.next ht1 (.inr (.inl rfl)) (.inr (.inl rfl)) o1 hS1)
  clear m0 m1 m2 m3 x0 p0 p1 p2
  clear r1 o1 hS1 ht1 HT
  obtain ⟨vo, en⟩ := H1.out.o.en
  have hT := (numE_walk (L := st.n) (e := e1) en H1.out.o.ok H1.out.o.no H1.out.o.nr H1.out.o.nl (H1.out.o.ns _ (.inr (.inr (.inr (.inr (.inr (.inl rfl))))))) (H1.out.o.ns _ (.inr (.inr (.inr (.inr (.inl rfl)))))) HND.out.2.2.1 (by have := HLn.out.1; have := HTo.out.2; omega) l2 (by have := HL2.out.1; omega))
  rw [HK2.out] at hT
  have HT := Lib.hid hT
  clear hT
  have hm := ((H1.out).x (M, mObj kT bB nB dB) (by simp)).1
  have hx := ((H1.out).x (X, cObj E) (by simp)).1
  have hp := ((H1.out).x (P, pObj l d b) (by simp)).1
  obtain ⟨m0, m1, m2, m3⟩ := setV_cells hm
  have x0 := (one_cell hx).1
  have p0 : (w1).cell? ⟨P, 0, none⟩ = some (.int .i64 (l : Int)) := by rw [cell_of_row _ P 0 _ _ _ hp]; rfl
  have p1 : (w1).cell? ⟨P, 1, none⟩ = some (.int .i64 (d : Int)) := by rw [cell_of_row _ P 1 _ _ _ hp]; rfl
  have p2 : (w1).cell? ⟨P, 2, none⟩ = some (.int .u8 (b : Int)) := by rw [cell_of_row _ P 2 _ _ _ hp]; rfl
  clear hm hx hp
  clear en
  go_wp2_with fail
  refine (HT.out).mono ?_
  rintro x w2 ⟨rfl, r2, hno2⟩
  obtain ⟨S2, o2, hS2⟩ := H1.out.o.stepN r2 hno2 (by rw [HNo.out.2.2]; exact H1.out.o.nl) HNo.out.1
  have H2 := Lib.hid (H1.out.next r2.touch (.inr (.inr (.inr (.inr (.inr (.inl rfl)))))) (.inr (.inr (.inr (.inr (.inl rfl))))) o2 hS2)
  clear m0 m1 m2 m3 x0 p0 p1 p2
  clear r2 o2 hS2 hno2 HT
  obtain ⟨vo, en⟩ := H2.out.o.en
  have hT := (numE_walk (L := st.d) (e := e2) en H2.out.o.ok H2.out.o.dO H2.out.o.dr H2.out.o.dl (H2.out.o.ns _ (.inr (.inr (.inr (.inr (.inr (.inr (.inr rfl)))))))) (H2.out.o.ns _ (.inr (.inr (.inr (.inr (.inr (.inr (.inl rfl)))))))) HND.out.2.2.2 (by have := HLn.out.1; have := HTo.out.2; have := HNo.out.2.1; omega) d1 (by have := HL2.out.2; omega))
  rw [HK3.out] at hT
  have HT := Lib.hid hT
  clear hT
  have hm := ((H2.out).x (M, mObj kT bB nB dB) (by simp)).1
  have hx := ((H2.out).x (X, cObj E) (by simp)).1
  have hp := ((H2.out).x (P, pObj l d b) (by simp)).1
  obtain ⟨m0, m1, m2, m3⟩ := setV_cells hm
  have x0 := (one_cell hx).1
  have p0 : (w2).cell? ⟨P, 0, none⟩ = some (.int .i64 (l : Int)) := by rw [cell_of_row _ P 0 _ _ _ hp]; rfl
  have p1 : (w2).cell? ⟨P, 1, none⟩ = some (.int .i64 (d : Int)) := by rw [cell_of_row _ P 1 _ _ _ hp]; rfl
  have p2 : (w2).cell? ⟨P, 2, none⟩ = some (.int .u8 (b : Int)) := by rw [cell_of_row _ P 2 _ _ _ hp]; rfl
  clear hm hx hp
  clear en
  go_wp2_with fail
  refine (HT.out).mono ?_
  rintro x w3 ⟨rfl, r3, hdo3⟩
  obtain ⟨S3, o3, hS3⟩ := H2.out.o.stepD r3 hdo3 (by rw [HDo.out.2.2]; exact H2.out.o.dl) HDo.out.1
  have H3 := Lib.hid (H2.out.next r3.touch (.inr (.inr (.inr (.inr (.inr (.inr (.inr rfl))))))) (.inr (.inr (.inr (.inr (.inr (.inr (.inl rfl))))))) o3 hS3)
  clear m0 m1 m2 m3 x0 p0 p1 p2
  clear r3 o3 hS3 hdo3 HT
  go_wp2_with fail
  refine bodyPost_end (results_none rfl _ _ _) rfl ?_
  rw [HLz.out]
  refine ⟨rfl, S3, H3.out.sub (by intro q hq; simp at hq ⊢; rcases hq with h | h <;> simp [h]), ?_⟩
  have h1 := HTo.out.2
  have h2 := HNo.out.2.1
  have h3 := HDo.out.2.1
  show e3.out.length ≤ _
  omega
end Go.Proofs.YtlmjefjimoghcaaGreat
