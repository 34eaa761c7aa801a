/- A part of the proofs of TopCounter and TopStrict: what the functions of the program do, each walked once, and plain laws about it. No condition. -/
import Derived.Test.YtlmjefjimoghcaaGreatA01
namespace Go.Proofs.YtlmjefjimoghcaaGreat
set_option linter.unusedSimpArgs false
set_option linter.unnecessarySimpa false
set_option linter.unusedVariables false
open Go.RowKit
attribute [local go_sem ↓] Go.wp_at_zero Go.wp_at_succ
def bcells (l : List UInt8) : List Value := l.map fun b => .int .u8 (b.toNat : Int)
theorem bcells_length (l : List UInt8) : (bcells l).length = l.length := by simp [bcells]
theorem bcells_append (a b : List UInt8) : bcells (a ++ b) = bcells a ++ bcells b := by simp [bcells]
theorem bcells_get {l : List UInt8} {i : Nat} {b : UInt8} (h : l[i]? = some b) : (bcells l)[i]? = some (.int .u8 (b.toNat : Int)) := by simp [bcells, h]
theorem one_bc (l : List UInt8) : ∀ u ∈ bcells l, u.oneCell' = true := fun u hu => by
 obtain ⟨b, _, rfl⟩ := List.mem_map.1 hu
 rfl
/-- a cell of an own row is written -/
theorem row_set {w : World} {e : TypeId} {g n c : Nat} {xs : List Value} (h : w.ownsRow 0 e 1 (.slice (some ⟨g, 0, none⟩) n c) n xs) (i : Nat) (v : Value) (hi : i < n) : (w.setCell ⟨g, i, none⟩ v).ownsRow 0 e 1 (.slice (some ⟨g, 0, none⟩) n c) n (xs.set i v) := by
 refine ⟨by rw [List.length_set]; exact h.1, ?_⟩
 rcases h.2 with ⟨h1, _⟩ | ⟨g', cap, cur, h1, h0, hg, hnc, hcm, hcs, htk⟩
 ·cases h1
 ·injection h1 with h1 _ h2
  injection h1 with h1; injection h1 with h1
  subst h1 h2
  refine .inr ⟨g, c, cur.setIfInBounds i v, rfl, h0, heap_setCell_any w g i cur e _ v hg, hnc, hcm, by rw [Array.size_setIfInBounds]; exact hcs, ?_⟩
  rw [← htk, Array.toList_setIfInBounds, Nat.mul_one, List.take_set]
/-- what was written or made -/
structure Grow (S S' : Nat → Prop) (w w' : World) : Prop where
 touch : Touch S w w'
 s : ∀ k, S' k → S k ∨ w.heap.size ≤ k
 lt : ∀ k, S' k → k < w'.heap.size
theorem Grow.trans {S S' S2 : Nat → Prop} {a b c : World} (h : Grow S S' a b) (k : Grow S' S2 b c) : Grow S S2 a c := by
 have h1 := h.touch.size
 refine ⟨h.touch.trans k.touch fun i hi hs => (h.s i hs).elim id fun h => by omega, fun i hi => ?_, k.lt⟩
 rcases k.s i hi with hs | hs
 ·exact h.s i hs
 ·right; omega
theorem Grow.below {S S' : Nat → Prop} {a b c : World} (h : Grow S S' a b) (hb : Below b.heap.size b c) : Grow S S' a c :=
 ⟨h.touch.trans (.of_below hb) (S' := fun _ => False) (fun _ _ h => h.elim), h.s, fun k hk => Nat.lt_of_lt_of_le (h.lt k hk) hb.size⟩
theorem Grow.same {S : Nat → Prop} {a b : World} (h : Touch S a b) (hl : ∀ k, S k → k < a.heap.size) : Grow S S a b := ⟨h, fun _ h => .inl h, fun k hk => Nat.lt_of_lt_of_le (hl k hk) h.size⟩
/-- an encoder in the memory -/
structure EnO (S : Nat → Prop) (E : Nat) (e : Enc) (w : World) (vo : Value) : Prop where
 obj : w.heap[E]? = some (.cells #[vo, .int .u32 (e.low : Int), .int .u32 (e.size : Int)] 158 (0, 0))
 sE : S E
 ro : w.ownsRow 0 5 1 vo e.out.length (bcells e.out)
 so : ∀ g, vo.ownBlock = some g → S g
 lt : ∀ k, S k → k < w.heap.size
section
variable {S : Nat → Prop} {E : Nat} {e : Enc} {w w' : World} {vo : Value}
theorem EnO.frame (h : EnO S E e w vo) (hs : w.heap.size ≤ w'.heap.size) (hf : ∀ k, S k → w'.heap[k]? = w.heap[k]?) : EnO S E e w' vo :=
 ⟨(hf E h.sE).trans h.obj, h.sE, row_of h.ro fun g hg => hf g (h.so g hg), h.so, fun k hk => Nat.lt_of_lt_of_le (h.lt k hk) hs⟩
theorem EnO.c0 (h : EnO S E e w vo) : w.cell? ⟨E, 0, none⟩ = some vo := by rw [cell_of_row w E 0 _ _ _ h.obj]; rfl
theorem EnO.c1 (h : EnO S E e w vo) : w.cell? ⟨E, 1, none⟩ = some (.int .u32 (e.low : Int)) := by rw [cell_of_row w E 1 _ _ _ h.obj]; rfl
theorem EnO.c2 (h : EnO S E e w vo) : w.cell? ⟨E, 2, none⟩ = some (.int .u32 (e.size : Int)) := by rw [cell_of_row w E 2 _ _ _ h.obj]; rfl
theorem EnO.fr (h : EnO S E e w vo) (i : Nat) : w.frozen? ⟨E, i, none⟩ = false := by simp [World.frozen?, h.obj]
theorem EnO.no (h : EnO S E e w vo) : ∀ g, vo.ownBlock = some g → g ≠ E := fun g hg e' => by
 obtain ⟨cur, hcur⟩ := row_block h.ro hg
 rw [e', h.obj] at hcur
 injection hcur with hcur; injection hcur with _ h _; exact absurd h (by decide)
theorem EnO.el (h : EnO S E e w vo) : E < w.heap.size := (Array.getElem?_eq_some_iff.1 h.obj).1
/-- its numbers are written -/
theorem EnO.set (h : EnO S E e w vo) (i : Nat) (v : Value) (e' : Enc) (ho : e'.out = e.out) (he : (#[vo, .int .u32 (e.low : Int), .int .u32 (e.size : Int)] : Array Value).setIfInBounds i v = #[vo, .int .u32 (e'.low : Int), .int .u32 (e'.size : Int)]) : EnO S E e' (w.setCell ⟨E, i, none⟩ v) vo := by
 refine ⟨(heap_setCell_any w E i _ _ _ v h.obj).trans (by rw [he]), h.sE, ?_, h.so, fun k hk => by have := h.lt k hk; simpa using this⟩
 rw [ho]
 exact row_of h.ro fun g hg => Below.heap_setCell w ⟨E, i, none⟩ v g (h.no g hg)
/-- 1 is added to the bytes that were put out -/
theorem carry_walk (h : EnO S E e w vo) (hn : e.out.length ≤ 900000) : Calls Tryz.prog 119 #[.pointer (some ⟨E, 0, none⟩)] w fun x w' => x = .returned (.tuple #[]) ∧ Touch S w w' ∧ EnO S E ⟨carryL e.out, e.low, e.size⟩ w' vo := by
 obtain ⟨A, c, rfl⟩ := row_sl h.ro
 have hno := h.no
 have H := Lib.hid h
 have c0 := h.c0
 clear h
 go_enter Tryz.func119, Tryz.ntmps119
 go_wp2_with fail
 go_loopw [2] (fun i wr => ∃ (p : List UInt8) (m : Nat), e.out.length = p.length + m ∧ i = .int .i64 ((p.length : Int) - 1) ∧ EnO S E ⟨p ++ List.replicate m 0, e.low, e.size⟩ wr (.slice A e.out.length c) ∧ carryL e.out = carryL p ++ List.replicate m 0 ∧ Touch S w wr) (fun i _ => (intOf i + 1).toNat)
 case atStart => exact ⟨e.out, 0, by simp, rfl, by simpa using H.out, by simp, .refl _ _⟩
 case round =>
  obtain ⟨p, m, hl, rfl, he, hc, ht⟩ := hrel
  have HE := Lib.hid he
  have HC := Lib.hid hc
  have HT := Lib.hid ht
  have c0 := he.c0
  have hro := he.ro
  clear he hc ht
  rcases snoc_cases p with rfl | ⟨q, b, rfl⟩
  ·go_wp2_with fail
   refine bodyPost_end (results_none rfl _ _ _) rfl ⟨rfl, HT.out, ?_⟩
   rw [HC.out]
   have hl' : e.out.length = m := by simpa using hl
   have h := HE.out
   rw [hl'] at h
   exact h
  ·have hq : (((q ++ [b]).length : Nat) : Int) - 1 = (q.length : Int) := by simp
   rw [hq]
   have hlen : e.out.length = q.length + 1 + m := by rw [hl]; simp; try omega
   have hln : ((q ++ [b]) ++ List.replicate m 0).length = e.out.length := by rw [hl]; simp; try omega
   have hro' : wr.ownsRow 0 5 1 (.slice A e.out.length c) e.out.length (bcells ((q ++ [b]) ++ List.replicate m 0)) := by rw [← hln]; rw [← hln] at hro; exact hro
   obtain ⟨g, cg, hv, _, hnc, hcell, hfr⟩ := row_some hro' (by omega)
   injection hv with h1 _ h2
   subst h1 h2
   have y0 := hcell q.length _ (bcells_get (b := b) (by simp))
   have yf := hfr q.length
   have hqn : (q.length : Int) < e.out.length := by omega
   have hb := b.toNat_lt
   have hset : EnO S E ⟨q ++ List.replicate (m + 1) 0, e.low, e.size⟩ (wr.setCell ⟨g, q.length, none⟩ (.int .u8 0)) (.slice (some ⟨g, 0, none⟩) e.out.length c) ∧ ∀ b' : UInt8, EnO S E ⟨q ++ [b'] ++ List.replicate m 0, e.low, e.size⟩ (wr.setCell ⟨g, q.length, none⟩ (.int .u8 (b'.toNat : Int))) (.slice (some ⟨g, 0, none⟩) e.out.length c) := by
    have key : ∀ b' : UInt8, EnO S E ⟨q ++ [b'] ++ List.replicate m 0, e.low, e.size⟩ (wr.setCell ⟨g, q.length, none⟩ (.int .u8 (b'.toNat : Int))) (.slice (some ⟨g, 0, none⟩) e.out.length c) := fun b' => by
     have hne : E ≠ g := fun e' => hno g rfl e'.symm
     have hl' : (q ++ [b'] ++ List.replicate m 0).length = e.out.length := by rw [hl]; simp; try omega
     refine ⟨(Below.heap_setCell wr ⟨g, q.length, none⟩ _ E hne).trans HE.out.obj, HE.out.sE, ?_, HE.out.so, fun k hk => by have := HE.out.lt k hk; simpa using this⟩
     show World.ownsRow _ 0 5 1 _ (q ++ [b'] ++ List.replicate m 0).length _
     rw [hl']
     have := row_set hro' q.length (.int .u8 (b'.toNat : Int)) (by omega)
     have e1 : (bcells (q ++ [b] ++ List.replicate m 0)).set q.length (.int .u8 (b'.toNat : Int)) = bcells (q ++ [b'] ++ List.replicate m 0) := by
      simp [bcells, List.set_append]
     rw [e1] at this
     exact this
    refine ⟨?_, key⟩
    have := key 0
    rw [show q ++ [(0 : UInt8)] ++ List.replicate m 0 = q ++ List.replicate (m + 1) 0 by simp [List.replicate_succ]] at this
    exact this
   have hT : ∀ v, Touch S w (wr.setCell ⟨g, q.length, none⟩ v) := fun v => HT.out.setCell (.inl (HE.out.so g rfl)) v
   have HSet := Lib.hid hset
   have HT2 := Lib.hid hT
   have c0' : ∀ v, (wr.setCell ⟨g, q.length, none⟩ v).cell? ⟨E, 0, none⟩ = some (.slice (some ⟨g, 0, none⟩) e.out.length c) := fun v => (World.cell?_of_block (Below.heap_setCell wr ⟨g, q.length, none⟩ v E (fun e' => hno g rfl e'.symm))).trans c0
   have HLen := Lib.hid hlen
   clear hset hT hro hro' hcell hfr hq hln hno hl hlen
   by_cases hb255 : b = 255
   ·subst hb255
    rw [show ((255 : UInt8).toNat : Int) = 255 from rfl] at y0
    have d0 := c0' (.int .u8 0)
    clear c0'
    go_wp2_with fail
    go_roundw
    case rel => exact ⟨q, m + 1, by have := HLen.out; omega, by go_num, HSet.out.1, by rw [HC.out, carryL_snoc, if_pos rfl]; simp [List.replicate_succ], HT2.out _⟩
    case measure => simp [intOf]
   ·have hne : b.toNat ≠ 255 := fun h => hb255 (UInt8.toNat_inj.1 h)
    have hb1 : ((b + 1).toNat : Int) = (b.toNat : Int) + 1 := by
     rw [UInt8.toNat_add]
     have e1 : (1 : UInt8).toNat = 1 := rfl
     rw [e1, Nat.mod_eq_of_lt (by omega)]; rfl
    have d0 := c0' (.int .u8 ((b.toNat : Int) + 1))
    have hz : (((b.toNat : Int) + 1) == 0) = false := beq_eq_false_iff_ne.2 (by omega)
    have hz2 : ((b.toNat : Int) + 1 != 0) = true := by simp [bne, hz]
    have HS2 := Lib.hid (HSet.out.2 (b + 1))
    rw [hb1] at HS2
    clear c0' hb1
    go_wp2_with fail
    refine bodyPost_ret (results_none rfl _ _ _) rfl ⟨rfl, HT2.out _, ?_⟩
    rw [HC.out, carryL_snoc, if_neg hb255]
    exact HS2.out
end
end Go.Proofs.YtlmjefjimoghcaaGreat
