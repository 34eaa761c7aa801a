/- A part of the proofs of TopCounter and TopStrict: what the functions of the program do, each walked once, and plain laws about it. No condition. -/
import Derived.Test.YtlmjefjimoghcaaGreatA02
namespace Go.Proofs.YtlmjefjimoghcaaGreat
set_option linter.unusedSimpArgs false
set_option linter.unnecessarySimpa false
set_option linter.unusedVariables false
open Go.RowKit
attribute [local go_sem ↓] Go.wp_at_zero Go.wp_at_succ
theorem qeq {P : Program} {f : FuncId} {args : Array Value} {w : World} {n : Nat} {v : Value}
  (h : Calls P f args (w.drewN n) fun e w' => e = .returned v ∧ w.drewN n = w') : Calls P f args (w.drewN n) fun e w'' => e = .returned v ∧ ∃ m, w'' = w.drewN m :=
 h.mono fun _ _ ⟨he, hm⟩ => ⟨he, n, hm.symm⟩
theorem clamp_walk (z : Int) (w : World) : Calls Tryz.prog 118 #[.int .i64 z] w fun e w' => e = .returned (.int .u32 (clampP z : Int)) ∧ w = w' := by
 have hs : IntKind.u32.signed = false := rfl
 have hm : IntKind.u32.max = 4294967295 := rfl
 have hc : (clampP z : Int) = min (max z 1) 2047 := by unfold clampP; omega
 rw [hc]
 clear hc
 go_enter Tryz.func118, Tryz.ntmps118
 go_wp2_with fail
 all_goals
  go_ret
  refine ⟨?_, rfl⟩
  show Ending.returned (.int .u32 _) = Ending.returned (.int .u32 _)
  congr 2
  omega
set_option maxRecDepth 100000 in
theorem push_byte (w : World) (v : Value) (l : List UInt8) (n : Nat) (hown : w.ownsRow 0 5 1 v n (bcells l)) (hn : n ≤ 900000) (g : Nat) (b : UInt8) (hB : w.heap[g]? = some (.cells #[.int .u8 (b.toNat : Int)] 5 (0, 0))) : ∃ v' w', (Builtin.append_ #[70, 70] 70 #[v, .slice (some ⟨g, 0, none⟩) 1 1]).run Tryz.prog w = .ok v' w' ∧ w'.ownsRow 0 5 1 v' (n + 1) (bcells (l ++ [b])) ∧ w.grownBy w' v.ownBlock ∧ (v'.ownBlock = v.ownBlock ∨ (v'.ownBlock = some w.heap.size ∧ w.heap.size < w'.heap.size)) := by
 obtain ⟨v', w', h1, h2, h3, h4⟩ := append_at (P := Tryz.prog) w 70 70 5 _ _ 1 1 Tryz.underlying70 rfl rfl rfl rfl rfl (by decide) v n (bcells l) hown ⟨g, 0, none⟩ 1 1 (bcells [b]) rfl (fun j u hj => by
  rw [Addr.add_lit, cell_of_row w g _ _ _ _ hB]
  match j, hj with
  | 0, hj => cases hj; rfl) (one_bc _) (by omega) (by decide) (by decide)
 exact ⟨v', w', h1, by rw [bcells_append]; exact h2, h3, h4⟩
theorem norm_twice {e : Enc} (h : EMid e) (hs : e.size < 2 ^ 24) : normE (normE1 e) = normE e := by
 have h0 := h.s0
 have e1 : (normE1 e).size = e.size * 256 := rfl
 have e2 : (normE1 (normE1 e)).size = e.size * 256 * 256 := rfl
 unfold normE
 rw [if_pos hs]
 by_cases h2 : (normE1 e).size < 2 ^ 24
 ·rw [if_pos h2, if_pos h2, if_neg (by rw [e2]; omega)]
 ·rw [if_neg h2, if_neg h2]
theorem norm_stop {e : Enc} (hs : ¬ e.size < 2 ^ 24) : normE e = e := by unfold normE; rw [if_neg hs]
/-- what a bit leaves -/
def EnRes (S : Nat → Prop) (E : Nat) (e' : Enc) (w : World) (x : Ending) (w' : World) : Prop := ∃ S' vo', x = .returned (.tuple #[]) ∧ Grow S S' w w' ∧ EnO S' E e' w' vo'
/-- the loop of the shifts -/
def BitRel (S : Nat → Prop) (E : Nat) (e e1 : Enc) (w wr : World) : Prop := ∃ (S' : Nat → Prop) (vo' : Value) (e' : Enc) (r : Nat), EnO S' E e' wr vo' ∧ EMid e' ∧ normE e' = normE e1 ∧ Grow S S' w wr ∧ e'.out.length = e.out.length + r ∧ 2 ^ 13 * 256 ^ r ≤ e'.size ∧ r ≤ 2
def szM (E : Nat) (wr : World) : Nat := match wr.cell? ⟨E, 2, none⟩ with
 | some (.int _ t) => (1099511627776 - t).toNat
 | _ => 0
section
variable {S : Nat → Prop} {E : Nat} {e : Enc} {w w' : World} {vo : Value}
/-- a byte more -/
theorem EnO.push (h : EnO S E e w vo) {w1 : World} {v' : Value} (b : UInt8) (hrow : w1.ownsRow 0 5 1 v' (e.out.length + 1) (bcells (e.out ++ [b]))) (hT : ∀ j, j < w.heap.size → vo.ownBlock ≠ some j → w1.heap[j]? = w.heap[j]?) (hs : w.heap.size ≤ w1.heap.size) (hb : v'.ownBlock = vo.ownBlock ∨ ∃ g, v'.ownBlock = some g ∧ w.heap.size ≤ g) :
  EnO (fun k => S k ∨ v'.ownBlock = some k) E ⟨e.out ++ [b], e.low, e.size⟩ (w1.setCell ⟨E, 0, none⟩ v') v' := by
 have hvE : vo.ownBlock ≠ some E := fun e' => h.no E e' rfl
 have hobj := (hT E h.el hvE).trans h.obj
 have hn : ∀ g, v'.ownBlock = some g → g ≠ E := fun g hg e' => by
  rcases hb with hb | ⟨g', hb, hl⟩
  ·exact h.no g (hb ▸ hg) e'
  ·rw [hb] at hg; injection hg with hg; have := h.el; omega
 refine ⟨(heap_setCell_any w1 E 0 _ _ _ v' hobj).trans rfl, .inl h.sE, ?_, fun g hg => .inr hg, fun k hk => ?_⟩
 ·show World.ownsRow _ 0 5 1 v' (e.out ++ [b]).length _
  have e1 : (e.out ++ [b]).length = e.out.length + 1 := by simp
  rw [e1]
  exact row_of hrow fun g hg => Below.heap_setCell w1 ⟨E, 0, none⟩ v' g (hn g hg)
 ·have hsz : (w1.setCell ⟨E, 0, none⟩ v').heap.size = w1.heap.size := by simp
  rw [hsz]
  rcases hk with hk | hk
  ·exact Nat.lt_of_lt_of_le (h.lt k hk) hs
  ·exact (hrow.lt k hk).2
set_option maxRecDepth 100000 in
set_option maxHeartbeats 1000000 in
theorem bit_walk (h : EnO S E e w vo) (ho : EOk e) (hn : e.out.length ≤ 800000) (z b : Int) : Calls Tryz.prog 70 #[.pointer (some ⟨E, 0, none⟩), .int .i64 z, .int .i64 b] w fun x w' => EnRes S E (bitE e z (b != 0)) w x w' := by
 have H := Lib.hid h
 have HO := Lib.hid ho
 have c2 := h.c2
 have f2 := h.fr 2
 have f1 := h.fr 1
 have c1 := h.c1
 have hs0 := ho.s0
 have hs1 := ho.s1
 have hl := ho.l
 have hbd := bndP_b z ho.s0
 obtain ⟨bn, hbn⟩ : ∃ n, bndP e.size z = n := ⟨_, rfl⟩
 rw [hbn] at hbd
 have HBn := Lib.hid hbn
 have HC := Lib.hid fun m => clamp_walk z (w.drewN m)
 have hgr0 : Grow S S w w := .same (.refl _ _) h.lt
 clear h ho
 go_enter Tryz.func70, Tryz.ntmps70
 go_wp2_with fail
 go_quiet (first | (go_at_call 118; refine qeq (HC.out _)))
 go_upto_region 1 with (fail)
 have hbz : ((e.size : Int) / 2048 * (clampP z : Int) % 4294967296) = (bn : Int) := by
  have h1 : bn = e.size / 2048 * clampP z := hbn.symm
  have h2 : ((e.size / 2048 * clampP z : Nat) : Int) = (e.size : Int) / 2048 * (clampP z : Int) := by simp
  rw [← h2, ← h1]; omega
 rw [hbz]
 clear hbz hbn
 have HQ : Hid (EnO S E e (w.drewN nq) vo ∧ Touch S w (w.drewN nq)) := Lib.hid ⟨H.out.frame (Nat.le_refl _) fun _ _ => rfl, ⟨rfl, rfl, rfl, Nat.le_refl _, fun _ _ _ => rfl⟩⟩
 by_cases hb : b = 0
 ·have hb1 : (b == 0) = true := by simp [hb]
  obtain ⟨e1, he1⟩ : ∃ e1, stepE e z (b != 0) = e1 := ⟨_, rfl⟩
  have he1' : e1 = ⟨e.out, e.low, bn⟩ := by rw [← he1, ← HBn.out]; simp [bne, hb1, stepE]
  have hmid := (stepE_mid HO.out z (b != 0)).1
  rw [he1] at hmid
  have HM1 := Lib.hid hmid
  have HR : Hid (bitE e z false = normE e1) := Lib.hid (by unfold bitE; rw [← he1]; simp [bne, hb1])
  have HLe : Hid (e1.out.length = e.out.length + 0) := Lib.hid (by rw [he1']; rfl)
  have hE1 : EnO S E e1 ((w.drewN nq).setCell ⟨E, 2, none⟩ (.int .u32 (bn : Int))) vo := HQ.out.1.set 2 _ e1 (by rw [he1']) (by rw [he1']; rfl)
  have HG1 : Hid (Grow S S w ((w.drewN nq).setCell ⟨E, 2, none⟩ (.int .u32 (bn : Int)))) := Lib.hid (.same (HQ.out.2.setCell (.inl H.out.sE) _) H.out.lt)
  have HE1 := Lib.hid hE1
  clear he1 he1' hmid hE1 hgr0
  go_upto_region 7 with (fail)
  go_wp2_with fail
  go_loopw [] (fun wr => BitRel S E e e1 w wr) (fun wr => szM E wr)
  case atStart => exact ⟨S, _, e1, 0, HE1.out, HM1.out, rfl, HG1.out, HLe.out, by have := HM1.out.s0; omega, by decide⟩
  case round =>
   obtain ⟨S', vo', e', r, he, hm, hnm, hgr, hlen, hsz, hr2⟩ := hrel
   have HE := Lib.hid he
   have HM := Lib.hid hm
   have HNm := Lib.hid hnm
   have HGr := Lib.hid hgr
   have HLen := Lib.hid hlen
   have HSz := Lib.hid hsz
   have c2 := he.c2
   have c0 := he.c0
   have c1 := he.c1
   have f0 := he.fr 0
   have hl' := hm.l
   have hs' := hm.s1
   by_cases hlt : e'.size < 2 ^ 24
   ·have hlt' : (e'.size : Int) < 16777216 := by omega
    obtain ⟨A', c', rfl⟩ := row_sl he.ro
    obtain ⟨b, hbb⟩ : ∃ b, UInt8.ofNat (e'.low / 2 ^ 24) = b := ⟨_, rfl⟩
    have hbv : ((e'.low : Int) / 16777216) = (b.toNat : Int) := by rw [← hbb, UInt8.toNat_ofNat']; omega
    have hw8 : IntKind.u8.wrap (b.toNat : Int) = (b.toNat : Int) := by have := b.toNat_lt; exact IntWalk.u8_in _ (by omega)
    have hvE : (Value.slice A' e'.out.length c').ownBlock ≠ some E := fun h => he.no E h rfl
    have hr1 : r ≤ 1 := by
     rcases (by omega : r = 0 ∨ r = 1 ∨ r = 2) with h | h | h
     ·omega
     ·omega
     ·subst h; omega
    obtain ⟨v6, w6, hrun, hr6, hg6, hb6⟩ := push_byte (wr.alloc (.cells #[.int .u8 (b.toNat : Int)] 5)).drew (.slice A' e'.out.length c') e'.out _ (row_of he.ro fun g hg => Below.heap_alloc wr _ g (he.ro.lt g hg).2) (by omega) wr.heap.size b (heap_alloc_new wr _)
    have hk6 : ∀ j, j < wr.heap.size → (Value.slice A' e'.out.length c').ownBlock ≠ some j → w6.heap[j]? = wr.heap[j]? := fun j hj hv => (hg6.block j (by simp [World.drew]; omega) fun e => hv e.symm).trans (Below.heap_alloc wr _ j hj)
    have hs6 : wr.heap.size ≤ w6.heap.size := by have := hg6.size; simp [World.drew] at this; omega
    have hb6' : v6.ownBlock = (Value.slice A' e'.out.length c').ownBlock ∨ ∃ g, v6.ownBlock = some g ∧ wr.heap.size ≤ g := hb6.elim Or.inl fun h => Or.inr ⟨_, h.1, by simp [World.drew]⟩
    obtain ⟨A6, c6, rfl⟩ := row_sl hr6
    have hE8 := he.push b hr6 hk6 hs6 hb6'
    obtain ⟨S'', hS''⟩ : ∃ S'', (fun k => S' k ∨ (Value.slice A6 (e'.out.length + 1) c6).ownBlock = some k) = S'' := ⟨_, rfl⟩
    rw [hS''] at hE8
    have hT8 : Touch S' wr (w6.setCell ⟨E, 0, none⟩ (.slice A6 (e'.out.length + 1) c6)) := (((Touch.refl S' wr).alloc _).drew.grown hg6 fun k hk => .inl (he.so k hk)).setCell (.inl he.sE) _
    have hG8 : Grow S S'' w (w6.setCell ⟨E, 0, none⟩ (.slice A6 (e'.out.length + 1) c6)) := by
     refine hgr.trans ⟨hT8, fun k hk => ?_, hE8.lt⟩
     rw [← hS''] at hk
     rcases hk with hk | hk
     ·exact .inl hk
     ·rcases hb6' with h | ⟨g, h, hl⟩
      ·exact .inl (he.so k (h ▸ hk))
      ·rw [h] at hk; injection hk with hk; right; omega
    have HRUN := Lib.hid hrun
    have HK6 := Lib.hid hk6
    have HEl : Hid (E < wr.heap.size) := Lib.hid he.el
    have HB := Lib.hid hbb
    have d0 : w6.cell? ⟨E, 0, none⟩ = some (.slice A' e'.out.length c') := (World.cell?_of_block (hk6 _ he.el hvE)).trans c0
    have df : w6.frozen? ⟨E, 0, none⟩ = false := by simp [World.frozen?, (hk6 _ he.el hvE).trans he.obj]
    clear he hm hnm hgr hlen hsz hbb hrun hr6 hg6 hb6 hb6' hk6 hs6 hT8 hS''
    go_upto_region 8 with (fail)
    refine wp_region_noPanic ?_
    refine wp_region_D 15 (fun w' => w'.cell? ⟨E, 0, none⟩ = some (.slice A' e'.out.length c') ∧ w'.cell? ⟨E, 1, none⟩ = some (.int .u32 (e'.low : Int))) (by kernel_rfl) ⟨c0, c1⟩ (fun hU => ?_)
    have hC : (fun w' : World => w'.cell? ⟨E, 0, none⟩ = some (.slice A' e'.out.length c') ∧ w'.cell? ⟨E, 1, none⟩ = some (.int .u32 (e'.low : Int))) wr.drew := ⟨c0, c1⟩
    clear hU
    refine tk 0 54 15 rfl rfl (.inr hC) ?_
    simp only [Act.put, zA, zB, zC]
    refine tk 1 55 14 rfl rfl (.inr hC) ?_
    simp only [Act.put, zA, zB, zC]
    refine tk 2 56 13 rfl rfl (.inr hC) ?_
    simp only [Act.put, zA, zB, zC]
    refine tk 3 57 12 rfl rfl (.inr hC) ?_
    simp only [Act.put, zA, zB, zC]
    refine tl 4 58 11 rfl rfl (.inr hC) ?_
    simp only [Act.put, zA, zB, zC]
    refine tk 5 59 10 rfl rfl (.inr hC) ?_
    simp only [Act.put, zA, zB, zC]
    refine tk 6 60 9 rfl rfl (.inr hC) ?_
    simp only [Act.put, zA, zB, zC]
    refine tk 7 61 8 rfl rfl (.inr hC) ?_
    simp only [Act.put, zA, zB, zC]
    refine tl 8 62 7 rfl rfl (.inr hC) ?_
    simp only [Act.put, zA, zB, zC]
    refine tk 9 63 6 rfl rfl (.inr hC) ?_
    simp only [Act.put, zA, zB, zC]
    refine tk 10 64 5 rfl rfl (.inr hC) ?_
    simp only [Act.put, zA, zB, zC]
    refine ry 4 [11] ?_
    refine rn rfl (fun K hK => ?_) ?_
    ·go_simp
     refine shut_C hK ?_ (fun hC => ?_)
     ·first
      | exact ⟨(World.cell?_of_block (HK6.out _ HEl.out hvE)).trans c0, (World.cell?_of_block (HK6.out _ HEl.out hvE)).trans c1⟩
      | exact ⟨(World.cell?_of_block (Below.heap_alloc wr _ _ HEl.out)).trans c0, (World.cell?_of_block (Below.heap_alloc wr _ _ HEl.out)).trans c1⟩
     clear hK K
     try simp only [Act.put, zA, zB, zC]
     refine ry 3 [12] ?_
     refine rn rfl (fun K hK => ?_) ?_
     ·refine step_append_eq rfl (.tmp 58) (.tmp 65) 70 rfl _ _ _ _ rfl rfl HRUN.out ?_
      refine shut_C hK ?_ (fun hC => ?_)
      ·first
       | exact ⟨(World.cell?_of_block (HK6.out _ HEl.out hvE)).trans c0, (World.cell?_of_block (HK6.out _ HEl.out hvE)).trans c1⟩
       | exact ⟨(World.cell?_of_block (Below.heap_alloc wr _ _ HEl.out)).trans c0, (World.cell?_of_block (Below.heap_alloc wr _ _ HEl.out)).trans c1⟩
      clear hK K
      try simp only [Act.put, zA, zB, zC]
      refine tk 13 67 2 rfl rfl (.inr hC) ?_
      simp only [Act.put, zA, zB, zC]
      refine tk 14 68 1 rfl rfl (.inr hC) ?_
      simp only [Act.put, zA, zB, zC]
      refine ry 0 [15] ?_
      refine rn rfl (fun K hK => ?_) ?_
      ·go_simp
       refine shut_K hK (by kernel_rfl) ?_
       clear hK K
       try simp only [Act.put, zA, zB, zC]
       refine wpAnyD_done (by kernel_rfl) ?_ _
       refine NoPanic.normal ?_
       obtain ⟨W8, hW8⟩ : ∃ W, w6.setCell ⟨E, 0, none⟩ (.slice A6 (e'.out.length + 1) c6) = W := ⟨_, rfl⟩
       rw [hW8]
       rw [hW8] at hE8
       have HE8 := Lib.hid hE8
       have HG8 : Hid (Grow S S'' w W8) := Lib.hid (by rw [← hW8]; exact hG8)
       have q0 := hE8.c0
       have q1 := hE8.c1
       have q2 := hE8.c2
       have qf1 := hE8.fr 1
       have qf2 := hE8.fr 2
       clear hE8 hG8 hW8 c0 c1 c2 hC
       go_upto_region 9 with (fail)
       refine wp_region_noPanic ?_
       refine wp_region_D 14 (fun w' => w'.cell? ⟨E, 1, none⟩ = some (.int .u32 (e'.low : Int))) (by kernel_rfl) q1 (fun hU => ?_)
       have hC : (fun w' : World => w'.cell? ⟨E, 1, none⟩ = some (.int .u32 (e'.low : Int))) W8.drew := q1
       clear hU
       refine tk 0 69 17 rfl rfl (.inr hC) ?_
       simp only [Act.put, zA, zB, zC]
       refine tk 1 70 16 rfl rfl (.inr hC) ?_
       simp only [Act.put, zA, zB, zC]
       refine tk 2 71 15 rfl rfl (.inr hC) ?_
       simp only [Act.put, zA, zB, zC]
       refine tk 3 72 14 rfl rfl (.inr hC) ?_
       simp only [Act.put, zA, zB, zC]
       refine tk 4 73 13 rfl rfl (.inr hC) ?_
       simp only [Act.put, zA, zB, zC]
       refine tl 5 74 12 rfl rfl (.inr hC) ?_
       simp only [Act.put, zA, zB, zC]
       refine tk 6 75 11 rfl rfl (.inr hC) ?_
       simp only [Act.put, zA, zB, zC]
       refine tk 7 76 10 rfl rfl (.inr hC) ?_
       simp only [Act.put, zA, zB, zC]
       refine tk 8 77 9 rfl rfl (.inr hC) ?_
       simp only [Act.put, zA, zB, zC]
       refine tk 9 78 8 rfl rfl (.inr hC) ?_
       simp only [Act.put, zA, zB, zC]
       refine ry 7 [10] ?_
       refine rn rfl (fun K hK => ?_) ?_
       ·go_simp
        refine shut_C hK ?_ (fun hC => ?_)
        ·exact q1
        clear hK K
        try simp only [Act.put, zA, zB, zC]
        refine tk 11 80 6 rfl rfl (.inr hC) ?_
        simp only [Act.put, zA, zB, zC]
        refine tk 12 81 5 rfl rfl (.inr hC) ?_
        simp only [Act.put, zA, zB, zC]
        refine tk 13 82 4 rfl rfl (.inr hC) ?_
        simp only [Act.put, zA, zB, zC]
        refine ry 3 [14] ?_
        refine rn rfl (fun K hK => ?_) ?_
        ·go_simp
         refine shut_K hK (by kernel_rfl) ?_
         clear hK K
         try simp only [Act.put, zA, zB, zC]
         refine tk 15 83 2 rfl rfl (.inl (by kernel_rfl)) ?_
         simp only [Act.put, zA, zB, zC]
         refine tk 16 84 1 rfl rfl (.inl (by kernel_rfl)) ?_
         simp only [Act.put, zA, zB, zC]
         refine ry 0 [17] ?_
         refine rn rfl (fun K hK => ?_) ?_
         ·go_simp
          refine shut_K hK (by kernel_rfl) ?_
          clear hK K
          try simp only [Act.put, zA, zB, zC]
          refine wpAnyD_done (by kernel_rfl) ?_ _
          refine NoPanic.normal ?_
          have hwl : IntKind.u32.wrap ((e'.low : Int) * 256) = ((e'.low * 256 % 2 ^ 32 : Nat) : Int) := by rw [IntKind.wrap_u32]; omega
          have hws : IntKind.u32.wrap ((e'.size : Int) * 256) = ((e'.size * 256 : Nat) : Int) := by rw [IntKind.wrap_u32]; omega
          rw [hwl, hws]
          have hE9 := (HE8.out.set 1 (.int .u32 ((e'.low * 256 % 2 ^ 32 : Nat) : Int)) ⟨e'.out ++ [b], e'.low * 256 % 2 ^ 32, e'.size⟩ rfl rfl).set 2 (.int .u32 ((e'.size * 256 : Nat) : Int)) ⟨e'.out ++ [b], e'.low * 256 % 2 ^ 32, e'.size * 256⟩ rfl rfl
          obtain ⟨W9, hW9⟩ : ∃ W, ((W8.setCell ⟨E, 1, none⟩ (.int .u32 ((e'.low * 256 % 2 ^ 32 : Nat) : Int))).setCell ⟨E, 2, none⟩ (.int .u32 ((e'.size * 256 : Nat) : Int))).drew = W := ⟨_, rfl⟩
          rw [hW9]
          have hE9' : EnO S'' E (normE1 e') W9 (.slice A6 (e'.out.length + 1) c6) := by
           rw [← hW9]
           unfold normE1
           rw [HB.out]
           exact hE9.frame (Nat.le_refl _) fun _ _ => rfl
          have hG9 : Grow S S'' w W9 := by
           rw [← hW9]
           refine ⟨((HG8.out.touch.setCell ?_ _).setCell ?_ _).drew, HG8.out.s, fun k hk => by have := HG8.out.lt k hk; simpa [World.drew] using this⟩
           ·exact (HG8.out.s E HE8.out.sE).elim Or.inl fun h => Or.inr h
           ·exact (HG8.out.s E HE8.out.sE).elim Or.inl fun h => Or.inr h
          have HE9 := Lib.hid hE9'
          have HG9 := Lib.hid hG9
          have HM1' := Lib.hid (mid_norm1 HM.out hlt)
          have HNm' : Hid (normE (normE1 e') = normE e1) := Lib.hid (by rw [norm_twice HM.out hlt]; exact HNm.out)
          have HLen' : Hid ((normE1 e').out.length = e.out.length + (r + 1)) := Lib.hid (by have := HLen.out; simp [normE1]; omega)
          have HSz' : Hid (2 ^ 13 * 256 ^ (r + 1) ≤ (normE1 e').size) := Lib.hid (by
           have := HSz.out
           show _ ≤ e'.size * 256
           rw [Nat.pow_succ]
           omega)
          have hm1 : szM E wr = (1099511627776 - (e'.size : Int)).toNat := by unfold szM; rw [HE.out.c2]
          have hm2 : szM E W9 = (1099511627776 - (((normE1 e').size : Nat) : Int)).toNat := by unfold szM; rw [HE9.out.c2]
          have HMs1 := Lib.hid hm1
          have HMs2 := Lib.hid hm2
          clear hwl hws hE9 hE9' hG9 hW9 hm1 hm2 q0 q1 q2 qf1 qf2 hC d0 df hbv hw8 f0 hvE
          have HLo := Lib.hid hl'
          have HSo := Lib.hid hs'
          have HLt := Lib.hid hlt
          have HR1 := Lib.hid hr1
          clear hl' hs' hlt hlt' hl hs0 hs1 hbd hr1
          go_wp2_with fail
          go_roundw
          case rel => exact ⟨S'', _, normE1 e', r + 1, HE9.out, HM1'.out, HNm'.out, HG9.out, HLen'.out, HSz'.out, by have := HR1.out; omega⟩
          case measure =>
           rw [HMs1.out, HMs2.out]
           have e1 : (normE1 e').size = e'.size * 256 := rfl
           have := HM.out.s0
           have := HSo.out
           rw [e1]
           omega
         exact rz
        exact rz
       exact rz
      exact rz
     exact rz
    exact rz
   ·have hlt' : ¬ (e'.size : Int) < 16777216 := by omega
    have HLt := Lib.hid hlt
    clear he hm hnm hgr hlen hsz hl' hs' hlt hl hs0 hs1 hbd
    go_wp2_with fail
    refine bodyPost_end (results_none rfl _ _ _) rfl ⟨S', vo', rfl, HGr.out, ?_⟩
    rw [HR.out, ← HNm.out, norm_stop HLt.out]
    exact HE.out
 ·have hb1 : (b == 0) = false := by simp [hb]
  have hb2 : (b != 0) = true := by simp [bne, hb1]
  obtain ⟨e1, he1⟩ : ∃ e1, stepE e z (b != 0) = e1 := ⟨_, rfl⟩
  have hmid := (stepE_mid HO.out z (b != 0)).1
  rw [he1] at hmid
  have HM1 := Lib.hid hmid
  rw [hb2] at he1
  have HR : Hid (bitE e z true = normE e1) := Lib.hid (by unfold bitE; rw [he1])
  by_cases hc : 2 ^ 32 ≤ e.low + bn
  ·have hlt : ((e.low : Int) + (bn : Int)) % 4294967296 < e.low := by omega
   have he1' : e1 = ⟨carryL e.out, e.low + bn - 2 ^ 32, e.size - bn⟩ := by rw [← he1]; unfold stepE; rw [HBn.out, if_pos rfl, if_pos hc]
   have HCa := Lib.hid (carry_walk HQ.out.1 (by omega))
   have hw1 : ((e.low : Int) + (bn : Int)) % 4294967296 = ((e.low + bn - 2 ^ 32 : Nat) : Int) := by omega
   have hw2 : IntKind.u32.wrap ((e.size : Int) - (bn : Int)) = ((e.size - bn : Nat) : Int) := by rw [IntKind.wrap_u32]; omega
   have HW1 := Lib.hid hw1
   have HW2 := Lib.hid hw2
   have HE1' := Lib.hid he1'
   have hsb : (bn : Int) ≤ e.size := by omega
   have HLe : Hid (e1.out.length = e.out.length + 0) := Lib.hid (by rw [he1']; show (carryL e.out).length = _; rw [carryL_length]; rfl)
   clear he1 he1' hmid hgr0 hw1 hw2
   go_upto_region 5 with (fail)
   go_wp2_with fail
   refine (HCa.out).mono ?_
   rintro x w4 ⟨rfl, ht4, hE4⟩
   have HE4 := Lib.hid hE4
   have HT4 := Lib.hid (HQ.out.2.trans ht4 fun _ _ h => h)
   have c1 : w4.cell? ⟨E, 1, none⟩ = some (.int .u32 (e.low : Int)) := hE4.c1
   have c2 : w4.cell? ⟨E, 2, none⟩ = some (.int .u32 (e.size : Int)) := hE4.c2
   have f1 := hE4.fr 1
   have f2 := hE4.fr 2
   clear ht4 hE4 hc
   rw [HW1.out]
   have hE5 : EnO S E ⟨carryL e.out, e.low + bn - 2 ^ 32, e.size⟩ (w4.setCell ⟨E, 1, none⟩ (.int .u32 ((e.low + bn - 2 ^ 32 : Nat) : Int))) vo := HE4.out.set 1 _ ⟨carryL e.out, e.low + bn - 2 ^ 32, e.size⟩ rfl rfl
   have hE6 : EnO S E e1 ((w4.setCell ⟨E, 1, none⟩ (.int .u32 ((e.low + bn - 2 ^ 32 : Nat) : Int))).setCell ⟨E, 2, none⟩ (.int .u32 ((e.size - bn : Nat) : Int))) vo := hE5.set 2 _ e1 (by rw [HE1'.out]) (by rw [HE1'.out]; rfl)
   have HG1 : Hid (Grow S S w ((w4.setCell ⟨E, 1, none⟩ (.int .u32 ((e.low + bn - 2 ^ 32 : Nat) : Int))).setCell ⟨E, 2, none⟩ (.int .u32 ((e.size - bn : Nat) : Int)))) := Lib.hid (.same ((HT4.out.setCell (.inl H.out.sE) _).setCell (.inl H.out.sE) _) H.out.lt)
   have HE1 := Lib.hid hE6
   have hi2 : ((e.size - bn : Nat) : Int) = (e.size : Int) - (bn : Int) := by omega
   rw [hi2, show (2 : Nat) ^ 32 = 4294967296 from rfl] at HE1 HG1
   clear hE5 hE6 hi2
   go_upto_region 7 with (fail)
   go_wp2_with fail
   go_loopw [] (fun wr => BitRel S E e e1 w wr) (fun wr => szM E wr)
   case atStart => exact ⟨S, _, e1, 0, HE1.out, HM1.out, rfl, HG1.out, HLe.out, by have := HM1.out.s0; omega, by decide⟩
   case round =>
    obtain ⟨S', vo', e', r, he, hm, hnm, hgr, hlen, hsz, hr2⟩ := hrel
    have HE := Lib.hid he
    have HM := Lib.hid hm
    have HNm := Lib.hid hnm
    have HGr := Lib.hid hgr
    have HLen := Lib.hid hlen
    have HSz := Lib.hid hsz
    have c2 := he.c2
    have c0 := he.c0
    have c1 := he.c1
    have f0 := he.fr 0
    have hl' := hm.l
    have hs' := hm.s1
    by_cases hlt : e'.size < 2 ^ 24
    ·have hlt' : (e'.size : Int) < 16777216 := by omega
     obtain ⟨A', c', rfl⟩ := row_sl he.ro
     obtain ⟨b, hbb⟩ : ∃ b, UInt8.ofNat (e'.low / 2 ^ 24) = b := ⟨_, rfl⟩
     have hbv : ((e'.low : Int) / 16777216) = (b.toNat : Int) := by rw [← hbb, UInt8.toNat_ofNat']; omega
     have hw8 : IntKind.u8.wrap (b.toNat : Int) = (b.toNat : Int) := by have := b.toNat_lt; exact IntWalk.u8_in _ (by omega)
     have hvE : (Value.slice A' e'.out.length c').ownBlock ≠ some E := fun h => he.no E h rfl
     have hr1 : r ≤ 1 := by
      rcases (by omega : r = 0 ∨ r = 1 ∨ r = 2) with h | h | h
      ·omega
      ·omega
      ·subst h; omega
     obtain ⟨v6, w6, hrun, hr6, hg6, hb6⟩ := push_byte (wr.alloc (.cells #[.int .u8 (b.toNat : Int)] 5)).drew (.slice A' e'.out.length c') e'.out _ (row_of he.ro fun g hg => Below.heap_alloc wr _ g (he.ro.lt g hg).2) (by omega) wr.heap.size b (heap_alloc_new wr _)
     have hk6 : ∀ j, j < wr.heap.size → (Value.slice A' e'.out.length c').ownBlock ≠ some j → w6.heap[j]? = wr.heap[j]? := fun j hj hv => (hg6.block j (by simp [World.drew]; omega) fun e => hv e.symm).trans (Below.heap_alloc wr _ j hj)
     have hs6 : wr.heap.size ≤ w6.heap.size := by have := hg6.size; simp [World.drew] at this; omega
     have hb6' : v6.ownBlock = (Value.slice A' e'.out.length c').ownBlock ∨ ∃ g, v6.ownBlock = some g ∧ wr.heap.size ≤ g := hb6.elim Or.inl fun h => Or.inr ⟨_, h.1, by simp [World.drew]⟩
     obtain ⟨A6, c6, rfl⟩ := row_sl hr6
     have hE8 := he.push b hr6 hk6 hs6 hb6'
     obtain ⟨S'', hS''⟩ : ∃ S'', (fun k => S' k ∨ (Value.slice A6 (e'.out.length + 1) c6).ownBlock = some k) = S'' := ⟨_, rfl⟩
     rw [hS''] at hE8
     have hT8 : Touch S' wr (w6.setCell ⟨E, 0, none⟩ (.slice A6 (e'.out.length + 1) c6)) := (((Touch.refl S' wr).alloc _).drew.grown hg6 fun k hk => .inl (he.so k hk)).setCell (.inl he.sE) _
     have hG8 : Grow S S'' w (w6.setCell ⟨E, 0, none⟩ (.slice A6 (e'.out.length + 1) c6)) := by
      refine hgr.trans ⟨hT8, fun k hk => ?_, hE8.lt⟩
      rw [← hS''] at hk
      rcases hk with hk | hk
      ·exact .inl hk
      ·rcases hb6' with h | ⟨g, h, hl⟩
       ·exact .inl (he.so k (h ▸ hk))
       ·rw [h] at hk; injection hk with hk; right; omega
     have HRUN := Lib.hid hrun
     have HK6 := Lib.hid hk6
     have HEl : Hid (E < wr.heap.size) := Lib.hid he.el
     have HB := Lib.hid hbb
     have d0 : w6.cell? ⟨E, 0, none⟩ = some (.slice A' e'.out.length c') := (World.cell?_of_block (hk6 _ he.el hvE)).trans c0
     have df : w6.frozen? ⟨E, 0, none⟩ = false := by simp [World.frozen?, (hk6 _ he.el hvE).trans he.obj]
     clear he hm hnm hgr hlen hsz hbb hrun hr6 hg6 hb6 hb6' hk6 hs6 hT8 hS''
     go_upto_region 8 with (fail)
     refine wp_region_noPanic ?_
     refine wp_region_D 15 (fun w' => w'.cell? ⟨E, 0, none⟩ = some (.slice A' e'.out.length c') ∧ w'.cell? ⟨E, 1, none⟩ = some (.int .u32 (e'.low : Int))) (by kernel_rfl) ⟨c0, c1⟩ (fun hU => ?_)
     have hC : (fun w' : World => w'.cell? ⟨E, 0, none⟩ = some (.slice A' e'.out.length c') ∧ w'.cell? ⟨E, 1, none⟩ = some (.int .u32 (e'.low : Int))) wr.drew := ⟨c0, c1⟩
     clear hU
     refine tk 0 54 15 rfl rfl (.inr hC) ?_
     simp only [Act.put, zA, zB, zC]
     refine tk 1 55 14 rfl rfl (.inr hC) ?_
     simp only [Act.put, zA, zB, zC]
     refine tk 2 56 13 rfl rfl (.inr hC) ?_
     simp only [Act.put, zA, zB, zC]
     refine tk 3 57 12 rfl rfl (.inr hC) ?_
     simp only [Act.put, zA, zB, zC]
     refine tl 4 58 11 rfl rfl (.inr hC) ?_
     simp only [Act.put, zA, zB, zC]
     refine tk 5 59 10 rfl rfl (.inr hC) ?_
     simp only [Act.put, zA, zB, zC]
     refine tk 6 60 9 rfl rfl (.inr hC) ?_
     simp only [Act.put, zA, zB, zC]
     refine tk 7 61 8 rfl rfl (.inr hC) ?_
     simp only [Act.put, zA, zB, zC]
     refine tl 8 62 7 rfl rfl (.inr hC) ?_
     simp only [Act.put, zA, zB, zC]
     refine tk 9 63 6 rfl rfl (.inr hC) ?_
     simp only [Act.put, zA, zB, zC]
     refine tk 10 64 5 rfl rfl (.inr hC) ?_
     simp only [Act.put, zA, zB, zC]
     refine ry 4 [11] ?_
     refine rn rfl (fun K hK => ?_) ?_
     ·go_simp
      refine shut_C hK ?_ (fun hC => ?_)
      ·first
       | exact ⟨(World.cell?_of_block (HK6.out _ HEl.out hvE)).trans c0, (World.cell?_of_block (HK6.out _ HEl.out hvE)).trans c1⟩
       | exact ⟨(World.cell?_of_block (Below.heap_alloc wr _ _ HEl.out)).trans c0, (World.cell?_of_block (Below.heap_alloc wr _ _ HEl.out)).trans c1⟩
      clear hK K
      try simp only [Act.put, zA, zB, zC]
      refine ry 3 [12] ?_
      refine rn rfl (fun K hK => ?_) ?_
      ·refine step_append_eq rfl (.tmp 58) (.tmp 65) 70 rfl _ _ _ _ rfl rfl HRUN.out ?_
       refine shut_C hK ?_ (fun hC => ?_)
       ·first
        | exact ⟨(World.cell?_of_block (HK6.out _ HEl.out hvE)).trans c0, (World.cell?_of_block (HK6.out _ HEl.out hvE)).trans c1⟩
        | exact ⟨(World.cell?_of_block (Below.heap_alloc wr _ _ HEl.out)).trans c0, (World.cell?_of_block (Below.heap_alloc wr _ _ HEl.out)).trans c1⟩
       clear hK K
       try simp only [Act.put, zA, zB, zC]
       refine tk 13 67 2 rfl rfl (.inr hC) ?_
       simp only [Act.put, zA, zB, zC]
       refine tk 14 68 1 rfl rfl (.inr hC) ?_
       simp only [Act.put, zA, zB, zC]
       refine ry 0 [15] ?_
       refine rn rfl (fun K hK => ?_) ?_
       ·go_simp
        refine shut_K hK (by kernel_rfl) ?_
        clear hK K
        try simp only [Act.put, zA, zB, zC]
        refine wpAnyD_done (by kernel_rfl) ?_ _
        refine NoPanic.normal ?_
        obtain ⟨W8, hW8⟩ : ∃ W, w6.setCell ⟨E, 0, none⟩ (.slice A6 (e'.out.length + 1) c6) = W := ⟨_, rfl⟩
        rw [hW8]
        rw [hW8] at hE8
        have HE8 := Lib.hid hE8
        have HG8 : Hid (Grow S S'' w W8) := Lib.hid (by rw [← hW8]; exact hG8)
        have q0 := hE8.c0
        have q1 := hE8.c1
        have q2 := hE8.c2
        have qf1 := hE8.fr 1
        have qf2 := hE8.fr 2
        clear hE8 hG8 hW8 c0 c1 c2 hC
        go_upto_region 9 with (fail)
        refine wp_region_noPanic ?_
        refine wp_region_D 14 (fun w' => w'.cell? ⟨E, 1, none⟩ = some (.int .u32 (e'.low : Int))) (by kernel_rfl) q1 (fun hU => ?_)
        have hC : (fun w' : World => w'.cell? ⟨E, 1, none⟩ = some (.int .u32 (e'.low : Int))) W8.drew := q1
        clear hU
        refine tk 0 69 17 rfl rfl (.inr hC) ?_
        simp only [Act.put, zA, zB, zC]
        refine tk 1 70 16 rfl rfl (.inr hC) ?_
        simp only [Act.put, zA, zB, zC]
        refine tk 2 71 15 rfl rfl (.inr hC) ?_
        simp only [Act.put, zA, zB, zC]
        refine tk 3 72 14 rfl rfl (.inr hC) ?_
        simp only [Act.put, zA, zB, zC]
        refine tk 4 73 13 rfl rfl (.inr hC) ?_
        simp only [Act.put, zA, zB, zC]
        refine tl 5 74 12 rfl rfl (.inr hC) ?_
        simp only [Act.put, zA, zB, zC]
        refine tk 6 75 11 rfl rfl (.inr hC) ?_
        simp only [Act.put, zA, zB, zC]
        refine tk 7 76 10 rfl rfl (.inr hC) ?_
        simp only [Act.put, zA, zB, zC]
        refine tk 8 77 9 rfl rfl (.inr hC) ?_
        simp only [Act.put, zA, zB, zC]
        refine tk 9 78 8 rfl rfl (.inr hC) ?_
        simp only [Act.put, zA, zB, zC]
        refine ry 7 [10] ?_
        refine rn rfl (fun K hK => ?_) ?_
        ·go_simp
         refine shut_C hK ?_ (fun hC => ?_)
         ·exact q1
         clear hK K
         try simp only [Act.put, zA, zB, zC]
         refine tk 11 80 6 rfl rfl (.inr hC) ?_
         simp only [Act.put, zA, zB, zC]
         refine tk 12 81 5 rfl rfl (.inr hC) ?_
         simp only [Act.put, zA, zB, zC]
         refine tk 13 82 4 rfl rfl (.inr hC) ?_
         simp only [Act.put, zA, zB, zC]
         refine ry 3 [14] ?_
         refine rn rfl (fun K hK => ?_) ?_
         ·go_simp
          refine shut_K hK (by kernel_rfl) ?_
          clear hK K
          try simp only [Act.put, zA, zB, zC]
          refine tk 15 83 2 rfl rfl (.inl (by kernel_rfl)) ?_
          simp only [Act.put, zA, zB, zC]
          refine tk 16 84 1 rfl rfl (.inl (by kernel_rfl)) ?_
          simp only [Act.put, zA, zB, zC]
          refine ry 0 [17] ?_
          refine rn rfl (fun K hK => ?_) ?_
          ·go_simp
           refine shut_K hK (by kernel_rfl) ?_
           clear hK K
           try simp only [Act.put, zA, zB, zC]
           refine wpAnyD_done (by kernel_rfl) ?_ _
           refine NoPanic.normal ?_
           have hwl : IntKind.u32.wrap ((e'.low : Int) * 256) = ((e'.low * 256 % 2 ^ 32 : Nat) : Int) := by rw [IntKind.wrap_u32]; omega
           have hws : IntKind.u32.wrap ((e'.size : Int) * 256) = ((e'.size * 256 : Nat) : Int) := by rw [IntKind.wrap_u32]; omega
           rw [hwl, hws]
           have hE9 := (HE8.out.set 1 (.int .u32 ((e'.low * 256 % 2 ^ 32 : Nat) : Int)) ⟨e'.out ++ [b], e'.low * 256 % 2 ^ 32, e'.size⟩ rfl rfl).set 2 (.int .u32 ((e'.size * 256 : Nat) : Int)) ⟨e'.out ++ [b], e'.low * 256 % 2 ^ 32, e'.size * 256⟩ rfl rfl
           obtain ⟨W9, hW9⟩ : ∃ W, ((W8.setCell ⟨E, 1, none⟩ (.int .u32 ((e'.low * 256 % 2 ^ 32 : Nat) : Int))).setCell ⟨E, 2, none⟩ (.int .u32 ((e'.size * 256 : Nat) : Int))).drew = W := ⟨_, rfl⟩
           rw [hW9]
           have hE9' : EnO S'' E (normE1 e') W9 (.slice A6 (e'.out.length + 1) c6) := by
            rw [← hW9]
            unfold normE1
            rw [HB.out]
            exact hE9.frame (Nat.le_refl _) fun _ _ => rfl
           have hG9 : Grow S S'' w W9 := by
            rw [← hW9]
            refine ⟨((HG8.out.touch.setCell ?_ _).setCell ?_ _).drew, HG8.out.s, fun k hk => by have := HG8.out.lt k hk; simpa [World.drew] using this⟩
            ·exact (HG8.out.s E HE8.out.sE).elim Or.inl fun h => Or.inr h
            ·exact (HG8.out.s E HE8.out.sE).elim Or.inl fun h => Or.inr h
           have HE9 := Lib.hid hE9'
           have HG9 := Lib.hid hG9
           have HM1' := Lib.hid (mid_norm1 HM.out hlt)
           have HNm' : Hid (normE (normE1 e') = normE e1) := Lib.hid (by rw [norm_twice HM.out hlt]; exact HNm.out)
           have HLen' : Hid ((normE1 e').out.length = e.out.length + (r + 1)) := Lib.hid (by have := HLen.out; simp [normE1]; omega)
           have HSz' : Hid (2 ^ 13 * 256 ^ (r + 1) ≤ (normE1 e').size) := Lib.hid (by
            have := HSz.out
            show _ ≤ e'.size * 256
            rw [Nat.pow_succ]
            omega)
           have hm1 : szM E wr = (1099511627776 - (e'.size : Int)).toNat := by unfold szM; rw [HE.out.c2]
           have hm2 : szM E W9 = (1099511627776 - (((normE1 e').size : Nat) : Int)).toNat := by unfold szM; rw [HE9.out.c2]
           have HMs1 := Lib.hid hm1
           have HMs2 := Lib.hid hm2
           clear hwl hws hE9 hE9' hG9 hW9 hm1 hm2 q0 q1 q2 qf1 qf2 hC d0 df hbv hw8 f0 hvE
           have HLo := Lib.hid hl'
           have HSo := Lib.hid hs'
           have HLt := Lib.hid hlt
           have HR1 := Lib.hid hr1
           clear hl' hs' hlt hlt' hl hs0 hs1 hbd hr1
           go_wp2_with fail
           go_roundw
           case rel => exact ⟨S'', _, normE1 e', r + 1, HE9.out, HM1'.out, HNm'.out, HG9.out, HLen'.out, HSz'.out, by have := HR1.out; omega⟩
           case measure =>
            rw [HMs1.out, HMs2.out]
            have e1 : (normE1 e').size = e'.size * 256 := rfl
            have := HM.out.s0
            have := HSo.out
            rw [e1]
            omega
          exact rz
         exact rz
        exact rz
       exact rz
      exact rz
     exact rz
    ·have hlt' : ¬ (e'.size : Int) < 16777216 := by omega
     have HLt := Lib.hid hlt
     clear he hm hnm hgr hlen hsz hl' hs' hlt hl hs0 hs1 hbd
     go_wp2_with fail
     refine bodyPost_end (results_none rfl _ _ _) rfl ⟨S', vo', rfl, HGr.out, ?_⟩
     rw [HR.out, ← HNm.out, norm_stop HLt.out]
     exact HE.out
  ·have hlt : ¬ ((e.low : Int) + (bn : Int)) % 4294967296 < e.low := by omega
   have hlt2 : ¬ ((e.low : Int) + (bn : Int)) < e.low := by omega
   have he1' : e1 = ⟨e.out, e.low + bn, e.size - bn⟩ := by rw [← he1]; unfold stepE; rw [HBn.out, if_pos rfl, if_neg hc]
   have HLe : Hid (e1.out.length = e.out.length + 0) := Lib.hid (by rw [he1']; rfl)
   have hE5 : EnO S E ⟨e.out, e.low + bn, e.size⟩ ((w.drewN nq).setCell ⟨E, 1, none⟩ (.int .u32 ((e.low + bn : Nat) : Int))) vo := HQ.out.1.set 1 _ ⟨e.out, e.low + bn, e.size⟩ rfl rfl
   have hE6 : EnO S E e1 (((w.drewN nq).setCell ⟨E, 1, none⟩ (.int .u32 ((e.low + bn : Nat) : Int))).setCell ⟨E, 2, none⟩ (.int .u32 ((e.size - bn : Nat) : Int))) vo := hE5.set 2 _ e1 (by rw [he1']) (by rw [he1']; rfl)
   have HG1 : Hid (Grow S S w (((w.drewN nq).setCell ⟨E, 1, none⟩ (.int .u32 ((e.low + bn : Nat) : Int))).setCell ⟨E, 2, none⟩ (.int .u32 ((e.size - bn : Nat) : Int)))) := Lib.hid (.same ((HQ.out.2.setCell (.inl H.out.sE) _).setCell (.inl H.out.sE) _) H.out.lt)
   have HE1 := Lib.hid hE6
   have hi1 : ((e.low + bn : Nat) : Int) = (e.low : Int) + (bn : Int) := by omega
   have hi2 : ((e.size - bn : Nat) : Int) = (e.size : Int) - (bn : Int) := by omega
   rw [hi1, hi2] at HE1 HG1
   clear hE5 hE6 he1 he1' hmid hgr0 hi1 hi2 hc
   go_upto_region 7 with (fail)
   go_wp2_with fail
   go_loopw [] (fun wr => BitRel S E e e1 w wr) (fun wr => szM E wr)
   case atStart => exact ⟨S, _, e1, 0, HE1.out, HM1.out, rfl, HG1.out, HLe.out, by have := HM1.out.s0; omega, by decide⟩
   case round =>
    obtain ⟨S', vo', e', r, he, hm, hnm, hgr, hlen, hsz, hr2⟩ := hrel
    have HE := Lib.hid he
    have HM := Lib.hid hm
    have HNm := Lib.hid hnm
    have HGr := Lib.hid hgr
    have HLen := Lib.hid hlen
    have HSz := Lib.hid hsz
    have c2 := he.c2
    have c0 := he.c0
    have c1 := he.c1
    have f0 := he.fr 0
    have hl' := hm.l
    have hs' := hm.s1
    by_cases hlt : e'.size < 2 ^ 24
    ·have hlt' : (e'.size : Int) < 16777216 := by omega
     obtain ⟨A', c', rfl⟩ := row_sl he.ro
     obtain ⟨b, hbb⟩ : ∃ b, UInt8.ofNat (e'.low / 2 ^ 24) = b := ⟨_, rfl⟩
     have hbv : ((e'.low : Int) / 16777216) = (b.toNat : Int) := by rw [← hbb, UInt8.toNat_ofNat']; omega
     have hw8 : IntKind.u8.wrap (b.toNat : Int) = (b.toNat : Int) := by have := b.toNat_lt; exact IntWalk.u8_in _ (by omega)
     have hvE : (Value.slice A' e'.out.length c').ownBlock ≠ some E := fun h => he.no E h rfl
     have hr1 : r ≤ 1 := by
      rcases (by omega : r = 0 ∨ r = 1 ∨ r = 2) with h | h | h
      ·omega
      ·omega
      ·subst h; omega
     obtain ⟨v6, w6, hrun, hr6, hg6, hb6⟩ := push_byte (wr.alloc (.cells #[.int .u8 (b.toNat : Int)] 5)).drew (.slice A' e'.out.length c') e'.out _ (row_of he.ro fun g hg => Below.heap_alloc wr _ g (he.ro.lt g hg).2) (by omega) wr.heap.size b (heap_alloc_new wr _)
     have hk6 : ∀ j, j < wr.heap.size → (Value.slice A' e'.out.length c').ownBlock ≠ some j → w6.heap[j]? = wr.heap[j]? := fun j hj hv => (hg6.block j (by simp [World.drew]; omega) fun e => hv e.symm).trans (Below.heap_alloc wr _ j hj)
     have hs6 : wr.heap.size ≤ w6.heap.size := by have := hg6.size; simp [World.drew] at this; omega
     have hb6' : v6.ownBlock = (Value.slice A' e'.out.length c').ownBlock ∨ ∃ g, v6.ownBlock = some g ∧ wr.heap.size ≤ g := hb6.elim Or.inl fun h => Or.inr ⟨_, h.1, by simp [World.drew]⟩
     obtain ⟨A6, c6, rfl⟩ := row_sl hr6
     have hE8 := he.push b hr6 hk6 hs6 hb6'
     obtain ⟨S'', hS''⟩ : ∃ S'', (fun k => S' k ∨ (Value.slice A6 (e'.out.length + 1) c6).ownBlock = some k) = S'' := ⟨_, rfl⟩
     rw [hS''] at hE8
     have hT8 : Touch S' wr (w6.setCell ⟨E, 0, none⟩ (.slice A6 (e'.out.length + 1) c6)) := (((Touch.refl S' wr).alloc _).drew.grown hg6 fun k hk => .inl (he.so k hk)).setCell (.inl he.sE) _
     have hG8 : Grow S S'' w (w6.setCell ⟨E, 0, none⟩ (.slice A6 (e'.out.length + 1) c6)) := by
      refine hgr.trans ⟨hT8, fun k hk => ?_, hE8.lt⟩
      rw [← hS''] at hk
      rcases hk with hk | hk
      ·exact .inl hk
      ·rcases hb6' with h | ⟨g, h, hl⟩
       ·exact .inl (he.so k (h ▸ hk))
       ·rw [h] at hk; injection hk with hk; right; omega
     have HRUN := Lib.hid hrun
     have HK6 := Lib.hid hk6
     have HEl : Hid (E < wr.heap.size) := Lib.hid he.el
     have HB := Lib.hid hbb
     have d0 : w6.cell? ⟨E, 0, none⟩ = some (.slice A' e'.out.length c') := (World.cell?_of_block (hk6 _ he.el hvE)).trans c0
     have df : w6.frozen? ⟨E, 0, none⟩ = false := by simp [World.frozen?, (hk6 _ he.el hvE).trans he.obj]
     clear he hm hnm hgr hlen hsz hbb hrun hr6 hg6 hb6 hb6' hk6 hs6 hT8 hS''
     go_upto_region 8 with (fail)
     refine wp_region_noPanic ?_
     refine wp_region_D 15 (fun w' => w'.cell? ⟨E, 0, none⟩ = some (.slice A' e'.out.length c') ∧ w'.cell? ⟨E, 1, none⟩ = some (.int .u32 (e'.low : Int))) (by kernel_rfl) ⟨c0, c1⟩ (fun hU => ?_)
     have hC : (fun w' : World => w'.cell? ⟨E, 0, none⟩ = some (.slice A' e'.out.length c') ∧ w'.cell? ⟨E, 1, none⟩ = some (.int .u32 (e'.low : Int))) wr.drew := ⟨c0, c1⟩
     clear hU
     refine tk 0 54 15 rfl rfl (.inr hC) ?_
     simp only [Act.put, zA, zB, zC]
     refine tk 1 55 14 rfl rfl (.inr hC) ?_
     simp only [Act.put, zA, zB, zC]
     refine tk 2 56 13 rfl rfl (.inr hC) ?_
     simp only [Act.put, zA, zB, zC]
     refine tk 3 57 12 rfl rfl (.inr hC) ?_
     simp only [Act.put, zA, zB, zC]
     refine tl 4 58 11 rfl rfl (.inr hC) ?_
     simp only [Act.put, zA, zB, zC]
     refine tk 5 59 10 rfl rfl (.inr hC) ?_
     simp only [Act.put, zA, zB, zC]
     refine tk 6 60 9 rfl rfl (.inr hC) ?_
     simp only [Act.put, zA, zB, zC]
     refine tk 7 61 8 rfl rfl (.inr hC) ?_
     simp only [Act.put, zA, zB, zC]
     refine tl 8 62 7 rfl rfl (.inr hC) ?_
     simp only [Act.put, zA, zB, zC]
     refine tk 9 63 6 rfl rfl (.inr hC) ?_
     simp only [Act.put, zA, zB, zC]
     refine tk 10 64 5 rfl rfl (.inr hC) ?_
     simp only [Act.put, zA, zB, zC]
     refine ry 4 [11] ?_
     refine rn rfl (fun K hK => ?_) ?_
     ·go_simp
      refine shut_C hK ?_ (fun hC => ?_)
      ·first
       | exact ⟨(World.cell?_of_block (HK6.out _ HEl.out hvE)).trans c0, (World.cell?_of_block (HK6.out _ HEl.out hvE)).trans c1⟩
       | exact ⟨(World.cell?_of_block (Below.heap_alloc wr _ _ HEl.out)).trans c0, (World.cell?_of_block (Below.heap_alloc wr _ _ HEl.out)).trans c1⟩
      clear hK K
      try simp only [Act.put, zA, zB, zC]
      refine ry 3 [12] ?_
      refine rn rfl (fun K hK => ?_) ?_
      ·refine step_append_eq rfl (.tmp 58) (.tmp 65) 70 rfl _ _ _ _ rfl rfl HRUN.out ?_
       refine shut_C hK ?_ (fun hC => ?_)
       ·first
        | exact ⟨(World.cell?_of_block (HK6.out _ HEl.out hvE)).trans c0, (World.cell?_of_block (HK6.out _ HEl.out hvE)).trans c1⟩
        | exact ⟨(World.cell?_of_block (Below.heap_alloc wr _ _ HEl.out)).trans c0, (World.cell?_of_block (Below.heap_alloc wr _ _ HEl.out)).trans c1⟩
       clear hK K
       try simp only [Act.put, zA, zB, zC]
       refine tk 13 67 2 rfl rfl (.inr hC) ?_
       simp only [Act.put, zA, zB, zC]
       refine tk 14 68 1 rfl rfl (.inr hC) ?_
       simp only [Act.put, zA, zB, zC]
       refine ry 0 [15] ?_
       refine rn rfl (fun K hK => ?_) ?_
       ·go_simp
        refine shut_K hK (by kernel_rfl) ?_
        clear hK K
        try simp only [Act.put, zA, zB, zC]
        refine wpAnyD_done (by kernel_rfl) ?_ _
        refine NoPanic.normal ?_
        obtain ⟨W8, hW8⟩ : ∃ W, w6.setCell ⟨E, 0, none⟩ (.slice A6 (e'.out.length + 1) c6) = W := ⟨_, rfl⟩
        rw [hW8]
        rw [hW8] at hE8
        have HE8 := Lib.hid hE8
        have HG8 : Hid (Grow S S'' w W8) := Lib.hid (by rw [← hW8]; exact hG8)
        have q0 := hE8.c0
        have q1 := hE8.c1
        have q2 := hE8.c2
        have qf1 := hE8.fr 1
        have qf2 := hE8.fr 2
        clear hE8 hG8 hW8 c0 c1 c2 hC
        go_upto_region 9 with (fail)
        refine wp_region_noPanic ?_
        refine wp_region_D 14 (fun w' => w'.cell? ⟨E, 1, none⟩ = some (.int .u32 (e'.low : Int))) (by kernel_rfl) q1 (fun hU => ?_)
        have hC : (fun w' : World => w'.cell? ⟨E, 1, none⟩ = some (.int .u32 (e'.low : Int))) W8.drew := q1
        clear hU
        refine tk 0 69 17 rfl rfl (.inr hC) ?_
        simp only [Act.put, zA, zB, zC]
        refine tk 1 70 16 rfl rfl (.inr hC) ?_
        simp only [Act.put, zA, zB, zC]
        refine tk 2 71 15 rfl rfl (.inr hC) ?_
        simp only [Act.put, zA, zB, zC]
        refine tk 3 72 14 rfl rfl (.inr hC) ?_
        simp only [Act.put, zA, zB, zC]
        refine tk 4 73 13 rfl rfl (.inr hC) ?_
        simp only [Act.put, zA, zB, zC]
        refine tl 5 74 12 rfl rfl (.inr hC) ?_
        simp only [Act.put, zA, zB, zC]
        refine tk 6 75 11 rfl rfl (.inr hC) ?_
        simp only [Act.put, zA, zB, zC]
        refine tk 7 76 10 rfl rfl (.inr hC) ?_
        simp only [Act.put, zA, zB, zC]
        refine tk 8 77 9 rfl rfl (.inr hC) ?_
        simp only [Act.put, zA, zB, zC]
        refine tk 9 78 8 rfl rfl (.inr hC) ?_
        simp only [Act.put, zA, zB, zC]
        refine ry 7 [10] ?_
        refine rn rfl (fun K hK => ?_) ?_
        ·go_simp
         refine shut_C hK ?_ (fun hC => ?_)
         ·exact q1
         clear hK K
         try simp only [Act.put, zA, zB, zC]
         refine tk 11 80 6 rfl rfl (.inr hC) ?_
         simp only [Act.put, zA, zB, zC]
         refine tk 12 81 5 rfl rfl (.inr hC) ?_
         simp only [Act.put, zA, zB, zC]
         refine tk 13 82 4 rfl rfl (.inr hC) ?_
         simp only [Act.put, zA, zB, zC]
         refine ry 3 [14] ?_
         refine rn rfl (fun K hK => ?_) ?_
         ·go_simp
          refine shut_K hK (by kernel_rfl) ?_
          clear hK K
          try simp only [Act.put, zA, zB, zC]
          refine tk 15 83 2 rfl rfl (.inl (by kernel_rfl)) ?_
          simp only [Act.put, zA, zB, zC]
          refine tk 16 84 1 rfl rfl (.inl (by kernel_rfl)) ?_
          simp only [Act.put, zA, zB, zC]
          refine ry 0 [17] ?_
          refine rn rfl (fun K hK => ?_) ?_
          ·go_simp
           refine shut_K hK (by kernel_rfl) ?_
           clear hK K
           try simp only [Act.put, zA, zB, zC]
           refine wpAnyD_done (by kernel_rfl) ?_ _
           refine NoPanic.normal ?_
           have hwl : IntKind.u32.wrap ((e'.low : Int) * 256) = ((e'.low * 256 % 2 ^ 32 : Nat) : Int) := by rw [IntKind.wrap_u32]; omega
           have hws : IntKind.u32.wrap ((e'.size : Int) * 256) = ((e'.size * 256 : Nat) : Int) := by rw [IntKind.wrap_u32]; omega
           rw [hwl, hws]
           have hE9 := (HE8.out.set 1 (.int .u32 ((e'.low * 256 % 2 ^ 32 : Nat) : Int)) ⟨e'.out ++ [b], e'.low * 256 % 2 ^ 32, e'.size⟩ rfl rfl).set 2 (.int .u32 ((e'.size * 256 : Nat) : Int)) ⟨e'.out ++ [b], e'.low * 256 % 2 ^ 32, e'.size * 256⟩ rfl rfl
           obtain ⟨W9, hW9⟩ : ∃ W, ((W8.setCell ⟨E, 1, none⟩ (.int .u32 ((e'.low * 256 % 2 ^ 32 : Nat) : Int))).setCell ⟨E, 2, none⟩ (.int .u32 ((e'.size * 256 : Nat) : Int))).drew = W := ⟨_, rfl⟩
           rw [hW9]
           have hE9' : EnO S'' E (normE1 e') W9 (.slice A6 (e'.out.length + 1) c6) := by
            rw [← hW9]
            unfold normE1
            rw [HB.out]
            exact hE9.frame (Nat.le_refl _) fun _ _ => rfl
           have hG9 : Grow S S'' w W9 := by
            rw [← hW9]
            refine ⟨((HG8.out.touch.setCell ?_ _).setCell ?_ _).drew, HG8.out.s, fun k hk => by have := HG8.out.lt k hk; simpa [World.drew] using this⟩
            ·exact (HG8.out.s E HE8.out.sE).elim Or.inl fun h => Or.inr h
            ·exact (HG8.out.s E HE8.out.sE).elim Or.inl fun h => Or.inr h
           have HE9 := Lib.hid hE9'
           have HG9 := Lib.hid hG9
           have HM1' := Lib.hid (mid_norm1 HM.out hlt)
           have HNm' : Hid (normE (normE1 e') = normE e1) := Lib.hid (by rw [norm_twice HM.out hlt]; exact HNm.out)
           have HLen' : Hid ((normE1 e').out.length = e.out.length + (r + 1)) := Lib.hid (by have := HLen.out; simp [normE1]; omega)
           have HSz' : Hid (2 ^ 13 * 256 ^ (r + 1) ≤ (normE1 e').size) := Lib.hid (by
            have := HSz.out
            show _ ≤ e'.size * 256
            rw [Nat.pow_succ]
            omega)
           have hm1 : szM E wr = (1099511627776 - (e'.size : Int)).toNat := by unfold szM; rw [HE.out.c2]
           have hm2 : szM E W9 = (1099511627776 - (((normE1 e').size : Nat) : Int)).toNat := by unfold szM; rw [HE9.out.c2]
           have HMs1 := Lib.hid hm1
           have HMs2 := Lib.hid hm2
           clear hwl hws hE9 hE9' hG9 hW9 hm1 hm2 q0 q1 q2 qf1 qf2 hC d0 df hbv hw8 f0 hvE
           have HLo := Lib.hid hl'
           have HSo := Lib.hid hs'
           have HLt := Lib.hid hlt
           have HR1 := Lib.hid hr1
           clear hl' hs' hlt hlt' hl hs0 hs1 hbd hr1
           go_wp2_with fail
           go_roundw
           case rel => exact ⟨S'', _, normE1 e', r + 1, HE9.out, HM1'.out, HNm'.out, HG9.out, HLen'.out, HSz'.out, by have := HR1.out; omega⟩
           case measure =>
            rw [HMs1.out, HMs2.out]
            have e1 : (normE1 e').size = e'.size * 256 := rfl
            have := HM.out.s0
            have := HSo.out
            rw [e1]
            omega
          exact rz
         exact rz
        exact rz
       exact rz
      exact rz
     exact rz
    ·have hlt' : ¬ (e'.size : Int) < 16777216 := by omega
     have HLt := Lib.hid hlt
     clear he hm hnm hgr hlen hsz hl' hs' hlt hl hs0 hs1 hbd
     go_wp2_with fail
     refine bodyPost_end (results_none rfl _ _ _) rfl ⟨S', vo', rfl, HGr.out, ?_⟩
     rw [HR.out, ← HNm.out, norm_stop HLt.out]
     exact HE.out
end
end Go.Proofs.YtlmjefjimoghcaaGreat
