/- A part of the proofs of TopCounter and TopStrict: what the functions of the program do, each walked once, and plain laws about it. No condition. -/
import Derived.Test.YtlmjefjimoghcaaGreatA03
namespace Go.Proofs.YtlmjefjimoghcaaGreat
set_option linter.unusedSimpArgs false
set_option linter.unnecessarySimpa false
set_option linter.unusedVariables false
open Go.RowKit
attribute [local go_sem ↓] Go.wp_at_zero Go.wp_at_succ
def sB (l : List UInt8) : ByteArray := ⟨l.toArray⟩
theorem sB_toList (l : List UInt8) : (sB l).toList = l := by rw [ByteArray.toList_eq]; rfl
theorem sB_size (l : List UInt8) : (sB l).size = l.length := by simp [sB, ByteArray.size]
theorem sB_ext (l : List UInt8) (a b : Nat) : (sB l).extract a b = sB ((l.take b).drop a) := by
 apply ByteArray.ext
 simp [sB, ByteArray.data_extract, List.drop_take]
theorem or_byte (x c : Nat) (hc : c < 256) : bits .or .u32 ((x : Int) * 256 % 4294967296) (c : Int) = ((x * 256 % 2 ^ 32 + c : Nat) : Int) := by
 have e1 : ((x : Int) * 256 % 4294967296) = ((x * 256 % 2 ^ 32 : Nat) : Int) := by omega
 rw [e1, u32_or_nat _ _ (by omega) (by omega)]
 have e2 : x * 256 % 2 ^ 32 = 2 ^ 8 * (x % 2 ^ 24) := by omega
 rw [e2, ← Nat.two_pow_add_eq_or_of_lt (i := 8) (by omega)]
structure DeO (D : Nat) (d : Dec) (w : World) : Prop where
 obj : w.heap[D]? = some (.cells #[.string (sB d.rest), .int .u32 (d.code : Int), .int .u32 (d.size : Int), .bool d.missing, .bool d.full] 176 (0, 0))
 cl : d.code < 2 ^ 32
 sl : d.size < 2 ^ 32
 rl : d.rest.length ≤ maxLen
section
variable {D : Nat} {d : Dec} {w w' : World}
theorem DeO.frame (h : DeO D d w) (hf : w'.heap[D]? = w.heap[D]?) : DeO D d w' := ⟨hf.trans h.obj, h.cl, h.sl, h.rl⟩
theorem DeO.c0 (h : DeO D d w) : w.cell? ⟨D, 0, none⟩ = some (.string (sB d.rest)) := by rw [cell_of_row w D 0 _ _ _ h.obj]; rfl
theorem DeO.c1 (h : DeO D d w) : w.cell? ⟨D, 1, none⟩ = some (.int .u32 (d.code : Int)) := by rw [cell_of_row w D 1 _ _ _ h.obj]; rfl
theorem DeO.c2 (h : DeO D d w) : w.cell? ⟨D, 2, none⟩ = some (.int .u32 (d.size : Int)) := by rw [cell_of_row w D 2 _ _ _ h.obj]; rfl
theorem DeO.c3 (h : DeO D d w) : w.cell? ⟨D, 3, none⟩ = some (.bool d.missing) := by rw [cell_of_row w D 3 _ _ _ h.obj]; rfl
theorem DeO.c4 (h : DeO D d w) : w.cell? ⟨D, 4, none⟩ = some (.bool d.full) := by rw [cell_of_row w D 4 _ _ _ h.obj]; rfl
theorem DeO.fr (h : DeO D d w) (i : Nat) : w.frozen? ⟨D, i, none⟩ = false := by simp [World.frozen?, h.obj]
theorem DeO.set (h : DeO D d w) (i : Nat) (v : Value) (d' : Dec) (he : (#[.string (sB d.rest), .int .u32 (d.code : Int), .int .u32 (d.size : Int), .bool d.missing, .bool d.full] : Array Value).setIfInBounds i v = #[.string (sB d'.rest), .int .u32 (d'.code : Int), .int .u32 (d'.size : Int), .bool d'.missing, .bool d'.full]) (h1 : d'.code < 2 ^ 32) (h2 : d'.size < 2 ^ 32) (h3 : d'.rest.length ≤ maxLen) : DeO D d' (w.setCell ⟨D, i, none⟩ v) :=
 ⟨(heap_setCell_any w D i _ _ _ v h.obj).trans (by rw [he]), h1, h2, h3⟩
set_option maxRecDepth 100000 in
theorem next_walk (h : DeO D d w) : Calls Tryz.prog 117 #[.pointer (some ⟨D, 0, none⟩)] w fun x w' => x = .returned (.tuple #[]) ∧ Touch (fun k => k = D) w w' ∧ DeO D (nextD d) w' := by
 have H := Lib.hid h
 have c0 := h.c0
 have c1 := h.c1
 have f0 := h.fr 0
 have f1 := h.fr 1
 have f3 := h.fr 3
 have c3 := h.c3
 have HCl := Lib.hid h.cl
 clear h
 cases hr : d.rest with
 | nil =>
  rw [hr] at c0
  have hz : sB [] = ⟨#[]⟩ := rfl
  rw [hz] at c0
  go_enter Tryz.func117, Tryz.ntmps117
  go_upto_region 4 with (fail)
  go_wp2_with fail
  have h0 := or_byte d.code 0 (by decide)
  have h0' : bits .or .u32 ((d.code : Int) * 256 % 4294967296) 0 = ((d.code * 256 % 2 ^ 32 + 0 : Nat) : Int) := h0
  rw [h0']
  refine bodyPost_end (results_none rfl _ _ _) rfl ⟨rfl, ((Touch.refl (fun k => k = D) w).setCell (p := ⟨D, 3, none⟩) (.inl rfl) _).setCell (p := ⟨D, 1, none⟩) (.inl rfl) _, ?_⟩
  have e1 := H.out.set 3 (.bool true) { d with missing := true } rfl HCl.out H.out.sl H.out.rl
  have e2 := e1.set 1 (.int .u32 ((d.code * 256 % 2 ^ 32 + 0 : Nat) : Int)) { d with missing := true, code := d.code * 256 % 2 ^ 32 } rfl (Nat.mod_lt _ (by decide)) H.out.sl H.out.rl
  have e3 : nextD d = { d with missing := true, code := d.code * 256 % 2 ^ 32 } := by unfold nextD; rw [hr]
  rw [e3]
  exact e2
 | cons c r =>
  have ht := sB_toList (c :: r)
  have htn : (c :: r) ≠ [] := by simp
  have hsz := sB_size (c :: r)
  have h1r : (1 : Int) ≤ (r.length : Int) + 1 := by omega
  have hex : (sB (c :: r)).extract 1 (r.length + 1) = sB r := by rw [sB_ext]; simp
  rw [hr] at c0
  go_enter Tryz.func117, Tryz.ntmps117
  go_upto_region 3 with (fail)
  refine wp_region_noPanic ?_
  refine wp_region_D 14 (fun w' => w'.cell? ⟨D, 0, none⟩ = some (.string (sB (c :: r)))) (by kernel_rfl) c0 (fun hU => ?_)
  have hC : (fun w' : World => w'.cell? ⟨D, 0, none⟩ = some (.string (sB (c :: r)))) w.drew := c0
  clear hU
  refine tk 0 11 14 rfl rfl (.inr hC) ?_
  simp only [Act.put, zA, zB, zC]
  refine tk 1 12 13 rfl rfl (.inr hC) ?_
  simp only [Act.put, zA, zB, zC]
  refine tk 2 13 12 rfl rfl (.inr hC) ?_
  simp only [Act.put, zA, zB, zC]
  refine tk 3 14 11 rfl rfl (.inr hC) ?_
  simp only [Act.put, zA, zB, zC]
  refine tl 4 15 10 rfl rfl (.inr hC) ?_
  simp only [Act.put, zA, zB, zC]
  refine tk 6 17 9 rfl rfl (.inr hC) ?_
  simp only [Act.put, zA, zB, zC]
  refine tk 7 18 8 rfl rfl (.inr hC) ?_
  simp only [Act.put, zA, zB, zC]
  refine tk 8 19 7 rfl rfl (.inr hC) ?_
  simp only [Act.put, zA, zB, zC]
  refine tl 9 20 6 rfl rfl (.inr hC) ?_
  simp only [Act.put, zA, zB, zC]
  refine tk 10 21 5 rfl rfl (.inr hC) ?_
  simp only [Act.put, zA, zB, zC]
  refine ry 4 [5] ?_
  refine rn rfl (fun K hK => ?_) ?_
  ·go_simp
   refine shut_C hK ?_ (fun hC => ?_)
   ·exact c0
   clear hK K
   try simp only [Act.put, zA, zB, zC]
   refine tk 11 2 3 rfl rfl (.inr hC) ?_
   simp only [Act.put, zA, zB, zC]
   refine tk 12 22 2 rfl rfl (.inr hC) ?_
   simp only [Act.put, zA, zB, zC]
   refine tk 13 23 1 rfl rfl (.inr hC) ?_
   simp only [Act.put, zA, zB, zC]
   refine ry 0 [14] ?_
   refine rn rfl (fun K hK => ?_) ?_
   ·go_simp
    refine shut_K hK (by kernel_rfl) ?_
    clear hK K
    try simp only [Act.put, zA, zB, zC]
    refine wpAnyD_done (by kernel_rfl) ?_ _
    refine NoPanic.normal ?_
    have hget : ∀ h, ((sB (c :: r))[0]'h) = c := fun _ => rfl
    simp only [hget]
    have e0 := H.out.set 0 (.string (sB r)) { d with rest := r } rfl H.out.cl H.out.sl (by have := H.out.rl; rw [hr] at this; simp at this; show r.length ≤ maxLen; omega)
    have c1' := e0.c1
    have f1' := e0.fr 1
    have HE0 := Lib.hid e0
    clear e0 c0 c1 hC hget
    go_wp2_with fail
    have hb := c.toNat_lt
    have hcm : ((c.toNat : Int) % 4294967296) = ((c.toNat : Nat) : Int) := by omega
    rw [hcm, or_byte d.code c.toNat hb]
    refine bodyPost_end (results_none rfl _ _ _) rfl ⟨rfl, (((Touch.refl (fun k => k = D) w).setCell (p := ⟨D, 0, none⟩) (.inl rfl) _).setCell (p := ⟨D, 1, none⟩) (.inl rfl) _).drew, ?_⟩
    have e2 := HE0.out.set 1 (.int .u32 ((d.code * 256 % 2 ^ 32 + c.toNat : Nat) : Int)) { d with rest := r, code := d.code * 256 % 2 ^ 32 + c.toNat } rfl (by show d.code * 256 % 2 ^ 32 + c.toNat < 2 ^ 32; omega) HE0.out.sl HE0.out.rl
    have e3 : nextD d = { d with rest := r, code := d.code * 256 % 2 ^ 32 + c.toNat } := by unfold nextD; rw [hr]
    rw [e3]
    exact e2.frame rfl
   exact rz
  exact rz
end
theorem normD_twice {d : Dec} (h0 : 2 ^ 13 ≤ d.size) (hs : d.size < 2 ^ 24) : normD (normD1 d) = normD d := by
 have e1 : (normD1 d).size = d.size * 256 := rfl
 have e2 : (normD1 (normD1 d)).size = d.size * 256 * 256 := rfl
 unfold normD
 rw [if_pos hs]
 by_cases h2 : (normD1 d).size < 2 ^ 24
 ·rw [if_pos h2, if_pos h2, if_neg (by rw [e2]; omega)]
 ·rw [if_neg h2, if_neg h2]
theorem normD_stop {d : Dec} (hs : ¬ d.size < 2 ^ 24) : normD d = d := by unfold normD; rw [if_neg hs]
/-- the loop of the shifts -/
def DBitRel (D : Nat) (d1 : Dec) (w wr : World) : Prop := ∃ (d' : Dec) (r : Nat), DeO D d' wr ∧ normD d' = normD d1 ∧ 2 ^ 13 * 256 ^ r ≤ d'.size ∧ r ≤ 2 ∧ Touch (fun k => k = D) w wr
def szD (D : Nat) (wr : World) : Nat := match wr.cell? ⟨D, 2, none⟩ with
 | some (.int _ t) => (1099511627776 - t).toNat
 | _ => 0
section
variable {D : Nat} {d : Dec} {w w' : World}
set_option maxRecDepth 100000 in
set_option maxHeartbeats 1000000 in
theorem dbit_walk (h : DeO D d w) (hs : 2 ^ 24 ≤ d.size) (z : Int) : Calls Tryz.prog 68 #[.pointer (some ⟨D, 0, none⟩), .int .i64 z] w fun x w' => x = .returned (.int .i64 (if bitOf d z then 1 else 0)) ∧ Touch (fun k => k = D) w w' ∧ DeO D (bitD d z) w' := by
 have H := Lib.hid h
 have c1 := h.c1
 have c2 := h.c2
 have f1 := h.fr 1
 have f2 := h.fr 2
 have hbd := bndP_b z hs
 obtain ⟨bn, hbn⟩ : ∃ n, bndP d.size z = n := ⟨_, rfl⟩
 rw [hbn] at hbd
 have HBn := Lib.hid hbn
 have HC := Lib.hid fun m => clamp_walk z (w.drewN m)
 have HSl := Lib.hid h.sl
 have HBd := Lib.hid hbd
 have hbnd : (bn : Int) ≤ d.size := by omega
 have hsi : (d.size : Int) < 4294967296 := by have := h.sl; omega
 have hbz : ((d.size : Int) / 2048 * (clampP z : Int) % 4294967296) = (bn : Int) := by
  have h1 : bn = d.size / 2048 * clampP z := hbn.symm
  have h2 : ((d.size / 2048 * clampP z : Nat) : Int) = (d.size : Int) / 2048 * (clampP z : Int) := by simp
  have := h.sl
  rw [← h2, ← h1]; omega
 have HBz := Lib.hid hbz
 have HC0 := Lib.hid h.cl
 clear h hs hbd hbn hbz
 unfold bitOf
 rw [HBn.out]
 by_cases hlt : d.code < bn
 ·rw [decide_eq_true hlt]
  have hlt' : (d.code : Int) < bn := by omega
  obtain ⟨d1, hd1⟩ : ∃ d1, ({ d with size := bn } : Dec) = d1 := ⟨_, rfl⟩
  have HD1 := Lib.hid hd1.symm
  have HR : Hid (bitD d z = normD d1) := Lib.hid (by unfold bitD stepD; rw [HBn.out, if_pos hlt, hd1])
  have HS1 : Hid (2 ^ 13 ≤ d1.size) := Lib.hid (by rw [← hd1]; have := HBd.out; show 2 ^ 13 ≤ bn; omega)
  clear hlt hd1
  go_enter Tryz.func68, Tryz.ntmps68
  go_wp2_with fail
  go_quiet (first | (go_at_call 118; refine qeq (HC.out _)))
  go_upto_region 2 with (fail)
  rw [HBz.out]
  have HQ : Hid (DeO D d (w.drewN nq) ∧ Touch (fun k => k = D) w (w.drewN nq)) := Lib.hid ⟨H.out.frame rfl, ⟨rfl, rfl, rfl, Nat.le_refl _, fun _ _ _ => rfl⟩⟩
  have hE1 : DeO D d1 ((w.drewN nq).setCell ⟨D, 2, none⟩ (.int .u32 (bn : Int))) := HQ.out.1.set 2 _ d1 (by rw [HD1.out]; rfl) (by rw [HD1.out]; exact HC0.out) (by rw [HD1.out]; have := HBd.out; have := HSl.out; show bn < 2 ^ 32; omega) (by rw [HD1.out]; exact HQ.out.1.rl)
  have HE1 := Lib.hid hE1
  have HT1 : Hid (Touch (fun k => k = D) w ((w.drewN nq).setCell ⟨D, 2, none⟩ (.int .u32 (bn : Int)))) := Lib.hid (HQ.out.2.setCell (p := ⟨D, 2, none⟩) (.inl rfl) _)
  clear hE1
  go_upto_region 6 with (fail)
  go_wp2_with fail
  go_loopw [] (fun wr => DBitRel D d1 w wr) (fun wr => szD D wr)
  case atStart => exact ⟨d1, 0, HE1.out, rfl, by have := HS1.out; omega, by decide, HT1.out⟩
  case round =>
   obtain ⟨d', r, he, hnm, hsz, hr2, ht⟩ := hrel
   have HE := Lib.hid he
   have HNm := Lib.hid hnm
   have HSz := Lib.hid hsz
   have HT := Lib.hid ht
   have c2 := he.c2
   have hs2 := he.sl
   by_cases hlt : d'.size < 2 ^ 24
   ·have hlt' : (d'.size : Int) < 16777216 := by omega
    have hr1 : r ≤ 1 := by
     rcases (by omega : r = 0 ∨ r = 1 ∨ r = 2) with h | h | h
     ·omega
     ·omega
     ·subst h; omega
    have hs13 : 2 ^ 13 ≤ d'.size := by
     rcases (by omega : r = 0 ∨ r = 1) with h | h
     ·subst h; omega
     ·subst h; omega
    have HNx := Lib.hid (next_walk he)
    have HLt := Lib.hid hlt
    have HR1 := Lib.hid hr1
    have HS13 := Lib.hid hs13
    clear he hnm hsz ht hlt hr1 hs13 hs2
    go_wp2_with fail
    refine (HNx.out).mono ?_
    rintro x w3 ⟨rfl, ht3, hE3⟩
    have hz3 : (nextD d').size = d'.size := nextD_size d'
    have c2 : w3.cell? ⟨D, 2, none⟩ = some (.int .u32 (d'.size : Int)) := by have := hE3.c2; rw [hz3] at this; exact this
    have f2 := hE3.fr 2
    have HE3 := Lib.hid hE3
    have HT3 := Lib.hid (HT.out.trans ht3 fun _ _ h => h)
    have HZ3 := Lib.hid hz3
    clear ht3 hE3 hz3
    go_upto_region 8 with (fail)
    go_wp2_with fail
    have hws : IntKind.u32.wrap ((d'.size : Int) * 256) = ((d'.size * 256 : Nat) : Int) := by have := HLt.out; rw [IntKind.wrap_u32]; omega
    have hE4 : DeO D (normD1 d') (w3.setCell ⟨D, 2, none⟩ (.int .u32 ((d'.size * 256 : Nat) : Int))) := HE3.out.set 2 _ (normD1 d') rfl HE3.out.cl (by have := HLt.out; show d'.size * 256 < 2 ^ 32; omega) HE3.out.rl
    have hm1 : szD D wr = (1099511627776 - (d'.size : Int)).toNat := by unfold szD; rw [HE.out.c2]
    have hm2 : szD D (w3.setCell ⟨D, 2, none⟩ (.int .u32 ((d'.size * 256 : Nat) : Int))) = (1099511627776 - ((d'.size * 256 : Nat) : Int)).toNat := by unfold szD; rw [hE4.c2]; rfl
    have hi : ((d'.size * 256 : Nat) : Int) = (d'.size : Int) * 256 := by omega
    rw [hi] at hE4 hm2
    have HE4 := Lib.hid hE4
    have HM1 := Lib.hid hm1
    have HM2 := Lib.hid hm2
    clear hws hE4 hm1 hm2 hi
    go_roundw
    case rel => exact ⟨normD1 d', r + 1, HE4.out, by rw [normD_twice HS13.out HLt.out]; exact HNm.out, by have := HSz.out; show _ ≤ d'.size * 256; rw [Nat.pow_succ]; omega, by have := HR1.out; omega, HT3.out.setCell (p := ⟨D, 2, none⟩) (.inl rfl) _⟩
    case measure =>
     rw [HM1.out, HM2.out]
     have := HS13.out
     have := HLt.out
     omega
   ·have hlt' : ¬ (d'.size : Int) < 16777216 := by omega
    have HLt := Lib.hid hlt
    clear he hnm hsz ht hlt hs2
    go_wp2_with fail
    go_ret
    refine ⟨rfl, HT.out, ?_⟩
    rw [HR.out, ← HNm.out, normD_stop HLt.out]
    exact HE.out
 ·rw [decide_eq_false hlt]
  have hlt' : ¬ (d.code : Int) < bn := by omega
  have HCl : Hid (bn ≤ d.code ∧ d.code < 2 ^ 32) := Lib.hid ⟨by omega, HC0.out⟩
  obtain ⟨d1, hd1⟩ : ∃ d1, ({ d with code := d.code - bn, size := d.size - bn } : Dec) = d1 := ⟨_, rfl⟩
  have HD1 := Lib.hid hd1.symm
  have HR : Hid (bitD d z = normD d1) := Lib.hid (by unfold bitD stepD; rw [HBn.out, if_neg hlt, hd1])
  have HS1 : Hid (2 ^ 13 ≤ d1.size) := Lib.hid (by rw [← hd1]; have := HBd.out; show 2 ^ 13 ≤ d.size - bn; omega)
  clear hlt hd1
  go_enter Tryz.func68, Tryz.ntmps68
  go_wp2_with fail
  go_quiet (first | (go_at_call 118; refine qeq (HC.out _)))
  go_upto_region 2 with (fail)
  rw [HBz.out]
  have HQ : Hid (DeO D d (w.drewN nq) ∧ Touch (fun k => k = D) w (w.drewN nq)) := Lib.hid ⟨H.out.frame rfl, ⟨rfl, rfl, rfl, Nat.le_refl _, fun _ _ _ => rfl⟩⟩
  have HQ1 : Hid (DeO D d (w.drewN (nq + 1)) ∧ Touch (fun k => k = D) w (w.drewN (nq + 1))) := Lib.hid ⟨H.out.frame rfl, ⟨rfl, rfl, rfl, Nat.le_refl _, fun _ _ _ => rfl⟩⟩
  clear hbnd hsi
  go_upto_region 5 with (fail)
  refine wp_region_noPanic ?_
  refine wp_region_D 16 (fun w' => w'.cell? ⟨D, 1, none⟩ = some (.int .u32 (d.code : Int)) ∧ w'.cell? ⟨D, 2, none⟩ = some (.int .u32 (d.size : Int))) (by kernel_rfl) ⟨c1, c2⟩ (fun hU => ?_)
  have hC : (fun w' : World => w'.cell? ⟨D, 1, none⟩ = some (.int .u32 (d.code : Int)) ∧ w'.cell? ⟨D, 2, none⟩ = some (.int .u32 (d.size : Int))) (w.drewN nq).drew := ⟨c1, c2⟩
  clear hU
  refine tk 0 25 20 rfl rfl (.inr hC) ?_
  simp only [Act.put, zA, zB, zC]
  refine tk 1 26 19 rfl rfl (.inr hC) ?_
  simp only [Act.put, zA, zB, zC]
  refine tk 2 27 18 rfl rfl (.inr hC) ?_
  simp only [Act.put, zA, zB, zC]
  refine tk 3 28 17 rfl rfl (.inr hC) ?_
  simp only [Act.put, zA, zB, zC]
  refine tk 4 29 16 rfl rfl (.inr hC) ?_
  simp only [Act.put, zA, zB, zC]
  refine tl 5 30 15 rfl rfl (.inr hC) ?_
  simp only [Act.put, zA, zB, zC]
  refine tk 6 31 14 rfl rfl (.inr hC) ?_
  simp only [Act.put, zA, zB, zC]
  refine tk 7 32 13 rfl rfl (.inr hC) ?_
  simp only [Act.put, zA, zB, zC]
  refine tk 8 33 12 rfl rfl (.inr hC) ?_
  simp only [Act.put, zA, zB, zC]
  refine tk 9 34 11 rfl rfl (.inr hC) ?_
  simp only [Act.put, zA, zB, zC]
  refine tk 10 35 10 rfl rfl (.inr hC) ?_
  simp only [Act.put, zA, zB, zC]
  refine tl 11 36 9 rfl rfl (.inr hC) ?_
  simp only [Act.put, zA, zB, zC]
  refine tk 12 37 8 rfl rfl (.inr hC) ?_
  simp only [Act.put, zA, zB, zC]
  refine tk 13 38 7 rfl rfl (.inr hC) ?_
  simp only [Act.put, zA, zB, zC]
  refine tk 14 39 6 rfl rfl (.inr hC) ?_
  simp only [Act.put, zA, zB, zC]
  refine tk 15 40 5 rfl rfl (.inr hC) ?_
  simp only [Act.put, zA, zB, zC]
  refine ry 4 [16] ?_
  refine rn rfl (fun K hK => ?_) ?_
  ·go_simp
   refine shut_K hK (by kernel_rfl) ?_
   clear hK K
   try simp only [Act.put, zA, zB, zC]
   refine tk 17 41 3 rfl rfl (.inl (by kernel_rfl)) ?_
   simp only [Act.put, zA, zB, zC]
   refine tk 18 42 2 rfl rfl (.inl (by kernel_rfl)) ?_
   simp only [Act.put, zA, zB, zC]
   refine ry 1 [19] ?_
   refine rn rfl (fun K hK => ?_) ?_
   ·go_simp
    refine shut_K hK (by kernel_rfl) ?_
    clear hK K
    try simp only [Act.put, zA, zB, zC]
    refine tk 20 6 0 rfl rfl (.inl (by kernel_rfl)) ?_
    simp only [Act.put, zA, zB, zC]
    refine wpAnyD_done (by kernel_rfl) ?_ _
    refine NoPanic.normal ?_
    have hw1 : IntKind.u32.wrap ((d.code : Int) - (bn : Int)) = ((d.code - bn : Nat) : Int) := by rw [IntKind.wrap_u32]; have := HCl.out; omega
    have hw2 : IntKind.u32.wrap ((d.size : Int) - (bn : Int)) = ((d.size - bn : Nat) : Int) := by rw [IntKind.wrap_u32]; have := HSl.out; have := HBd.out; omega
    rw [hw1, hw2]
    have e1 := HQ1.out.1.set 1 (.int .u32 ((d.code - bn : Nat) : Int)) { d with code := d.code - bn } rfl (by have := HCl.out; show d.code - bn < 2 ^ 32; omega) HQ1.out.1.sl HQ1.out.1.rl
    have e2 : DeO D d1 (((w.drewN (nq + 1)).setCell ⟨D, 1, none⟩ (.int .u32 ((d.code - bn : Nat) : Int))).setCell ⟨D, 2, none⟩ (.int .u32 ((d.size - bn : Nat) : Int))) := e1.set 2 _ d1 (by rw [HD1.out]; rfl) (by rw [HD1.out]; have := HCl.out; show d.code - bn < 2 ^ 32; omega) (by rw [HD1.out]; have := HSl.out; show d.size - bn < 2 ^ 32; omega) (by rw [HD1.out]; exact HQ1.out.1.rl)
    obtain ⟨W7, hW7⟩ : ∃ W, (((w.drewN (nq + 1)).setCell ⟨D, 1, none⟩ (.int .u32 ((d.code - bn : Nat) : Int))).setCell ⟨D, 2, none⟩ (.int .u32 ((d.size - bn : Nat) : Int))) = W := ⟨_, rfl⟩
    rw [hW7]
    have HE1 : Hid (DeO D d1 W7) := Lib.hid (by rw [← hW7]; exact e2)
    have HT1 : Hid (Touch (fun k => k = D) w W7) := Lib.hid (by rw [← hW7]; exact ((HQ1.out.2.setCell (p := ⟨D, 1, none⟩) (.inl rfl) _).setCell (p := ⟨D, 2, none⟩) (.inl rfl) _))
    clear hw1 hw2 e1 e2 hW7 hC
    go_wp2_with fail
    go_loopw [] (fun wr => DBitRel D d1 w wr) (fun wr => szD D wr)
    case atStart => exact ⟨d1, 0, HE1.out, rfl, by have := HS1.out; omega, by decide, HT1.out⟩
    case round =>
     obtain ⟨d', r, he, hnm, hsz, hr2, ht⟩ := hrel
     have HE := Lib.hid he
     have HNm := Lib.hid hnm
     have HSz := Lib.hid hsz
     have HT := Lib.hid ht
     have c2 := he.c2
     have hs2 := he.sl
     by_cases hlt : d'.size < 2 ^ 24
     ·have hlt' : (d'.size : Int) < 16777216 := by omega
      have hr1 : r ≤ 1 := by
       rcases (by omega : r = 0 ∨ r = 1 ∨ r = 2) with h | h | h
       ·omega
       ·omega
       ·subst h; omega
      have hs13 : 2 ^ 13 ≤ d'.size := by
       rcases (by omega : r = 0 ∨ r = 1) with h | h
       ·subst h; omega
       ·subst h; omega
      have HNx := Lib.hid (next_walk he)
      have HLt := Lib.hid hlt
      have HR1 := Lib.hid hr1
      have HS13 := Lib.hid hs13
      clear he hnm hsz ht hlt hr1 hs13 hs2
      go_wp2_with fail
      refine (HNx.out).mono ?_
      rintro x w3 ⟨rfl, ht3, hE3⟩
      have hz3 : (nextD d').size = d'.size := nextD_size d'
      have c2 : w3.cell? ⟨D, 2, none⟩ = some (.int .u32 (d'.size : Int)) := by have := hE3.c2; rw [hz3] at this; exact this
      have f2 := hE3.fr 2
      have HE3 := Lib.hid hE3
      have HT3 := Lib.hid (HT.out.trans ht3 fun _ _ h => h)
      have HZ3 := Lib.hid hz3
      clear ht3 hE3 hz3
      go_upto_region 8 with (fail)
      go_wp2_with fail
      have hws : IntKind.u32.wrap ((d'.size : Int) * 256) = ((d'.size * 256 : Nat) : Int) := by have := HLt.out; rw [IntKind.wrap_u32]; omega
      have hE4 : DeO D (normD1 d') (w3.setCell ⟨D, 2, none⟩ (.int .u32 ((d'.size * 256 : Nat) : Int))) := HE3.out.set 2 _ (normD1 d') rfl HE3.out.cl (by have := HLt.out; show d'.size * 256 < 2 ^ 32; omega) HE3.out.rl
      have hm1 : szD D wr = (1099511627776 - (d'.size : Int)).toNat := by unfold szD; rw [HE.out.c2]
      have hm2 : szD D (w3.setCell ⟨D, 2, none⟩ (.int .u32 ((d'.size * 256 : Nat) : Int))) = (1099511627776 - ((d'.size * 256 : Nat) : Int)).toNat := by unfold szD; rw [hE4.c2]; rfl
      have hi : ((d'.size * 256 : Nat) : Int) = (d'.size : Int) * 256 := by omega
      rw [hi] at hE4 hm2
      have HE4 := Lib.hid hE4
      have HM1 := Lib.hid hm1
      have HM2 := Lib.hid hm2
      clear hws hE4 hm1 hm2 hi
      go_roundw
      case rel => exact ⟨normD1 d', r + 1, HE4.out, by rw [normD_twice HS13.out HLt.out]; exact HNm.out, by have := HSz.out; show _ ≤ d'.size * 256; rw [Nat.pow_succ]; omega, by have := HR1.out; omega, HT3.out.setCell (p := ⟨D, 2, none⟩) (.inl rfl) _⟩
      case measure =>
       rw [HM1.out, HM2.out]
       have := HS13.out
       have := HLt.out
       omega
     ·have hlt' : ¬ (d'.size : Int) < 16777216 := by omega
      have HLt := Lib.hid hlt
      clear he hnm hsz ht hlt hs2
      go_wp2_with fail
      go_ret
      refine ⟨rfl, HT.out, ?_⟩
      rw [HR.out, ← HNm.out, normD_stop HLt.out]
      exact HE.out
   exact rz
  exact rz
end
theorem sB_app (a b : List UInt8) : sB a ++ sB b = sB (a ++ b) := by
 apply ByteArray.ext
 simp [sB, ByteArray.data_append]
/-- the text of an own row -/
theorem str_row {w : World} {B : Nat} {v : Value} {l : List UInt8} (h : w.ownsRow B 5 1 v l.length (bcells l)) : (convert 70 9 v).run Tryz.prog w = .ok (.string (sB l)) w := by
 obtain ⟨A, c, rfl⟩ := row_sl h
 cases A with
 | none =>
  have hl : l = [] := by
   rcases h.2 with ⟨_, h2⟩ | ⟨_, _, _, e, _⟩
   ·exact List.length_eq_zero_iff.1 h2
   ·cases e
  subst hl
  simp [convert, Tryz.underlying70, Tryz.underlying9, go_sem]
  try rfl
 | some a =>
  exact run_convert_bytes_back (P := Tryz.prog) w 70 9 5 a c l Tryz.underlying70 Tryz.underlying5 Tryz.underlying9 (by
   intro j hj
   obtain ⟨a', e, _, h3⟩ := row_flat h j _ (bcells_get (List.getElem?_eq_getElem hj))
   cases e
   rw [h3]
   try simp [List.getD, hj])
theorem newE_walk (w : World) : Calls Tryz.prog 55 #[] w fun x w' => x = .returned (.pointer (some ⟨w.heap.size, 0, none⟩)) ∧ Below w.heap.size w w' ∧ EnO (fun k => k = w.heap.size) w.heap.size newE w' (.slice none 0 0) := by
 go_enter Tryz.func55, Tryz.ntmps55
 go_wp2_with fail
 go_ret
 refine ⟨rfl, (Below.refl _ _).alloc (Nat.le_refl _) _, ⟨heap_alloc_new w _, rfl, ⟨rfl, .inl ⟨rfl, rfl⟩⟩, fun g hg => (by cases hg), fun k hk => ?_⟩⟩
 rw [hk]; simp
section
variable {S : Nat → Prop} {E : Nat} {e : Enc} {w w' : World} {vo : Value}
set_option maxRecDepth 100000 in
theorem fin_walk (h : EnO S E e w vo) (ho : EOk e) (hn : e.out.length ≤ 900000) : Calls Tryz.prog 60 #[.pointer (some ⟨E, 0, none⟩)] w fun x w' => x = .returned (.string (sB (finE e))) ∧ Below w.heap.size w w' := by
 have H := Lib.hid h
 have HL := Lib.hid ho.l
 have hli : (e.low : Int) < 4294967296 := by have := ho.l; omega
 have c1 := h.c1
 have HEl := Lib.hid h.el
 clear h ho
 go_enter Tryz.func60, Tryz.ntmps60
 go_upto_region 1 with (fail)
 refine wp_region_noPanic ?_
 refine wp_region_D 25 (fun w' => w'.cell? ⟨E, 1, none⟩ = some (.int .u32 (e.low : Int))) (by kernel_rfl) c1 (fun hU => ?_)
 have hC : (fun w' : World => w'.cell? ⟨E, 1, none⟩ = some (.int .u32 (e.low : Int))) w.drew := c1
 clear hU
 refine tk 0 4 25 rfl rfl (.inr hC) ?_
 simp only [Act.put, zA, zB, zC]
 refine tk 1 5 24 rfl rfl (.inr hC) ?_
 simp only [Act.put, zA, zB, zC]
 refine tk 2 6 23 rfl rfl (.inr hC) ?_
 simp only [Act.put, zA, zB, zC]
 refine tl 3 7 22 rfl rfl (.inr hC) ?_
 simp only [Act.put, zA, zB, zC]
 refine tk 4 8 21 rfl rfl (.inr hC) ?_
 simp only [Act.put, zA, zB, zC]
 refine tk 5 9 20 rfl rfl (.inr hC) ?_
 simp only [Act.put, zA, zB, zC]
 refine tk 6 10 19 rfl rfl (.inr hC) ?_
 simp only [Act.put, zA, zB, zC]
 refine tk 7 11 18 rfl rfl (.inr hC) ?_
 simp only [Act.put, zA, zB, zC]
 refine tk 8 12 17 rfl rfl (.inr hC) ?_
 simp only [Act.put, zA, zB, zC]
 refine tl 9 13 16 rfl rfl (.inr hC) ?_
 simp only [Act.put, zA, zB, zC]
 refine tk 10 14 15 rfl rfl (.inr hC) ?_
 simp only [Act.put, zA, zB, zC]
 refine tk 11 15 14 rfl rfl (.inr hC) ?_
 simp only [Act.put, zA, zB, zC]
 refine tk 12 16 13 rfl rfl (.inr hC) ?_
 simp only [Act.put, zA, zB, zC]
 refine tk 13 17 12 rfl rfl (.inr hC) ?_
 simp only [Act.put, zA, zB, zC]
 refine tk 14 18 11 rfl rfl (.inr hC) ?_
 simp only [Act.put, zA, zB, zC]
 refine tl 15 19 10 rfl rfl (.inr hC) ?_
 simp only [Act.put, zA, zB, zC]
 refine tk 16 20 9 rfl rfl (.inr hC) ?_
 simp only [Act.put, zA, zB, zC]
 refine tk 17 21 8 rfl rfl (.inr hC) ?_
 simp only [Act.put, zA, zB, zC]
 refine tk 18 22 7 rfl rfl (.inr hC) ?_
 simp only [Act.put, zA, zB, zC]
 refine tk 19 23 6 rfl rfl (.inr hC) ?_
 simp only [Act.put, zA, zB, zC]
 refine tk 20 24 5 rfl rfl (.inr hC) ?_
 simp only [Act.put, zA, zB, zC]
 refine tl 21 25 4 rfl rfl (.inr hC) ?_
 simp only [Act.put, zA, zB, zC]
 refine tk 22 26 3 rfl rfl (.inr hC) ?_
 simp only [Act.put, zA, zB, zC]
 refine tk 23 27 2 rfl rfl (.inr hC) ?_
 simp only [Act.put, zA, zB, zC]
 refine ry 1 [24] ?_
 refine rn rfl (fun K hK => ?_) ?_
 ·go_simp
  refine shut_C hK ?_ (fun hC => ?_)
  ·exact (World.cell?_of_block (Below.heap_alloc w _ _ HEl.out)).trans c1
  clear hK K
  try simp only [Act.put, zA, zB, zC]
  refine ry 0 [25] ?_
  refine rn rfl (fun K hK => ?_) ?_
  ·go_simp
   refine shut_K hK (by kernel_rfl) ?_
   clear hK K
   try simp only [Act.put, zA, zB, zC]
   refine wpAnyD_done (by kernel_rfl) ?_ _
   refine NoPanic.normal ?_
   have b1 : IntKind.u8.wrap ((e.low : Int) / 16777216) = ((UInt8.ofNat (e.low / 2 ^ 24)).toNat : Int) := by rw [IntKind.wrap_u8, UInt8.toNat_ofNat']; omega
   have b2 : IntKind.u8.wrap ((e.low : Int) / 65536) = ((UInt8.ofNat (e.low / 2 ^ 16)).toNat : Int) := by rw [IntKind.wrap_u8, UInt8.toNat_ofNat']; omega
   have b3 : IntKind.u8.wrap ((e.low : Int) / 256) = ((UInt8.ofNat (e.low / 2 ^ 8)).toNat : Int) := by rw [IntKind.wrap_u8, UInt8.toNat_ofNat']; omega
   have b4 : IntKind.u8.wrap (e.low : Int) = ((UInt8.ofNat e.low).toNat : Int) := by rw [IntKind.wrap_u8, UInt8.toNat_ofNat']; omega
   rw [b1, b2, b3, b4]
   clear b1 b2 b3 b4
   obtain ⟨W3, hW3⟩ : ∃ W, (w.alloc (.cells #[.int .u8 ((UInt8.ofNat (e.low / 2 ^ 24)).toNat : Int), .int .u8 ((UInt8.ofNat (e.low / 2 ^ 16)).toNat : Int), .int .u8 ((UInt8.ofNat (e.low / 2 ^ 8)).toNat : Int), .int .u8 ((UInt8.ofNat e.low).toNat : Int)] 161)).drew = W := ⟨_, rfl⟩
   rw [hW3]
   have hx3 : W3.heap[w.heap.size]? = some (.cells (bcells (be4 e.low)).toArray 161 (0, 0)) := by rw [← hW3]; exact heap_alloc_new w _
   have hb3 : Below w.heap.size w W3 := by rw [← hW3]; exact ((Below.refl _ _).alloc (Nat.le_refl _) _).drew
   have hE3 := H.out.frame (w' := W3) hb3.size fun k hk => hb3.block k (H.out.lt k hk)
   obtain ⟨A, cp, rfl⟩ := row_sl hE3.ro
   have c0 := hE3.c0
   have s1 := fun m => str_row (w := W3.drewN m) (row_of hE3.ro fun _ _ => rfl)
   have s2 := fun m => run_convert_bytes_back (P := Tryz.prog) (W3.drewN m) 70 9 5 ⟨w.heap.size, 0, none⟩ 4 (be4 e.low) Tryz.underlying70 Tryz.underlying5 Tryz.underlying9 (by
    intro j hj
    rw [Addr.add_lit, World.cell?_of_block (w := W3) (w' := W3.drewN m) rfl, cell_of_row W3 _ _ _ _ _ hx3]
    have := bcells_get (List.getElem?_eq_getElem hj)
    simp [this, List.getD, hj])
   have hl4 : (be4 e.low).length = 4 := rfl
   rw [hl4] at s2
   have HB3 := Lib.hid hb3
   clear hx3 hb3 hE3 hl4 c1 hC hli hW3
   have z1 : (sB e.out).size ≤ 900000 := by rw [sB_size]; exact hn
   have z2 : (⟨(be4 e.low).toArray⟩ : ByteArray).size ≤ 4 := Nat.le_refl 4
   go_upto_region 2 with (fail)
   go_quiet (fail)
   go_wp2_with fail
   go_ret
   refine ⟨?_, below_drewN HB3.out _⟩
   show Ending.returned (.string (sB e.out ++ sB (be4 e.low))) = _
   rw [sB_app]
   rfl
  exact rz
 exact rz
end
end Go.Proofs.YtlmjefjimoghcaaGreat
