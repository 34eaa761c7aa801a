/- A part of the proofs of TopCounter and TopStrict: what the functions of the program do, each walked once, and plain laws about it. No condition. -/
import Derived.Test.YtlmjefjimoghcaaGreatA05
namespace Go.Proofs.YtlmjefjimoghcaaGreat
set_option linter.unusedSimpArgs false
set_option linter.unnecessarySimpa false
set_option linter.unusedVariables false
open Go.RowKit
attribute [local go_sem ↓] Go.wp_at_zero Go.wp_at_succ
theorem clampI_b (z : Int) : 1 ≤ clampI z ∧ clampI z ≤ 2047 := by unfold clampI; omega
theorem mclamp_walk (z : Int) (w : World) : Calls Tryz.prog 134 #[.int .i64 z] w fun e w' => e = .returned (.int .i64 (clampI z)) ∧ w = w' := by
 go_enter Tryz.func134, Tryz.ntmps134
 go_wp2_with fail
 all_goals
  go_ret
  refine ⟨ret_int ?_, rfl⟩
  simp only [clampI]
  omega
theorem adapt_walk (z b : Int) (w : World) : Calls Tryz.prog 99 #[.int .i64 z, .int .i64 b] w fun e w' => e = .returned (.int .i64 (adaptP z (b != 0))) ∧ w = w' := by
 have HC := Lib.hid (mclamp_walk z w)
 have hb := clampI_b z
 obtain ⟨c, hc⟩ : ∃ c, clampI z = c := ⟨_, rfl⟩
 have HA : Hid (∀ t, adaptP z t = if t then c - c / 32 else c + (2048 - c) / 32) := Lib.hid fun t => by unfold adaptP; rw [hc]
 rw [hc] at hb
 have HCc := Lib.hid hc
 obtain ⟨hb1, hb2⟩ := hb
 clear hc
 by_cases h0 : b = 0
 ·subst h0
  go_enter Tryz.func99, Tryz.ntmps99
  go_wp2_with fail
  refine (HC.out).mono ?_
  rintro x w2 ⟨rfl, rfl⟩
  rw [HCc.out]
  go_wp2_with fail
  go_ret
  refine ⟨?_, rfl⟩
  rw [HA.out]
  rfl
 ·have h1 : (b == 0) = false := beq_eq_false_iff_ne.2 h0
  have h2 : (b != 0) = true := by simp [bne, h1]
  rw [h2]
  go_enter Tryz.func99, Tryz.ntmps99
  go_wp2_with fail
  refine (HC.out).mono ?_
  rintro x w2 ⟨rfl, rfl⟩
  rw [HCc.out]
  go_wp2_with fail
  go_ret
  refine ⟨?_, rfl⟩
  rw [HA.out]
  rfl
theorem trE_ok : ∀ (k f v m : Nat) (L : List Int) (e : Enc), EOk e → EOk (trE k f v m L e).2 ∧ (trE k f v m L e).2.out.length ≤ e.out.length + 2 * k
 | 0, _, _, _, _, _, h => ⟨h, Nat.le_refl _⟩
 | k + 1, f, v, m, L, e, h => by
  obtain ⟨h1, h2⟩ := bitE_ok h (L.getD (f + m) default) (v / 2 ^ k % 2 != 0)
  obtain ⟨h3, h4⟩ := trE_ok k f v (2 * m + v / 2 ^ k % 2) (L.set (f + m) (adaptP (L.getD (f + m) default) (v / 2 ^ k % 2 != 0))) _ h1
  exact ⟨h3, by show (trE k f v _ _ _).2.out.length ≤ _; omega⟩
/-- a tree's two cells: its bits and the window of its nodes -/
structure TrO (B o b n G f : Nat) (w : World) : Prop where
 c0 : w.cell? ⟨B, o, none⟩ = some (.int .i64 (b : Int))
 c1 : w.cell? ⟨B, o + 1, none⟩ = some (.slice (some ⟨G, f, none⟩) n n)
theorem TrO.frame {B o b n G f : Nat} {w w' : World} (h : TrO B o b n G f w) (hf : w'.heap[B]? = w.heap[B]?) : TrO B o b n G f w' := ⟨(World.cell?_of_block hf).trans h.c0, (World.cell?_of_block hf).trans h.c1⟩
theorem bit_int (v k : Nat) : (v : Int) / 2 ^ k % 2 = ((v / 2 ^ k % 2 : Nat) : Int) := by simp
theorem bne_int (n : Nat) : ((n : Int) != 0) = (n != 0) := by
 cases n with
 | zero => rfl
 | succ n => simp [bne]; omega
theorem IRow.cell {w : World} {G : Nat} {l : List Int} (h : IRow w G l) {i : Nat} (hi : i < l.length) : w.cell? ⟨G, i, none⟩ = some (.int .i64 (l.getD i default)) := by
 rw [cell_of_row w G i _ _ _ h]
 exact (List.getElem?_toArray).trans (ic_get hi)
theorem IRow.fr {w : World} {G : Nat} {l : List Int} (h : IRow w G l) (i : Nat) : w.frozen? ⟨G, i, none⟩ = false := by simp [World.frozen?, h.to]
/-- what a tree's Encode leaves -/
structure TrRes (S : Nat → Prop) (E G : Nat) (r : List Int × Enc) (w w' : World) : Prop where
 ex : ∃ (S' : Nat → Prop) (vo : Value), EnO S' E r.2 w' vo ∧ (∀ k, S' k → S k ∨ w.heap.size ≤ k)
 touch : Touch (fun k => S k ∨ k = G) w w'
 row : IRow w' G r.1
def TrERel (S : Nat → Prop) (E G b f v : Nat) (L : List Int) (e : Enc) (w : World) (mv i : Value) (wr : World) : Prop :=
 ∃ (k m : Nat) (L' : List Int) (e' : Enc), i = .int .i64 ((k : Int) - 1) ∧ mv = .int .i64 (m : Int) ∧ k ≤ b ∧ m < 2 ^ (b - k + 1) ∧ TrRes S E G (L', e') w wr ∧ L'.length = L.length ∧ EOk e' ∧ e'.out.length + 2 * k ≤ 800000 ∧ trE k f v m L' e' = trE b f v 1 L e
section
variable {S : Nat → Prop} {E : Nat} {e : Enc} {w w' : World} {vo : Value}
theorem TrRes.step {S S1 S3 : Nat → Prop} {E G : Nat} {L' : List Int} {e1 e3 : Enc} {w wr w3 : World} {vo3 : Value} {i : Nat} {x : Int} (h : TrRes S E G (L', e1) w wr) (hS1 : ∀ k, S1 k → S k ∨ w.heap.size ≤ k) (hG : ¬ S1 G) (hGl : G < w.heap.size) (hg : Grow S1 S3 wr w3) (he : EnO S3 E e3 w3 vo3) (hi : IRow w3 G L') : TrRes S E G (L'.set i x, e3) w ((w3.setCell ⟨G, i, none⟩ (.int .i64 x)).drew) := by
 have hs := h.touch.size
 have hn : ¬ S3 G := fun h => (hg.s G h).elim hG fun h => by omega
 refine ⟨⟨S3, vo3, he.frame (by simp [World.drew]) fun k hk => Below.heap_setCell w3 ⟨G, i, none⟩ _ k fun e => hn ((show k = G from e) ▸ hk), fun k hk => ?_⟩, ?_, ?_⟩
 ·rcases hg.s k hk with h1 | h1
  ·exact hS1 k h1
  ·right; omega
 ·refine ((h.touch.trans hg.touch fun i hi hs1 => ?_).setCell (p := ⟨G, i, none⟩) (.inl (.inr rfl)) _).drew
  rcases hS1 i hs1 with h1 | h1
  ·exact .inl h1
  ·omega
 ·exact (hi.set i x)
set_option maxRecDepth 100000 in
theorem treeE_walk {B o b n G f : Nat} {L : List Int} (h : EnO S E e w vo) (ho : EOk e) (ht : TrO B o b n G f w) (hn : n = 2 ^ b) (hb : b ≤ 8) (hi : IRow w G L) (hfl : f + 2 ^ b ≤ L.length) (hG : ¬ S G) (hB : ¬ S B) (hBG : B ≠ G) (hl : e.out.length + 2 * b ≤ 800000) (v : Nat) (hv : v < 2 ^ 62) : Calls Tryz.prog 57 #[.pointer (some ⟨B, o, none⟩), .pointer (some ⟨E, 0, none⟩), .int .i64 (v : Int)] w fun x w' => x = .returned (.tuple #[]) ∧ TrRes S E G (trE b f v 1 L e) w w' := by
 have H := Lib.hid h
 have HO := Lib.hid ho
 have HT := Lib.hid ht
 have HI := Lib.hid hi
 have HN := Lib.hid hn
 have HFL := Lib.hid hfl
 have HGS := Lib.hid (And.intro hG (And.intro hB hBG))
 have HL := Lib.hid hl
 have HBl : Hid (B < w.heap.size) := Lib.hid (World.block_lt_of_cell? w _ ht.c0)
 have HGl : Hid (G < w.heap.size) := Lib.hid (Array.getElem?_eq_some_iff.1 hi).1
 have hb8 : (b : Int) ≤ 8 := by omega
 have hv62 : (v : Int) < 4611686018427387904 := by omega
 have c0 := ht.c0
 clear h ho ht hi hn hfl hG hB hBG hl hb hv
 go_enter Tryz.func57, Tryz.ntmps57
 go_wp2_with fail
 go_loopw [6, 7] (fun mv i wr => TrERel S E G b f v L e w mv i wr) (fun _ i _ => (intOf i + 1).toNat)
 case atStart => exact ⟨b, 1, L, e, rfl, rfl, Nat.le_refl _, by rw [Nat.sub_self]; decide, ⟨⟨S, vo, H.out, fun k hk => .inl hk⟩, .refl _ _, HI.out⟩, rfl, HO.out, HL.out, rfl⟩
 case round =>
  obtain ⟨k, m, L', e', rfl, rfl, hk, hm, hr, hll, hok, hle, heq⟩ := hrel
  have HR := Lib.hid hr
  have HLl := Lib.hid hll
  have HOk := Lib.hid hok
  have HLe := Lib.hid hle
  have HEq := Lib.hid heq
  have HM := Lib.hid hm
  clear hr hll hok hm
  match k, hk, hle, heq, HLe, HEq, HM with
  | 0, hk, hle, heq, HLe, HEq, HM =>
   clear hle heq
   go_wp2_with fail
   refine bodyPost_end (results_none rfl _ _ _) rfl ⟨rfl, ?_⟩
   rw [← HEq.out]
   exact HR.out
  | k + 1, hk, hle, heq, HLe, HEq, HM =>
   have hkk : ((k + 1 : Nat) : Int) - 1 = (k : Int) := by omega
   rw [hkk]
   have hk8 : (k : Int) < 8 := by omega
   have hmb : m < n := by
    have h1 := HM.out
    rw [HN.out]
    exact Nat.lt_of_lt_of_le h1 (Nat.pow_le_pow_right (by decide) (by omega))
   have hn256 : n ≤ 256 := by
    rw [HN.out]
    exact Nat.le_trans (Nat.pow_le_pow_right (by decide) (show b ≤ 8 by omega)) (by decide)
   have hmi : (m : Int) < n := by omega
   have hmi2 : (m : Int) < 256 := by omega
   have hfm : f + m < L'.length := by have := HFL.out; rw [HLl.out]; rw [← HN.out] at this; omega
   have HFm := Lib.hid hfm
   have hTB := HR.out.touch.block B HBl.out (by have := HGS.out; intro h; rcases h with h | h; exact this.2.1 h; exact this.2.2 h)
   have htr := HT.out.frame hTB
   have t0 := htr.c0
   have t1 := htr.c1
   have g0 := HR.out.row.cell hfm
   have gf := HR.out.row.fr (f + m)
   obtain ⟨z, hz⟩ : ∃ z, L'.getD (f + m) default = z := ⟨_, rfl⟩
   rw [hz] at g0
   have HZ := Lib.hid hz
   obtain ⟨x, hx⟩ : ∃ x, v / 2 ^ k % 2 = x := ⟨_, rfl⟩
   have HX := Lib.hid hx
   have HXi : Hid ((v : Int) / 2 ^ k % 2 = (x : Int)) := Lib.hid (by rw [bit_int, hx])
   have hx2 : (x : Int) < 2 := by omega
   clear hz hx hmb hn256 hfm hTB htr hle heq c0
   obtain ⟨S1, vo1, hE1, hS1⟩ := HR.out.ex
   have hnG : ¬ S1 G := fun h => (hS1 G h).elim HGS.out.1 fun h => by have := HGl.out; omega
   have hnB : ¬ S1 B := fun h => (hS1 B h).elim HGS.out.2.1 fun h => by have := HBl.out; omega
   have HB1 := Lib.hid (bit_walk hE1 HOk.out (by have := HLe.out; show e'.out.length ≤ _; omega) z (x : Int))
   have HS1 := Lib.hid (And.intro hS1 (And.intro hnG hnB))
   clear hE1 hS1 hnG hnB
   go_wp2_with fail
   rw [i64_and1, HXi.out]
   refine (HB1.out).mono ?_
   rintro y w3 ⟨S3, vo3, rfl, hg3, hE3⟩
   rw [bne_int] at hE3
   have hszr := HR.out.touch.size
   have hB3 := hg3.touch.block B (by have := HBl.out; omega) HS1.out.2.2
   have hG3 := hg3.touch.block G (by have := HGl.out; omega) HS1.out.2.1
   have htr3 := (HT.out.frame (w' := wr) (HR.out.touch.block B HBl.out (by have := HGS.out; intro h; rcases h with h | h; exact this.2.1 h; exact this.2.2 h))).frame hB3
   have hi3 : IRow w3 G L' := hG3.trans HR.out.row
   have t1 : w3.cell? ⟨B, o + 1, none⟩ = some (.slice (some ⟨G, f, none⟩) n n) := htr3.c1
   have g0 : w3.cell? ⟨G, f + m, none⟩ = some (.int .i64 z) := by have := hi3.cell HFm.out; rw [HZ.out] at this; exact this
   have gf : w3.frozen? ⟨G, f + m, none⟩ = false := hi3.fr (f + m)
   have HG3 := Lib.hid hg3
   have HE3 := Lib.hid hE3
   have HI3 := Lib.hid hi3
   have HAd := Lib.hid fun w => adapt_walk z (x : Int) w
   clear hszr hB3 hG3 htr3 hg3 hE3 hi3 HB1
   go_upto_region 6 with (fail)
   refine wp_region_noPanic ?_
   refine wp_region_D 15 (fun w' => w'.cell? ⟨B, o + 1, none⟩ = some (.slice (some ⟨G, f, none⟩) n n) ∧ w'.cell? ⟨G, f + m, none⟩ = some (.int .i64 z)) (by kernel_rfl) ⟨t1, g0⟩ (fun hU => ?_)
   have hC : (fun w' : World => w'.cell? ⟨B, o + 1, none⟩ = some (.slice (some ⟨G, f, none⟩) n n) ∧ w'.cell? ⟨G, f + m, none⟩ = some (.int .i64 z)) w3.drew := ⟨t1, g0⟩
   clear hU
   refine tk 0 32 15 rfl rfl (.inr hC) ?_
   simp only [Act.put, zA, zB, zC]
   refine tk 1 33 14 rfl rfl (.inr hC) ?_
   simp only [Act.put, zA, zB, zC]
   refine tk 2 34 13 rfl rfl (.inr hC) ?_
   simp only [Act.put, zA, zB, zC]
   refine tl 3 35 12 rfl rfl (.inr hC) ?_
   simp only [Act.put, zA, zB, zC]
   refine tk 4 36 11 rfl rfl (.inr hC) ?_
   simp only [Act.put, zA, zB, zC]
   refine tk 5 37 10 rfl rfl (.inr hC) ?_
   simp only [Act.put, zA, zB, zC]
   refine tk 6 38 9 rfl rfl (.inr hC) ?_
   simp only [Act.put, zA, zB, zC]
   refine tk 7 39 8 rfl rfl (.inr hC) ?_
   simp only [Act.put, zA, zB, zC]
   refine tl 8 40 7 rfl rfl (.inr hC) ?_
   simp only [Act.put, zA, zB, zC]
   refine tk 9 41 6 rfl rfl (.inr hC) ?_
   simp only [Act.put, zA, zB, zC]
   refine tk 10 42 5 rfl rfl (.inr hC) ?_
   simp only [Act.put, zA, zB, zC]
   refine tl 11 43 4 rfl rfl (.inr hC) ?_
   simp only [Act.put, zA, zB, zC]
   refine tk 12 44 3 rfl rfl (.inr hC) ?_
   simp only [Act.put, zA, zB, zC]
   refine ry 2 [13] ?_
   refine rn rfl (fun K hK => ?_) ?_
   ·go_simp
    go_at_call 99
    with_reducible refine (HAd.out _).mono ?_
    rintro x _ ⟨rfl, rfl⟩
    go_wp2_with fail
    refine shut_C hK ?_ (fun hC => ?_)
    ·exact ⟨t1, g0⟩
    clear hK K
    try simp only [Act.put, zA, zB, zC]
    refine tk 14 46 1 rfl rfl (.inr hC) ?_
    simp only [Act.put, zA, zB, zC]
    refine ry 0 [15] ?_
    refine rn rfl (fun K hK => ?_) ?_
    ·go_simp
     refine shut_K hK (by kernel_rfl) ?_
     clear hK K
     try simp only [Act.put, zA, zB, zC]
     refine wpAnyD_done (by kernel_rfl) ?_ _
     refine NoPanic.normal ?_
     rw [bne_int]
     have hst := HR.out.step (i := f + m) (x := adaptP z (x != 0)) HS1.out.1 HS1.out.2.1 HGl.out HG3.out HE3.out HI3.out
     obtain ⟨W4, hW4⟩ : ∃ W, (w3.setCell ⟨G, f + m, none⟩ (.int .i64 (adaptP z (x != 0)))).drew = W := ⟨_, rfl⟩
     rw [hW4] at hst ⊢
     have HSt := Lib.hid hst
     have hrr : Hid (trE k f v (2 * m + x) (L'.set (f + m) (adaptP z (x != 0))) (bitE e' z (x != 0)) = trE b f v 1 L e) := Lib.hid (by rw [← HEq.out, ← HX.out, ← HZ.out]; rfl)
     have hok3 := Lib.hid (bitE_ok HOk.out z (x != 0))
     clear hst hW4 t1 g0 gf hC HAd
     go_wp2_with fail
     go_roundw
     case rel => exact ⟨k, 2 * m + x, _, _, rfl, by go_num, by omega, by have := HM.out; rw [show b - k + 1 = (b - (k + 1) + 1) + 1 by omega, Nat.pow_succ]; omega, HSt.out, by rw [List.length_set]; exact HLl.out, hok3.out.1, by have := hok3.out.2; have := HLe.out; omega, hrr.out⟩
     case measure => simp [intOf]
    exact rz
   exact rz
end
theorem trD_size : ∀ (k f m : Nat) (L : List Int) (d : Dec), 2 ^ 24 ≤ d.size → d.size < 2 ^ 32 → 2 ^ 24 ≤ (trD k f m L d).2.2.size ∧ (trD k f m L d).2.2.size < 2 ^ 32
 | 0, _, _, _, _, h, h2 => ⟨h, h2⟩
 | k + 1, f, m, L, d, h, h2 => by
  have h3 : (bitD d (L.getD (f + m) default)).size < 2 ^ 32 := by
   have hb := bndP_b (L.getD (f + m) default) h
   have hs : (stepD d (L.getD (f + m) default)).size < 2 ^ 32 := by
    unfold stepD
    split
    ·show bndP d.size _ < _; omega
    ·show d.size - bndP d.size _ < _; omega
   unfold bitD normD
   have e1 : (normD1 (stepD d (L.getD (f + m) default))).size = (stepD d (L.getD (f + m) default)).size * 256 := rfl
   have e2 : (normD1 (normD1 (stepD d (L.getD (f + m) default)))).size = (normD1 (stepD d (L.getD (f + m) default))).size * 256 := rfl
   split
   ·split
    ·rw [e2]; omega
    ·rw [e1]; omega
   ·omega
  exact trD_size k f _ _ _ (bitD_size _ h h2) h3
/-- what a tree's Decode leaves -/
structure TdRes (D G : Nat) (r : List Int × Dec) (w w' : World) : Prop where
 de : DeO D r.2 w'
 touch : Touch (fun k => k = D ∨ k = G) w w'
 row : IRow w' G r.1
theorem TdRes.step {D G : Nat} {L' : List Int} {d1 d3 : Dec} {w wr w3 : World} {i : Nat} {x : Int} (h : TdRes D G (L', d1) w wr) (ht : Touch (fun k => k = D) wr w3) (hd : DeO D d3 w3) (hne : D ≠ G) (hi : IRow w3 G L') : TdRes D G (L'.set i x, d3) w ((w3.setCell ⟨G, i, none⟩ (.int .i64 x)).drew) :=
 ⟨hd.frame (Below.heap_setCell w3 ⟨G, i, none⟩ _ D fun e => hne e), ((h.touch.trans ht fun i _ h => .inl h).setCell (p := ⟨G, i, none⟩) (.inl (.inr rfl)) _).drew, hi.set i x⟩
def TrDRel (D G b f : Nat) (L : List Int) (d : Dec) (w : World) (mv i : Value) (wr : World) : Prop :=
 ∃ (k j m : Nat) (L' : List Int) (d' : Dec), i = .int .i64 (j : Int) ∧ mv = .int .i64 (m : Int) ∧ j + k = b ∧ m < 2 ^ (j + 1) ∧ TdRes D G (L', d') w wr ∧ L'.length = L.length ∧ 2 ^ 24 ≤ d'.size ∧ trD k f m L' d' = trD b f 1 L d
section
variable {D : Nat} {d : Dec} {w w' : World}
set_option maxRecDepth 100000 in
theorem treeD_walk {B o b n G f : Nat} {L : List Int} (h : DeO D d w) (hs : 2 ^ 24 ≤ d.size) (ht : TrO B o b n G f w) (hn : n = 2 ^ b) (hb : b ≤ 8) (hi : IRow w G L) (hfl : f + 2 ^ b ≤ L.length) (hDG : D ≠ G) (hBD : B ≠ D) (hBG : B ≠ G) : Calls Tryz.prog 91 #[.pointer (some ⟨B, o, none⟩), .pointer (some ⟨D, 0, none⟩)] w fun x w' => x = .returned (.int .i64 (((trD b f 1 L d).1 - 2 ^ b : Nat) : Int)) ∧ TdRes D G (trD b f 1 L d).2 w w' := by
 have H := Lib.hid h
 have HS := Lib.hid hs
 have HT := Lib.hid ht
 have HI := Lib.hid hi
 have HN := Lib.hid hn
 have HFL := Lib.hid hfl
 have HDG := Lib.hid hDG
 have HBB := Lib.hid (And.intro hBD hBG)
 have HBl : Hid (B < w.heap.size) := Lib.hid (World.block_lt_of_cell? w _ ht.c0)
 have HGl : Hid (G < w.heap.size) := Lib.hid (Array.getElem?_eq_some_iff.1 hi).1
 have hb8 : (b : Int) ≤ 8 := by omega
 have HRg : Hid (2 ^ b ≤ (trD b f 1 L d).1 ∧ (trD b f 1 L d).1 < 512) := Lib.hid (by
  obtain ⟨r, hr, h⟩ := trD_range b f 1 L d
  have h1 : 2 ^ b ≤ 2 ^ 8 := Nat.pow_le_pow_right (by decide) hb
  rw [h]; omega)
 have c0 := ht.c0
 clear h hs ht hi hn hfl hDG hBD hBG hb
 go_enter Tryz.func91, Tryz.ntmps91
 go_wp2_with fail
 go_loopw [5, 11] (fun mv i wr => TrDRel D G b f L d w mv i wr) (fun _ i _ => ((b : Int) - intOf i).toNat)
 case atStart => exact ⟨b, 0, 1, L, d, rfl, rfl, by omega, by decide, ⟨H.out, .refl _ _, HI.out⟩, rfl, HS.out, rfl⟩
 case round =>
  obtain ⟨k, j, m, L', d', rfl, rfl, hk, hm, hr, hll, hsz, heq⟩ := hrel
  have HR := Lib.hid hr
  have HLl := Lib.hid hll
  have HSz := Lib.hid hsz
  have HEq := Lib.hid heq
  have HM := Lib.hid hm
  clear hr hll hm
  have htr := HT.out.frame (w' := wr) (HR.out.touch.block B HBl.out (by have := HBB.out; intro h; rcases h with h | h; exact this.1 h; exact this.2 h))
  have t0 := htr.c0
  have t1 := htr.c1
  match k, hk, heq, HEq with
  | 0, hk, heq, HEq =>
   have hj : ¬ (j : Int) < b := by omega
   obtain ⟨r1, hr1⟩ : ∃ r, (trD b f 1 L d).1 = r := ⟨_, rfl⟩
   have hrg := HRg.out
   rw [hr1] at hrg
   have hm0 : (m : Int) = (r1 : Int) := by rw [← hr1, ← HEq.out]; rfl
   have hpb : ((2 ^ b : Nat) : Int) = (2 : Int) ^ b := by simp
   clear heq hsz htr c0
   have hp8 : 2 ^ b ≤ 2 ^ 8 := Nat.pow_le_pow_right (by decide) (show b ≤ 8 by omega)
   have hfin : wrap64 ((r1 : Int) - wrap64 ((2 : Int) ^ b)) = (((trD b f 1 L d).1 - 2 ^ b : Nat) : Int) := by
    rw [← hpb, hr1]
    generalize 2 ^ b = t at hp8 hrg
    have e1 : wrap64 (t : Int) = t := wrap_small (by omega) (by omega)
    rw [e1, wrap_small (by omega) (by omega)]
    omega
   have HFin := Lib.hid hfin
   have HRes : Hid (TdRes D G (trD b f 1 L d).2 w wr) := Lib.hid (by rw [← HEq.out]; exact HR.out)
   clear hp8 hfin hpb hrg hr1
   rw [hm0]
   go_wp2_with fail
   go_ret
   refine ⟨ret_int HFin.out, HRes.out⟩
  | k + 1, hk, heq, HEq =>
   have hj : (j : Int) < b := by omega
   have hmb : m < n := by
    have h1 := HM.out
    rw [HN.out]
    exact Nat.lt_of_lt_of_le h1 (Nat.pow_le_pow_right (by decide) (by omega))
   have hn256 : n ≤ 256 := by
    rw [HN.out]
    exact Nat.le_trans (Nat.pow_le_pow_right (by decide) (show b ≤ 8 by omega)) (by decide)
   have hmi : (m : Int) < n := by omega
   have hmi2 : (m : Int) < 256 := by omega
   have hfm : f + m < L'.length := by have := HFL.out; rw [HLl.out]; rw [← HN.out] at this; omega
   have HFm := Lib.hid hfm
   have g0 := HR.out.row.cell hfm
   have gf := HR.out.row.fr (f + m)
   obtain ⟨z, hz⟩ : ∃ z, L'.getD (f + m) default = z := ⟨_, rfl⟩
   rw [hz] at g0
   have HZ := Lib.hid hz
   have HDb := Lib.hid (dbit_walk HR.out.de hsz z)
   clear hz hmb hn256 hfm htr heq hsz c0 t0
   go_wp2_with fail
   refine (HDb.out).mono ?_
   rintro y w3 ⟨rfl, ht3, hE3⟩
   obtain ⟨bt, hbt⟩ : ∃ bt : Nat, b2n (bitOf d' z) = bt := ⟨_, rfl⟩
   have hb1 : bt ≤ 1 := by rw [← hbt]; unfold b2n; split <;> omega
   have hbi : (if bitOf d' z = true then (1 : Int) else 0) = (bt : Int) := by rw [← hbt]; unfold b2n; split <;> rfl
   rw [hbi]
   have hB3 := ht3.block B (by have := HBl.out; have := HR.out.touch.size; omega) HBB.out.1
   have hG3 := ht3.block G (by have := HGl.out; have := HR.out.touch.size; omega) (fun h => HDG.out h.symm)
   have htr3 := (HT.out.frame (w' := wr) (HR.out.touch.block B HBl.out (by have := HBB.out; intro h; rcases h with h | h; exact this.1 h; exact this.2 h))).frame hB3
   have hi3 : IRow w3 G L' := hG3.trans HR.out.row
   have t1 : w3.cell? ⟨B, o + 1, none⟩ = some (.slice (some ⟨G, f, none⟩) n n) := htr3.c1
   have g0 : w3.cell? ⟨G, f + m, none⟩ = some (.int .i64 z) := by have := hi3.cell HFm.out; rw [HZ.out] at this; exact this
   have gf : w3.frozen? ⟨G, f + m, none⟩ = false := hi3.fr (f + m)
   have t0 : w3.cell? ⟨B, o, none⟩ = some (.int .i64 (b : Int)) := htr3.c0
   have HT3 := Lib.hid ht3
   have HE3 := Lib.hid hE3
   have HI3 := Lib.hid hi3
   have HBt := Lib.hid hbt
   have HAd := Lib.hid fun w => adapt_walk z (bt : Int) w
   clear hbi hbt hB3 hG3 htr3 ht3 hE3 hi3 HDb
   go_upto_region 5 with (fail)
   refine wp_region_noPanic ?_
   refine wp_region_D 15 (fun w' => w'.cell? ⟨B, o + 1, none⟩ = some (.slice (some ⟨G, f, none⟩) n n) ∧ w'.cell? ⟨G, f + m, none⟩ = some (.int .i64 z)) (by kernel_rfl) ⟨t1, g0⟩ (fun hU => ?_)
   have hC : (fun w' : World => w'.cell? ⟨B, o + 1, none⟩ = some (.slice (some ⟨G, f, none⟩) n n) ∧ w'.cell? ⟨G, f + m, none⟩ = some (.int .i64 z)) w3.drew := ⟨t1, g0⟩
   clear hU
   refine tk 0 22 15 rfl rfl (.inr hC) ?_
   simp only [Act.put, zA, zB, zC]
   refine tk 1 23 14 rfl rfl (.inr hC) ?_
   simp only [Act.put, zA, zB, zC]
   refine tk 2 24 13 rfl rfl (.inr hC) ?_
   simp only [Act.put, zA, zB, zC]
   refine tl 3 25 12 rfl rfl (.inr hC) ?_
   simp only [Act.put, zA, zB, zC]
   refine tk 4 26 11 rfl rfl (.inr hC) ?_
   simp only [Act.put, zA, zB, zC]
   refine tk 5 27 10 rfl rfl (.inr hC) ?_
   simp only [Act.put, zA, zB, zC]
   refine tk 6 28 9 rfl rfl (.inr hC) ?_
   simp only [Act.put, zA, zB, zC]
   refine tk 7 29 8 rfl rfl (.inr hC) ?_
   simp only [Act.put, zA, zB, zC]
   refine tl 8 30 7 rfl rfl (.inr hC) ?_
   simp only [Act.put, zA, zB, zC]
   refine tk 9 31 6 rfl rfl (.inr hC) ?_
   simp only [Act.put, zA, zB, zC]
   refine tk 10 32 5 rfl rfl (.inr hC) ?_
   simp only [Act.put, zA, zB, zC]
   refine tl 11 33 4 rfl rfl (.inr hC) ?_
   simp only [Act.put, zA, zB, zC]
   refine tk 12 34 3 rfl rfl (.inr hC) ?_
   simp only [Act.put, zA, zB, zC]
   refine ry 2 [13] ?_
   refine rn rfl (fun K hK => ?_) ?_
   ·go_simp
    go_at_call 99
    with_reducible refine (HAd.out _).mono ?_
    rintro x _ ⟨rfl, rfl⟩
    go_wp2_with fail
    refine shut_C hK ?_ (fun hC => ?_)
    ·exact ⟨t1, g0⟩
    clear hK K
    try simp only [Act.put, zA, zB, zC]
    refine tk 14 36 1 rfl rfl (.inr hC) ?_
    simp only [Act.put, zA, zB, zC]
    refine ry 0 [15] ?_
    refine rn rfl (fun K hK => ?_) ?_
    ·go_simp
     refine shut_K hK (by kernel_rfl) ?_
     clear hK K
     try simp only [Act.put, zA, zB, zC]
     refine wpAnyD_done (by kernel_rfl) ?_ _
     refine NoPanic.normal ?_
     rw [bne_int]
     have hst := HR.out.step (i := f + m) (x := adaptP z (bt != 0)) HT3.out HE3.out HDG.out HI3.out
     obtain ⟨W4, hW4⟩ : ∃ W, (w3.setCell ⟨G, f + m, none⟩ (.int .i64 (adaptP z (bt != 0)))).drew = W := ⟨_, rfl⟩
     rw [hW4] at hst ⊢
     have HSt := Lib.hid hst
     have hrr : Hid (trD k f (2 * m + bt) (L'.set (f + m) (adaptP z (bt != 0))) (bitD d' z) = trD b f 1 L d) := Lib.hid (by
      rw [← HEq.out]
      have h1 : (bt != 0) = bitOf d' z := by rw [← HBt.out]; unfold b2n; cases bitOf d' z <;> rfl
      rw [h1, ← HBt.out, ← HZ.out]; rfl)
     have hsz3 := Lib.hid (bitD_size z HSz.out HR.out.de.sl)
     clear hst hW4 t1 g0 gf hC HAd
     go_wp2_with fail
     go_roundw
     case rel => exact ⟨k, j + 1, 2 * m + bt, _, _, by go_num, by go_num, by omega, by have := HM.out; rw [Nat.pow_succ]; omega, HSt.out, by rw [List.length_set]; exact HLl.out, hsz3.out, hrr.out⟩
     case measure => simp [intOf]; omega
    exact rz
   exact rz
end
def bytC (G l : Nat) : Array Value := #[.int .i64 8, .slice (some ⟨G, 0, none⟩) 256 256, .int .i64 8, .slice (some ⟨G, 256, none⟩) 256 256, .int .i64 8, .slice (some ⟨G, 512, none⟩) 256 256, .int .i64 8, .slice (some ⟨G, 768, none⟩) 256 256, .int .i64 8, .slice (some ⟨G, 1024, none⟩) 256 256, .int .i64 8, .slice (some ⟨G, 1280, none⟩) 256 256, .int .i64 8, .slice (some ⟨G, 1536, none⟩) 256 256, .int .i64 8, .slice (some ⟨G, 1792, none⟩) 256 256, .int .u8 (l : Int)]
def BytO (B G l : Nat) (w : World) : Prop := w.heap[B]? = some (.cells (bytC G l) 140 (0, 0))
theorem BytO.to {B G l : Nat} {w : World} (h : BytO B G l w) : w.heap[B]? = some (.cells (bytC G l) 140 (0, 0)) := h
theorem BytO.last {B G l : Nat} {w : World} (h : BytO B G l w) : w.cell? ⟨B, 16, none⟩ = some (.int .u8 (l : Int)) := by rw [cell_of_row w B 16 _ _ _ h.to]; rfl
theorem BytO.fr {B G l : Nat} {w : World} (h : BytO B G l w) (i : Nat) : w.frozen? ⟨B, i, none⟩ = false := by simp [World.frozen?, h.to]
theorem BytO.tree {B G l : Nat} {w : World} (h : BytO B G l w) {q : Nat} (hq : q < 8) : TrO B (q * 2) 8 256 G (q * 256) w := by
 rcases (by omega : q = 0 ∨ q = 1 ∨ q = 2 ∨ q = 3 ∨ q = 4 ∨ q = 5 ∨ q = 6 ∨ q = 7) with rfl | rfl | rfl | rfl | rfl | rfl | rfl | rfl <;> exact ⟨by rw [cell_of_row w B _ _ _ _ h.to]; rfl, by rw [cell_of_row w B _ _ _ _ h.to]; rfl⟩
theorem BytO.set {B G l : Nat} {w : World} (h : BytO B G l w) (c : Nat) : BytO B G c (w.setCell ⟨B, 16, none⟩ (.int .u8 (c : Int))) := (heap_setCell_any w B 16 _ _ _ _ h.to).trans (by simp [bytC])
def byE (L : List Int) (l : Nat) (c : Nat) (e : Enc) : List Int × Enc := trE 8 (l / 32 * 256) c 1 L e
def byD (L : List Int) (l : Nat) (d : Dec) : Nat × List Int × Dec := ((trD 8 (l / 32 * 256) 1 L d).1 - 2 ^ 8, (trD 8 (l / 32 * 256) 1 L d).2)
/-- what a model's Encode leaves -/
structure MoRes (S : Nat → Prop) (E B G : Nat) (r : List Int × Enc) (w w' : World) : Prop where
 ex : ∃ (S' : Nat → Prop) (vo : Value), EnO S' E r.2 w' vo ∧ (∀ k, S' k → S k ∨ w.heap.size ≤ k)
 touch : Touch (fun k => S k ∨ k = G ∨ k = B) w w'
 row : IRow w' G r.1
theorem TrRes.mo {S : Nat → Prop} {E B G : Nat} {r : List Int × Enc} {w w3 : World} (h : TrRes S E G r w.drew w3) (hB : ¬ S B) (hBG : B ≠ G) (hl : B < w.heap.size) (i : Nat) (v : Value) : MoRes S E B G r w (w3.setCell ⟨B, i, none⟩ v) := by
 obtain ⟨S', vo, he, hs⟩ := h.ex
 have hn : ¬ S' B := fun h => (hs B h).elim hB fun h => by have : w.heap.size ≤ B := h; omega
 refine ⟨⟨S', vo, he.frame (by simp) fun k hk => Below.heap_setCell w3 ⟨B, i, none⟩ _ k fun e => hn ((show k = B from e) ▸ hk), hs⟩, ?_, ?_⟩
 ·have h1 : Touch (fun k => S k ∨ k = G ∨ k = B) w.drew w3 := h.touch.mono fun k hk => hk.elim .inl fun h => .inr (.inl h)
  have h2 : Touch (fun k => S k ∨ k = G ∨ k = B) w w3 := ⟨h1.os, h1.tape, h1.output, h1.size, h1.block⟩
  exact h2.setCell (p := ⟨B, i, none⟩) (.inl (.inr (.inr rfl))) _
 ·exact (Below.heap_setCell w3 ⟨B, i, none⟩ _ G fun e => hBG e.symm).trans h.row.to
section
variable {S : Nat → Prop} {E : Nat} {e : Enc} {w w' : World} {vo : Value}
theorem BytO.frame3 {B G l : Nat} {w w' : World} (h : BytO B G l w) {S : Nat → Prop} (ht : Touch (fun k => S k ∨ k = G) w w') (hn : ¬ S B ∧ B ≠ G) : BytO B G l w' := (ht.block B (Array.getElem?_eq_some_iff.1 h.to).1 (fun h => h.elim hn.1 hn.2)).trans h.to
set_option maxRecDepth 100000 in
theorem bytE_walk {B G l : Nat} {L : List Int} (h : EnO S E e w vo) (ho : EOk e) (hb : BytO B G l w) (hl8 : l < 256) (hi : IRow w G L) (hL : L.length = 2048) (hG : ¬ S G) (hB : ¬ S B) (hBG : B ≠ G) (hl : e.out.length + 16 ≤ 800000) (c : Nat) (hc : c < 256) : Calls Tryz.prog 58 #[.pointer (some ⟨B, 0, none⟩), .pointer (some ⟨E, 0, none⟩), .int .u8 (c : Int)] w fun x w' => x = .returned (.tuple #[]) ∧ MoRes S E B G (byE L l c e) w w' ∧ BytO B G c w' := by
 have HBy : Hid (BytO B G l w.drew) := Lib.hid hb
 have HNo := Lib.hid (And.intro hB hBG)
 have HBl : Hid (B < w.heap.size) := Lib.hid (Array.getElem?_eq_some_iff.1 hb.to).1
 have c16 := hb.last
 obtain ⟨q, hq⟩ : ∃ q, l / 32 = q := ⟨_, rfl⟩
 have hqi : (l : Int) / 32 = (q : Int) := by omega
 have hq8 : q < 8 := by omega
 have HTr := Lib.hid (treeE_walk (w := w.drew) (h.frame (Nat.le_refl _) fun _ _ => rfl) ho (hb.tree (w := w.drew) hq8) rfl (by decide) hi (by rw [hL]; show q * 256 + 256 ≤ 2048; omega) hG hB hBG hl c (by omega))
 have hq8i : (q : Int) < 8 := by omega
 have hci : (c : Int) < 256 := by omega
 have HCw : Hid (IntKind.i64.wrap (c : Int) = (c : Int)) := Lib.hid (by rw [IntKind.wrap_i64]; omega)
 have HE := Lib.hid (show byE L l c e = trE 8 (q * 256) c 1 L e by unfold byE; rw [hq])
 clear h ho hb hi hG hB hl hq
 go_enter Tryz.func58, Tryz.ntmps58
 go_upto_region 0 with (fail)
 refine wp_region_noPanic ?_
 refine wp_region_D 12 (fun w' => w'.cell? ⟨B, 16, none⟩ = some (.int .u8 (l : Int))) (by kernel_rfl) c16 (fun hU => ?_)
 have hC : (fun w' : World => w'.cell? ⟨B, 16, none⟩ = some (.int .u8 (l : Int))) w.drew := c16
 clear hU
 refine tk 0 6 12 rfl rfl (.inr hC) ?_
 simp only [Act.put, zA, zB, zC]
 refine tk 1 7 11 rfl rfl (.inr hC) ?_
 simp only [Act.put, zA, zB, zC]
 refine tk 2 8 10 rfl rfl (.inr hC) ?_
 simp only [Act.put, zA, zB, zC]
 refine tk 3 9 9 rfl rfl (.inr hC) ?_
 simp only [Act.put, zA, zB, zC]
 refine tk 6 12 8 rfl rfl (.inr hC) ?_
 simp only [Act.put, zA, zB, zC]
 refine tk 7 13 7 rfl rfl (.inr hC) ?_
 simp only [Act.put, zA, zB, zC]
 refine tk 9 15 6 rfl rfl (.inr hC) ?_
 simp only [Act.put, zA, zB, zC]
 refine tk 10 16 5 rfl rfl (.inr hC) ?_
 simp only [Act.put, zA, zB, zC]
 refine tk 11 17 4 rfl rfl (.inr hC) ?_
 simp only [Act.put, zA, zB, zC]
 refine ry 3 [4] ?_
 refine rn rfl (fun K hK => ?_) ?_
 ·go_simp
  refine shut_C hK ?_ (fun hC => ?_)
  ·exact c16
  clear hK K
  try simp only [Act.put, zA, zB, zC]
  refine tk 5 11 2 rfl rfl (.inr hC) ?_
  simp only [Act.put, zA, zB, zC]
  refine tk 8 14 1 rfl rfl (.inr hC) ?_
  simp only [Act.put, zA, zB, zC]
  refine ry 0 [12] ?_
  refine rn rfl (fun K hK => ?_) ?_
  ·go_simp
   go_at_call 57
   rw [HCw.out]
   with_reducible refine (HTr.out).mono ?_
   rintro x w3 ⟨rfl, hr3⟩
   have HR3 := Lib.hid hr3
   have hb3 := HBy.out.frame3 hr3.touch HNo.out
   have b16 := hb3.last
   have f16 := hb3.fr 16
   have HB3 := Lib.hid hb3
   clear hr3 hb3
   go_wp2_with fail
   refine shut_K hK (by kernel_rfl) ?_
   clear hK K
   try simp only [Act.put, zA, zB, zC]
   refine wpAnyD_done (by kernel_rfl) ?_ _
   refine NoPanic.normal ?_
   go_wp2_with fail
   refine bodyPost_end (results_none rfl _ _ _) rfl ⟨rfl, ?_⟩
   rw [HE.out]
   exact ⟨HR3.out.mo HNo.out.1 HNo.out.2 HBl.out 16 _, HB3.out.set c⟩
  exact rz
 exact rz
end
structure MdRes (D B G : Nat) (r : List Int × Dec) (w w' : World) : Prop where
 de : DeO D r.2 w'
 touch : Touch (fun k => k = D ∨ k = G ∨ k = B) w w'
 row : IRow w' G r.1
theorem TdRes.mo {D B G : Nat} {r : List Int × Dec} {w w3 : World} (h : TdRes D G r w.drew w3) (hBD : B ≠ D) (hBG : B ≠ G) (i : Nat) (v : Value) : MdRes D B G r w (w3.setCell ⟨B, i, none⟩ v) := by
 refine ⟨h.de.frame (Below.heap_setCell w3 ⟨B, i, none⟩ _ D fun e => hBD e.symm), ?_, ?_⟩
 ·have h1 : Touch (fun k => k = D ∨ k = G ∨ k = B) w.drew w3 := h.touch.mono fun k hk => hk.elim .inl fun h => .inr (.inl h)
  have h2 : Touch (fun k => k = D ∨ k = G ∨ k = B) w w3 := ⟨h1.os, h1.tape, h1.output, h1.size, h1.block⟩
  exact h2.setCell (p := ⟨B, i, none⟩) (.inl (.inr (.inr rfl))) _
 ·exact (Below.heap_setCell w3 ⟨B, i, none⟩ _ G fun e => hBG e.symm).trans h.row.to
section
variable {D : Nat} {d : Dec} {w w' : World}
set_option maxRecDepth 100000 in
theorem bytD_walk {B G l : Nat} {L : List Int} (h : DeO D d w) (hs : 2 ^ 24 ≤ d.size) (hb : BytO B G l w) (hl8 : l < 256) (hi : IRow w G L) (hL : L.length = 2048) (hDG : D ≠ G) (hBD : B ≠ D) (hBG : B ≠ G) : Calls Tryz.prog 92 #[.pointer (some ⟨B, 0, none⟩), .pointer (some ⟨D, 0, none⟩)] w fun x w' => x = .returned (.int .u8 ((byD L l d).1 : Int)) ∧ MdRes D B G (byD L l d).2 w w' ∧ BytO B G (byD L l d).1 w' := by
 have HBy : Hid (BytO B G l w.drew) := Lib.hid hb
 have HNo := Lib.hid (And.intro hBD hBG)
 have HBl : Hid (B < w.heap.size) := Lib.hid (Array.getElem?_eq_some_iff.1 hb.to).1
 have c16 := hb.last
 obtain ⟨q, hq⟩ : ∃ q, l / 32 = q := ⟨_, rfl⟩
 have hqi : (l : Int) / 32 = (q : Int) := by omega
 have hq8 : q < 8 := by omega
 have HTr := Lib.hid (treeD_walk (w := w.drew) (h.frame rfl) hs (hb.tree (w := w.drew) hq8) rfl (by decide) hi (by rw [hL]; show q * 256 + 256 ≤ 2048; omega) hDG hBD hBG)
 have hq8i : (q : Int) < 8 := by omega
 obtain ⟨v, hv⟩ : ∃ v, (trD 8 (q * 256) 1 L d).1 - 2 ^ 8 = v := ⟨_, rfl⟩
 have HV := Lib.hid hv
 have hv8 : v < 256 := by
  obtain ⟨r, hr, h⟩ := trD_range 8 (q * 256) 1 L d
  rw [← hv, h]; omega
 have hvi : (v : Int) < 256 := by omega
 have HVw : Hid (IntKind.u8.wrap (v : Int) = (v : Int)) := Lib.hid (by rw [IntKind.wrap_u8]; omega)
 have HE := Lib.hid (show byD L l d = (v, (trD 8 (q * 256) 1 L d).2) by unfold byD; rw [hq, hv])
 clear h hs hb hi hq hv hv8
 go_enter Tryz.func92, Tryz.ntmps92
 go_upto_region 1 with (fail)
 refine wp_region_noPanic ?_
 refine wp_region_D 15 (fun w' => w'.cell? ⟨B, 16, none⟩ = some (.int .u8 (l : Int))) (by kernel_rfl) c16 (fun hU => ?_)
 have hC : (fun w' : World => w'.cell? ⟨B, 16, none⟩ = some (.int .u8 (l : Int))) w.drew := c16
 clear hU
 refine tk 0 5 15 rfl rfl (.inr hC) ?_
 simp only [Act.put, zA, zB, zC]
 refine tk 1 6 14 rfl rfl (.inr hC) ?_
 simp only [Act.put, zA, zB, zC]
 refine tk 2 7 13 rfl rfl (.inr hC) ?_
 simp only [Act.put, zA, zB, zC]
 refine tk 3 8 12 rfl rfl (.inr hC) ?_
 simp only [Act.put, zA, zB, zC]
 refine tk 4 9 11 rfl rfl (.inr hC) ?_
 simp only [Act.put, zA, zB, zC]
 refine tl 5 10 10 rfl rfl (.inr hC) ?_
 simp only [Act.put, zA, zB, zC]
 refine tk 6 11 9 rfl rfl (.inr hC) ?_
 simp only [Act.put, zA, zB, zC]
 refine tk 7 12 8 rfl rfl (.inr hC) ?_
 simp only [Act.put, zA, zB, zC]
 refine tk 8 13 7 rfl rfl (.inr hC) ?_
 simp only [Act.put, zA, zB, zC]
 refine tk 9 14 6 rfl rfl (.inr hC) ?_
 simp only [Act.put, zA, zB, zC]
 refine tk 10 15 5 rfl rfl (.inr hC) ?_
 simp only [Act.put, zA, zB, zC]
 refine ry 4 [11] ?_
 refine rn rfl (fun K hK => ?_) ?_
 ·go_simp
  go_at_call 91
  with_reducible refine (HTr.out).mono ?_
  rintro x w3 ⟨rfl, hr3⟩
  have HR3 := Lib.hid hr3
  have hb3 : BytO B G l w3 := (hr3.touch.block B HBl.out (by have := HNo.out; intro h; rcases h with h | h; exact this.1 h; exact this.2 h)).trans HBy.out
  have b16 := hb3.last
  have f16 := hb3.fr 16
  have HB3 := Lib.hid hb3
  rw [HV.out]
  clear hr3 hb3
  go_wp2_with fail
  refine shut_C hK ?_ (fun hC => ?_)
  ·first
   | exact c16
   | exact b16
  clear hK K
  try simp only [Act.put, zA, zB, zC]
  refine tk 12 17 3 rfl rfl (.inr hC) ?_
  simp only [Act.put, zA, zB, zC]
  refine tk 13 18 2 rfl rfl (.inr hC) ?_
  simp only [Act.put, zA, zB, zC]
  refine tk 14 19 1 rfl rfl (.inr hC) ?_
  simp only [Act.put, zA, zB, zC]
  refine ry 0 [15] ?_
  refine rn rfl (fun K hK => ?_) ?_
  ·go_simp
   refine shut_K hK (by kernel_rfl) ?_
   clear hK K
   try simp only [Act.put, zA, zB, zC]
   refine wpAnyD_done (by kernel_rfl) ?_ _
   refine NoPanic.normal ?_
   rw [HVw.out]
   go_wp2_with fail
   go_ret
   rw [HE.out]
   exact ⟨rfl, HR3.out.mo HNo.out.1 HNo.out.2 16 _, HB3.out.set v⟩
  exact rz
 exact rz
end
end Go.Proofs.YtlmjefjimoghcaaGreat
