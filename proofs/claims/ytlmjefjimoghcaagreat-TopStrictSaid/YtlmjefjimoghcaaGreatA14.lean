/- A part of the proofs of TopCounter and TopStrict: what the functions of the program do, each walked once, and plain laws about it. No condition. -/
import Derived.Laws.Cover3
import Derived.Test.YtlmjefjimoghcaaGreatA13
import Derived.Test.YtlmjefjimoghcaaGreatA06
namespace Go.Proofs.YtlmjefjimoghcaaGreat
set_option linter.unusedSimpArgs false
set_option linter.unnecessarySimpa false
set_option linter.unusedVariables false
open Go.RowKit
attribute [local go_sem ↓] Go.wp_at_zero Go.wp_at_succ
def NumO (B G : Nat) (w : World) : Prop := w.heap[B]? = some (.cells #[.int .i64 6, .slice (some ⟨G, 0, none⟩) 64 64] 145 (0, 0))
theorem NumO.to {B G : Nat} {w : World} (h : NumO B G w) : w.heap[B]? = some (.cells #[.int .i64 6, .slice (some ⟨G, 0, none⟩) 64 64] 145 (0, 0)) := h
theorem NumO.tree {B G : Nat} {w : World} (h : NumO B G w) : TrO B 0 6 64 G 0 w := ⟨by rw [cell_of_row w B _ _ _ _ h.to]; rfl, by rw [cell_of_row w B _ _ _ _ h.to]; rfl⟩
def nuE (L : List Int) (v : Nat) (e : Enc) : List Int × Enc :=
 let r := trE 6 0 (Lib.bitLen v) 1 L e
 (r.1, if 2 ≤ Lib.bitLen v then dirE r.2 (Lib.bitLen v - 1) v else r.2)
theorem TrRes.moN {S : Nat → Prop} {E B G : Nat} {r : List Int × Enc} {w w3 : World} (h : TrRes S E G r w w3) : MoRes S E B G r w w3 := ⟨h.ex, h.touch.mono fun k hk => hk.elim .inl fun h => .inr (.inl h), h.row⟩
theorem MoRes.grow {S S' S3 : Nat → Prop} {E B G : Nat} {r : List Int × Enc} {e3 : Enc} {w w3 w4 : World} {vo : Value} (h : MoRes S E B G r w w3) (hS : ∀ k, S' k → S k ∨ w.heap.size ≤ k) (hG : ¬ S' G) (hGl : G < w3.heap.size) (hg : Grow S' S3 w3 w4) (he : EnO S3 E e3 w4 vo) : MoRes S E B G (r.1, e3) w w4 := by
 have hs := h.touch.size
 refine ⟨⟨S3, vo, he, fun k hk => ?_⟩, h.touch.trans hg.touch fun i hi hs1 => ?_, (hg.touch.block G hGl hG).trans h.row.to⟩
 ·rcases hg.s k hk with h1 | h1
  ·exact hS k h1
  ·right; omega
 ·rcases hS i hs1 with h1 | h1
  ·exact .inl h1
  ·omega
section
variable {S : Nat → Prop} {E : Nat} {e : Enc} {w w' : World} {vo : Value}
set_option maxRecDepth 100000 in
theorem numE_walk {B G : Nat} {L : List Int} (h : EnO S E e w vo) (ho : EOk e) (hb : NumO B G w) (hi : IRow w G L) (hL : L.length = 64) (hG : ¬ S G) (hB : ¬ S B) (hBG : B ≠ G) (hl : e.out.length + 140 ≤ 800000) (v : Nat) (hv : v < 2 ^ 62) : Calls Tryz.prog 59 #[.pointer (some ⟨B, 0, none⟩), .pointer (some ⟨E, 0, none⟩), .int .i64 (v : Int)] w fun x w' => x = .returned (.tuple #[]) ∧ MoRes S E B G (nuE L v e) w w' ∧ NumO B G w' := by
 have HBO := Lib.hid hb
 have HNo := Lib.hid (And.intro hG (And.intro hB hBG))
 have HBl : Hid (B < w.heap.size) := Lib.hid (Array.getElem?_eq_some_iff.1 hb.to).1
 have HGl : Hid (G < w.heap.size) := Lib.hid (Array.getElem?_eq_some_iff.1 hi.to).1
 have HLen := Lib.hid (Tryz.bits_Len (v : Int) w (by omega) (by omega))
 obtain ⟨n, hn⟩ : ∃ n, Lib.bitLen v = n := ⟨_, rfl⟩
 have hn62 : n ≤ 62 := by rw [← hn]; exact Lib.bitLen_le v 62 (by decide) hv
 have hn62i : (n : Int) ≤ 62 := by omega
 have HN : Hid (Lib.bitLen ((v : Int)).toNat = n) := Lib.hid (by rw [Int.toNat_natCast]; exact hn)
 have HTr := Lib.hid (treeE_walk h ho hb.tree rfl (by decide) hi (by rw [hL]; decide) hG hB hBG (by omega) n (by omega))
 obtain ⟨r, hr⟩ : ∃ r, trE 6 0 n 1 L e = r := ⟨_, rfl⟩
 rw [hr] at HTr
 have hok := trE_ok 6 0 n 1 L e ho
 rw [hr] at hok
 have HOk := Lib.hid hok
 have HL := Lib.hid hl
 have HRes : Hid (nuE L v e = (r.1, if 2 ≤ n then dirE r.2 (n - 1) v else r.2)) := Lib.hid (by unfold nuE; simp only [hn, hr])
 have hvi : (v : Int) < 4611686018427387904 := by omega
 have hvw : IntKind.u64.wrap (v : Int) = (v : Int) := by rw [IntKind.wrap_u64]; omega
 have HVw := Lib.hid hvw
 have HN62 := Lib.hid hn62
 have hv0 : ¬ (v : Int) < 0 := by omega
 have hvm : ¬ (4611686018427387903 : Int) < (v : Int) := by omega
 clear h ho hb hi hL hG hB hBG hl hv hn hr hok hvw hn62 hvi
 go_enter Tryz.func59, Tryz.ntmps59
 go_upto_region 2 with (fail)
 have hvi : (v : Int) < 4611686018427387904 := by omega
 clear hv0 hvm
 go_wp2_with fail
 try rw [HVw.out]
 refine (HLen.out).mono ?_
 rintro x w2 ⟨rfl, rfl⟩
 rw [HN.out]
 go_wp2_with fail
 refine (HTr.out).mono ?_
 rintro x w3 ⟨rfl, hr3⟩
 obtain ⟨S1, vo1, hE1, hS1⟩ := hr3.ex
 have hB3 : NumO B G w3 := (hr3.touch.block B HBl.out (by have := HNo.out; intro h; rcases h with h | h; exact this.2.1 h; exact this.2.2 h)).trans HBO.out.to
 have HR3 := Lib.hid hr3
 have HB3 := Lib.hid hB3
 by_cases h2 : 2 ≤ n
 ·have h2i : (2 : Int) ≤ n := by omega
  have hn1 : (n : Int) - 1 = ((n - 1 : Nat) : Int) := by omega
  have HN1 := Lib.hid hn1
  have HD := Lib.hid (dir_walk hE1 HOk.out.1 (n - 1) (by have := HN62.out; omega) (by have := HOk.out.2; have := HL.out; have := HN62.out; omega) v)
  have HRes2 : Hid (nuE L v e = (r.1, dirE r.2 (n - 1) v)) := Lib.hid (by rw [HRes.out, if_pos h2])
  have HS1 := Lib.hid hS1
  clear hr3 hE1 hS1 hB3 hn1 h2
  go_wp2_with fail
  rw [HN1.out]
  refine (HD.out).mono ?_
  rintro x w4 ⟨S3, vo3, rfl, hg4, hE4⟩
  have HG4 := Lib.hid hg4
  have HE4 := Lib.hid hE4
  clear hg4 hE4
  go_wp2_with fail
  refine bodyPost_end (results_none rfl _ _ _) rfl ⟨rfl, ?_⟩
  rw [HRes2.out]
  have hsz := HR3.out.touch.size
  refine ⟨(HR3.out.moN (B := B)).grow HS1.out (fun h => (HS1.out G h).elim HNo.out.1 fun h => by have := HGl.out; omega) (by have := HGl.out; omega) HG4.out HE4.out, ?_⟩
  exact (HG4.out.touch.block B (by have := HBl.out; omega) fun h => (HS1.out B h).elim HNo.out.2.1 fun h => by have := HBl.out; omega).trans HB3.out.to
 ·have h2i : ¬ (2 : Int) ≤ n := by omega
  have HRes2 : Hid (nuE L v e = (r.1, r.2)) := Lib.hid (by rw [HRes.out, if_neg h2])
  clear hr3 hE1 hS1 hB3 h2 hvi hn62i
  go_wp2_with fail
  refine bodyPost_end (results_none rfl _ _ _) rfl ⟨rfl, ?_⟩
  rw [HRes2.out]
  exact ⟨HR3.out.moN, HB3.out⟩
end
theorem dirD_range : ∀ (k : Nat) (d : Dec) (v : Nat), ∃ r, r < 2 ^ k ∧ (dirD d v k).1 = v * 2 ^ k + r
 | 0, _, v => ⟨0, by decide, by show v = v * 2 ^ 0 + 0; omega⟩
 | k + 1, d, v => by
  obtain ⟨r, hr, h⟩ := dirD_range k (bitD d 1024) (2 * v + if bitOf d 1024 then 1 else 0)
  refine ⟨(if bitOf d 1024 then 1 else 0) * 2 ^ k + r, ?_, ?_⟩
  ·rw [Nat.pow_succ]; split <;> omega
  ·show (dirD (bitD d 1024) _ k).1 = _
   rw [h, Nat.add_mul, Nat.pow_succ, Nat.mul_comm 2 v, Nat.mul_assoc, Nat.mul_comm 2 (2 ^ k), Nat.add_assoc]
def nuD (L : List Int) (d : Dec) : Int × List Int × Dec :=
 let r := trD 6 0 1 L d
 let n : Nat := r.1 - 2 ^ 6
 if n ≤ 1 then ((n : Int), r.2) else if n = 63 then (-1, r.2) else (((2 ^ (n - 1) + (dirD r.2.2 0 (n - 1)).1 : Nat) : Int), r.2.1, (dirD r.2.2 0 (n - 1)).2)
theorem TdRes.moN {D B G : Nat} {r : List Int × Dec} {w w3 : World} (h : TdRes D G r w w3) : MdRes D B G r w w3 := ⟨h.de, h.touch.mono fun k hk => hk.elim .inl fun h => .inr (.inl h), h.row⟩
theorem TdRes.moD {D B G : Nat} {r : List Int × Dec} {d4 : Dec} {w w3 w4 : World} (h : TdRes D G r w w3) (hG : D ≠ G) (ht : Touch (fun k => k = D) w3 w4) (hd : DeO D d4 w4) : MdRes D B G (r.1, d4) w w4 :=
 ⟨hd, h.moN.touch.trans ht fun _ _ h => .inl h, (ht.block G (Array.getElem?_eq_some_iff.1 h.row.to).1 fun e => hG e.symm).trans h.row.to⟩
theorem or_pow (k q : Nat) (hk : k < 62) (hq : q < 2 ^ k) : bits .or .i64 (IntKind.i64.wrap ((2 : Int) ^ k)) (q : Int) = ((2 ^ k + q : Nat) : Int) := by
 have h1 : (2 : Int) ^ k = ((2 ^ k : Nat) : Int) := by simp
 have h2 : 2 ^ k ≤ 2 ^ 61 := Nat.pow_le_pow_right (by decide) (by omega)
 have h3 : IntKind.i64.wrap ((2 : Int) ^ k) = ((2 ^ k : Nat) : Int) := by
  rw [h1, IntKind.wrap_i64]
  generalize 2 ^ k = t at h2
  omega
 rw [h3, (bits_nat .i64 63 (by decide) (fun n h0 h1 => by rw [IntKind.wrap_i64]; omega) (2 ^ k) q (by omega) (by omega)).2]
 have := Nat.two_pow_add_eq_or_of_lt hq 1
 rw [Nat.mul_one] at this
 rw [this]
section
variable {D : Nat} {d : Dec} {w w' : World}
set_option maxRecDepth 100000 in
theorem numD_walk {B G : Nat} {L : List Int} (h : DeO D d w) (hs : 2 ^ 24 ≤ d.size) (hb : NumO B G w) (hi : IRow w G L) (hL : L.length = 64) (hDG : D ≠ G) (hBD : B ≠ D) (hBG : B ≠ G) : Calls Tryz.prog 93 #[.pointer (some ⟨B, 0, none⟩), .pointer (some ⟨D, 0, none⟩)] w fun x w' => x = .returned (.int .i64 (nuD L d).1) ∧ MdRes D B G (nuD L d).2 w w' ∧ NumO B G w' := by
 have HBO := Lib.hid hb
 have HNo := Lib.hid (And.intro hDG (And.intro hBD hBG))
 have HBl : Hid (B < w.heap.size) := Lib.hid (Array.getElem?_eq_some_iff.1 hb.to).1
 have HTr := Lib.hid (treeD_walk h hs hb.tree rfl (by decide) hi (by rw [hL]; decide) hDG hBD hBG)
 have HSz := Lib.hid (trD_size 6 0 1 L d hs h.sl)
 obtain ⟨rg, hrg, hr1⟩ := trD_range 6 0 1 L d
 obtain ⟨n, hn⟩ : ∃ n, (trD 6 0 1 L d).1 - 2 ^ 6 = n := ⟨_, rfl⟩
 have hn64 : n < 64 := by rw [← hn, hr1]; omega
 obtain ⟨r, hr⟩ : ∃ r, (trD 6 0 1 L d).2 = r := ⟨_, rfl⟩
 rw [hn, hr] at HTr
 rw [hr] at HSz
 have HRes : Hid (nuD L d = if n ≤ 1 then ((n : Int), r) else if n = 63 then (-1, r) else (((2 ^ (n - 1) + (dirD r.2 0 (n - 1)).1 : Nat) : Int), r.1, (dirD r.2 0 (n - 1)).2)) := Lib.hid (by unfold nuD; simp only [hn, hr])
 have hni : (n : Int) < 64 := by omega
 clear h hs hb hi hL hDG hBD hBG hrg hr1 hn hr
 go_enter Tryz.func93, Tryz.ntmps93
 go_wp2_with fail
 refine (HTr.out).mono ?_
 rintro x w3 ⟨rfl, hr3⟩
 have hB3 : NumO B G w3 := (hr3.touch.block B HBl.out (by have := HNo.out; intro h; rcases h with h | h; exact this.2.1 h; exact this.2.2 h)).trans HBO.out.to
 have HR3 := Lib.hid hr3
 have HB3 := Lib.hid hB3
 clear hB3
 by_cases h0 : n = 0
 ·subst h0
  clear hr3
  go_wp2_with fail
  go_ret
  rw [HRes.out]
  exact ⟨rfl, HR3.out.moN, HB3.out⟩
 ·by_cases h1 : n = 1
  ·subst h1
   clear hr3
   go_wp2_with fail
   go_ret
   rw [HRes.out]
   exact ⟨rfl, HR3.out.moN, HB3.out⟩
  ·by_cases h63 : n = 63
   ·subst h63
    clear hr3
    go_wp2_with fail
    go_ret
    rw [HRes.out]
    exact ⟨rfl, HR3.out.moN, HB3.out⟩
   ·have i0 : ((n : Int) == 0) = false := beq_eq_false_iff_ne.2 (by omega)
    have i1 : ((n : Int) == 1) = false := beq_eq_false_iff_ne.2 (by omega)
    have i63 : ((n : Int) == 63) = false := beq_eq_false_iff_ne.2 (by omega)
    have hn2 : (2 : Int) ≤ n := by omega
    obtain ⟨k, hk⟩ : ∃ k, n - 1 = k := ⟨_, rfl⟩
    have hw : IntKind.i64.wrap ((n : Int) - 1) = (k : Int) := by rw [IntKind.wrap_i64]; omega
    have hk62 : (k : Int) < 62 := by omega
    have hk0 : 0 ≤ (k : Int) := by omega
    have HDr := Lib.hid (ddir_walk (w := w3.drew) (hr3.de.frame rfl) HSz.out.1 k (by omega))
    have HRes2 : Hid (nuD L d = (((2 ^ (n - 1) + (dirD r.2 0 (n - 1)).1 : Nat) : Int), r.1, (dirD r.2 0 (n - 1)).2)) := Lib.hid (by rw [HRes.out, if_neg (by omega), if_neg h63])
    rw [hk] at HRes2
    have HOr : Hid (bits .or .i64 (IntKind.i64.wrap ((2 : Int) ^ k)) (((dirD r.2 0 k).1 : Nat) : Int) = ((2 ^ k + (dirD r.2 0 k).1 : Nat) : Int)) := Lib.hid (or_pow k _ (by omega) (by
     obtain ⟨q, hq, h⟩ := dirD_range k r.2 0
     rw [h]; omega))
    have HNn : Hid (2 ≤ n ∧ n ≤ 62) := Lib.hid (by omega)
    clear hr3 h0 h1 h63 hn64 hk
    go_upto_region 3 with (fail)
    refine wp_region_noPanic ?_
    refine wp_region_D 6 (fun w' => True) (by kernel_rfl) trivial (fun hU => ?_)
    have hC : (fun w' : World => True) w3.drew := trivial
    clear hU
    refine tk 0 12 8 rfl rfl (.inr hC) ?_
    simp only [Act.put, zA, zB, zC]
    refine tk 1 13 7 rfl rfl (.inr hC) ?_
    simp only [Act.put, zA, zB, zC]
    refine tk 2 14 6 rfl rfl (.inr hC) ?_
    simp only [Act.put, zA, zB, zC]
    refine tk 3 15 5 rfl rfl (.inr hC) ?_
    simp only [Act.put, zA, zB, zC]
    refine tk 4 16 4 rfl rfl (.inr hC) ?_
    simp only [Act.put, zA, zB, zC]
    refine tk 5 17 3 rfl rfl (.inr hC) ?_
    simp only [Act.put, zA, zB, zC]
    refine ry 2 [6] ?_
    refine rn rfl (fun K hK => ?_) ?_
    ·go_simp
     go_at_call 128
     with_reducible refine (HDr.out).mono ?_
     rintro x w4 ⟨rfl, ht4, hd4, _⟩
     have HT4 := Lib.hid ht4
     have HD4 := Lib.hid hd4
     clear ht4 hd4
     go_wp2_with fail
     refine shut_K hK (by kernel_rfl) ?_
     clear hK K
     try simp only [Act.put, zA, zB, zC]
     refine tk 7 19 1 rfl rfl (.inl (by kernel_rfl)) ?_
     simp only [Act.put, zA, zB, zC]
     refine tk 8 4 0 rfl rfl (.inl (by kernel_rfl)) ?_
     simp only [Act.put, zA, zB, zC]
     refine wpAnyD_done (by kernel_rfl) ?_ _
     refine NoPanic.normal ?_
     rw [HOr.out]
     go_wp2_with fail
     go_ret
     rw [HRes2.out]
     exact ⟨rfl, HR3.out.moD HNo.out.1 ⟨HT4.out.os, HT4.out.tape, HT4.out.output, HT4.out.size, HT4.out.block⟩ HD4.out, (HT4.out.block B (Array.getElem?_eq_some_iff.1 HB3.out.to).1 HNo.out.2.1).trans HB3.out.to⟩
    exact rz
end
def half (n : Nat) : List Int := List.replicate n 1024
def tcell (G b n i : Nat) : List Value := [.int .i64 (b : Int), .slice (some ⟨G, i * n, none⟩) n n]
def tcells (G b n k : Nat) : List Value := (List.range k).flatMap (tcell G b n)
def zcells (k : Nat) : List Value := (List.replicate k [Value.int .i64 0, .slice none 0 0]).flatten
theorem tcells_succ (G b n k : Nat) : tcells G b n (k + 1) = tcells G b n k ++ tcell G b n k := by simp [tcells, List.range_succ]
theorem tcells_length (G b n k : Nat) : (tcells G b n k).length = k * 2 := by
 induction k with
 | zero => rfl
 | succ k ih => rw [tcells_succ, List.length_append, ih]; simp [tcell]; omega
theorem zcells_succ (k : Nat) : zcells (k + 1) = .int .i64 0 :: .slice none 0 0 :: zcells k := by simp [zcells, List.replicate_succ]
def TRow (w : World) (T : Nat) (cs : List Value) : Prop := w.heap[T]? = some (.cells cs.toArray 135 (0, 0))
theorem TRow.to {w : World} {T : Nat} {cs : List Value} (h : TRow w T cs) : w.heap[T]? = some (.cells cs.toArray 135 (0, 0)) := h
theorem wrap_nat (x : Nat) (h : x ≤ 2048) : wrap64 (x : Int) = (x : Int) := wrap_small (by omega) (by omega)
set_option maxRecDepth 100000 in
theorem plant_walk (w : World) (c b n : Nat) (hn : n = 2 ^ b) (hc : 1 ≤ c) (hc8 : c ≤ 8) (hb : b ≤ 8) : Calls Tryz.prog 88 #[.int .i64 (c : Int), .int .i64 (b : Int)] w fun x w' => ∃ G T, x = .returned (.slice (some ⟨T, 0, none⟩) c c) ∧ w.heap.size ≤ G ∧ w.heap.size ≤ T ∧ G ≠ T ∧ Below w.heap.size w w' ∧ IRow w' G (half (c * n)) ∧ TRow w' T (tcells G b n c) := by
 have hn256 : n ≤ 256 := by rw [hn]; exact Nat.le_trans (Nat.pow_le_pow_right (by decide) hb) (by decide)
 have hcn : c * n ≤ 2048 := Nat.le_trans (Nat.mul_le_mul hc8 hn256) (by decide)
 obtain ⟨N, hN⟩ : ∃ N, c * n = N := ⟨_, rfl⟩
 have HN := Lib.hid hN
 have HNn := Lib.hid hn
 rw [hN] at hcn
 have hsh : (c : Int) * 2 ^ b = (N : Int) := by rw [← hN, hn]; simp
 have hb8 : (b : Int) ≤ 8 := by omega
 have hci : (c : Int) ≤ 8 := by omega
 have hci1 : (1 : Int) ≤ c := by omega
 have hNi : (N : Int) ≤ 2048 := by omega
 have hws : wrap64 ((c : Int) * 2 ^ b) = (N : Int) := by rw [hsh]; exact wrap_small (by omega) (by omega)
 obtain ⟨cur, hcur⟩ : ∃ cur, madeCells (Value.int .i64 0).cells (N * 1) = cur := ⟨_, rfl⟩
 have hmk := run_makeSlice (P := Tryz.prog) w 27 3 _ (.int .i64 0) Tryz.underlying27 rfl rfl .i64 .i64 (N : Int) (N : Int) (by omega) (Int.le_refl _) (by show (N : Int).toNat * 1 ≤ _; omega) (by show (8 : Int) * N ≤ _; omega) (by omega)
 rw [Int.toNat_natCast] at hmk
 have hmk' : (Instr.makeSlice 27 (.int .i64 (N : Int)) (.int .i64 (N : Int))).run Tryz.prog w = .ok (.slice (some ⟨w.heap.size, 0, none⟩) N N) (w.alloc (.cells cur 3)) := by rw [← hcur]; exact hmk
 clear hmk
 have hI : IRow (w.alloc (.cells cur 3)) w.heap.size (List.replicate N 0) := by
  have hc1 : cur.toList = ic (List.replicate N 0) := by
   rw [← hcur, Nat.mul_one]
   show (madeCells #[Value.int .i64 0] N).toList = _
   rw [toList_madeCells_one]; simp [ic]
  have := heap_alloc_new w (.cells cur 3)
  rw [show cur = (ic (List.replicate N 0)).toArray by rw [← hc1]] at this ⊢
  exact this
 have HI := Lib.hid hI
 clear hI hcur hsh hcn hn256 hn hc hc8 hb hN
 go_enter Tryz.func88, Tryz.ntmps88
 go_wp2_with fail
 obtain ⟨W1, hW1⟩ : ∃ W, w.alloc (.cells cur 3) = W := ⟨_, rfl⟩
 obtain ⟨G, hG⟩ : ∃ G, w.heap.size = G := ⟨_, rfl⟩
 have HG := Lib.hid hG
 have HB1 : Hid (Below w.heap.size w W1) := Lib.hid (by rw [← hW1]; exact (Below.refl _ _).alloc (Nat.le_refl _) _)
 have HI1 : Hid (IRow W1 G (List.replicate N 0)) := Lib.hid (by rw [← hW1, ← hG]; exact HI.out)
 have HS1 : Hid (W1.heap.size = G + 1) := Lib.hid (by rw [← hW1, ← hG]; simp)
 rw [hW1, hG]
 clear HI hmk' hW1 hG
 go_loopw [17] (fun i wr => ∃ k : Nat, i = .int .i64 (k : Int) ∧ k ≤ N ∧ Below w.heap.size w wr ∧ wr.heap.size = G + 1 ∧ IRow wr G (half k ++ List.replicate (N - k) 0)) (fun i _ => ((N : Int) - intOf i).toNat)
 case atStart => exact ⟨0, rfl, Nat.zero_le _, HB1.out, HS1.out, by simpa [half] using HI1.out⟩
 case round =>
  obtain ⟨k, rfl, hk, hb, hsz, hi⟩ := hrel
  have HB := Lib.hid hb
  have HI := Lib.hid hi
  have HSz := Lib.hid hsz
  clear hb hi hsz
  by_cases hlt : k < N
  ·have hkl : (k : Int) < N := by omega
   have hlk : (half k).length = k := by simp [half]
   have g0 : wr.cell? ⟨G, k, none⟩ = some (.int .i64 0) := by
    rw [HI.out.cell (i := k) (by rw [List.length_append, hlk, List.length_replicate]; omega)]
    have e1 : (half k ++ List.replicate (N - k) 0)[k]? = some 0 := by
     rw [List.getElem?_append_right (Nat.le_of_eq hlk), hlk, Nat.sub_self]
     exact List.getElem?_replicate_of_lt (by omega)
    rw [List.getD_eq_getElem?_getD, e1]; rfl
   have gf := HI.out.fr k
   have hi5 := HI.out.set k 1024
   have hls : (half k ++ List.replicate (N - k) 0).set k 1024 = half (k + 1) ++ List.replicate (N - (k + 1)) 0 := by
    rw [List.set_append_right _ _ (Nat.le_of_eq hlk), hlk, Nat.sub_self, show N - k = (N - (k + 1)) + 1 by omega, List.replicate_succ, List.set_cons_zero]
    simp [half, List.replicate_succ']
   rw [hls] at hi5
   have HI5 := Lib.hid hi5
   have HB5 : Hid (Below w.heap.size w (wr.setCell ⟨G, k, none⟩ (.int .i64 1024))) := Lib.hid (HB.out.setCell (p := ⟨G, k, none⟩) (by show _ ≤ G; rw [← HG.out]; exact Nat.le_refl _) _)
   have HSz5 : Hid ((wr.setCell ⟨G, k, none⟩ (.int .i64 1024)).heap.size = G + 1) := Lib.hid (by rw [← HSz.out]; simp)
   clear hi5 hls hlk
   go_wp2_with fail
   go_roundw
   case rel => exact ⟨k + 1, by go_num, by omega, HB5.out, HSz5.out, HI5.out⟩
   case measure => simp [intOf]; omega
  ·obtain rfl : k = N := by omega
   have hmk := run_makeSlice (P := Tryz.prog) wr 137 135 _ (.agg #[.int .i64 0, .slice none 0 0]) Tryz.underlying137 rfl rfl .i64 .i64 (c : Int) (c : Int) (by omega) (Int.le_refl _) (by show (c : Int).toNat * 2 ≤ _; omega) (by show (32 : Int) * c ≤ _; omega) (by omega)
   rw [Int.toNat_natCast] at hmk
   obtain ⟨cu, hcu⟩ : ∃ cu, madeCells (Value.agg #[.int .i64 0, .slice none 0 0]).cells (c * 2) = cu := ⟨_, rfl⟩
   have hmk' : (Instr.makeSlice 137 (.int .i64 (c : Int)) (.int .i64 (c : Int))).run Tryz.prog wr = .ok (.slice (some ⟨wr.heap.size, 0, none⟩) c c) (wr.alloc (.cells cu 135)) := by rw [← hcu]; exact hmk
   clear hmk
   have hcz : cu.toList = zcells c := by
    rw [← hcu]
    rcases (by omega : c = 1 ∨ c = 2 ∨ c = 3 ∨ c = 4 ∨ c = 5 ∨ c = 6 ∨ c = 7 ∨ c = 8) with rfl | rfl | rfl | rfl | rfl | rfl | rfl | rfl <;> simp [madeCells, zcells, Value.cells, List.range_succ]
   have hT : TRow (wr.alloc (.cells cu 135)) wr.heap.size (zcells c) := by
    have := heap_alloc_new wr (.cells cu 135)
    rw [show cu = (zcells c).toArray by rw [← hcz]] at this ⊢
    exact this
   have HT := Lib.hid hT
   clear hT hcz hcu
   go_wp2_with fail
   obtain ⟨W2, hW2⟩ : ∃ W, wr.alloc (.cells cu 135) = W := ⟨_, rfl⟩
   have HB2 : Hid (Below w.heap.size w W2) := Lib.hid (by rw [← hW2]; exact HB.out.alloc HB.out.size _)
   have HT2 : Hid (TRow W2 (G + 1) (zcells c)) := Lib.hid (by rw [← hW2, ← HSz.out]; exact HT.out)
   have HI2 : Hid (IRow W2 G (half k)) := Lib.hid (by
    have h1 := HI.out
    rw [Nat.sub_self, List.replicate_zero, List.append_nil] at h1
    rw [← hW2]
    exact (Below.heap_alloc wr _ G (by rw [HSz.out]; omega)).trans h1.to)
   have hsz := HSz.out
   rw [hW2, hsz]
   clear hW2 hsz hmk' HT HI HB
   go_loopw [28] (fun i wr => ∃ j : Nat, i = .int .i64 (j : Int) ∧ j ≤ c ∧ Below w.heap.size w wr ∧ IRow wr G (half k) ∧ TRow wr (G + 1) (tcells G b n j ++ zcells (c - j))) (fun i _ => ((c : Int) - intOf i).toNat)
   case atStart => exact ⟨0, rfl, Nat.zero_le _, HB2.out, HI2.out, HT2.out⟩
   case round =>
    obtain ⟨j, rfl, hj, hb, hi, ht⟩ := hrel
    have HB := Lib.hid hb
    have HI := Lib.hid hi
    have HT := Lib.hid ht
    clear hb hi ht
    by_cases hlt : j < c
    ·have hji : (j : Int) < c := by omega
     obtain ⟨p, hp⟩ : ∃ p, j * n = p := ⟨_, rfl⟩
     have hq : (j + 1) * n = p + n := by rw [Nat.succ_mul, hp]
     have hpn : p + n ≤ k := by rw [← hq, ← HN.out]; exact Nat.mul_le_mul_right _ (by omega)
     have hs1 : (j : Int) * 2 ^ b = (p : Int) := by rw [← hp, HNn.out]; simp
     have hs2 : ((j : Int) + 1) * 2 ^ b = ((p + n : Nat) : Int) := by rw [← hq, HNn.out]; simp
     have hk8 : k ≤ 2048 := Int.ofNat_le.1 hNi
     have hpn2 : p + n ≤ 2048 := Nat.le_trans hpn hk8
     have hw1 : wrap64 ((j : Int) * 2 ^ b) = (p : Int) := by rw [hs1]; exact wrap_nat p (Nat.le_trans (Nat.le_add_right _ _) hpn2)
     have hw2 : wrap64 (((j : Int) + 1) * 2 ^ b) = (p : Int) + n := by rw [hs2, wrap_nat _ hpn2]; simp
     have hpi : (p : Int) + n ≤ k := by exact_mod_cast hpn
     have HP := Lib.hid hp
     have HW := Lib.hid (And.intro hw1 hw2)
     clear hp hq hs1 hs2 hk8 hpn2 hpn hw1 hw2
     have hw1 : wrap64 ((j : Int) * 2 ^ b) = (p : Int) := HW.out.1
     have hw2 : wrap64 (((j : Int) + 1) * 2 ^ b) = (p : Int) + n := HW.out.2
     go_upto_region 11 with (fail)
     go_quiet (fail)
     rw [hw1, hw2]
     have hn1 : 1 ≤ n := by rw [HNn.out]; exact Nat.two_pow_pos b
     have hlz : (tcells G b n j).length = j * 2 := tcells_length G b n j
     have hzc : zcells (c - j) = .int .i64 0 :: .slice none 0 0 :: zcells (c - (j + 1)) := by rw [show c - j = (c - (j + 1)) + 1 by omega, zcells_succ]
     have ht : TRow (wr.drewN nq) (G + 1) (tcells G b n j ++ (.int .i64 0 :: .slice none 0 0 :: zcells (c - (j + 1)))) := by rw [← hzc]; exact HT.out
     have g0 : (wr.drewN nq).cell? ⟨G + 1, j * 2, none⟩ = some (.int .i64 0) := by
      rw [cell_of_row _ (G + 1) (j * 2) _ _ _ ht.to, List.getElem?_toArray, List.getElem?_append_right (by omega), hlz, Nat.sub_self]; rfl
     have g1 : (wr.drewN nq).cell? ⟨G + 1, j * 2 + 1, none⟩ = some (.slice none 0 0) := by
      rw [cell_of_row _ (G + 1) (j * 2 + 1) _ _ _ ht.to, List.getElem?_toArray, List.getElem?_append_right (by omega), hlz, show j * 2 + 1 - j * 2 = 1 by omega]; rfl
     have gf : ∀ i, (wr.drewN nq).frozen? ⟨G + 1, i, none⟩ = false := fun i => by
      have h' : wr.heap[G + 1]? = _ := ht.to
      simp [World.frozen?, h']
     have h2 : TRow (((wr.drewN nq).setCell ⟨G + 1, j * 2, none⟩ (.int .i64 (b : Int))).setCell ⟨G + 1, j * 2 + 1, none⟩ (.slice (some ⟨G, p, none⟩) n n)) (G + 1) (tcells G b n (j + 1) ++ zcells (c - (j + 1))) := by
      have h1 := heap_setCell_any _ (G + 1) (j * 2) _ _ _ (.int .i64 (b : Int)) ht.to
      have h3 := heap_setCell_any _ (G + 1) (j * 2 + 1) _ _ _ (.slice (some ⟨G, p, none⟩) n n) h1
      show _ = _
      rw [h3, tcells_succ]
      simp only [List.setIfInBounds_toArray]
      rw [List.set_append_right _ _ (by omega), hlz, Nat.sub_self, List.set_cons_zero, List.set_append_right _ _ (by omega), hlz, show j * 2 + 1 - j * 2 = 1 by omega, List.set_cons_succ, List.set_cons_zero]
      unfold tcell
      rw [HP.out, List.append_assoc]; rfl
     have HT2 := Lib.hid h2
     clear hlz hzc ht h2 hw1 hw2
     go_wp2_with fail
     go_roundw
     case rel => exact ⟨j + 1, by go_num, by omega, ((below_drewN HB.out _).setCell (p := ⟨G + 1, j * 2, none⟩) (by show _ ≤ G + 1; rw [HG.out]; omega) _).setCell (p := ⟨G + 1, j * 2 + 1, none⟩) (by show _ ≤ G + 1; rw [HG.out]; omega) _, (Below.heap_setCell _ ⟨G + 1, j * 2 + 1, none⟩ _ G (by show G ≠ G + 1; omega)).trans ((Below.heap_setCell _ ⟨G + 1, j * 2, none⟩ _ G (by show G ≠ G + 1; omega)).trans HI.out.to), HT2.out⟩
     case measure => simp [intOf]; omega
    ·obtain rfl : j = c := by omega
     have HT3 : Hid (TRow wr (G + 1) (tcells G b n j)) := Lib.hid (by have := HT.out; rw [Nat.sub_self] at this; simpa [zcells] using this)
     go_wp2_with fail
     go_ret
     exact ⟨G, G + 1, rfl, by rw [HG.out]; exact Nat.le_refl _, by rw [HG.out]; omega, by omega, HB.out, by rw [HN.out]; exact HI.out, HT3.out⟩
theorem trow_cell {w : World} {T : Nat} {cs : List Value} (h : TRow w T cs) (i : Nat) (v : Value) (hv : cs[i]? = some v) : w.cell? ⟨T, i, none⟩ = some v := by
 rw [cell_of_row w T i _ _ _ h.to, List.getElem?_toArray]; exact hv
theorem newTree_walk (w : World) : Calls Tryz.prog 98 #[.int .i64 1] w fun x w' => ∃ G T, x = .returned (.tuple #[.pointer (some ⟨T, 0, none⟩), .int .i64 0]) ∧ w.heap.size ≤ G ∧ w.heap.size ≤ T ∧ G ≠ T ∧ Below w.heap.size w w' ∧ IRow w' G (half 2) ∧ TRow w' T (tcells G 1 2 1) := by
 have HP := Lib.hid fun w => plant_walk w 1 1 2 rfl (by decide) (by decide) (by decide)
 go_enter Tryz.func98, Tryz.ntmps98
 go_wp2_with fail
 refine (HP.out _).mono ?_
 rintro x w1 ⟨G, T, rfl, hG, hT, hGT, hb, hi, ht⟩
 have H := Lib.hid (And.intro hG (And.intro hT (And.intro hGT (And.intro hb (And.intro hi ht)))))
 clear hG hT hGT hb hi ht
 go_wp2_with fail
 refine bodyPost_ret (results_tmp2 rfl _ _ _) rfl ?_
 exact ⟨G, T, rfl, H.out⟩
theorem newNumbers_walk (w : World) : Calls Tryz.prog 44 #[] w fun x w' => ∃ G B, x = .returned (.pointer (some ⟨B, 0, none⟩)) ∧ w.heap.size ≤ G ∧ w.heap.size ≤ B ∧ B ≠ G ∧ Below w.heap.size w w' ∧ IRow w' G (half 64) ∧ NumO B G w' := by
 have HP := Lib.hid fun w => plant_walk w 1 6 64 rfl (by decide) (by decide) (by decide)
 go_enter Tryz.func44, Tryz.ntmps44
 go_wp2_with fail
 refine (HP.out _).mono ?_
 rintro x w1 ⟨G, T, rfl, hG, hT, hGT, hb, hi, ht⟩
 have c0 := trow_cell ht 0 (.int .i64 6) rfl
 have c1 := trow_cell ht 1 (.slice (some ⟨G, 0, none⟩) 64 64) rfl
 have H := Lib.hid (And.intro hG (And.intro hb hi))
 clear hG hT hGT hb hi ht
 go_wp2_with fail
 go_ret
 obtain ⟨h1, h2, h3⟩ := H.out
 have hGl := (Array.getElem?_eq_some_iff.1 h3.to).1
 exact ⟨G, w1.heap.size, rfl, h1, h2.size, by omega, h2.alloc h2.size _, (Below.heap_alloc w1 _ G hGl).trans h3.to, heap_alloc_new _ _⟩
set_option maxRecDepth 100000 in
theorem newBytes_walk (w : World) : Calls Tryz.prog 41 #[] w fun x w' => ∃ G B, x = .returned (.pointer (some ⟨B, 0, none⟩)) ∧ w.heap.size ≤ G ∧ w.heap.size ≤ B ∧ B ≠ G ∧ Below w.heap.size w w' ∧ IRow w' G (half 2048) ∧ BytO B G 0 w' := by
 have HP := Lib.hid fun w => plant_walk w 8 8 256 rfl (by decide) (by decide) (by decide)
 go_enter Tryz.func41, Tryz.ntmps41
 go_wp2_with fail
 refine (HP.out _).mono ?_
 rintro x w1 ⟨G, T, rfl, hG, hT, hGT, hb, hi, ht⟩
 have cc : ∀ q, q < 8 → w1.cell? ⟨T, q * 2, none⟩ = some (.int .i64 8) ∧ w1.cell? ⟨T, q * 2 + 1, none⟩ = some (.slice (some ⟨G, q * 256, none⟩) 256 256) := fun q hq => by
  rcases (by omega : q = 0 ∨ q = 1 ∨ q = 2 ∨ q = 3 ∨ q = 4 ∨ q = 5 ∨ q = 6 ∨ q = 7) with rfl | rfl | rfl | rfl | rfl | rfl | rfl | rfl <;> exact ⟨trow_cell ht _ _ rfl, trow_cell ht _ _ rfl⟩
 have c0 := cc 0 (by decide)
 have c1 := cc 1 (by decide)
 have c2 := cc 2 (by decide)
 have c3 := cc 3 (by decide)
 have c4 := cc 4 (by decide)
 have c5 := cc 5 (by decide)
 have c6 := cc 6 (by decide)
 have c7 := cc 7 (by decide)
 have har := run_arrayAt (P := Tryz.prog) w1 136 135 8 (some ⟨T, 0, none⟩) 8 8 Tryz.underlying136 (Nat.le_refl _)
 have H := Lib.hid (And.intro hG (And.intro hb hi))
 clear hG hT hGT hb hi ht cc
 go_wp2_with fail
 trace_state
 go_ret
 obtain ⟨h1, h2, h3⟩ := H.out
 have hGl := (Array.getElem?_eq_some_iff.1 h3.to).1
 exact ⟨G, w1.heap.size, rfl, h1, h2.size, by omega, h2.alloc h2.size _, (Below.heap_alloc w1 _ G hGl).trans h3.to, heap_alloc_new _ _⟩
end Go.Proofs.YtlmjefjimoghcaaGreat
