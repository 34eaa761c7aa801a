/- A part of the proofs of TopCounter and TopStrict: what the functions of the program do, each walked once, and plain laws about it. No condition. -/
import Derived.StillTailTactics
import Derived.Test.YtlmjefjimoghcaaGreatA10
import Derived.Test.YtlmjefjimoghcaaGreatA07
import Derived.Test.YtlmjefjimoghcaaGreatA06
namespace Go.Proofs.YtlmjefjimoghcaaGreat
set_option linter.unusedSimpArgs false
set_option linter.unnecessarySimpa false
set_option linter.unusedVariables false
open Go.RowKit
attribute [local go_sem ↓] Go.wp_at_zero Go.wp_at_succ
theorem sB_data (l : List UInt8) : (sB l).data.toList = l := rfl
theorem count_at (l : List UInt8) (hl : l.length ≤ maxLen) (n0 n1 n2 n3 : Nat) (h : L.cnt l 0 = n0 ∧ L.cnt l 1 = n1 ∧ L.cnt l 2 = n2 ∧ L.cnt l 3 = n3) (w : World) : Calls Tryz.prog 74 #[.string (sB l)] w fun e w' => e = .returned (.agg #[.int .i64 (n0 : Int), .int .i64 (n1 : Int), .int .i64 (n2 : Int), .int .i64 (n3 : Int)]) ∧ Below w.heap.size w w' := by
 obtain ⟨rfl, rfl, rfl, rfl⟩ := h
 exact L.count_walk (sB l) (by rw [sB_size]; exact hl) w
theorem alloc_fresh {B : Nat} {w w1 : World} (h : Below B w w1) (hB : B ≤ w.heap.size) (o : Obj) : Below B w (w1.alloc o) := h.alloc (by have := h.size; omega) o
theorem bcell {W w1 : World} (hb : Below W.heap.size W w1) : (∀ b o, b < W.heap.size → w1.cell? ⟨b, o, none⟩ = W.cell? ⟨b, o, none⟩) ∧ (∀ b o, b < W.heap.size → w1.frozen? ⟨b, o, none⟩ = W.frozen? ⟨b, o, none⟩) :=
 ⟨fun b o h => hb.cell (p := ⟨b, o, none⟩) h, fun b o h => hb.frozen (p := ⟨b, o, none⟩) h⟩
theorem ret_bool {a b : Bool} (h : a = b) : Ending.returned (.bool a) = .returned (.bool b) := by rw [h]
theorem beq_nat {a b : Nat} : ((a : Int) == (b : Int)) = decide (a = b) := by
 by_cases h : a = b
 ·rw [decide_eq_true h, h]; exact beq_self_eq_true _
 ·rw [decide_eq_false h]; exact beq_eq_false_iff_ne.2 (by omega)
theorem is_walk (l : List UInt8) (hl : l.length ≤ maxLen) (r : Bool) (hr : isV l = r) (w : World) : Calls Tryz.prog 75 #[.string (sB l)] w fun e w' => e = .returned (.bool r) ∧ Below w.heap.size w w' := by
 have hsz := sB_size l
 have ht := sB_toList l
 rcases l with _ | ⟨c, l⟩
 ·have hr' : r = false := by rw [← hr]; rfl
  subst hr'
  clear hsz hr ht hl
  have hz : sB [] = ⟨#[]⟩ := rfl
  rw [hz]
  go_enter Tryz.func75, Tryz.ntmps75
  go_wp2_with fail
  go_ret
  exact ⟨rfl, .refl _ _⟩
 ·have htn : (c :: l) ≠ [] := by simp
  obtain ⟨L', hL⟩ : ∃ L', c :: l = L' := ⟨_, rfl⟩
  rw [hL] at hsz ht hl hr htn ⊢
  clear hL
  by_cases h128 : L'.length ≤ 128
  ·obtain ⟨n0, h0⟩ : ∃ n, L.cnt L' 0 = n := ⟨_, rfl⟩
   obtain ⟨n1, h1⟩ : ∃ n, L.cnt L' 1 = n := ⟨_, rfl⟩
   obtain ⟨n2, h2⟩ : ∃ n, L.cnt L' 2 = n := ⟨_, rfl⟩
   obtain ⟨n3, h3⟩ : ∃ n, L.cnt L' 3 = n := ⟨_, rfl⟩
   have hle := cnt_le4 L'
   have hal := cnt_all L'
   rw [h0, h1, h2, h3] at hle hal
   have HC := Lib.hid (count_at L' hl n0 n1 n2 n3 ⟨h0, h1, h2, h3⟩)
   have HR : Hid (r = decide (n0 + n1 + n2 + n3 = L'.length)) := Lib.hid (by
    rw [← hr]; unfold isV
    have e1 : L'.isEmpty = false := by cases L' with | nil => exact absurd rfl htn | cons => rfl
    rw [e1, decide_eq_true h128]
    simp only [Bool.not_false, Bool.true_and]
    rw [Bool.eq_iff_iff, decide_eq_true_iff, hal])
   have hie : L'.isEmpty = false := by cases L' with | nil => exact absurd rfl htn | cons => rfl
   clear h0 h1 h2 h3 hal hr
   have b128 : (L'.length : Int) ≤ 128 := by omega
   go_enter Tryz.func75, Tryz.ntmps75
   go_wp2_with fail
   refine (HC.out _).mono ?_
   rintro x w1 ⟨rfl, hb1⟩
   have HB1 := Lib.hid hb1
   clear hb1
   go_wp2_with fail
   go_ret
   refine ⟨ret_bool ?_, alloc_fresh HB1.out (Nat.le_refl _) _⟩
   rw [HR.out, ← beq_nat]
   congr 1
  ·have hr' : r = false := by rw [← hr]; unfold isV; rw [decide_eq_false h128]; simp
   subst hr'
   clear hr
   go_enter Tryz.func75, Tryz.ntmps75
   go_wp2_with fail
   go_ret
   exact ⟨rfl, .refl _ _⟩
theorem known_walk (l : List UInt8) (hl : l.length ≤ maxLen) (r : Bool) (hr : knownV l = r) (w : World) : Calls Tryz.prog 33 #[.string (sB l)] w fun e w' => e = .returned (.bool r) ∧ Below w.heap.size w w' := by
 obtain ⟨n0, h0⟩ : ∃ n, L.cnt l 0 = n := ⟨_, rfl⟩
 obtain ⟨n1, h1⟩ : ∃ n, L.cnt l 1 = n := ⟨_, rfl⟩
 obtain ⟨n2, h2⟩ : ∃ n, L.cnt l 2 = n := ⟨_, rfl⟩
 obtain ⟨n3, h3⟩ : ∃ n, L.cnt l 3 = n := ⟨_, rfl⟩
 have hle := cnt_le4 l
 have hal := @known_cnt l
 rw [h2, h3] at hal
 rw [h0, h1, h2, h3] at hle
 have HC := Lib.hid (count_at l hl n0 n1 n2 n3 ⟨h0, h1, h2, h3⟩)
 unfold maxLen at hl
 have b63 : (l.length : Int) ≤ 9223372036854775807 := by omega
 clear h0 h1 h2 h3
 cases hi : isV l with
 | false =>
  have hr' : r = false := by rw [← hr]; unfold knownV; rw [hi]; rfl
  subst hr'
  have HI := Lib.hid (is_walk l (by unfold maxLen; omega) false hi)
  clear hr hi hal
  go_enter Tryz.func33, Tryz.ntmps33
  go_wp2_with fail
  refine (HC.out _).mono ?_
  rintro x w1 ⟨rfl, hb1⟩
  have HB1 := Lib.hid hb1
  clear hb1
  go_wp2_with fail
  refine (HI.out _).mono ?_
  rintro x w2 ⟨rfl, hb2⟩
  have HB2 := Lib.hid (bstep (alloc_fresh HB1.out (Nat.le_refl _) _) (Nat.le_refl _) (hb2))
  clear hb2
  go_wp2_with fail
  go_ret
  exact ⟨rfl, HB2.out⟩
 | true =>
  have HR : Hid (r = decide (n2 + n3 = 0)) := Lib.hid (by
   rw [← hr]; unfold knownV
   rw [hi, Bool.true_and, Bool.eq_iff_iff, decide_eq_true_iff, hal hi])
  have HI := Lib.hid (is_walk l (by unfold maxLen; omega) true hi)
  clear hr hi hal
  go_enter Tryz.func33, Tryz.ntmps33
  go_wp2_with fail
  refine (HC.out _).mono ?_
  rintro x w1 ⟨rfl, hb1⟩
  have HB1 := Lib.hid hb1
  clear hb1
  go_wp2_with fail
  refine (HI.out _).mono ?_
  rintro x w2 ⟨rfl, hb2⟩
  have HB2 := Lib.hid (bstep (alloc_fresh HB1.out (Nat.le_refl _) _) (Nat.le_refl _) (hb2))
  obtain ⟨hc, hf⟩ := bcell hb2
  clear hb2
  go_wp2_with fail
  go_ret
  refine ⟨ret_bool ?_, HB2.out⟩
  rw [HR.out, show (0 : Int) = ((0 : Nat) : Int) from rfl, ← beq_nat]
  congr 1
theorem valid_walk (l : List UInt8) (hl : l.length ≤ maxLen) (n : Int) (r : Bool) (hr : (isV l && decide ((l.length : Int) = n)) = r) (w : World) : Calls Tryz.prog 84 #[.int .i64 n, .string (sB l)] w fun e w' => e = .returned (.bool r) ∧ Below w.heap.size w w' := by
 have hsz := sB_size l
 unfold maxLen at hl
 cases hi : isV l with
 | false =>
  have hr' : r = false := by rw [← hr, hi]; rfl
  subst hr'
  have HI := Lib.hid (is_walk l (by unfold maxLen; omega) false hi)
  clear hr hi
  go_enter Tryz.func84, Tryz.ntmps84
  go_wp2_with fail
  refine (HI.out _).mono ?_
  rintro x w2 ⟨rfl, hb2⟩
  have HB2 := Lib.hid hb2
  clear hb2
  go_wp2_with fail
  go_ret
  exact ⟨rfl, HB2.out⟩
 | true =>
  have HR : Hid (r = decide ((l.length : Int) = n)) := Lib.hid (by rw [← hr, hi]; rfl)
  have HI := Lib.hid (is_walk l (by unfold maxLen; omega) true hi)
  clear hr hi
  go_enter Tryz.func84, Tryz.ntmps84
  go_wp2_with fail
  refine (HI.out _).mono ?_
  rintro x w2 ⟨rfl, hb2⟩
  have HB2 := Lib.hid hb2
  clear hb2
  go_wp2_with fail
  go_ret
  refine ⟨ret_bool ?_, HB2.out⟩
  rw [HR.out]
  rfl
/-- a text's bytes in a new block -/
theorem bytes_run (w : World) (l : List UInt8) : ∃ cap W, (convert 9 70 (.string (sB l))).run Tryz.prog w = .ok (.slice (some ⟨w.heap.size, 0, none⟩) l.length cap) W ∧ V.BRow W w.heap.size l ∧ Below w.heap.size w W ∧ W.heap.size = w.heap.size + 1 := by
 have h := run_bytes_of_string (P := Tryz.prog) w 9 70 5 (sB l) Tryz.underlying9 Tryz.underlying70 Tryz.underlying5
 rw [sB_size] at h
 generalize grownCap w l.length 0 5 = cap at h
 have hcs : ∀ i, i < l.length → (bytesRow (sB l) cap)[i]? = some (.int .u8 (((l.getD i 0).toNat : Nat) : Int)) := by
  intro i hi
  unfold bytesRow
  rw [Array.getElem?_append_left (by simpa [sB] using hi)]
  simp [sB, hi]
 have hcz : l.length ≤ (bytesRow (sB l) cap).size := by simp [bytesRow, sB]
 generalize bytesRow (sB l) cap = cs at h hcs hcz
 refine ⟨cap, _, h, ?_, (Below.refl _ _).drew.alloc (Nat.le_refl _) _, by rw [World.size_alloc]; rfl⟩
 refine ⟨cs, _, heap_alloc_new _ _, ?_, hcs⟩
 intro i hi
 simp only [Bool.and_eq_false_iff, decide_eq_false_iff_not]
 left; omega
theorem set_map {f : UInt8 → UInt8} {l : List UInt8} {k : Nat} (hk : k < l.length) : ((l.take k).map f ++ l.drop k).set k (f (l.getD k 0)) = (l.take (k + 1)).map f ++ l.drop (k + 1) := by
 have h1 : ((l.take k).map f).length = k := by simp; omega
 rw [List.set_append_right _ _ (Nat.le_of_eq h1), h1, Nat.sub_self, List.take_succ_eq_append_getElem hk, List.map_append, List.drop_eq_getElem_cons hk, List.set_cons_zero]
 simp [List.getD, hk]
theorem inv_at (c : UInt8) (h : okC c = true) (w : World) : Calls Tryz.prog 231 #[.int .u8 (c.toNat : Int)] w fun e w' => e = .returned (.int .u8 ((invC c).toNat : Int)) ∧ w = w' := by
 have hp : L.pInv c.toNat = (invC c).toNat := by
  unfold okC at h
  simp only [Bool.or_eq_true, beq_iff_eq] at h
  rcases h with ((rfl | rfl) | rfl) | rfl <;> decide
 rw [← hp]
 exact L.inv_walk _ c.toNat_lt w
theorem each_walk (l : List UInt8) (hl : l.length ≤ 128) (hok : l.all okC = true) (w : World) : Calls Tryz.prog 230 #[.string (sB l), .func (.func 231) #[] #[]] w fun e w' => e = .returned (.string (sB (invV l))) ∧ Below w.heap.size w w' := by
 obtain ⟨cap, W, hrun, hrow, hbel, hsz⟩ := bytes_run w l
 have HR := Lib.hid hrow
 have HB := Lib.hid hbel
 have HO := Lib.hid hok
 have hl' : (l.length : Int) ≤ 128 := by omega
 clear hrow hbel hsz hok
 go_enter Tryz.func230, Tryz.ntmps230
 go_wp2_with fail
 go_loopw [12] (fun i wr => ∃ k : Nat, i = .int .i64 (k : Int) ∧ k ≤ l.length ∧ V.BRow wr w.heap.size ((l.take k).map invC ++ l.drop k) ∧ Below w.heap.size w wr) (fun i _ => ((l.length : Int) - intOf i).toNat)
 case atStart => exact ⟨0, rfl, Nat.zero_le _, HR.out, HB.out⟩
 case round =>
  obtain ⟨k, rfl, hk, hr, hb⟩ := hrel
  have HR := Lib.hid hr
  have HB := Lib.hid hb
  have hlen : ((l.take k).map invC ++ l.drop k).length = l.length := by simp; omega
  by_cases hlt : k < l.length
  ·have hki : (k : Int) < l.length := by omega
   obtain ⟨c, hc⟩ : ∃ c, l.getD k 0 = c := ⟨_, rfl⟩
   have hcg : ((l.take k).map invC ++ l.drop k).getD k 0 = c := by
    rw [← hc, List.getD_eq_getElem?_getD, List.getElem?_append_right (by simp; omega), List.getD_eq_getElem?_getD]
    simp [Nat.min_eq_left hk]
   have c0 := hr.cell k (by rw [hlen]; exact hlt)
   have f0 := hr.frozen k (by rw [hlen]; exact hlt)
   rw [hcg] at c0
   have hcok : okC c = true := by
    have := List.all_eq_true.1 HO.out
    rw [← hc, List.getD_eq_getElem?_getD, List.getElem?_eq_getElem hlt]
    exact this _ (List.getElem_mem hlt)
   have HI := Lib.hid (inv_at c hcok)
   have hset := hr.set_ k (by rw [hlen]; exact hlt) (invC c) _ rfl
   rw [← hc, set_map hlt, hc] at hset
   have HS := Lib.hid hset
   clear hr hb hset hlen hc hcg hcok hrun
   go_wp2_with fail
   refine (HI.out _).mono ?_
   rintro x _ ⟨rfl, rfl⟩
   go_wp2_with fail
   go_roundw
   case rel => exact ⟨k + 1, by go_num, by omega, HS.out, HB.out.setCell (p := ⟨w.heap.size, k, none⟩) (Nat.le_refl _) _⟩
   case measure => simp [intOf]; omega
  ·obtain rfl : k = l.length := by omega
   have hstr := HR.out.str cap l.length hlen.symm
   rw [List.take_length, List.drop_length, List.append_nil] at hstr
   have HE : Hid (invV l = l.map invC) := Lib.hid rfl
   clear hr hb hlen hrun
   go_wp2_with fail
   go_ret
   rw [HE.out]
   exact ⟨rfl, HB.out⟩
theorem inverse_walk (l : List UInt8) (h : isV l = true) (w : World) : Calls Tryz.prog 196 #[.string (sB l)] w fun e w' => e = .returned (.string (sB (invV l))) ∧ Below w.heap.size w w' := by
 obtain ⟨_, h128, hok⟩ := isV_parts h
 have HE := Lib.hid (each_walk l h128 hok)
 have HI := Lib.hid (is_walk l (by unfold maxLen; omega) true h)
 clear h h128 hok
 go_enter Tryz.func196, Tryz.ntmps196
 go_wp2_with fail
 refine (HI.out _).mono ?_
 rintro x w1 ⟨rfl, hb1⟩
 have HB1 := Lib.hid hb1
 clear hb1
 go_wp2_with fail
 refine (HE.out _).mono ?_
 rintro x w2 ⟨rfl, hb2⟩
 have HB2 := Lib.hid (bstep HB1.out (Nat.le_refl _) hb2)
 clear hb2
 go_wp2_with fail
 go_ret
 exact ⟨rfl, HB2.out⟩
/-- a block of bytes, known whole -/
def CRow (w : World) (B : Nat) (t : TypeId) (l : List UInt8) : Prop := w.heap[B]? = some (.cells (bcells l).toArray t (0, 0))
theorem CRow.to {w : World} {B : Nat} {t : TypeId} {l : List UInt8} (h : CRow w B t l) : w.heap[B]? = some (.cells (bcells l).toArray t (0, 0)) := h
theorem CRow.set {w : World} {B : Nat} {t : TypeId} {l : List UInt8} (h : CRow w B t l) (i : Nat) (b : UInt8) : CRow (w.setCell ⟨B, i, none⟩ (.int .u8 (b.toNat : Int))) B t (l.set i b) :=
 (heap_setCell_any w B i _ _ _ _ h).trans (by simp [bcells, List.map_set])
theorem CRow.cell {w : World} {B : Nat} {t : TypeId} {l : List UInt8} (h : CRow w B t l) {i : Nat} (hi : i < l.length) : w.cell? ⟨B, i, none⟩ = some (.int .u8 ((l.getD i 0).toNat : Int)) := by
 rw [cell_of_row w B i _ _ _ h.to]
 simp [bcells, List.getD, hi]
theorem CRow.fr {w : World} {B : Nat} {t : TypeId} {l : List UInt8} (h : CRow w B t l) (i : Nat) : w.frozen? ⟨B, i, none⟩ = false := by simp [World.frozen?, h.to]
/-- the text of the first bytes of a block -/
theorem CRow.str {w : World} {B : Nat} {t : TypeId} {l : List UInt8} (h : CRow w B t l) (n cap : Nat) (hn : n ≤ l.length) : (convert 70 9 (.slice (some ⟨B, 0, none⟩) n cap)).run Tryz.prog w = .ok (.string (sB (l.take n))) w := by
 have := run_convert_bytes_back (P := Tryz.prog) w 70 9 5 ⟨B, 0, none⟩ cap (l.take n) Tryz.underlying70 Tryz.underlying5 Tryz.underlying9 (by
  intro j hj
  have hj' : j < n ∧ j < l.length := by simp at hj; omega
  rw [Addr.add_lit, Nat.zero_add, h.cell hj'.2]
  simp [List.getD, hj'.1, hj'.2])
 have hl : (l.take n).length = n := by simp; omega
 rw [hl] at this
 exact this
theorem zero119 : Tryz.zeroCells119 = (bcells (List.replicate 128 0)).toArray := by kernel_rfl
def SumR (w : World) (B : Nat) (n : Nat) (a b : List UInt8) (c0 : Nat) (cv iv : Value) (wr : World) : Prop :=
 ∃ j : Nat, iv = .int .i64 ((j : Int) - 1) ∧ j ≤ n ∧ cv = .int .u8 (((sumS (a.drop j) (b.drop j) c0).2 : Nat) : Int) ∧ (sumS (a.drop j) (b.drop j) c0).2 ≤ 1 ∧ CRow wr B 119 (List.replicate j 0 ++ ((sumS (a.drop j) (b.drop j) c0).1 ++ List.replicate (128 - n) 0)) ∧ Below w.heap.size w wr
theorem bitC_cases {c : UInt8} (h : bitC c = true) : ∃ p : Nat, p ≤ 1 ∧ c = UInt8.ofNat (48 + p) := by
 unfold bitC at h
 simp only [Bool.or_eq_true, beq_iff_eq] at h
 rcases h with rfl | rfl
 ·exact ⟨0, by decide, rfl⟩
 ·exact ⟨1, by decide, rfl⟩
set_option maxRecDepth 100000 in
theorem sum_walk (a b : List UInt8) (hab : a.length = b.length) (h128 : a.length ≤ 128) (ha : a.all bitC = true) (hb : b.all bitC = true) (c0 : Nat) (hc : c0 ≤ 1) (w : World) : Calls Tryz.prog 34 #[.string (sB a), .string (sB b), .int .u8 (c0 : Int)] w fun e w' => e = .returned (.string (sB (sumS a b c0).1)) ∧ Below w.heap.size w w' := by
 have sza := sB_size a
 have szb := sB_size b
 have HA := Lib.hid ha
 have HB := Lib.hid hb
 obtain ⟨n, hn⟩ : ∃ n, a.length = n := ⟨_, rfl⟩
 rw [hn] at sza h128
 rw [← hab, hn] at szb
 have HN := Lib.hid (And.intro hn (hab.symm.trans hn))
 have HC := Lib.hid hc
 have hn128 : (n : Int) ≤ 128 := by omega
 clear hn hab ha hb hc
 go_enter Tryz.func34, Tryz.ntmps34
 go_wp2_with fail
 obtain ⟨W1, hW1⟩ : ∃ W, w.alloc (.cells Tryz.zeroCells119 119) = W := ⟨_, rfl⟩
 obtain ⟨B, hB⟩ : ∃ B, w.heap.size = B := ⟨_, rfl⟩
 have HB1 : Hid (Below w.heap.size w W1) := Lib.hid (by rw [← hW1]; exact (Below.refl _ _).alloc (Nat.le_refl _) _)
 have HR1 : Hid (CRow W1 B 119 (List.replicate 128 0)) := Lib.hid (by rw [← hW1, ← hB, zero119]; exact heap_alloc_new w _)
 have HBB := Lib.hid hB
 rw [hW1, hB]
 clear hW1 hB
 go_loopw [2, 8] (fun cv iv wr => SumR w B n a b c0 cv iv wr) (fun _ i _ => (intOf i + 1).toNat)
 case atStart =>
  have e1 : a.drop n = [] := by rw [← HN.out.1]; exact List.drop_length
  have e2 : b.drop n = [] := by rw [← HN.out.2]; exact List.drop_length
  refine ⟨n, rfl, Nat.le_refl _, by rw [e1, e2]; rfl, by rw [e1, e2]; exact HC.out, ?_, HB1.out⟩
  rw [e1, e2]
  have : List.replicate n (0 : UInt8) ++ (([] : List UInt8) ++ List.replicate (128 - n) 0) = List.replicate 128 0 := by
   rw [List.nil_append, List.replicate_append_replicate]; congr 1; omega
  show CRow W1 B 119 (List.replicate n 0 ++ ([] ++ _))
  rw [this]; exact HR1.out
 case round =>
  obtain ⟨j, rfl, hj, rfl, hc1, hr, hbl⟩ := hrel
  have HBl := Lib.hid hbl
  have HR := Lib.hid hr
  clear hbl hr
  rcases j with _ | m
  ·have hlen := sumS_length a b c0 (HN.out.1.trans HN.out.2.symm)
   rw [HN.out.1] at hlen
   have hstr := HR.out.str n 128 (by simp; omega)
   have ht : (List.replicate 0 (0 : UInt8) ++ ((sumS (a.drop 0) (b.drop 0) c0).1 ++ List.replicate (128 - n) 0)).take n = (sumS a b c0).1 := by
    rw [List.replicate_zero, List.nil_append, List.drop_zero, List.drop_zero, List.take_append_of_le_length (by omega), List.take_of_length_le (by omega)]
   rw [ht] at hstr
   clear hc1 ht hlen
   go_wp2_with fail
   go_ret
   exact ⟨rfl, HBl.out⟩
  ·have hm : ((m + 1 : Nat) : Int) - 1 = (m : Int) := by omega
   rw [hm]
   obtain ⟨k, hk⟩ : ∃ k, (sumS (a.drop (m + 1)) (b.drop (m + 1)) c0).2 = k := ⟨_, rfl⟩
   rw [hk] at hc1 ⊢
   have hki : (k : Int) ≤ 1 := by omega
   have hmn : (m : Int) < n := by omega
   have hma : m < a.length := by rw [HN.out.1]; omega
   have hmb : m < b.length := by rw [HN.out.2]; omega
   obtain ⟨p, hp, hpa⟩ := bitC_cases (List.all_eq_true.1 HA.out _ (List.getElem_mem hma))
   obtain ⟨q, hq, hqb⟩ := bitC_cases (List.all_eq_true.1 HB.out _ (List.getElem_mem hmb))
   have pn : (UInt8.ofNat (48 + p)).toNat = 48 + p := by rw [UInt8.toNat_ofNat']; omega
   have qn : (UInt8.ofNat (48 + q)).toNat = 48 + q := by rw [UInt8.toNat_ofNat']; omega
   have GA : Hid (∀ h, (((sB a)[m]'h).toNat : Int) = 48 + (p : Int)) := Lib.hid (fun h => by
    have : (sB a)[m]'h = a[m]'hma := rfl
    rw [this, hpa, pn]; rfl)
   have GB : Hid (∀ h, (((sB b)[m]'h).toNat : Int) = 48 + (q : Int)) := Lib.hid (fun h => by
    have : (sB b)[m]'h = b[m]'hmb := rfl
    rw [this, hqb, qn]; rfl)
   obtain ⟨s, hs⟩ : ∃ s, p + q + k = s := ⟨_, rfl⟩
   have HE : Hid (((48 + (p : Int) - 48 + (48 + (q : Int)) - 48) % 256 + (k : Int)) % 256 = (s : Int)) := Lib.hid (by omega)
   have HS : Hid (sumS (a.drop m) (b.drop m) c0 = (UInt8.ofNat (48 + s % 2) :: (sumS (a.drop (m + 1)) (b.drop (m + 1)) c0).1, s / 2)) := Lib.hid (by
    rw [List.drop_eq_getElem_cons hma, List.drop_eq_getElem_cons hmb, hpa, hqb]
    show (UInt8.ofNat (48 + (((UInt8.ofNat (48 + p)).toNat - 48) + ((UInt8.ofNat (48 + q)).toNat - 48) + (sumS (a.drop (m + 1)) (b.drop (m + 1)) c0).2) % 2) :: _, _ / 2) = _
    rw [hk, pn, qn, ← hs, Nat.add_sub_cancel_left, Nat.add_sub_cancel_left])
   have hs3 : s ≤ 3 := by omega
   have hand : bits .and .u8 (s : Int) 1 = ((s % 2 : Nat) : Int) := by
    rcases (by omega : s = 0 ∨ s = 1 ∨ s = 2 ∨ s = 3) with rfl | rfl | rfl | rfl <;> rfl
   obtain ⟨d, hd⟩ : ∃ d, s % 2 = d := ⟨_, rfl⟩
   obtain ⟨c', hc'⟩ : ∃ c', s / 2 = c' := ⟨_, rfl⟩
   rw [hd] at hand HS
   rw [hc'] at HS
   have hd1 : (d : Int) ≤ 1 := by omega
   have hc2 : c' ≤ 1 := by omega
   have hsh : (s : Int) / 2 = (c' : Int) := by omega
   have dn : ((UInt8.ofNat (48 + d)).toNat : Int) = 48 + (d : Int) := by rw [UInt8.toNat_ofNat']; omega
   have hrl : (List.replicate (m + 1) (0 : UInt8) ++ ((sumS (a.drop (m + 1)) (b.drop (m + 1)) c0).1 ++ List.replicate (128 - n) 0)).length ≥ m + 1 := by simp
   have g0 := fun z => HR.out.cell (w := wr.drewN z) (i := m) (by omega)
   have gf := fun z => HR.out.fr (w := wr.drewN z) m
   have hset : ∀ z, CRow ((wr.drewN z).setCell ⟨B, m, none⟩ (.int .u8 (48 + (d : Int)))) B 119 (List.replicate m 0 ++ ((UInt8.ofNat (48 + d) :: (sumS (a.drop (m + 1)) (b.drop (m + 1)) c0).1) ++ List.replicate (128 - n) 0)) := fun z => by
    have h1 := HR.out.set (w := wr.drewN z) m (UInt8.ofNat (48 + d))
    rw [dn] at h1
    have e : (List.replicate (m + 1) (0 : UInt8) ++ ((sumS (a.drop (m + 1)) (b.drop (m + 1)) c0).1 ++ List.replicate (128 - n) 0)).set m (UInt8.ofNat (48 + d)) = List.replicate m 0 ++ ((UInt8.ofNat (48 + d) :: (sumS (a.drop (m + 1)) (b.drop (m + 1)) c0).1) ++ List.replicate (128 - n) 0) := by
     rw [List.replicate_succ', List.append_assoc, List.set_append_right _ _ (by simp)]
     simp
    rw [e] at h1; exact h1
   have HSet := Lib.hid hset
   have HAnd := Lib.hid hand
   have HSh := Lib.hid hsh
   have HG : Hid (∀ z, (wr.drewN z).cell? ⟨B, m, none⟩ = some (.int .u8 (((List.replicate (m + 1) (0 : UInt8) ++ ((sumS (a.drop (m + 1)) (b.drop (m + 1)) c0).1 ++ List.replicate (128 - n) 0)).getD m 0).toNat : Int)) ∧ (wr.drewN z).frozen? ⟨B, m, none⟩ = false) := Lib.hid fun z => ⟨g0 z, gf z⟩
   clear hset hrl hd hc' hs hpa hqb pn qn hk hma hmb dn hand hsh
   have hm128 : (m : Int) < 128 := by omega
   clear g0 gf
   go_upto_region 5 with (fail)
   go_quiet (fail)
   simp only [GA.out, GB.out, HE.out]
   have hand : bits .and .u8 (s : Int) 1 = (d : Int) := HAnd.out
   have hsh : (s : Int) / 2 = (c' : Int) := HSh.out
   have g0 := (HG.out nq).1
   have gf := (HG.out nq).2
   go_wp2_with fail
   go_roundw
   case rel => exact ⟨m, rfl, by omega, by rw [HS.out], by rw [HS.out]; exact hc2, by rw [HS.out]; exact HSet.out _, (below_drewN HBl.out _).setCell (p := ⟨B, m, none⟩) (by rw [← HBB.out]; exact Nat.le_refl _) _⟩
   case measure => simp [intOf]
def addOk (a b : List UInt8) : Bool := knownV a && knownV b && decide (a.length = b.length)
theorem known_parts {l : List UInt8} (h : knownV l = true) : isV l = true ∧ l.length ≤ 128 ∧ l.all bitC = true ∧ l ≠ [] := by
 unfold knownV at h
 simp only [Bool.and_eq_true] at h
 exact ⟨h.1, (isV_parts h.1).2.1, h.2, (isV_parts h.1).1⟩
theorem add_walk (a b : List UInt8) (hla : a.length ≤ maxLen) (hlb : b.length ≤ maxLen) (w : World) : Calls Tryz.prog 9 #[.string (sB a), .string (sB b)] w fun e w' => e = .returned (.tuple #[.string (sB (if addOk a b then addV a b else [])), .bool (addOk a b)]) ∧ Below w.heap.size w w' := by
 have sza := sB_size a
 have szb := sB_size b
 unfold maxLen at hla hlb
 cases hka : knownV a with
 | false =>
  have e : addOk a b = false := by unfold addOk; rw [hka]; rfl
  rw [e]
  have HK := Lib.hid (known_walk a (by unfold maxLen; omega) false hka)
  clear hka e
  go_enter Tryz.func9, Tryz.ntmps9
  go_wp2_with fail
  refine (HK.out _).mono ?_
  rintro x w1 ⟨rfl, hb1⟩
  have HB1 := Lib.hid hb1
  clear hb1
  go_wp2_with fail
  go_ret2
  exact ⟨rfl, HB1.out⟩
 | true =>
  have HK := Lib.hid (known_walk a (by unfold maxLen; omega) true hka)
  cases hkb : knownV b with
  | false =>
   have e : addOk a b = false := by unfold addOk; rw [hka, hkb]; rfl
   rw [e]
   have HKb := Lib.hid (known_walk b (by unfold maxLen; omega) false hkb)
   clear hka hkb e
   go_enter Tryz.func9, Tryz.ntmps9
   go_wp2_with fail
   refine (HK.out _).mono ?_
   rintro x w1 ⟨rfl, hb1⟩
   have HB1 := Lib.hid hb1
   clear hb1
   go_wp2_with fail
   refine (HKb.out _).mono ?_
   rintro x w2 ⟨rfl, hb2⟩
   have HB2 := Lib.hid (bstep HB1.out (Nat.le_refl _) hb2)
   clear hb2
   go_wp2_with fail
   go_ret2
   exact ⟨rfl, HB2.out⟩
  | true =>
   have HKb := Lib.hid (known_walk b (by unfold maxLen; omega) true hkb)
   by_cases hl : a.length = b.length
   ·have e : addOk a b = true := by unfold addOk; rw [hka, hkb, decide_eq_true hl]; rfl
    rw [e]
    obtain ⟨hia, h128, hba, _⟩ := known_parts hka
    obtain ⟨hib, _, hbb, _⟩ := known_parts hkb
    have HS := Lib.hid (sum_walk a b hl h128 hba hbb 0 (by decide))
    have hli : (a.length : Int) = (b.length : Int) := by omega
    rw [hl] at sza
    clear hka hkb e hia hib hba hbb hl h128 hli
    go_enter Tryz.func9, Tryz.ntmps9
    go_wp2_with fail
    refine (HK.out _).mono ?_
    rintro x w1 ⟨rfl, hb1⟩
    have HB1 := Lib.hid hb1
    clear hb1
    go_wp2_with fail
    refine (HKb.out _).mono ?_
    rintro x w2 ⟨rfl, hb2⟩
    have HB2 := Lib.hid (bstep HB1.out (Nat.le_refl _) hb2)
    clear hb2
    go_wp2_with fail
    refine (HS.out _).mono ?_
    rintro x w3 ⟨rfl, hb3⟩
    have HB3 := Lib.hid (bstep HB2.out (Nat.le_refl _) hb3)
    clear hb3
    go_wp2_with fail
    go_ret2
    exact ⟨rfl, HB3.out⟩
   ·have e : addOk a b = false := by unfold addOk; rw [hka, hkb, decide_eq_false hl]; rfl
    rw [e]
    have hne : ((a.length : Int) != (b.length : Int)) = true := by simp [bne]; omega
    clear hka hkb e
    go_enter Tryz.func9, Tryz.ntmps9
    go_wp2_with fail
    refine (HK.out _).mono ?_
    rintro x w1 ⟨rfl, hb1⟩
    have HB1 := Lib.hid hb1
    clear hb1
    go_wp2_with fail
    refine (HKb.out _).mono ?_
    rintro x w2 ⟨rfl, hb2⟩
    have HB2 := Lib.hid (bstep HB1.out (Nat.le_refl _) hb2)
    clear hb2
    go_wp2_with fail
    go_ret2
    exact ⟨rfl, HB2.out⟩
theorem diff_walk (a b : List UInt8) (hla : a.length ≤ maxLen) (hlb : b.length ≤ maxLen) (w : World) : Calls Tryz.prog 177 #[.string (sB a), .string (sB b)] w fun e w' => e = .returned (.tuple #[.string (sB (if addOk a b then diffV a b else [])), .bool (addOk a b)]) ∧ Below w.heap.size w w' := by
 have sza := sB_size a
 have szb := sB_size b
 unfold maxLen at hla hlb
 cases hka : knownV a with
 | false =>
  have e : addOk a b = false := by unfold addOk; rw [hka]; rfl
  rw [e]
  have HK := Lib.hid (known_walk a (by unfold maxLen; omega) false hka)
  clear hka e
  go_enter Tryz.func177, Tryz.ntmps177
  go_wp2_with fail
  refine (HK.out _).mono ?_
  rintro x w1 ⟨rfl, hb1⟩
  have HB1 := Lib.hid hb1
  clear hb1
  go_wp2_with fail
  go_ret2
  exact ⟨rfl, HB1.out⟩
 | true =>
  have HK := Lib.hid (known_walk a (by unfold maxLen; omega) true hka)
  cases hkb : knownV b with
  | false =>
   have e : addOk a b = false := by unfold addOk; rw [hka, hkb]; rfl
   rw [e]
   have HKb := Lib.hid (known_walk b (by unfold maxLen; omega) false hkb)
   clear hka hkb e
   go_enter Tryz.func177, Tryz.ntmps177
   go_wp2_with fail
   refine (HK.out _).mono ?_
   rintro x w1 ⟨rfl, hb1⟩
   have HB1 := Lib.hid hb1
   clear hb1
   go_wp2_with fail
   refine (HKb.out _).mono ?_
   rintro x w2 ⟨rfl, hb2⟩
   have HB2 := Lib.hid (bstep HB1.out (Nat.le_refl _) hb2)
   clear hb2
   go_wp2_with fail
   go_ret2
   exact ⟨rfl, HB2.out⟩
  | true =>
   have HKb := Lib.hid (known_walk b (by unfold maxLen; omega) true hkb)
   by_cases hl : a.length = b.length
   ·have e : addOk a b = true := by unfold addOk; rw [hka, hkb, decide_eq_true hl]; rfl
    rw [e]
    obtain ⟨hia, h128, hba, _⟩ := known_parts hka
    obtain ⟨hib, _, hbb, _⟩ := known_parts hkb
    have HI := Lib.hid (inverse_walk a hia)
    have hli : b.length = (invV a).length := by rw [invV_length]; exact hl.symm
    have HS := Lib.hid (sum_walk b (invV a) hli (by omega) hbb (invV_num a hba).2 1 (by decide))
    rw [hl] at sza
    clear hka hkb e hia hib hba hbb hl h128 hli
    go_enter Tryz.func177, Tryz.ntmps177
    go_wp2_with fail
    refine (HK.out _).mono ?_
    rintro x w1 ⟨rfl, hb1⟩
    have HB1 := Lib.hid hb1
    clear hb1
    go_wp2_with fail
    refine (HKb.out _).mono ?_
    rintro x w2 ⟨rfl, hb2⟩
    have HB2 := Lib.hid (bstep HB1.out (Nat.le_refl _) hb2)
    clear hb2
    go_wp2_with fail
    refine (HI.out _).mono ?_
    rintro x w3 ⟨rfl, hb3⟩
    have HB3 := Lib.hid (bstep HB2.out (Nat.le_refl _) hb3)
    clear hb3
    go_wp2_with fail
    refine (HS.out _).mono ?_
    rintro x w4 ⟨rfl, hb4⟩
    have HB4 := Lib.hid (bstep HB3.out (Nat.le_refl _) hb4)
    clear hb4
    go_wp2_with fail
    go_ret2
    exact ⟨rfl, HB4.out⟩
   ·have e : addOk a b = false := by unfold addOk; rw [hka, hkb, decide_eq_false hl]; rfl
    rw [e]
    have hne : ((a.length : Int) != (b.length : Int)) = true := by simp [bne]; omega
    clear hka hkb e
    go_enter Tryz.func177, Tryz.ntmps177
    go_wp2_with fail
    refine (HK.out _).mono ?_
    rintro x w1 ⟨rfl, hb1⟩
    have HB1 := Lib.hid hb1
    clear hb1
    go_wp2_with fail
    refine (HKb.out _).mono ?_
    rintro x w2 ⟨rfl, hb2⟩
    have HB2 := Lib.hid (bstep HB1.out (Nat.le_refl _) hb2)
    clear hb2
    go_wp2_with fail
    go_ret2
    exact ⟨rfl, HB2.out⟩
theorem shortL_two (x y : UInt8) (r : List UInt8) : shortL (x :: y :: r) = if (x == y && x != 49) || (x == 48 && y == 49) then shortL (y :: r) else x :: y :: r := rfl
theorem beq_u8 {x y : UInt8} : ((x.toNat : Int) == (y.toNat : Int)) = (x == y) := by
 rw [beq_nat, Bool.eq_iff_iff, decide_eq_true_iff, beq_iff_eq, UInt8.toNat_inj]
def ShR (w : World) (l : List UInt8) (v : Value) (wr : World) : Prop := ∃ l' : List UInt8, v = .string (sB l') ∧ shortL l' = shortL l ∧ l'.length ≤ 128 ∧ Below w.heap.size w wr
def strLen (v : Value) : Nat := match v with
 | .string s => s.size
 | _ => 0
set_option maxRecDepth 10000 in
theorem shorten_walk (l : List UInt8) (hl : l.length ≤ maxLen) (w : World) : Calls Tryz.prog 161 #[.string (sB l)] w fun e w' => e = .returned (.string (sB (shortV l))) ∧ Below w.heap.size w w' := by
 cases hi : isV l with
 | false =>
  have HI := Lib.hid (is_walk l hl false hi)
  have HE : Hid (shortV l = []) := Lib.hid (by unfold shortV; rw [hi]; rfl)
  clear hi
  go_enter Tryz.func161, Tryz.ntmps161
  go_wp2_with fail
  refine (HI.out _).mono ?_
  rintro x w1 ⟨rfl, hb1⟩
  have HB1 := Lib.hid hb1
  clear hb1
  go_wp2_with fail
  go_ret
  rw [HE.out]
  exact ⟨rfl, HB1.out⟩
 | true =>
  have HI := Lib.hid (is_walk l hl true hi)
  have HE : Hid (shortV l = shortL l) := Lib.hid (by unfold shortV; rw [hi]; rfl)
  have H128 := Lib.hid (isV_parts hi).2.1
  clear hi hl
  go_enter Tryz.func161, Tryz.ntmps161
  go_wp2_with fail
  refine (HI.out _).mono ?_
  rintro x w1 ⟨rfl, hb1⟩
  have HB1 := Lib.hid hb1
  clear hb1
  go_wp2_with fail
  go_loopw [0] (fun v wr => ShR w l v wr) (fun v _ => strLen v)
  case atStart => exact ⟨l, rfl, rfl, H128.out, HB1.out⟩
  case round =>
   obtain ⟨l', rfl, hs, h128, hb⟩ := hrel
   have HB := Lib.hid hb
   have HS := Lib.hid hs
   have hsz := sB_size l'
   clear hs hb
   rcases l' with _ | ⟨x, _ | ⟨y, r⟩⟩
   ·have hz : (sB []).size = 0 := rfl
    clear hsz
    go_upto_region 3 with (fail)
    go_quiet (fail)
    go_wp2_with fail
    go_ret
    rw [HE.out, ← HS.out]
    exact ⟨rfl, below_drewN HB.out _⟩
   ·have hz : (sB [x]).size = 1 := rfl
    clear hsz
    go_upto_region 3 with (fail)
    go_quiet (fail)
    go_wp2_with fail
    go_ret
    rw [HE.out, ← HS.out]
    exact ⟨rfl, below_drewN HB.out _⟩
   ·have h2 : (2 : Int) ≤ ((x :: y :: r).length : Nat) := by simp; omega
    have hl128 : (((x :: y :: r).length : Nat) : Int) ≤ 128 := by omega
    have G0 : ∀ h, (sB (x :: y :: r))[0]'h = x := fun _ => rfl
    have G1 : ∀ h, (sB (x :: y :: r))[1]'h = y := fun _ => rfl
    have hx : (sB (x :: y :: r)).extract 1 (x :: y :: r).length = sB (y :: r) := by
     rw [sB_ext, List.take_length]; rfl
    have hrl : (y :: r).length ≤ 128 ∧ (x :: y :: r).length = (y :: r).length + 1 := ⟨by simp at h128 ⊢; omega, by simp⟩
    have hsr := sB_size (y :: r)
    obtain ⟨b1, E1⟩ : ∃ b, ((x.toNat : Int) == (y.toNat : Int)) = b := ⟨_, rfl⟩
    obtain ⟨b2, E2⟩ : ∃ b, ((x.toNat : Int) != 49) = b := ⟨_, rfl⟩
    obtain ⟨b3, E3⟩ : ∃ b, ((x.toNat : Int) == 48) = b := ⟨_, rfl⟩
    obtain ⟨b4, E4⟩ : ∃ b, ((y.toNat : Int) == 49) = b := ⟨_, rfl⟩
    have HT : Hid (shortL (x :: y :: r) = if (b1 && b2) || (b3 && b4) then shortL (y :: r) else x :: y :: r) := Lib.hid (by
     have k2 : ((x.toNat : Int) == 49) = (x == 49) := beq_u8 (y := 49)
     have k3 : ((x.toNat : Int) == 48) = (x == 48) := beq_u8 (y := 48)
     have k4 : ((y.toNat : Int) == 49) = (y == 49) := beq_u8 (y := 49)
     rw [shortL_two, ← E1, ← E2, ← E3, ← E4, beq_u8, k3, k4]
     have : ((x.toNat : Int) != 49) = (x != 49) := by rw [bne, bne, k2]
     rw [this])
    have hsz' : (sB (x :: y :: r)).size = (x :: y :: r).length := hsz
    obtain ⟨s, hs⟩ : ∃ s, sB (x :: y :: r) = s := ⟨_, rfl⟩
    obtain ⟨n, hn⟩ : ∃ n, (x :: y :: r).length = n := ⟨_, rfl⟩
    rw [hs] at G0 G1 hx hsz'
    rw [hn] at h2 hl128 hx hsz' hrl
    have HSn := Lib.hid hs
    have HRl := Lib.hid hrl
    have HSr := Lib.hid hsr
    rw [hs]
    clear hs hn hsz h128 hrl hsr
    have h1n : 1 < n := by omega
    have h1i : (1 : Int) < n := by omega
    have h0n : 0 < n := by omega
    cases b1 <;> cases b2 <;> cases b3 <;> cases b4
    all_goals
     go_upto_region 3 with (fail)
     go_quiet (fail)
     go_wp2_with fail
     first
     | (go_roundw
        case rel => exact ⟨y :: r, rfl, by rw [← HS.out, HT.out]; rfl, HRl.out.1, below_drewN HB.out _⟩
        case measure => (simp [strLen]; rw [HSr.out]; have := HRl.out.2; omega))
     | (go_ret
        rw [HE.out, ← HS.out, HT.out]
        exact ⟨by rw [← HSn.out]; rfl, below_drewN HB.out _⟩)
end Go.Proofs.YtlmjefjimoghcaaGreat
