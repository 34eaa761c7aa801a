import Derived.Test.YtphckenihkgoeaaWk
namespace Go.Proofs.Ytphckenihkgoeaa
set_option linter.unusedSimpArgs false
set_option linter.unnecessarySimpa false
set_option linter.unusedVariables false
open Go.RowKit
attribute [local go_sem ↓] Go.wp_at_zero Go.wp_at_succ

/-- the keys of an interval -/
def hitK (a b : Int) (k : K) : Bool := decide (max k.1 a < min k.2.1 b)
def dropI (a b : Int) (l : Items) : Items := l.filter fun p => !hitK a b p.1
def dropF (d : CM) (a b : Int) : CM := { d with items := dropI a b d.items }
/-- the items in the middle of Drop -/
def mid (a b : Int) (l : Items) (j : Nat) : Items := dropI a b (l.take j) ++ l.drop j
theorem mid_zero (a b : Int) (l : Items) : mid a b l 0 = l := by simp [mid, dropI]
theorem mid_end (a b : Int) (l : Items) : mid a b l l.length = dropI a b l := by simp [mid]
theorem take_more {α : Type} {l : List α} {j : Nat} {x : α} (h : l[j]? = some x) : l.take (j + 1) = l.take j ++ [x] ∧ l.drop j = x :: l.drop (j + 1) := by
  obtain ⟨hl, e⟩ := List.getElem?_eq_some_iff.1 h
  exact ⟨by rw [List.take_add_one, h]; rfl, by rw [List.drop_eq_getElem_cons hl, e]⟩
theorem mid_keep {a b : Int} {l : Items} {j : Nat} {p : K × List Chg} (h : l[j]? = some p) (hk : hitK a b p.1 = false) : mid a b l (j + 1) = mid a b l j := by
  obtain ⟨h1, h2⟩ := take_more h
  unfold mid
  rw [h1, h2]
  unfold dropI
  rw [List.filter_append]
  simp [hk]
theorem mid_hit {a b : Int} {l : Items} {j : Nat} {p : K × List Chg} (hn : (keys l).Nodup) (h : l[j]? = some p) (hk : hitK a b p.1 = true) : mid a b l (j + 1) = delI (mid a b l j) p.1 := by
  obtain ⟨h1, h2⟩ := take_more h
  have hl : l = l.take j ++ p :: l.drop (j + 1) := by rw [← h2, List.take_append_drop]
  have hn' : (keys (l.take j) ++ p.1 :: keys (l.drop (j + 1))).Nodup := by
    rw [hl] at hn
    simpa [keys] using hn
  have hno := List.nodup_append.1 hn'
  have n1 : p.1 ∉ keys (l.drop (j + 1)) := (List.nodup_cons.1 hno.2.1).1
  have n2 : p.1 ∉ keys (l.take j) := fun hm => hno.2.2 p.1 hm p.1 (List.mem_cons_self ..) rfl
  have n3 : p.1 ∉ keys (dropI a b (l.take j)) := fun hm => n2 (by
    obtain ⟨q, hq, e⟩ := List.mem_map.1 hm
    exact List.mem_map.2 ⟨q, (List.mem_filter.1 hq).1, e⟩)
  have e1 : mid a b l (j + 1) = dropI a b (l.take j) ++ l.drop (j + 1) := by
    unfold mid
    rw [h1]
    unfold dropI
    rw [List.filter_append]
    simp [hk]
  have e2 : mid a b l j = dropI a b (l.take j) ++ p :: l.drop (j + 1) := by
    unfold mid
    rw [h2]
  rw [e1, e2]
  show _ = List.filter _ _
  rw [List.filter_append]
  have e3 := delI_none n3
  have e4 := delI_none n1
  unfold delI at e3 e4
  rw [e3, List.filter_cons, if_neg (by simp), e4]
theorem mid_mem {a b : Int} {l : Items} {j : Nat} {p : K × List Chg} (h : l[j]? = some p) : p ∈ mid a b l j := by
  obtain ⟨h1, h2⟩ := take_more h
  unfold mid
  rw [h2]
  exact List.mem_append_right _ (List.mem_cons_self ..)
theorem mid_length {a b : Int} {l : Items} {j : Nat} {p : K × List Chg} (hn : (keys l).Nodup) (h : l[j]? = some p) (hk : hitK a b p.1 = true) : (mid a b l (j + 1)).length + 1 = (mid a b l j).length := by
  obtain ⟨h1, h2⟩ := take_more h
  unfold mid
  rw [h1, h2]
  unfold dropI
  rw [List.filter_append]
  simp [hk]
  omega
theorem mid_le (a b : Int) (l : Items) (j : Nat) : (mid a b l j).length ≤ l.length := by
  unfold mid
  have := List.length_filter_le (fun p : K × List Chg => !hitK a b p.1) (l.take j)
  have h2 := congrArg List.length (List.take_append_drop j l)
  unfold dropI
  simp only [List.length_append] at h2 ⊢
  omega
section
variable {S R : Nat → Prop} {C : Nat} {d : CM} {w w' : World}
set_option maxRecDepth 100000 in
/-- Drop -/
theorem drop_walk (h : Ck S R C d w) (hg : Good d) (hlt : ∀ j, S j ∨ R j → j < w.heap.size) (hn : d.items.length ≤ 900000) (a b : Int) : Calls Try.prog 20 #[.pointer (some ⟨C, 0, none⟩), .int .i64 a, .int .i64 b] w fun e w' => e = .returned (.int .i64 (d.items.length - (dropI a b d.items).length : Nat)) ∧ Touch S w w' ∧ Ck S R C (dropF d a b) w' := by
  obtain ⟨vo, M, f, h⟩ := h
  have c3 := h.c3
  have el : (keys d.items).length = d.items.length := by simp [keys]
  obtain ⟨A, c, rfl⟩ := row_sl h.ro
  have HC := Lib.hid (cloneK w _ A c (keys d.items) (row_flat h.ro) (by omega))
  rw [el] at HC
  have H := Lib.hid h
  clear h
  go_enter Try.func20, Try.ntmps20
  go_upto_region 2 with (fail)
  go_wp2_with fail
  refine (HC.out).mono ?_
  rintro e w1 ⟨A1, c1, rfl, hf1, hb1⟩
  have HF1 := Lib.hid hf1
  have HB1 := Lib.hid hb1
  clear hf1 hb1 c3
  go_wp2_with fail
  go_loopw [16, 7] (fun i n wr => ∃ j : Nat, j ≤ d.items.length ∧ i = .int .i64 (j : Int) ∧ n = .int .i64 ((d.items.length - (mid a b d.items j).length : Nat) : Int) ∧ Touch S w wr ∧ w1.heap.size ≤ wr.heap.size ∧ (∀ k, w.heap.size ≤ k → k < w1.heap.size → wr.heap[k]? = w1.heap[k]?) ∧ Ck S R C { d with items := mid a b d.items j } wr ∧ Good { d with items := mid a b d.items j }) (fun i _ _ => d.items.length - (intOf i).toNat)
  case atStart =>
    refine ⟨0, Nat.zero_le _, rfl, by rw [mid_zero]; simp, .of_below HB1.out, Nat.le_refl _, fun _ _ _ => rfl, ?_, ?_⟩
    · rw [mid_zero]
      exact ⟨_, M, f, H.out.frame fun j hj hl => HB1.out.block j hl⟩
    · rw [mid_zero]; exact hg
  case round =>
    obtain ⟨j, hj, rfl, rfl, ht, hsz, hkeep, hck, hgi⟩ := hrel
    have HT := Lib.hid ht
    have HK := Lib.hid hkeep
    have HCk := Lib.hid hck
    have HGi := Lib.hid hgi
    have HSz := Lib.hid hsz
    clear ht hkeep hck hgi hsz
    have hmle := mid_le a b d.items j
    by_cases hlt' : j < d.items.length
    · have hjl : (j : Int) < d.items.length := by omega
      obtain ⟨p, hp⟩ : ∃ p, d.items[j]? = some p := ⟨_, List.getElem?_eq_getElem hlt'⟩
      have hpk : (keys d.items)[j]? = some p.1 := by simp [keys, hp]
      have hf := HF1.out.frame (w' := wr) fun k hk _ => HK.out k hk.1 hk.2
      obtain ⟨a1, rfl, ha1, k0, k1, k2⟩ := keys_cells hf hpk
      have HP := Lib.hid hp
      obtain ⟨W2, hW2⟩ : ∃ W, wr.alloc (.cells #[.int .i64 p.1.1, .int .i64 p.1.2.1, .int .i64 p.1.2.2] 33) = W := ⟨_, rfl⟩
      have hb2 : Below wr.heap.size wr W2 := by rw [← hW2]; exact (Below.refl _ _).alloc (Nat.le_refl _) _
      have hx2 : Box W2 wr.heap.size p.1 := by rw [← hW2]; exact heap_alloc_new wr _
      have hT2 : Touch S w W2 := by rw [← hW2]; exact HT.out.alloc _
      have hk2 : ∀ k, w.heap.size ≤ k → k < w1.heap.size → W2.heap[k]? = w1.heap[k]? := fun k h1 h2 => (hb2.block k (Nat.lt_of_lt_of_le h2 HSz.out)).trans (HK.out k h1 h2)
      have hsz2 : w1.heap.size ≤ W2.heap.size := Nat.le_trans HSz.out hb2.size
      have hck2 : Ck S R C { d with items := mid a b d.items j } W2 := HCk.out.frame fun k _ hl => hb2.block k hl
      have HT2 := Lib.hid hT2
      have HK2 := Lib.hid hk2
      have HSz2 := Lib.hid hsz2
      have HCk2 := Lib.hid hck2
      have HW2 := Lib.hid hW2
      obtain ⟨y0, y1, y2⟩ := hx2.cells
      clear hp hpk hf hb2 hx2 hT2 hk2 hsz2 hck2 hW2
      go_upto_region 5 with (fail)
      rw [HW2.out]
      clear k0 k1 k2
      by_cases hh : max p.1.1 a < min p.1.2.1 b
      · have hhk : hitK a b p.1 = true := by unfold hitK; exact decide_eq_true hh
        have HFg : Hid (Calls Try.prog 24 #[.pointer (some ⟨C, 0, none⟩), kv p.1] W2 fun e w' => e = .returned (.tuple #[]) ∧ Touch S W2 w' ∧ Ck S R C { d with items := mid a b d.items (j + 1) } w') := Lib.hid (by
          obtain ⟨vo, M, f, h⟩ := HCk2.out
          rw [mid_hit hg.nd HP.out hhk]
          exact forget_walk h HGi.out (by show (mid a b d.items j).length ≤ 1000000; omega) p.1 p.2 (mid_mem HP.out))
        unfold kv at HFg
        have hml := mid_length hg.nd HP.out hhk
        go_wp2_with fail
        all_goals
          refine (HFg.out).mono ?_
          rintro e w3 ⟨rfl, ht3, hc3⟩
          have HT3 := Lib.hid ht3
          have HC3 := Lib.hid hc3
          clear ht3 hc3
          go_wp2_with fail
          go_roundw
          case rel =>
            refine ⟨j + 1, by omega, by go_num, val_int (by omega), HT2.out.trans HT3.out fun _ _ h => h, Nat.le_trans HSz2.out HT3.out.size, fun k h1 h2 => (HT3.out.block k (Nat.lt_of_lt_of_le h2 HSz2.out) fun hs => by have := hlt k (.inl hs); omega).trans (HK2.out k h1 h2), HC3.out, ?_⟩
            rw [mid_hit hg.nd HP.out hhk]
            exact HGi.out.del (mid_mem HP.out)
          case measure => simp [intOf]; omega
      · have hhk : hitK a b p.1 = false := by unfold hitK; exact decide_eq_false hh
        go_wp2_with fail
        all_goals
          go_roundw
          case rel => exact ⟨j + 1, by omega, by go_num, by rw [mid_keep HP.out hhk], HT2.out, HSz2.out, HK2.out, by rw [mid_keep HP.out hhk]; exact HCk2.out, by rw [mid_keep HP.out hhk]; exact HGi.out⟩
          case measure => simp [intOf]; omega
    · obtain rfl : j = d.items.length := by omega
      go_wp2_with fail
      go_ret
      rw [mid_end] at HCk ⊢
      exact ⟨rfl, HT.out, HCk.out⟩
end
end Go.Proofs.Ytphckenihkgoeaa
