import Derived.Test.YtphckenihkgoeaaWe
import Derived.Laws.CopyRow
namespace Go.Proofs.Ytphckenihkgoeaa
set_option linter.unusedSimpArgs false
set_option linter.unnecessarySimpa false
set_option linter.unusedVariables false
open Go.RowKit
attribute [local go_sem ↓] Go.wp_at_zero Go.wp_at_succ

theorem heap_setCell_any (w : World) (g i : Nat) (cs : Array Value) (t : TypeId) (fz : Nat × Nat) (v : Value) (hg : w.heap[g]? = some (.cells cs t fz)) :
    (w.setCell ⟨g, i, none⟩ v).heap[g]? = some (.cells (cs.setIfInBounds i v) t fz) := by
  rw [setCell_eq_setRow w g i cs t fz v hg]
  exact setRow_heap w g cs _ t _ hg
theorem setRow_far {w : World} {g i : Nat} (cs : Array Value) (h : i ≠ g) : (w.setRow g cs).heap[i]? = w.heap[i]? := by
  unfold World.setRow
  rw [Array.getElem?_modify, if_neg (Ne.symm h)]
theorem setRow_size {w : World} {g : Nat} (cs : Array Value) : (w.setRow g cs).heap.size = w.heap.size := by
  unfold World.setRow; simp
theorem Touch.setRow {S : Nat → Prop} {a b : World} (h : Touch S a b) {g : Nat} (hg : S g ∨ a.heap.size ≤ g) (cs : Array Value) : Touch S a (b.setRow g cs) := by
  refine ⟨h.os, h.tape, h.output, by rw [setRow_size]; exact h.size, fun i hi hn => ?_⟩
  have : i ≠ g := by rintro rfl; exact hg.elim hn fun h => absurd h (by omega)
  exact (setRow_far cs this).trans (h.block i hi hn)
/-- three cells are written -/
def set3 (w : World) (g o : Nat) (k : K) : World := ((w.setCell ⟨g, o, none⟩ (.int .i64 k.1)).setCell ⟨g, o + 1, none⟩ (.int .i64 k.2.1)).setCell ⟨g, o + 2, none⟩ (.int .i64 k.2.2)
theorem kscells_set : ∀ (L : List K) (i : Nat) (x : K) (tl : List Value), i < L.length → (((kscells L ++ tl).set (i * 3) (.int .i64 x.1)).set (i * 3 + 1) (.int .i64 x.2.1)).set (i * 3 + 2) (.int .i64 x.2.2) = kscells (L.set i x) ++ tl
  | [], _, _, _, h => by simp at h
  | y :: L, 0, x, tl, _ => by simp [kscells]
  | y :: L, i + 1, x, tl, h => by
    have ih := kscells_set L i x tl (by simpa using h)
    rw [show (i + 1) * 3 = i * 3 + 3 by omega]
    simp only [kscells, List.cons_append, List.set_cons_succ, show i * 3 + 3 + 1 = (i * 3 + 1) + 3 by omega, show i * 3 + 3 + 2 = (i * 3 + 2) + 3 by omega]
    rw [ih]
theorem set3_at {w : World} {g : Nat} {L : List K} {tl : List Value} {e : TypeId} (h : w.heap[g]? = some (.cells (kscells L ++ tl).toArray e (0, 0))) {i : Nat} (hi : i < L.length) (x : K) : (set3 w g (i * 3) x).heap[g]? = some (.cells (kscells (L.set i x) ++ tl).toArray e (0, 0)) := by
  unfold set3
  rw [heap_setCell_any _ g (i * 3 + 2) _ _ _ _ (heap_setCell_any _ g (i * 3 + 1) _ _ _ _ (heap_setCell_any w g (i * 3) _ _ _ _ h))]
  simp only [List.setIfInBounds_toArray]
  rw [kscells_set L i x tl hi]
theorem set3_touch {S : Nat → Prop} {a b : World} (h : Touch S a b) {g : Nat} (hg : S g ∨ a.heap.size ≤ g) (o : Nat) (k : K) : Touch S a (set3 b g o k) := ((h.setCell (by exact hg) _).setCell (by exact hg) _).setCell (by exact hg) _
theorem kscells_append : ∀ (a b : List K), kscells (a ++ b) = kscells a ++ kscells b
  | [], _ => rfl
  | x :: a, b => by simp [kscells, kscells_append a b]
theorem clear33 (w : World) (g o n c ty : Nat) (cur : Array Value) (hg : w.heap[g]? = some (.cells cur 33 (0, 0))) (hn : 0 < n) (hl : o + n * 3 ≤ cur.size) : ∃ zs : List Value, zs.length = n * 3 ∧ (Builtin.clear_ #[55] ty #[.slice (some ⟨g, o, none⟩) n c]).run Try.prog w = .ok (.tuple #[]) (w.setRow g (cur.toList.take o ++ zs ++ cur.toList.drop (o + n * 3)).toArray) := by
  have hz : ∀ W, (zeroValue 33).run Try.prog W = .ok (.agg #[.int .i64 0, .int .i64 0, .int .i64 0]) W := fun W => by kernel_rfl
  have hlen : (Builtin.zeroCells #[.int .i64 0, .int .i64 0, .int .i64 0] n).toList.length = n * 3 := by simp [Builtin.zeroCells]
  refine ⟨(Builtin.zeroCells #[.int .i64 0, .int .i64 0, .int .i64 0] n).toList, hlen, ?_⟩
  have hst := run_storeCells_at (P := Try.prog) g o 33 (Builtin.zeroCells #[.int .i64 0, .int .i64 0, .int .i64 0] n).toList 0 cur w hg (by rw [hlen]; omega) (by
    intro v hv
    simp [Builtin.zeroCells] at hv
    obtain ⟨i, _, rfl⟩ := hv
    have : i % 3 < 3 := Nat.mod_lt _ (by decide)
    generalize i % 3 = m at *
    match m, this with
    | 0, _ => rfl
    | 1, _ => rfl
    | 2, _ => rfl)
  rw [hlen] at hst
  simp only [Nat.add_zero] at hst
  obtain ⟨n, rfl⟩ : ∃ m, n = m + 1 := ⟨n - 1, by omega⟩
  simp [Builtin.clear_, run_underlying Try.underlying55, hz, Result.andThen, Value.cells]
  rw [hst]
  simp
theorem filter_take {ks : List K} {k x : K} {j : Nat} (h : ks[j]? = some x) : (ks.take (j + 1)).filter (fun y => decide (y ≠ k)) = (ks.take j).filter (fun y => decide (y ≠ k)) ++ (if x = k then [] else [x]) := by
  rw [List.take_add_one, h, List.filter_append]
  by_cases hx : x = k <;> simp [hx]
theorem kcell {w : World} {g : Nat} {L : List K} {tl : List Value} (h : w.heap[g]? = some (.cells (kscells L ++ tl).toArray 33 (0, 0))) {i : Nat} {x : K} (hi : L[i]? = some x) : w.cell? ⟨g, i * 3, none⟩ = some (.int .i64 x.1) ∧ w.cell? ⟨g, i * 3 + 1, none⟩ = some (.int .i64 x.2.1) ∧ w.cell? ⟨g, i * 3 + 2, none⟩ = some (.int .i64 x.2.2) ∧ ∀ o, w.frozen? ⟨g, o, none⟩ = false := by
  obtain ⟨h1, h2, h3⟩ := kscells_get L i x hi
  have z : ∀ (o : Nat) (v : Value), (kscells L)[o]? = some v → w.cell? ⟨g, o, none⟩ = some v := fun o v ho => by
    rw [cell_of_row w g o _ _ _ h]
    have := (List.getElem?_eq_some_iff.1 ho).1
    simp [List.getElem?_append_left this, ho]
  exact ⟨z _ _ h1, z _ _ h2, z _ _ h3, fun o => by simp [World.frozen?, h]⟩
def without (ks : List K) (k : K) : List K := ks.filter fun y => decide (y ≠ k)
set_option maxRecDepth 100000 in
set_option maxHeartbeats 4000000 in
theorem delete27 (w : World) (v : Value) (n : Nat) (ks : List K) (h : w.ownsRow 0 33 3 v n (kscells ks)) (hn : n ≤ 1000000) (hks : ks.length = n) (B : Nat) (k : K) (hB : Box w B k) (hBv : v.ownBlock ≠ some B) : Calls Try.prog 26 #[v, .func (.func 27) #[] #[.pointer (some ⟨B, 0, none⟩)]] w fun e w' => ∃ v', e = .returned v' ∧ v'.ownBlock = v.ownBlock ∧ w'.ownsRow 0 33 3 v' (without ks k).length (kscells (without ks k)) ∧ Touch (fun b => v.ownBlock = some b) w w' := by
  obtain ⟨A, c, rfl⟩ := row_sl h
  subst hks
  have HI := Lib.hid (index27 w (fun _ => True) A c ks ((row_flat h).mono fun _ _ => trivial) hn B k hB)
  have H := Lib.hid h
  have HX := Lib.hid hB
  clear h hB
  go_enter Try.func26, Try.ntmps26
  go_wp2_with fail
  refine (HI.out).mono ?_
  rintro e w1 ⟨hi, hb1⟩
  have HB1 := Lib.hid hb1
  clear hb1
  rcases hi with ⟨rfl, hno⟩ | ⟨i, rfl, hi, hmin⟩
  · have hw : without ks k = ks := by
      unfold without
      rw [List.filter_eq_self]
      intro x hx
      simp
      rintro rfl; exact hno hx
    have HW := Lib.hid hw
    clear hw
    go_wp2_with fail
    go_ret
    rw [HW.out]
    exact ⟨_, rfl, rfl, row_of H.out fun g hg => HB1.out.block g (H.out.lt g hg).2, .of_below HB1.out⟩
  · have hil := (List.getElem?_eq_some_iff.1 hi).1
    obtain ⟨g, cap, cur, hv, _, hg, hcap, hcm, hcs, htk⟩ := (H.out.2).resolve_left (by
      rintro ⟨h1, h2⟩
      have := H.out.1
      rw [h2] at this
      simp at this
      omega)
    injection hv with e1 e2 e3
    subst e1 e3
    obtain ⟨tl, htl⟩ : ∃ tl, cur.toList.drop (ks.length * 3) = tl := ⟨_, rfl⟩
    have hcur : cur = (kscells ks ++ tl).toArray := by
      rw [← htk, ← htl, List.take_append_drop]
    have htll : tl.length = (c - ks.length) * 3 := by rw [← htl, List.length_drop, Array.length_toList, hcs]; omega
    rw [hcur] at hg
    have hBg : B ≠ g := fun e => hBv (by rw [e]; rfl)
    have hlB : B < w.heap.size := (Array.getElem?_eq_some_iff.1 HX.out).1
    have hlg : g < w.heap.size := (Array.getElem?_eq_some_iff.1 hg).1
    have hst : without (ks.take (i + 1)) k = ks.take i := by
      show (ks.take (i + 1)).filter _ = _
      rw [filter_take hi, if_pos rfl, List.append_nil, List.filter_eq_self]
      intro x hx
      obtain ⟨m, hm⟩ := List.getElem?_of_mem hx
      rw [List.getElem?_take] at hm
      split at hm
      · rename_i hmi
        simp
        rintro rfl
        exact hmin m hmi hm
      · cases hm
    have HG := Lib.hid hg
    have HST := Lib.hid hst
    have HTL := Lib.hid htll
    clear hg hcur htl htk hcs hst htll hmin hi H
    have hi0 : ((i : Int) == -1) = false := beq_eq_false_iff_ne.2 (by omega)
    go_wp2_with fail
    go_loopw [5, 6] (fun x y wr => ∃ (i j : Nat) (L : List K), i < j ∧ j ≤ ks.length ∧ x = .int .i64 (i : Int) ∧ y = .int .i64 (j : Int) ∧ L.length = ks.length ∧ L.take i = without (ks.take j) k ∧ L.drop j = ks.drop j ∧ wr.heap[g]? = some (.cells (kscells L ++ tl).toArray 33 (0, 0)) ∧ Touch (fun b => b = g) w wr) (fun _ y _ => ks.length - (intOf y).toNat)
    case atStart => exact ⟨i, i + 1, ks, by omega, by omega, rfl, by go_num, rfl, HST.out.symm, rfl, (HB1.out.block g hlg).trans HG.out, .of_below HB1.out⟩
    case round =>
      obtain ⟨i, j, L, hij, hj, rfl, rfl, hL, hpre, hsuf, hg, ht⟩ := hrel
      have HP := Lib.hid hpre
      have HSf := Lib.hid hsuf
      have HG := Lib.hid hg
      have HT := Lib.hid ht
      have HL := Lib.hid hL
      clear hpre hsuf hg ht hL
      by_cases hlt : j < ks.length
      · have hjl : (j : Int) < ks.length := by omega
        obtain ⟨x, hx⟩ : ∃ x, ks[j]? = some x := ⟨_, List.getElem?_eq_getElem hlt⟩
        have hxL : L[j]? = some x := by
          have e := congrArg (fun l => l[0]?) HSf.out
          simpa [List.getElem?_drop, hx] using e
        have hLi : ∃ y, L[i]? = some y := ⟨_, List.getElem?_eq_getElem (by have := HL.out; omega)⟩
        obtain ⟨y, hy⟩ := hLi
        obtain ⟨k0, k1, k2, _⟩ := kcell HG.out hxL
        obtain ⟨wa, hwa⟩ : ∃ W, wr.alloc (.cells #[.int .i64 x.1, .int .i64 x.2.1, .int .i64 x.2.2] 33) = W := ⟨_, rfl⟩
        have hlr : g < wr.heap.size := (Array.getElem?_eq_some_iff.1 HG.out).1
        have hwb : Below wr.heap.size wr wa := by rw [← hwa]; exact (Below.refl _ _).alloc (Nat.le_refl _) _
        have hga := (hwb.block g hlr).trans HG.out
        have hxa : Box wa wr.heap.size x := by rw [← hwa]; exact heap_alloc_new wr _
        have hBr : Box wr B k := (HT.out.block B hlB (fun e => hBg e)).trans HX.out
        have hBa : Box wa B k := (hwb.block B (Array.getElem?_eq_some_iff.1 hBr).1).trans hBr
        have HC := Lib.hid (clos27 wa B k x hBa)
        have hTa := HT.out.trans (.of_below hwb) (S' := fun _ => False) (fun _ _ h => h.elim)
        have HY := Lib.hid hy
        have HXX := Lib.hid hx
        have HGa := Lib.hid hga
        have HXa := Lib.hid hxa
        have HWA := Lib.hid hwa
        have HTa := Lib.hid hTa
        clear hy hx hxL hwb hga hxa hBr hBa hwa hTa
        unfold kv at HC
        go_upto_region 8 with (fail)
        rw [HWA.out]
        clear k0 k1 k2
        obtain ⟨k0, k1, k2⟩ := HXa.out.cells
        go_wp2_with fail
        refine (HC.out).mono ?_
        rintro e w3 ⟨rfl, hb3⟩
        have hg3 := (hb3.block g (Array.getElem?_eq_some_iff.1 HGa.out).1).trans HGa.out
        have hx3 : Box w3 wr.heap.size x := (hb3.block _ (Array.getElem?_eq_some_iff.1 HXa.out).1).trans HXa.out
        have ht3 := HTa.out.trans (.of_below hb3) (S' := fun _ => False) (fun _ _ h => h.elim)
        have HT3 := Lib.hid ht3
        have HG3 := Lib.hid hg3
        have HX3 := Lib.hid hx3
        clear k0 k1 k2 hb3 hg3 hx3 ht3
        by_cases hxk : x = k
        · rw [decide_eq_true hxk]
          go_wp2_with fail
          go_roundw
          case rel => exact ⟨i, j + 1, L, by omega, by omega, rfl, by go_num, HL.out, by rw [HP.out]; show _ = (ks.take (j + 1)).filter _; rw [filter_take HXX.out, if_pos hxk, List.append_nil]; rfl, by rw [← List.drop_drop, HSf.out, List.drop_drop], HG3.out, HT3.out⟩
          case measure => simp [intOf]; omega
        · rw [decide_eq_false hxk]
          obtain ⟨k0, k1, k2⟩ := HX3.out.cells
          obtain ⟨m0, m1, m2, mf⟩ := kcell HG3.out HY.out
          have f0 := mf (i * 3)
          have f1 := mf (i * 3 + 1)
          have f2 := mf (i * 3 + 2)
          go_wp2_with fail
          go_roundw
          case rel =>
            have hil : i < L.length := by have := HL.out; omega
            refine ⟨i + 1, j + 1, L.set i x, by omega, by omega, by go_num, by go_num, by rw [List.length_set]; exact HL.out, ?_, ?_, set3_at HG3.out hil x, set3_touch HT3.out (.inl rfl) _ x⟩
            · show _ = (ks.take (j + 1)).filter _
              rw [filter_take HXX.out, if_neg hxk, List.take_add_one, List.getElem?_set_self hil, List.take_set_of_le (Nat.le_refl i), HP.out]
              rfl
            · rw [List.drop_set_of_lt (by omega), ← List.drop_drop, HSf.out, List.drop_drop]
          case measure => simp [intOf]; omega
      · obtain rfl : j = ks.length := by omega
        have hcn : ks.length ≤ c := hcap
        have hii : (i : Int) ≤ ks.length := by omega
        have hLl := HL.out
        have hTl := HTL.out
        have hW : L.take i = without ks k := by rw [HP.out, List.take_length]
        have hWl : (without ks k).length = i := by rw [← hW, List.length_take]; omega
        have hsz : (kscells L ++ tl).toArray.size = c * 3 := by rw [List.size_toArray, List.length_append, kscells_length, hLl, hTl]; omega
        have htk : (kscells L ++ tl).take (i * 3) = kscells (without ks k) := by
          rw [← hW, ← List.take_append_drop i L, kscells_append, List.append_assoc, List.take_append_of_le_length (by rw [kscells_length, List.length_take]; omega), List.take_of_length_le (by rw [kscells_length, List.length_take]; omega), List.take_append_drop]
        obtain ⟨zs, hzl, hcl⟩ := clear33 wr g (i * 3) (ks.length - i) (c - i) 0 _ HG.out (by omega) (by rw [hsz]; omega)
        obtain ⟨cur', hcur'⟩ : ∃ cur', (List.take (i * 3) (kscells L ++ tl).toArray.toList ++ zs ++ List.drop (i * 3 + (ks.length - i) * 3) (kscells L ++ tl).toArray.toList).toArray = cur' := ⟨_, rfl⟩
        rw [hcur'] at hcl
        have hc1 : cur'.size = c * 3 := by
          rw [← hcur', List.size_toArray, List.length_append, List.length_append, List.length_take, List.length_drop, hzl, Array.length_toList, hsz]
          omega
        have hc2 : cur'.toList.take (i * 3) = kscells (without ks k) := by
          rw [← hcur']
          simp only [List.append_assoc]
          rw [List.take_append_of_le_length (by rw [List.length_take, Array.length_toList, hsz]; omega), List.take_take, Nat.min_self]
          exact htk
        have HZ := Lib.hid hzl
        have HC1 := Lib.hid hc1
        have HC2 := Lib.hid hc2
        have HWl := Lib.hid hWl
        clear hzl hc1 hc2 hcur' htk hsz hW hWl hLl hTl
        go_wp2_with fail
        go_ret
        refine ⟨_, rfl, rfl, ⟨by rw [kscells_length], .inr ⟨g, c, cur', by rw [HWl.out]; rfl, Nat.zero_le _, setRow_heap wr g _ cur' 33 _ HG.out, by rw [HWl.out]; omega, hcm, HC1.out, by rw [HWl.out]; exact HC2.out⟩⟩, ?_⟩
        exact (HT.out.setRow (.inl rfl) cur').mono fun b hb => by rw [hb]; rfl
set_option maxRecDepth 100000 in
set_option maxHeartbeats 4000000 in
theorem delete34 (w : World) (v : Value) (n : Nat) (ks : List K) (h : w.ownsRow 0 33 3 v n (kscells ks)) (hn : n ≤ 1000000) (hks : ks.length = n) (B : Nat) (k : K) (hB : Box w B k) (hBv : v.ownBlock ≠ some B) : Calls Try.prog 26 #[v, .func (.func 34) #[] #[.pointer (some ⟨B, 0, none⟩)]] w fun e w' => ∃ v', e = .returned v' ∧ v'.ownBlock = v.ownBlock ∧ w'.ownsRow 0 33 3 v' (without ks k).length (kscells (without ks k)) ∧ Touch (fun b => v.ownBlock = some b) w w' := by
  obtain ⟨A, c, rfl⟩ := row_sl h
  subst hks
  have HI := Lib.hid (index34 w (fun _ => True) A c ks ((row_flat h).mono fun _ _ => trivial) hn B k hB)
  have H := Lib.hid h
  have HX := Lib.hid hB
  clear h hB
  go_enter Try.func26, Try.ntmps26
  go_wp2_with fail
  refine (HI.out).mono ?_
  rintro e w1 ⟨hi, hb1⟩
  have HB1 := Lib.hid hb1
  clear hb1
  rcases hi with ⟨rfl, hno⟩ | ⟨i, rfl, hi, hmin⟩
  · have hw : without ks k = ks := by
      unfold without
      rw [List.filter_eq_self]
      intro x hx
      simp
      rintro rfl; exact hno hx
    have HW := Lib.hid hw
    clear hw
    go_wp2_with fail
    go_ret
    rw [HW.out]
    exact ⟨_, rfl, rfl, row_of H.out fun g hg => HB1.out.block g (H.out.lt g hg).2, .of_below HB1.out⟩
  · have hil := (List.getElem?_eq_some_iff.1 hi).1
    obtain ⟨g, cap, cur, hv, _, hg, hcap, hcm, hcs, htk⟩ := (H.out.2).resolve_left (by
      rintro ⟨h1, h2⟩
      have := H.out.1
      rw [h2] at this
      simp at this
      omega)
    injection hv with e1 e2 e3
    subst e1 e3
    obtain ⟨tl, htl⟩ : ∃ tl, cur.toList.drop (ks.length * 3) = tl := ⟨_, rfl⟩
    have hcur : cur = (kscells ks ++ tl).toArray := by
      rw [← htk, ← htl, List.take_append_drop]
    have htll : tl.length = (c - ks.length) * 3 := by rw [← htl, List.length_drop, Array.length_toList, hcs]; omega
    rw [hcur] at hg
    have hBg : B ≠ g := fun e => hBv (by rw [e]; rfl)
    have hlB : B < w.heap.size := (Array.getElem?_eq_some_iff.1 HX.out).1
    have hlg : g < w.heap.size := (Array.getElem?_eq_some_iff.1 hg).1
    have hst : without (ks.take (i + 1)) k = ks.take i := by
      show (ks.take (i + 1)).filter _ = _
      rw [filter_take hi, if_pos rfl, List.append_nil, List.filter_eq_self]
      intro x hx
      obtain ⟨m, hm⟩ := List.getElem?_of_mem hx
      rw [List.getElem?_take] at hm
      split at hm
      · rename_i hmi
        simp
        rintro rfl
        exact hmin m hmi hm
      · cases hm
    have HG := Lib.hid hg
    have HST := Lib.hid hst
    have HTL := Lib.hid htll
    clear hg hcur htl htk hcs hst htll hmin hi H
    have hi0 : ((i : Int) == -1) = false := beq_eq_false_iff_ne.2 (by omega)
    go_wp2_with fail
    go_loopw [5, 6] (fun x y wr => ∃ (i j : Nat) (L : List K), i < j ∧ j ≤ ks.length ∧ x = .int .i64 (i : Int) ∧ y = .int .i64 (j : Int) ∧ L.length = ks.length ∧ L.take i = without (ks.take j) k ∧ L.drop j = ks.drop j ∧ wr.heap[g]? = some (.cells (kscells L ++ tl).toArray 33 (0, 0)) ∧ Touch (fun b => b = g) w wr) (fun _ y _ => ks.length - (intOf y).toNat)
    case atStart => exact ⟨i, i + 1, ks, by omega, by omega, rfl, by go_num, rfl, HST.out.symm, rfl, (HB1.out.block g hlg).trans HG.out, .of_below HB1.out⟩
    case round =>
      obtain ⟨i, j, L, hij, hj, rfl, rfl, hL, hpre, hsuf, hg, ht⟩ := hrel
      have HP := Lib.hid hpre
      have HSf := Lib.hid hsuf
      have HG := Lib.hid hg
      have HT := Lib.hid ht
      have HL := Lib.hid hL
      clear hpre hsuf hg ht hL
      by_cases hlt : j < ks.length
      · have hjl : (j : Int) < ks.length := by omega
        obtain ⟨x, hx⟩ : ∃ x, ks[j]? = some x := ⟨_, List.getElem?_eq_getElem hlt⟩
        have hxL : L[j]? = some x := by
          have e := congrArg (fun l => l[0]?) HSf.out
          simpa [List.getElem?_drop, hx] using e
        have hLi : ∃ y, L[i]? = some y := ⟨_, List.getElem?_eq_getElem (by have := HL.out; omega)⟩
        obtain ⟨y, hy⟩ := hLi
        obtain ⟨k0, k1, k2, _⟩ := kcell HG.out hxL
        obtain ⟨wa, hwa⟩ : ∃ W, wr.alloc (.cells #[.int .i64 x.1, .int .i64 x.2.1, .int .i64 x.2.2] 33) = W := ⟨_, rfl⟩
        have hlr : g < wr.heap.size := (Array.getElem?_eq_some_iff.1 HG.out).1
        have hwb : Below wr.heap.size wr wa := by rw [← hwa]; exact (Below.refl _ _).alloc (Nat.le_refl _) _
        have hga := (hwb.block g hlr).trans HG.out
        have hxa : Box wa wr.heap.size x := by rw [← hwa]; exact heap_alloc_new wr _
        have hBr : Box wr B k := (HT.out.block B hlB (fun e => hBg e)).trans HX.out
        have hBa : Box wa B k := (hwb.block B (Array.getElem?_eq_some_iff.1 hBr).1).trans hBr
        have HC := Lib.hid (clos34 wa B k x hBa)
        have hTa := HT.out.trans (.of_below hwb) (S' := fun _ => False) (fun _ _ h => h.elim)
        have HY := Lib.hid hy
        have HXX := Lib.hid hx
        have HGa := Lib.hid hga
        have HXa := Lib.hid hxa
        have HWA := Lib.hid hwa
        have HTa := Lib.hid hTa
        clear hy hx hxL hwb hga hxa hBr hBa hwa hTa
        unfold kv at HC
        go_upto_region 8 with (fail)
        rw [HWA.out]
        clear k0 k1 k2
        obtain ⟨k0, k1, k2⟩ := HXa.out.cells
        go_wp2_with fail
        refine (HC.out).mono ?_
        rintro e w3 ⟨rfl, hb3⟩
        have hg3 := (hb3.block g (Array.getElem?_eq_some_iff.1 HGa.out).1).trans HGa.out
        have hx3 : Box w3 wr.heap.size x := (hb3.block _ (Array.getElem?_eq_some_iff.1 HXa.out).1).trans HXa.out
        have ht3 := HTa.out.trans (.of_below hb3) (S' := fun _ => False) (fun _ _ h => h.elim)
        have HT3 := Lib.hid ht3
        have HG3 := Lib.hid hg3
        have HX3 := Lib.hid hx3
        clear k0 k1 k2 hb3 hg3 hx3 ht3
        by_cases hxk : x = k
        · rw [decide_eq_true hxk]
          go_wp2_with fail
          go_roundw
          case rel => exact ⟨i, j + 1, L, by omega, by omega, rfl, by go_num, HL.out, by rw [HP.out]; show _ = (ks.take (j + 1)).filter _; rw [filter_take HXX.out, if_pos hxk, List.append_nil]; rfl, by rw [← List.drop_drop, HSf.out, List.drop_drop], HG3.out, HT3.out⟩
          case measure => simp [intOf]; omega
        · rw [decide_eq_false hxk]
          obtain ⟨k0, k1, k2⟩ := HX3.out.cells
          obtain ⟨m0, m1, m2, mf⟩ := kcell HG3.out HY.out
          have f0 := mf (i * 3)
          have f1 := mf (i * 3 + 1)
          have f2 := mf (i * 3 + 2)
          go_wp2_with fail
          go_roundw
          case rel =>
            have hil : i < L.length := by have := HL.out; omega
            refine ⟨i + 1, j + 1, L.set i x, by omega, by omega, by go_num, by go_num, by rw [List.length_set]; exact HL.out, ?_, ?_, set3_at HG3.out hil x, set3_touch HT3.out (.inl rfl) _ x⟩
            · show _ = (ks.take (j + 1)).filter _
              rw [filter_take HXX.out, if_neg hxk, List.take_add_one, List.getElem?_set_self hil, List.take_set_of_le (Nat.le_refl i), HP.out]
              rfl
            · rw [List.drop_set_of_lt (by omega), ← List.drop_drop, HSf.out, List.drop_drop]
          case measure => simp [intOf]; omega
      · obtain rfl : j = ks.length := by omega
        have hcn : ks.length ≤ c := hcap
        have hii : (i : Int) ≤ ks.length := by omega
        have hLl := HL.out
        have hTl := HTL.out
        have hW : L.take i = without ks k := by rw [HP.out, List.take_length]
        have hWl : (without ks k).length = i := by rw [← hW, List.length_take]; omega
        have hsz : (kscells L ++ tl).toArray.size = c * 3 := by rw [List.size_toArray, List.length_append, kscells_length, hLl, hTl]; omega
        have htk : (kscells L ++ tl).take (i * 3) = kscells (without ks k) := by
          rw [← hW, ← List.take_append_drop i L, kscells_append, List.append_assoc, List.take_append_of_le_length (by rw [kscells_length, List.length_take]; omega), List.take_of_length_le (by rw [kscells_length, List.length_take]; omega), List.take_append_drop]
        obtain ⟨zs, hzl, hcl⟩ := clear33 wr g (i * 3) (ks.length - i) (c - i) 0 _ HG.out (by omega) (by rw [hsz]; omega)
        obtain ⟨cur', hcur'⟩ : ∃ cur', (List.take (i * 3) (kscells L ++ tl).toArray.toList ++ zs ++ List.drop (i * 3 + (ks.length - i) * 3) (kscells L ++ tl).toArray.toList).toArray = cur' := ⟨_, rfl⟩
        rw [hcur'] at hcl
        have hc1 : cur'.size = c * 3 := by
          rw [← hcur', List.size_toArray, List.length_append, List.length_append, List.length_take, List.length_drop, hzl, Array.length_toList, hsz]
          omega
        have hc2 : cur'.toList.take (i * 3) = kscells (without ks k) := by
          rw [← hcur']
          simp only [List.append_assoc]
          rw [List.take_append_of_le_length (by rw [List.length_take, Array.length_toList, hsz]; omega), List.take_take, Nat.min_self]
          exact htk
        have HZ := Lib.hid hzl
        have HC1 := Lib.hid hc1
        have HC2 := Lib.hid hc2
        have HWl := Lib.hid hWl
        clear hzl hc1 hc2 hcur' htk hsz hW hWl hLl hTl
        go_wp2_with fail
        go_ret
        refine ⟨_, rfl, rfl, ⟨by rw [kscells_length], .inr ⟨g, c, cur', by rw [HWl.out]; rfl, Nat.zero_le _, setRow_heap wr g _ cur' 33 _ HG.out, by rw [HWl.out]; omega, hcm, HC1.out, by rw [HWl.out]; exact HC2.out⟩⟩, ?_⟩
        exact (HT.out.setRow (.inl rfl) cur').mono fun b hb => by rw [hb]; rfl
end Go.Proofs.Ytphckenihkgoeaa
