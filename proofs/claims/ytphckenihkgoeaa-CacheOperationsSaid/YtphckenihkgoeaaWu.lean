import Derived.Test.YtphckenihkgoeaaWt
namespace Go.Proofs.Ytphckenihkgoeaa
set_option linter.unusedSimpArgs false
set_option linter.unnecessarySimpa false
set_option linter.unusedVariables false
open Go.RowKit
attribute [local go_sem ↓] Go.wp_at_zero Go.wp_at_succ

theorem bs40 (W : World) : (Instr.buildSlice 40 0 #[]).run Try.prog W = .ok (.slice (some ⟨W.heap.size, 0, none⟩) 0 0) (W.alloc (.cells #[] 75)) := by
  have e : Array.map (fun _ : Nat => (default : Value)) (Array.range 0) = #[] := by simp
  simp [Instr.buildSlice, e, Instr.fill, go_sem]
attribute [local go_sem ↓] bs22 bs40
/-- an item of the reference -/
structure RI where
  key : K
  l : List Chg
  A : Option Addr
  c : Nat
def ri (r : RI) : K × List Chg := (r.key, r.l)
def ricells : List RI → List Value
  | [] => []
  | r :: l => .int .i64 r.key.1 :: .int .i64 r.key.2.1 :: .int .i64 r.key.2.2 :: .slice r.A r.l.length r.c :: ricells l
theorem ricells_length : ∀ l : List RI, (ricells l).length = l.length * 4
  | [] => rfl
  | x :: l => by simp [ricells, ricells_length l]; omega
theorem ricells_append : ∀ (a b : List RI), ricells (a ++ b) = ricells a ++ ricells b
  | [], _ => rfl
  | x :: a, b => by simp [ricells, ricells_append a b]
theorem ricells_get : ∀ (l : List RI) (i : Nat) (x : RI), l[i]? = some x → (ricells l)[i * 4]? = some (.int .i64 x.key.1) ∧ (ricells l)[i * 4 + 1]? = some (.int .i64 x.key.2.1) ∧ (ricells l)[i * 4 + 2]? = some (.int .i64 x.key.2.2) ∧ (ricells l)[i * 4 + 3]? = some (.slice x.A x.l.length x.c)
  | [], _, _, h => by simp at h
  | y :: l, 0, x, h => by simp at h; subst h; exact ⟨rfl, rfl, rfl, rfl⟩
  | y :: l, i + 1, x, h => by
    have := ricells_get l i x (by simpa using h)
    rw [show (i + 1) * 4 = i * 4 + 1 + 1 + 1 + 1 by omega]
    exact this
theorem one_ri : ∀ l : List RI, ∀ u ∈ ricells l, u.oneCell' = true
  | [], _, h => by simp [ricells] at h
  | x :: l, u, h => by
    simp only [ricells, List.mem_cons] at h
    rcases h with rfl | rfl | rfl | rfl | h
    · rfl
    · rfl
    · rfl
    · rfl
    · exact one_ri l u h
/-- the items of the reference, in blocks of T -/
structure RL (w : World) (T : Nat → Prop) (A : Option Addr) (rs : List RI) : Prop where
  fl : Flat w T A (ricells rs)
  ls : ∀ r ∈ rs, Chgs w T r.A r.l
theorem RL.frame {w w' : World} {T : Nat → Prop} {A : Option Addr} {rs : List RI} (h : RL w T A rs) (hf : ∀ k, T k → k < w.heap.size → w'.heap[k]? = w.heap[k]?) : RL w' T A rs := ⟨h.fl.frame hf, fun r hr => (h.ls r hr).frame hf⟩
theorem RL.mono {w : World} {T T' : Nat → Prop} {A : Option Addr} {rs : List RI} (h : RL w T A rs) (hT : ∀ k, T k → T' k) : RL w T' A rs := ⟨h.fl.mono hT, fun r hr => (h.ls r hr).mono hT⟩
theorem ri_cells {w : World} {T : Nat → Prop} {A : Option Addr} {rs : List RI} (h : Flat w T A (ricells rs)) {i : Nat} {x : RI} (hi : rs[i]? = some x) : ∃ a, A = some a ∧ T a.block ∧ w.cell? (a.add (i * 4)) = some (.int .i64 x.key.1) ∧ w.cell? ⟨(a.add (i * 4)).block, (a.add (i * 4)).off + 1, none⟩ = some (.int .i64 x.key.2.1) ∧ w.cell? ⟨(a.add (i * 4)).block, (a.add (i * 4)).off + 2, none⟩ = some (.int .i64 x.key.2.2) ∧ w.cell? ⟨(a.add (i * 4)).block, (a.add (i * 4)).off + 3, none⟩ = some (.slice x.A x.l.length x.c) := by
  obtain ⟨h1, h2, h3, h3'⟩ := ricells_get rs i x hi
  obtain ⟨a, rfl, h4, h5⟩ := h _ _ h1
  obtain ⟨a', e, _, h6⟩ := h _ _ h2
  cases e
  obtain ⟨a', e, _, h7⟩ := h _ _ h3
  cases e
  obtain ⟨a', e, _, h8⟩ := h _ _ h3'
  cases e
  exact ⟨a, rfl, h4, h5, by rw [add_succ a _ 1 (by decide)]; exact h6, by rw [add_succ a _ 2 (by decide)]; exact h7, by rw [add_succ a _ 3 (by decide)]; exact h8⟩
/-- an item in a box -/
def RBox (w : World) (B : Nat) (r : RI) : Prop := w.heap[B]? = some (.cells #[.int .i64 r.key.1, .int .i64 r.key.2.1, .int .i64 r.key.2.2, .slice r.A r.l.length r.c] 75 (0, 0))
theorem push_item (w : World) (v : Value) (rs : List RI) (n : Nat) (hown : w.ownsRow 0 75 4 v n (ricells rs)) (hn : n ≤ 900000) (g : Nat) (r : RI) (hB : RBox w g r) : ∃ v' w', (Builtin.append_ #[40, 40] 40 #[v, .slice (some ⟨g, 0, none⟩) 1 1]).run Try.prog w = .ok v' w' ∧ w'.ownsRow 0 75 4 v' (n + 1) (ricells (rs ++ [r])) ∧ w.grownBy w' v.ownBlock ∧ (v'.ownBlock = v.ownBlock ∨ (v'.ownBlock = some w.heap.size ∧ w.heap.size < w'.heap.size)) := by
  obtain ⟨v', w', h1, h2, h3, h4⟩ := append_at (P := Try.prog) w 40 40 75 _ _ 4 48 Try.underlying40 rfl rfl rfl rfl rfl (by decide) v n (ricells rs) hown ⟨g, 0, none⟩ 1 1 (ricells [r]) rfl (fun j u hj => by
    rw [Addr.add_lit, cell_of_row w g _ _ _ _ hB]
    match j, hj with
    | 0, hj => cases hj; rfl
    | 1, hj => cases hj; rfl
    | 2, hj => cases hj; rfl
    | 3, hj => cases hj; rfl) (one_ri _) (by omega) (by decide) (by decide)
  exact ⟨v', w', h1, by rw [ricells_append]; exact h2, h3, h4⟩
/-- the reference's cache -/
def rcv (cap : Int) (v : Value) (h m : Int) : Value := .agg #[.int .i64 cap, v, .int .i64 h, .int .i64 m]
def rcs (cap : Int) (v : Value) (h m : Int) : Array Value := #[.int .i64 cap, v, .int .i64 h, .int .i64 m]
theorem rcell {w : World} {B : Nat} {cap : Int} {v : Value} {h m : Int} (hb : w.heap[B]? = some (.cells (rcs cap v h m) 42 (0, 0))) : w.cell? ⟨B, 0, none⟩ = some (.int .i64 cap) ∧ w.cell? ⟨B, 1, none⟩ = some v ∧ w.cell? ⟨B, 2, none⟩ = some (.int .i64 h) ∧ w.cell? ⟨B, 3, none⟩ = some (.int .i64 m) ∧ ∀ i, w.frozen? ⟨B, i, none⟩ = false := by
  refine ⟨?_, ?_, ?_, ?_, fun i => by simp [World.frozen?, hb]⟩ <;> (rw [cell_of_row w B _ _ _ _ hb]; rfl)
theorem tot_take {its : Items} {j : Nat} {p : K × List Chg} (h : its[j]? = some p) : tot (its.take (j + 1)) = tot (its.take j) + weight p.2 := by
  rw [(take_more h).1, tot_append]
  simp [tot]
theorem tot_bound {its : Items} (h : ∀ p ∈ its, SmallP p) : 0 ≤ tot its ∧ tot its ≤ 1073741824 * its.length := by
  induction its with
  | nil => simp [tot]
  | cons p its ih =>
    have ih := ih fun q hq => h q (List.mem_cons_of_mem _ hq)
    have hp := weight_pos (h p (List.mem_cons_self ..))
    rw [tot_cons]
    simp only [List.length_cons]
    omega
theorem rtotal_walk (w : World) (T : Nat → Prop) (cap : Int) (A : Option Addr) (c : Nat) (h m : Int) (rs : List RI) (hr : RL w T A rs) (hn : rs.length ≤ 1000000) (hs : ∀ r ∈ rs, SmallP (ri r)) : Calls Try.prog 29 #[rcv cap (.slice A rs.length c) h m] w fun e w' => e = .returned (.int .i64 (tot (rs.map ri))) ∧ Below w.heap.size w w' := by
  have HR := Lib.hid hr
  have HS := Lib.hid hs
  obtain ⟨W1, hW1⟩ : ∃ W, w.alloc (.cells (rcs cap (.slice A rs.length c) h m) 42) = W := ⟨_, rfl⟩
  have hX1 : W1.heap[w.heap.size]? = some (.cells (rcs cap (.slice A rs.length c) h m) 42 (0, 0)) := by rw [← hW1]; exact heap_alloc_new w _
  have hb1 : Below w.heap.size w W1 := by rw [← hW1]; exact (Below.refl _ _).alloc (Nat.le_refl _) _
  have HX1 := Lib.hid hX1
  have HB1 := Lib.hid hb1
  have HW1 := Lib.hid hW1
  clear hr hs hX1 hb1 hW1
  unfold rcv
  go_enter Try.func29, Try.ntmps29
  go_upto_region 1 with (fail)
  rw [show w.alloc (.cells #[.int .i64 cap, .slice A rs.length c, .int .i64 h, .int .i64 m] 42) = W1 from HW1.out]
  obtain ⟨_, x1, _, _, _⟩ := rcell HX1.out
  go_wp2_with fail
  go_loopw [4, 3] (fun i n wr => ∃ k : Nat, k ≤ rs.length ∧ i = .int .i64 (k : Int) ∧ n = .int .i64 (tot ((rs.map ri).take k)) ∧ W1 = wr) (fun i _ _ => rs.length - (intOf i).toNat)
  case atStart => exact ⟨0, Nat.zero_le _, rfl, by simp [tot], rfl⟩
  case round =>
    obtain ⟨k, hk, rfl, rfl, rfl⟩ := hrel
    by_cases hlt : k < rs.length
    · have hkl : (k : Int) < rs.length := by omega
      obtain ⟨r, hr⟩ : ∃ r, rs[k]? = some r := ⟨_, List.getElem?_eq_getElem hlt⟩
      have hrl := HR.out.frame (w' := W1) fun k _ hl => HB1.out.block k hl
      obtain ⟨a, rfl, _, _, _, _, y3⟩ := ri_cells hrl.fl hr
      have hmem := List.mem_of_getElem? hr
      have hsm := HS.out r hmem
      have HWk := Lib.hid (rweight_walk W1 T r.A r.c r.l (hrl.ls r hmem) (Nat.le_trans hsm.1 (by decide)))
      have ht : tot ((rs.map ri).take (k + 1)) = tot ((rs.map ri).take k) + weight r.l := tot_take (by simp [hr] : (rs.map ri)[k]? = some (ri r))
      have hb := tot_bound (its := (rs.map ri).take k) fun p hp => by
        obtain ⟨q, hq, rfl⟩ := List.mem_map.1 (List.mem_of_mem_take hp)
        exact HS.out q hq
      have hbl : ((rs.map ri).take k).length ≤ 1000000 := by simp; omega
      have hw := weight_pos hsm
      have hw : 16 ≤ weight r.l ∧ weight r.l ≤ 1073741824 := hw
      obtain ⟨t, htt⟩ : ∃ t, tot ((rs.map ri).take k) = t := ⟨_, rfl⟩
      have HTt : Hid (tot ((rs.map ri).take (k + 1)) = t + weight r.l) := Lib.hid (by rw [ht, htt])
      rw [htt] at hb ⊢
      clear hr hrl ht htt hmem
      go_wp2_with fail
      refine (HWk.out).mono ?_
      rintro e _ ⟨rfl, rfl⟩
      go_wp2_with fail
      go_roundw
      case rel => exact ⟨k + 1, by omega, by go_num, val_int (by rw [HTt.out]), trivial⟩
      case measure => simp [intOf]; omega
    · obtain rfl : k = rs.length := by omega
      go_wp2_with fail
      go_ret
      refine ⟨?_, HB1.out⟩
      show Ending.returned (.int .i64 (tot ((rs.map ri).take rs.length))) = _
      rw [List.take_of_length_le (by simp)]
def noR (rs : List RI) (k : K) : List RI := rs.filter fun r => decide (r.key ≠ k)
theorem noR_take {rs : List RI} {k : K} {j : Nat} {r : RI} (h : rs[j]? = some r) : noR (rs.take (j + 1)) k = noR (rs.take j) k ++ (if r.key = k then [] else [r]) := by
  unfold noR
  rw [List.take_add_one, h, List.filter_append]
  by_cases hx : r.key = k <;> simp [hx]
theorem eq48 (a b : K) (w : World) : (binOp .eql 48 (kv a) (kv b)).run Try.prog w = .ok (.bool (decide (a = b))) w := by
  have u3 := Try.underlying3
  have hS : Try.prog.underlying 48 = some (.struct (Try.prog.fieldsOf 48)) := by kernel_rfl
  have hp : Try.prog.stoodInHeld 48 = false := by kernel_rfl
  obtain ⟨a1, a2, a3'⟩ := a
  obtain ⟨b1, b2, b3⟩ := b
  simp only [kv]
  rw [run_eql_struct, show (10000 : Nat) = 9999 + 1 from rfl, run_equalIn_agg w 9999 48 _ _ hS hp]
  simp only [Program.fieldsOf, Try.underlying48]
  go_simp
  by_cases h1 : a1 = b1 <;> by_cases h2 : a2 = b2 <;> by_cases h3 : a3' = b3 <;> simp [h1, h2, h3]
/-- what 'without' answers -/
def WoP (w w' : World) (rs : List RI) (k : K) (e : Ending) : Prop := ∃ v vl b, e = .returned (.tuple #[v, vl, .bool b]) ∧ Below w.heap.size w w' ∧ w'.ownsRow 0 75 4 v (noR rs k).length (ricells (noR rs k)) ∧ (∀ g, v.ownBlock = some g → w.heap.size ≤ g) ∧ ((b = false ∧ ∀ r ∈ rs, r.key ≠ k) ∨ ∃ r ∈ rs, b = true ∧ r.key = k ∧ vl = .slice r.A r.l.length r.c)
set_option maxRecDepth 100000 in
theorem without_walk (w : World) (T : Nat → Prop) (A : Option Addr) (c : Nat) (rs : List RI) (k : K) (hr : RL w T A rs) (hn : rs.length ≤ 900000) : Calls Try.prog 36 #[.slice A rs.length c, kv k] w fun e w' => WoP w w' rs k e := by
  have HR := Lib.hid hr
  obtain ⟨W1, hW1⟩ : ∃ W, w.alloc (.cells #[.int .i64 k.1, .int .i64 k.2.1, .int .i64 k.2.2] 48) = W := ⟨_, rfl⟩
  have hX1 : W1.heap[w.heap.size]? = some (.cells #[.int .i64 k.1, .int .i64 k.2.1, .int .i64 k.2.2] 48 (0, 0)) := by rw [← hW1]; exact heap_alloc_new w _
  have hb1 : Below w.heap.size w W1 := by rw [← hW1]; exact (Below.refl _ _).alloc (Nat.le_refl _) _
  obtain ⟨W2, hW2⟩ : ∃ W, (W1.alloc (.cells #[] 75)).alloc (.cells #[] 35) = W := ⟨_, rfl⟩
  have hs1 : w.heap.size < W1.heap.size := (Array.getElem?_eq_some_iff.1 hX1).1
  have hb2 : Below w.heap.size w W2 := by rw [← hW2]; exact (hb1.alloc hb1.size _).alloc (by simp; omega) _
  have hX2 : W2.heap[w.heap.size]? = some (.cells #[.int .i64 k.1, .int .i64 k.2.1, .int .i64 k.2.2] 48 (0, 0)) := by
    rw [← hW2, Below.heap_alloc _ _ _ (by simp; omega), Below.heap_alloc _ _ _ hs1]; exact hX1
  have hro2 : W2.ownsRow 0 75 4 (.slice (some ⟨W1.heap.size, 0, none⟩) 0 0) 0 (ricells []) := by
    rw [← hW2]
    have h1 : (W1.alloc (.cells #[] 75)).heap[W1.heap.size]? = some (.cells #[] 75 (0, 0)) := heap_alloc_new W1 _
    refine ⟨rfl, .inr ⟨W1.heap.size, 0, #[], rfl, Nat.zero_le _, ?_, Nat.le_refl _, Nat.zero_le _, rfl, rfl⟩⟩
    rw [Below.heap_alloc _ _ _ (by simp)]; exact h1
  have HX2 := Lib.hid hX2
  have HB2 := Lib.hid hb2
  have HW1 := Lib.hid hW1
  have HW2 := Lib.hid hW2
  have HRo2 := Lib.hid hro2
  clear hr hX1 hb1 hW1 hW2 hX2 hb2 hro2
  unfold kv
  go_enter Try.func36, Try.ntmps36
  go_upto_region 1 with (fail)
  rw [HW1.out]
  go_upto_region 3 with (fail)
  rw [HW2.out]
  go_wp2_with fail
  go_loopw [10, 7, 8, 9] (fun i v vl b wr => ∃ j : Nat, j ≤ rs.length ∧ i = .int .i64 (j : Int) ∧ Below w.heap.size w wr ∧ wr.heap[w.heap.size]? = some (.cells #[.int .i64 k.1, .int .i64 k.2.1, .int .i64 k.2.2] 48 (0, 0)) ∧ wr.ownsRow 0 75 4 v (noR (rs.take j) k).length (ricells (noR (rs.take j) k)) ∧ (∀ g, v.ownBlock = some g → w.heap.size < g) ∧ ((b = .bool false ∧ ∀ r ∈ rs.take j, r.key ≠ k) ∨ ∃ r ∈ rs, b = .bool true ∧ r.key = k ∧ vl = .slice r.A r.l.length r.c)) (fun i _ _ _ _ => rs.length - (intOf i).toNat)
  case atStart => exact ⟨0, Nat.zero_le _, rfl, HB2.out, HX2.out, HRo2.out, fun g hg => by simp [Value.ownBlock] at hg; omega, .inl ⟨rfl, fun r hr => by cases hr⟩⟩
  case round =>
    obtain ⟨j, hj, rfl, hb, hx, hro, hown, hcase⟩ := hrel
    have HB := Lib.hid hb
    have HX := Lib.hid hx
    have HRo := Lib.hid hro
    have HOw := Lib.hid hown
    have HCa := Lib.hid hcase
    have hml : (noR (rs.take j) k).length ≤ 900000 := Nat.le_trans (List.length_filter_le _ _) (by rw [List.length_take]; omega)
    clear hb hx hro hown hcase
    by_cases hlt : j < rs.length
    · have hjl : (j : Int) < rs.length := by omega
      obtain ⟨r, hr⟩ : ∃ r, rs[j]? = some r := ⟨_, List.getElem?_eq_getElem hlt⟩
      have hmem := List.mem_of_getElem? hr
      obtain ⟨a, rfl, _, y0, y1, y2, y3⟩ := ri_cells (HR.out.frame fun k _ hl => HB.out.block k hl).fl hr
      have x0 : wr.cell? ⟨w.heap.size, 0, none⟩ = some (.int .i64 k.1) := by rw [cell_of_row wr _ 0 _ _ _ HX.out]; rfl
      have x1 : wr.cell? ⟨w.heap.size, 1, none⟩ = some (.int .i64 k.2.1) := by rw [cell_of_row wr _ 1 _ _ _ HX.out]; rfl
      have x2 : wr.cell? ⟨w.heap.size, 2, none⟩ = some (.int .i64 k.2.2) := by rw [cell_of_row wr _ 2 _ _ _ HX.out]; rfl
      have hq := fun W => eq48 r.key k W
      unfold kv at hq
      have HRR := Lib.hid hr
      clear hr
      by_cases hk : r.key = k
      · rw [decide_eq_true hk] at hq
        go_wp2_with fail
        go_quiet (fail)
        go_wp2_with fail
        go_roundw
        case rel =>
          refine ⟨j + 1, by omega, by go_num, below_drewN HB.out _, HX.out, ?_, HOw.out, .inr ⟨r, hmem, rfl, hk, rfl⟩⟩
          rw [noR_take HRR.out, if_pos hk, List.append_nil]
          exact row_of HRo.out fun _ _ => rfl
        case measure => simp [intOf]; omega
      · rw [decide_eq_false hk] at hq
        go_wp2_with fail
        go_quiet (fail)
        go_upto_region 8 with (fail)
        obtain ⟨v6, w6, hrun, hr6, hg6, hb6⟩ := push_item ((wr.alloc (.cells #[.int .i64 r.key.1, .int .i64 r.key.2.1, .int .i64 r.key.2.2, .slice r.A r.l.length r.c] 75)).drewN nq) u7 _ _ (row_of HRo.out fun g hg => Below.heap_alloc wr _ g (HRo.out.lt g hg).2) hml wr.heap.size r (heap_alloc_new wr _)
        go_wp2_with (at_builtin; refine wpList_append_eq rfl _ _ _ rfl _ _ rfl rfl hrun ?_)
        have hxl := (Array.getElem?_eq_some_iff.1 HX.out).1
        have HRel : Hid (Below w.heap.size w w6 ∧ w6.heap[w.heap.size]? = some (.cells #[.int .i64 k.1, .int .i64 k.2.1, .int .i64 k.2.2] 48 (0, 0)) ∧ w6.ownsRow 0 75 4 v6 (noR (rs.take (j + 1)) k).length (ricells (noR (rs.take (j + 1)) k)) ∧ ∀ g, v6.ownBlock = some g → w.heap.size < g) := Lib.hid (by
          refine ⟨(below_drewN (HB.out.alloc HB.out.size _) nq).grown hg6 (by have := HB.out.size; show w.heap.size ≤ (wr.alloc _).heap.size; simp; omega) (fun g hg => Nat.le_of_lt (HOw.out g hg)), ?_, ?_, fun g hg => ?_⟩
          · refine (hg6.block w.heap.size (by show w.heap.size < (wr.alloc _).heap.size; simp; omega) fun e => ?_).trans ((Below.heap_alloc wr _ _ hxl).trans HX.out)
            have := HOw.out _ e.symm; omega
          · rw [noR_take HRR.out, if_neg hk]; simpa using hr6
          · rcases hb6 with h | ⟨h, _⟩
            · exact HOw.out g (h ▸ hg)
            · rw [h] at hg; injection hg with hg
              have : (wr.alloc (.cells #[.int .i64 r.key.1, .int .i64 r.key.2.1, .int .i64 r.key.2.2, .slice r.A r.l.length r.c] 75)).heap.size = g := hg
              simp at this; omega)
        clear hrun hr6 hg6 hb6
        go_roundw
        case rel =>
          refine ⟨j + 1, by omega, by go_num, HRel.out.1, HRel.out.2.1, HRel.out.2.2.1, HRel.out.2.2.2, ?_⟩
          rcases HCa.out with ⟨h1, h2⟩ | h
          · refine .inl ⟨h1, fun x hx => ?_⟩
            rw [(take_more HRR.out).1] at hx
            rcases List.mem_append.1 hx with hx | hx
            · exact h2 x hx
            · rw [List.mem_singleton.1 hx]; exact hk
          · exact .inr h
        case measure => simp [intOf]; omega
    · obtain rfl : j = rs.length := by omega
      rcases HCa.out with ⟨rfl, h2⟩ | ⟨r, hr, rfl, hk, rfl⟩
      · go_wp2_with fail
        refine bodyPost_ret (v := .tuple #[u7, u8, .bool false]) (by simp [results, Try.results36, go_sem]) rfl ?_
        rw [List.take_length] at HRo h2
        exact ⟨u7, u8, false, rfl, HB.out, HRo.out, fun g hg => Nat.le_of_lt (HOw.out g hg), .inl ⟨rfl, h2⟩⟩
      · go_wp2_with fail
        refine bodyPost_ret (v := .tuple #[u7, .slice r.A r.l.length r.c, .bool true]) (by simp [results, Try.results36, go_sem]) rfl ?_
        rw [List.take_length] at HRo
        exact ⟨u7, _, true, rfl, HB.out, HRo.out, fun g hg => Nat.le_of_lt (HOw.out g hg), .inr ⟨r, hr, rfl, hk, rfl⟩⟩
end Go.Proofs.Ytphckenihkgoeaa
