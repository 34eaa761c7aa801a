import Derived.Test.YtagfnobchdfhfaaWk
import Derived.Laws.MakeOwn
import Derived.Laws.OwnMore
import Derived.Deep.RegionLaw
namespace Go.Proofs.Ytagfnobchdfhfaa
set_option linter.unusedSimpArgs false
set_option linter.unnecessarySimpa false
set_option linter.unusedVariables false
open Go.RowKit
attribute [local go_sem ↓] Go.wp_at_zero Go.wp_at_succ

theorem step_append_eq {P : Program} {ops : Array Oper} {o : Oper} {a : Act} {w : World} {K : Act → World → Prop} {Q : Exit → Act → World → Prop} {E : Prop}
    (hg : o.guard = none) (d x : Operand) (dT sT : TypeId) (hop : o.op = Op.call { callee := Callee.builtin Builtin.append, args := #[d, x], argTypes := #[dT, sT] })
    (v1 v2 v' : Value) (w' : World) (hd : a.eval d = v1) (hx : a.eval x = v2) (hrun : (Builtin.append_ #[dT, sT] o.type #[v1, v2]).run P w = .ok v' w')
    (hK : K (a.put o.dst v') w') : if Region.wanted o (yielded ops a.tmps) = true then Oper.wp P o a w K Q else E := by
  have hw : Region.wanted o (yielded ops a.tmps) = true := by simp [Region.wanted, hg]
  rw [if_pos hw]
  unfold Oper.wp
  simp [execOp, hop, resolve, invoke, builtin, hd, hx, hrun, Result.andThen]
  exact hK
/-- a new disk -/
def dm0 (n : Nat) : DM := ⟨List.replicate n (List.replicate 64 0), List.replicate n false, [], 0, 0, 0, false, -1⟩
structure NkO (B n j : Nat) (w : World) (vd : Value) (dl : List Value) : Prop where
  obj : w.heap[B + 1]? = some (.cells #[vd, .slice (some ⟨B, 0, none⟩) n n, .slice none 0 0, .int .i64 0, .int .i64 0, .int .i64 0, .bool false, .int .i64 (-1)] 69 (0, 0))
  rd : w.ownsRow 0 74 1 vd j dl
  sd : ∀ k, vd.ownBlock = some k → B ≤ k
  rb : w.ownsRow 0 4 1 (.slice (some ⟨B, 0, none⟩) n n) n (List.replicate n (.bool false))
  sec : ∀ i, i < j → ∃ v, dl[i]? = some v ∧ w.ownsRow 0 5 1 v 64 (bcells (List.replicate 64 0)) ∧ ∃ g, v.ownBlock = some g ∧ B ≤ g
  inj : ∀ (i j : Nat) (v v' : Value), dl[i]? = some v → dl[j]? = some v' → v.ownBlock = v'.ownBlock → i = j
theorem NkO.dk {B n : Nat} {w : World} {vd : Value} {dl : List Value} (h : NkO B n n w vd dl) (hn : 0 < n) : DkO (fun k => B ≤ k) (B + 1) (dm0 n) w vd (.slice (some ⟨B, 0, none⟩) n n) (.slice none 0 0) dl := by
  refine ⟨h.obj, Nat.le_succ _, ?_, h.sd, ?_, fun k hk => by simp [Value.ownBlock] at hk; omega, World.ownsRow_nil _ _ _ _, fun k hk => by simp [Value.ownBlock] at hk, fun i b hb => ?_, h.inj, by simpa [dm0] using hn, fun p hp => by cases hp⟩
  · simpa [dm0] using h.rd
  · simpa [dm0] using h.rb
  · have hb' : (List.replicate n (List.replicate 64 (0 : UInt8)))[i]? = some b := hb
    rw [List.getElem?_replicate] at hb'
    split at hb'
    · rename_i hi
      injection hb' with hb'
      subst hb'
      obtain ⟨v, h1, h2, g, h3, h4⟩ := h.sec i hi
      exact ⟨v, h1, h2, g, h3, h4⟩
    · cases hb'
theorem NkO.push {B n j : Nat} {w w3 : World} {vd v' : Value} {dl : List Value} {cz : Array Value} (h : NkO B n j w vd dl) (hcz : cz.size = 64) (hct : cz.toList = bcells (List.replicate 64 0)) (hB : B ≤ w.heap.size)
    (hrow : w3.ownsRow 0 74 1 v' (j + 1) (dl ++ [.slice (some ⟨w.heap.size, 0, none⟩) 64 64])) (hg : ((w.drew.alloc (.cells cz 5)).alloc (.cells #[.slice (some ⟨w.heap.size, 0, none⟩) 64 64] 74)).grownBy w3 vd.ownBlock)
    (hb : v'.ownBlock = vd.ownBlock ∨ (v'.ownBlock = some (w.heap.size + 2) ∧ w.heap.size + 2 < w3.heap.size)) : NkO B n (j + 1) (w3.setCell ⟨B + 1, 0, none⟩ v') v' (dl ++ [.slice (some ⟨w.heap.size, 0, none⟩) 64 64]) ∧ w3.cell? ⟨B + 1, 0, none⟩ = some vd ∧ w3.frozen? ⟨B + 1, 0, none⟩ = false := by
  have lt : ∀ {e size v n xs}, w.ownsRow 0 e size v n xs → ∀ g, v.ownBlock = some g → g < w.heap.size := fun h g hg => (h.lt g hg).2
  have hDl : B + 1 < w.heap.size := (Array.getElem?_eq_some_iff.1 h.obj).1
  have hold : ∀ i, i < w.heap.size → some i ≠ vd.ownBlock → w3.heap[i]? = w.heap[i]? := fun i hi hne => by
    rw [hg.block i (by simp; omega) hne, Below.heap_alloc _ _ i (by simp; omega), Below.heap_alloc _ _ i (by simpa using hi)]; rfl
  have hDv : some (B + 1) ≠ vd.ownBlock := fun hD => by
    obtain ⟨cur, hc⟩ := row_block h.rd hD.symm
    rw [h.obj] at hc
    injection hc with hc; injection hc with _ hc _; exact absurd hc (by decide)
  have hobj := (hold (B + 1) hDl hDv).trans h.obj
  have keep : ∀ {e size v n xs}, w.ownsRow 0 e size v n xs → e ≠ 74 → e ≠ 69 → (w3.setCell ⟨B + 1, 0, none⟩ v').ownsRow 0 e size v n xs := fun {e size v n xs} hr he he' => by
    refine row_of hr fun g hgg => ?_
    have hlt := lt hr g hgg
    have hne : g ≠ B + 1 := fun e' => by
      obtain ⟨cur, hc⟩ := row_block hr hgg
      rw [e', h.obj] at hc
      injection hc with hc; injection hc with _ hc _; exact he' hc.symm
    exact (Below.heap_setCell w3 ⟨B + 1, 0, none⟩ v' g hne).trans (hold g hlt (own_ne hr h.rd he hgg))
  have hv'D : ∀ g, v'.ownBlock = some g → g ≠ B + 1 := fun g hgg e' => by
    obtain ⟨cur, hc⟩ := row_block hrow hgg
    rw [e', hobj] at hc
    injection hc with hc; injection hc with _ hc _; exact absurd hc (by decide)
  have hdl : dl.length = j := by have := h.rd.1; omega
  have hvd2 : some w.heap.size ≠ vd.ownBlock := fun e => absurd (lt h.rd _ e.symm) (by omega)
  refine ⟨⟨?_, ?_, ?_, keep h.rb (by decide) (by decide), ?_, ?_⟩, ?_, ?_⟩
  · rw [heap_setCell_any w3 (B + 1) 0 _ _ _ v' hobj]; rfl
  · exact row_of hrow fun g hgg => Below.heap_setCell w3 ⟨B + 1, 0, none⟩ v' g (hv'D g hgg)
  · intro g hgg
    rcases hb with hb | ⟨hb, hlt⟩
    · rw [hb] at hgg; exact h.sd g hgg
    · rw [hb] at hgg; injection hgg with hgg; omega
  · intro i hi
    by_cases hij : i < j
    · obtain ⟨v, h1, h2, g, h3, h4⟩ := h.sec i hij
      exact ⟨v, by rw [List.getElem?_append_left (by omega)]; exact h1, keep h2 (by decide) (by decide), g, h3, h4⟩
    · obtain rfl : j = i := by omega
      refine ⟨_, by rw [List.getElem?_append_right (by omega), hdl]; simp, ⟨by simp [bcells], .inr ⟨w.heap.size, 64, cz, rfl, Nat.zero_le _, ?_, Nat.le_refl _, by unfold maxLen; omega, by omega, ?_⟩⟩, w.heap.size, rfl, hB⟩
      · rw [Below.heap_setCell w3 ⟨B + 1, 0, none⟩ v' _ (by show w.heap.size ≠ B + 1; omega), hg.block _ (by simp; omega) hvd2, Below.heap_alloc _ _ _ (by simp)]
        exact heap_alloc_new w.drew _
      · rw [hct]; rfl
  · intro i k v v1 hi hk hv
    rcases Nat.lt_or_ge i j with hij | hij <;> rcases Nat.lt_or_ge k j with hkj | hkj
    · rw [List.getElem?_append_left (by omega)] at hi hk
      exact h.inj i k v v1 hi hk hv
    · rw [List.getElem?_append_left (by omega)] at hi
      rw [List.getElem?_append_right (by omega)] at hk
      have hk0 : k - dl.length = 0 := by
        have := (List.getElem?_eq_some_iff.1 hk).1
        simp at this; omega
      rw [hk0] at hk
      injection hk with hk
      subst hk
      obtain ⟨v2, h1, h2, g, h3, h4⟩ := h.sec i hij
      rw [h1] at hi; injection hi with hi; subst hi
      have hv' : g = w.heap.size := by rw [h3] at hv; simpa [Value.ownBlock, eq_comm] using hv
      have := lt h2 g h3
      omega
    · rw [List.getElem?_append_left (by omega)] at hk
      rw [List.getElem?_append_right (by omega)] at hi
      have hk0 : i - dl.length = 0 := by
        have := (List.getElem?_eq_some_iff.1 hi).1
        simp at this; omega
      rw [hk0] at hi
      injection hi with hi
      subst hi
      obtain ⟨v2, h1, h2, g, h3, h4⟩ := h.sec k hkj
      rw [h1] at hk; injection hk with hk; subst hk
      have hv' : g = w.heap.size := by rw [h3] at hv; simpa [Value.ownBlock, eq_comm] using hv
      have := lt h2 g h3
      omega
    · rw [List.getElem?_append_right (by omega)] at hi hk
      have := (List.getElem?_eq_some_iff.1 hi).1
      have := (List.getElem?_eq_some_iff.1 hk).1
      simp at *; omega
  · rw [cell_of_row w3 (B + 1) 0 _ _ _ hobj]; rfl
  · simp [World.frozen?, hobj]
theorem new_walk (n : Nat) (h0 : 0 < n) (h1 : n ≤ 1024) (w : World) : Calls Try.prog 19 #[.int .i64 (n : Int)] w fun e w' => e = .returned (.tuple #[.pointer (some ⟨w.heap.size + 1, 0, none⟩), .int .i64 0]) ∧ Below w.heap.size w w' ∧ Dk (fun k => w.heap.size ≤ k) (w.heap.size + 1) (dm0 n) w' := by
  have hn1 : ¬ (n : Int) < 1 := by omega
  have hn2 : ¬ (1024 : Int) < n := by omega
  have hn3 : (0 : Int) ≤ n := by omega
  obtain ⟨cur, hcur⟩ : ∃ cur, madeCells (Value.bool false).cells (n * 1) = cur := ⟨_, rfl⟩
  have hmk := run_makeSlice (P := Try.prog) w 28 4 _ (.bool false) Try.underlying28 rfl rfl .i64 .i64 (n : Int) (n : Int) hn3 (Int.le_refl _) (by show n * 1 ≤ _; omega) (by show (1 : Int) * n ≤ _; omega) (by omega)
  rw [Int.toNat_natCast] at hmk
  have hmk' : (Instr.makeSlice 28 (.int .i64 (n : Int)) (.int .i64 (n : Int))).run Try.prog w = .ok (.slice (some ⟨w.heap.size, 0, none⟩) n n) (w.alloc (.cells cur 4)) := by rw [← hcur]; exact hmk
  clear hmk
  have HC : Hid (cur.size = n ∧ cur.toList = List.replicate n (.bool false)) := Lib.hid (by
    rw [← hcur]; constructor
    · simp [size_madeCells]
    · rw [Nat.mul_one]; exact toList_madeCells_one _ _)
  clear hcur
  go_enter Try.func19, Try.ntmps19
  go_wp2_with fail
  go_loopw [16] (fun i wr => ∃ j : Nat, j ≤ n ∧ i = .int .i64 (j : Int) ∧ Below w.heap.size w wr ∧ ∃ vd dl, NkO w.heap.size n j wr vd dl) (fun i _ => n - (intOf i).toNat)
  case atStart =>
    refine ⟨0, by omega, rfl, ?_, .slice none 0 0, [], ?_⟩
    · exact ((Below.refl _ _).alloc (Nat.le_refl _) _).alloc (by simp) _
    · refine ⟨?_, World.ownsRow_nil _ _ _ _, fun k hk => by simp [Value.ownBlock] at hk, ?_, fun i hi => by omega, fun i j v v' hi => by simp at hi⟩
      · have e := heap_alloc_new (w.alloc (.cells cur 4)) (.cells #[.slice none 0 0, .slice (some ⟨w.heap.size, 0, none⟩) n n, .slice none 0 0, .int .i64 0, .int .i64 0, .int .i64 0, .bool false, .int .i64 (-1)] 69)
        simpa using e
      · refine ⟨by simp, .inr ⟨w.heap.size, n, cur, rfl, Nat.zero_le _, ?_, Nat.le_refl _, by unfold maxLen; omega, by rw [HC.out.1]; omega, by rw [HC.out.2]; simp⟩⟩
        rw [Below.heap_alloc _ _ _ (by simp)]
        exact heap_alloc_new w _
  case round =>
    obtain ⟨j, hj, rfl, hbel, vd, dl, hnk⟩ := hrel
    have HB := Lib.hid hbel
    have HN := Lib.hid hnk
    clear hmk' hbel
    by_cases hlt : j < n
    · obtain ⟨cz, hcz⟩ : ∃ cur, madeCells (Value.int .u8 0).cells (64 * 1) = cur := ⟨_, rfl⟩
      have hmk := run_makeSlice (P := Try.prog) wr.drew 74 5 _ (.int .u8 0) Try.underlying74 rfl rfl .i64 .i64 64 64 (by decide) (Int.le_refl _) (by decide) (by decide) (by decide)
      have hmk2 : (Instr.makeSlice 74 (.int .i64 64) (.int .i64 64)).run Try.prog wr.drew = .ok (.slice (some ⟨wr.heap.size, 0, none⟩) 64 64) (wr.drew.alloc (.cells cz 5)) := by rw [← hcz]; exact hmk
      have hz1 : cz.size = 64 := by rw [← hcz]; exact size_madeCells _ _
      have hz2 : cz.toList = bcells (List.replicate 64 0) := by rw [← hcz, show (Value.int .u8 0).cells = #[Value.int .u8 0] from rfl, toList_madeCells_one, bcells, List.map_replicate]; rfl
      have n1 : ∀ i u, ([.slice (some ⟨wr.heap.size, 0, none⟩) 64 64] : List Value)[i]? = some u → ((wr.drew.alloc (.cells cz 5)).alloc (.cells #[.slice (some ⟨wr.heap.size, 0, none⟩) 64 64] 74)).cell? ((⟨wr.heap.size + 1, 0, none⟩ : Addr).add i) = some u := by
        intro i u hi
        have hi0 : i = 0 := by have := (List.getElem?_eq_some_iff.1 hi).1; simp at this; exact this
        subst hi0
        injection hi with hi
        subst hi
        have e := heap_alloc_new (wr.drew.alloc (.cells cz 5)) (.cells #[.slice (some ⟨wr.heap.size, 0, none⟩) 64 64] 74)
        have e' : ((wr.drew.alloc (.cells cz 5)).alloc (.cells #[.slice (some ⟨wr.heap.size, 0, none⟩) 64 64] 74)).heap[wr.heap.size + 1]? = some (.cells #[.slice (some ⟨wr.heap.size, 0, none⟩) 64 64] 74 (0, 0)) := by simpa using e
        have := cell_of_row _ (wr.heap.size + 1) 0 _ _ _ e'
        exact this
      have hrd : ((wr.drew.alloc (.cells cz 5)).alloc (.cells #[.slice (some ⟨wr.heap.size, 0, none⟩) 64 64] 74)).ownsRow 0 74 1 vd j dl := row_of hnk.rd fun g hg => by
        have hl := (hnk.rd.lt g hg).2
        rw [Below.heap_alloc _ _ g (by simp; omega), Below.heap_alloc _ _ g (by simpa using hl)]; rfl
      obtain ⟨v', w3, hrun, hrow, hgrown, hblock⟩ := append_at (P := Try.prog) ((wr.drew.alloc (.cells cz 5)).alloc (.cells #[.slice (some ⟨wr.heap.size, 0, none⟩) 64 64] 74)) 66 66 (e := 74) _ _ 1 24 Try.underlying66 rfl rfl rfl rfl rfl (by decide) vd j dl hrd ⟨wr.heap.size + 1, 0, none⟩ 1 1 [.slice (some ⟨wr.heap.size, 0, none⟩) 64 64] rfl n1 (by intro u hu; simp at hu; subst hu; rfl) (by omega) (by decide) (by decide)
      obtain ⟨a', c', rfl⟩ := row_slice hrow
      have hblock' := hblock
      simp at hblock'
      obtain ⟨hf, z2, zf⟩ := hnk.push hz1 hz2 HB.out.size hrow hgrown (by simpa using hblock)
      have HF := Lib.hid hf
      have HT : Hid (Below w.heap.size w (w3.setCell ⟨w.heap.size + 1, 0, none⟩ (.slice a' (j + 1) c'))) := Lib.hid (by
        have g1 : Below w.heap.size w ((wr.drew.alloc (.cells cz 5)).alloc (.cells #[.slice (some ⟨wr.heap.size, 0, none⟩) 64 64] 74)) := by
          have := HB.out.size
          exact ((below_drewN HB.out 1).alloc (by simpa using this) _).alloc (by simp; omega) _
        have g2 : Below w.heap.size w w3 := g1.trans ⟨hgrown.os, hgrown.tape, hgrown.output, hgrown.size, fun i hi => hgrown.block i (Nat.lt_of_lt_of_le hi g1.size) fun e => absurd (hnk.sd i e.symm) (by omega)⟩
        exact g2.setCell (by simp) _)
      have x0 : wr.cell? ⟨w.heap.size + 1, 0, none⟩ = some vd := by rw [cell_of_row wr _ 0 _ _ _ hnk.obj]; rfl
      have x1 : (wr.alloc (.cells cz 5)).cell? ⟨w.heap.size + 1, 0, none⟩ = some vd := by rw [World.cell?_of_block (Below.heap_alloc wr _ _ (World.block_lt_of_cell? wr _ x0))]; exact x0
      have x2 : ((wr.alloc (.cells cz 5)).alloc (.cells #[.slice (some ⟨wr.heap.size, 0, none⟩) 64 64] 74)).cell? ⟨w.heap.size + 1, 0, none⟩ = some vd := by rw [World.cell?_of_block (Below.heap_alloc _ _ _ (World.block_lt_of_cell? _ _ x1))]; exact x1
      have xn := World.new_ne wr _ x0
      have hrun' : (Builtin.append_ #[66, 66] 66 #[vd, .slice (some ⟨wr.heap.size + 1, 0, none⟩) 1 1]).run Try.prog ((wr.alloc (.cells cz 5)).alloc (.cells #[.slice (some ⟨wr.heap.size, 0, none⟩) 64 64] 74)).drew = .ok (.slice a' (j + 1) c') w3 := hrun
      clear hrun
      obtain ⟨ad, cd, rfl⟩ := row_slice hnk.rd
      clear hnk hf hrow hgrown hblock hblock' hrd n1 hmk hcz hz1 hz2
      go_wp2_with fail
      go_region_law (first | (refine step_append_eq rfl _ _ _ _ rfl _ _ _ _ rfl rfl hrun' ?_))
      all_goals
        go_wp2_with fail
        go_roundw
        case rel => exact ⟨j + 1, by omega, by go_num, HT.out, _, _, HF.out⟩
        case measure => simp [intOf]; omega
    · obtain rfl : n = j := by omega
      go_wp2_with fail
      go_ret2
      exact ⟨rfl, HB.out, _, _, _, _, HN.out.dk h0⟩
end Go.Proofs.Ytagfnobchdfhfaa
