import Derived.Test.YtagfnobchdfhfaaWm
import Derived.Test.YtagfnobchdfhfaaRg
namespace Go.Proofs.Ytagfnobchdfhfaa
set_option linter.unusedSimpArgs false
set_option linter.unnecessarySimpa false
set_option linter.unusedVariables false
open Go.RowKit
attribute [local go_sem ↓] Go.wp_at_zero Go.wp_at_succ

/-- an append of one cell at a step of a region, whatever the world -/
theorem step_grow {P : Program} {ops : Array Oper} {o : Oper} {a : Act} {w : World} {K : Act → World → Prop} {Q : Exit → Act → World → Prop} {E : Prop}
    (hg : o.guard = none) (d x : Operand) (t : TypeId) (hop : o.op = Op.call { callee := Callee.builtin Builtin.append, args := #[d, x], argTypes := #[t, t] })
    (e : TypeId) (i : TypeInfo) (z : Value) (bytes : Nat) (ht : P.underlying t = some (.slice e)) (hi : P.info? e = some i) (hz : i.zero = some z) (hsize : i.size = 1) (hby : i.bytes = bytes) (hzs : z.cells.size = 1) (hb : bytes ≤ 1000)
    (v : Value) (n : Nat) (xs : List Value) (X : Nat) (u : Value) (hd : a.eval d = v) (hx : a.eval x = .slice (some ⟨X, 0, none⟩) 1 1) (hown : w.ownsRow 0 e 1 v n xs) (hu : w.cell? ⟨X, 0, none⟩ = some u) (h1 : u.oneCell' = true) (hn : n + 1 ≤ 1000000)
    (hK : ∀ a' c' w', w'.ownsRow 0 e 1 (.slice a' (n + 1) c') (n + 1) (xs ++ [u]) → w.grownBy w' v.ownBlock → ((Value.slice a' (n + 1) c').ownBlock = v.ownBlock ∨ ((Value.slice a' (n + 1) c').ownBlock = some w.heap.size ∧ w.heap.size < w'.heap.size)) → K (a.put o.dst (.slice a' (n + 1) c')) w') :
    if Region.wanted o (yielded ops a.tmps) = true then Oper.wp P o a w K Q else E := by
  obtain ⟨v', w', hrun, hrow, hgr, hbl⟩ := append_at (P := P) w t o.type e i z 1 bytes ht hi hz hsize hby hzs (by decide) v n xs hown ⟨X, 0, none⟩ 1 1 [u] rfl (by
    intro j u' hj
    have hj0 : j = 0 := by have := (List.getElem?_eq_some_iff.1 hj).1; simp at this; exact this
    subst hj0
    injection hj with hj
    subst hj
    exact hu) (by intro u' hu'; simp at hu'; subst hu'; exact h1) hn hb (by decide)
  obtain ⟨a', c', rfl⟩ := row_slice hrow
  exact step_append_eq hg d x t t hop v _ _ w' hd hx hrun (hK a' c' w' hrow hgr hbl)
theorem keep1 (wr : World) (o : Obj) : ∀ i, i < wr.heap.size → (wr.alloc o).drew.heap[i]? = wr.heap[i]? := fun i hi => Below.heap_alloc wr o i hi
theorem keep2 (wr : World) (o o' : Obj) : ∀ i, i < wr.heap.size → ((wr.alloc o).alloc o').drew.heap[i]? = wr.heap[i]? := fun i hi => by
  have := Below.heap_alloc (wr.alloc o) o' i (by simp; omega)
  exact this.trans (Below.heap_alloc wr o i hi)
theorem keep3 (wr : World) (o : Obj) : ∀ i, i < wr.heap.size → (wr.alloc o).heap[i]? = wr.heap[i]? := fun i hi => Below.heap_alloc wr o i hi
/-- a disk of the reference, a value -/
structure RfO (T : Nat → Prop) (d : DM) (w : World) (vd vb vp : Value) : Prop where
  rd : w.ownsRow 0 9 1 vd d.secs.length (d.secs.map fun l => .string (sB l))
  sd : ∀ k, vd.ownBlock = some k → T k
  rb : w.ownsRow 0 4 1 vb d.secs.length (d.bad.map Value.bool)
  sb : ∀ k, vb.ownBlock = some k → T k
  rp : w.ownsRow 0 87 2 vp d.pend.length (pcells d.pend)
  sp : ∀ k, vp.ownBlock = some k → T k
  l64 : ∀ (i : Nat) (b : List UInt8), d.secs[i]? = some b → b.length = 64
  len : 0 < d.secs.length
  fit : ∀ p ∈ d.pend, p.1 < d.secs.length ∧ p.2.size = 64
/-- its value -/
def rv (d : DM) (vd vb vp : Value) : Value := .agg #[vd, vb, vp, .int .i64 d.after, .bool d.failed, .int .i64 d.r, .int .i64 d.wn, .int .i64 d.sy]
def Rf (T : Nat → Prop) (d : DM) (w : World) (v : Value) : Prop := ∃ vd vb vp, v = rv d vd vb vp ∧ RfO T d w vd vb vp
theorem RfO.frame {T : Nat → Prop} {d : DM} {w w' : World} {vd vb vp : Value} (h : RfO T d w vd vb vp) (hf : ∀ k, T k → k < w.heap.size → w'.heap[k]? = w.heap[k]?) : RfO T d w' vd vb vp := by
  have lt : ∀ {e size v n xs}, w.ownsRow 0 e size v n xs → ∀ g, v.ownBlock = some g → g < w.heap.size := fun h g hg => (h.lt g hg).2
  exact ⟨row_of h.rd fun g hg => hf g (h.sd g hg) (lt h.rd g hg), h.sd, row_of h.rb fun g hg => hf g (h.sb g hg) (lt h.rb g hg), h.sb, row_of h.rp fun g hg => hf g (h.sp g hg) (lt h.rp g hg), h.sp, h.l64, h.len, h.fit⟩
theorem RfO.mono {T T' : Nat → Prop} {d : DM} {w : World} {vd vb vp : Value} (h : RfO T d w vd vb vp) (hT : ∀ k, T k → T' k) : RfO T' d w vd vb vp :=
  ⟨h.rd, fun k hk => hT k (h.sd k hk), h.rb, fun k hk => hT k (h.sb k hk), h.rp, fun k hk => hT k (h.sp k hk), h.l64, h.len, h.fit⟩
theorem Rf.frame {T : Nat → Prop} {d : DM} {w w' : World} {v : Value} (h : Rf T d w v) (hf : ∀ k, T k → k < w.heap.size → w'.heap[k]? = w.heap[k]?) : Rf T d w' v := by
  obtain ⟨vd, vb, vp, e, h⟩ := h
  exact ⟨vd, vb, vp, e, h.frame hf⟩
theorem Rf.mono {T T' : Nat → Prop} {d : DM} {w : World} {v : Value} (h : Rf T d w v) (hT : ∀ k, T k → T' k) : Rf T' d w v := by
  obtain ⟨vd, vb, vp, e, h⟩ := h
  exact ⟨vd, vb, vp, e, h.mono hT⟩
/-- a new disk of the reference under way -/
structure RkO (B C j : Nat) (w : World) (vd vb : Value) : Prop where
  obj : w.heap[C]? = some (.cells #[vd, vb, .slice none 0 0, .int .i64 (-1), .bool false, .int .i64 0, .int .i64 0, .int .i64 0] 33 (0, 0))
  hC : B ≤ C
  rd : w.ownsRow 0 9 1 vd j (List.replicate j (.string (fullB ⟨#[]⟩)))
  sd : ∀ k, vd.ownBlock = some k → B ≤ k
  rb : w.ownsRow 0 4 1 vb j (List.replicate j (.bool false))
  sb : ∀ k, vb.ownBlock = some k → B ≤ k
/-- the zero of a disk of the reference -/
def zr33 : Array Value := #[.slice none 0 0, .slice none 0 0, .slice none 0 0, .int .i64 0, .bool false, .int .i64 0, .int .i64 0, .int .i64 0]
theorem RkO.rf {B C n : Nat} {w : World} {vd vb : Value} (h : RkO B C n w vd vb) (hn : 0 < n) : RfO (fun k => B ≤ k) (dm0 n) w vd vb (.slice none 0 0) := by
  have e : sB (List.replicate 64 0) = fullB ⟨#[]⟩ := rfl
  refine ⟨?_, h.sd, ?_, h.sb, World.ownsRow_nil _ _ _ _, fun k hk => by simp [Value.ownBlock] at hk, fun i b hb => ?_, by simpa [dm0] using hn, fun p hp => by cases hp⟩
  · have := h.rd
    rw [← e] at this
    simpa [dm0] using this
  · simpa [dm0] using h.rb
  · have hb' : (List.replicate n (List.replicate 64 (0 : UInt8)))[i]? = some b := hb
    have := List.mem_of_getElem? hb'
    rw [List.mem_replicate] at this
    rw [this.2]; simp
/-- eight cells of a block are written -/
def set8 (w : World) (B : Nat) (v0 v1 v2 v3 v4 v5 v6 v7 : Value) : World := (((((((w.setCell ⟨B, 0, none⟩ v0).setCell ⟨B, 1, none⟩ v1).setCell ⟨B, 2, none⟩ v2).setCell ⟨B, 3, none⟩ v3).setCell ⟨B, 4, none⟩ v4).setCell ⟨B, 5, none⟩ v5).setCell ⟨B, 6, none⟩ v6).setCell ⟨B, 7, none⟩ v7
theorem set8_far (w : World) (B : Nat) (v0 v1 v2 v3 v4 v5 v6 v7 : Value) (g : Nat) (hg : g ≠ B) : (set8 w B v0 v1 v2 v3 v4 v5 v6 v7).heap[g]? = w.heap[g]? := by
  unfold set8
  rw [Below.heap_setCell _ ⟨B, 7, none⟩ _ g hg, Below.heap_setCell _ ⟨B, 6, none⟩ _ g hg, Below.heap_setCell _ ⟨B, 5, none⟩ _ g hg, Below.heap_setCell _ ⟨B, 4, none⟩ _ g hg, Below.heap_setCell _ ⟨B, 3, none⟩ _ g hg, Below.heap_setCell _ ⟨B, 2, none⟩ _ g hg, Below.heap_setCell _ ⟨B, 1, none⟩ _ g hg, Below.heap_setCell _ ⟨B, 0, none⟩ _ g hg]
theorem rep_snoc (j : Nat) (v : Value) : List.replicate j v ++ [v] = List.replicate (j + 1) v := by rw [List.replicate_succ']
theorem RkO.push {B C j : Nat} {w w3 : World} {vd vb vd' vb' : Value} (h : RkO B C j w vd vb)
    (hold : ∀ i, i < w.heap.size → some i ≠ vd.ownBlock → some i ≠ vb.ownBlock → w3.heap[i]? = w.heap[i]?) (hd : w3.ownsRow 0 9 1 vd' (j + 1) (List.replicate j (.string (fullB ⟨#[]⟩)) ++ [.string (fullB ⟨#[]⟩)])) (hb : w3.ownsRow 0 4 1 vb' (j + 1) (List.replicate j (.bool false) ++ [.bool false]))
    (sd : ∀ k, vd'.ownBlock = some k → B ≤ k) (sb : ∀ k, vb'.ownBlock = some k → B ≤ k) : RkO B C (j + 1) ((w3.setCell ⟨C, 0, none⟩ vd').setCell ⟨C, 1, none⟩ vb') vd' vb' ∧ w3.cell? ⟨C, 0, none⟩ = some vd ∧ w3.cell? ⟨C, 1, none⟩ = some vb ∧ ∀ i, w3.frozen? ⟨C, i, none⟩ = false := by
  have hDl : C < w.heap.size := (Array.getElem?_eq_some_iff.1 h.obj).1
  have n1 : ∀ {e v n xs}, w.ownsRow 0 e 1 v n xs → e ≠ 33 → some C ≠ v.ownBlock := fun hr he hD => by
    obtain ⟨cur, hc⟩ := row_block hr hD.symm
    rw [h.obj] at hc
    injection hc with hc; injection hc with _ hc _; exact he hc.symm
  have hobj := (hold C hDl (n1 h.rd (by decide)) (n1 h.rb (by decide))).trans h.obj
  have n3 : ∀ {e v n xs}, w3.ownsRow 0 e 1 v n xs → e ≠ 33 → ((w3.setCell ⟨C, 0, none⟩ vd').setCell ⟨C, 1, none⟩ vb').ownsRow 0 e 1 v n xs := fun {e v n xs} hr he => row_of hr fun g hg => by
    have hne : g ≠ C := fun e' => by
      obtain ⟨cur, hc⟩ := row_block hr hg
      rw [e', hobj] at hc
      injection hc with hc; injection hc with _ hc _; exact he hc.symm
    exact (Below.heap_setCell _ ⟨C, 1, none⟩ vb' g hne).trans (Below.heap_setCell w3 ⟨C, 0, none⟩ vd' g hne)
  rw [rep_snoc] at hd hb
  refine ⟨⟨?_, h.hC, n3 hd (by decide), sd, n3 hb (by decide), sb⟩, ?_, ?_, fun i => by simp [World.frozen?, hobj]⟩
  · rw [heap_setCell_any _ C 1 _ _ _ vb' (heap_setCell_any w3 C 0 _ _ _ vd' hobj)]; rfl
  · rw [cell_of_row w3 C 0 _ _ _ hobj]; rfl
  · rw [cell_of_row w3 C 1 _ _ _ hobj]; rfl
theorem refNew_walk (n : Nat) (h0 : 0 < n) (h1 : n ≤ 1024) (w : World) : Calls Try.prog 20 #[.int .i64 (n : Int)] w fun e w' => ∃ v, e = .returned (.tuple #[v, .int .i64 0]) ∧ Below w.heap.size w w' ∧ Rf (fun k => w.heap.size ≤ k) (dm0 n) w' v := by
  have hn1 : ¬ (n : Int) < 1 := by omega
  have hn2 : ¬ (1024 : Int) < n := by omega
  have hn3 : (0 : Int) ≤ n := by omega
  go_enter Try.func20, Try.ntmps20
  go_wp2_with fail
  go_loopw [5] (fun i wr => ∃ j : Nat, j ≤ n ∧ i = .int .i64 (j : Int) ∧ Below w.heap.size w wr ∧ wr.heap[w.heap.size]? = some (.cells zr33 33 (0, 0)) ∧ ∃ vd vb, RkO w.heap.size (w.heap.size + 1) j wr vd vb) (fun i _ => n - (intOf i).toNat)
  case atStart =>
    refine ⟨0, by omega, rfl, ?_, ?_, .slice none 0 0, .slice none 0 0, ?_⟩
    · exact (((Below.refl _ _).alloc (Nat.le_refl _) _).alloc (by simp) _)
    · rw [Below.heap_alloc _ _ _ (by simp)]
      exact heap_alloc_new w _
    · have e := heap_alloc_new (w.alloc (.cells #[.slice none 0 0, .slice none 0 0, .slice none 0 0, .int .i64 0, .bool false, .int .i64 0, .int .i64 0, .int .i64 0] 33)) (.cells #[.slice none 0 0, .slice none 0 0, .slice none 0 0, .int .i64 (-1), .bool false, .int .i64 0, .int .i64 0, .int .i64 0] 33)
      exact ⟨by simpa using e, Nat.le_succ _, World.ownsRow_nil _ _ _ _, fun k hk => by simp [Value.ownBlock] at hk, World.ownsRow_nil _ _ _ _, fun k hk => by simp [Value.ownBlock] at hk⟩
  case round =>
    obtain ⟨j, hj, rfl, hbel, hz, vd, vb, hrk⟩ := hrel
    have HZ := Lib.hid hz
    clear hz
    have HB := Lib.hid hbel
    have HR := Lib.hid hrk
    by_cases hlt : j < n
    · have hjl : (j : Int) < n := by omega
      obtain ⟨ad, cd, rfl⟩ := row_slice hrk.rd
      obtain ⟨ab, cb, rfl⟩ := row_slice hrk.rb
      have x0 : wr.cell? ⟨w.heap.size + 1, 0, none⟩ = some (.slice ad j cd) := by rw [cell_of_row wr _ 0 _ _ _ hrk.obj]; rfl
      have x1 : wr.cell? ⟨w.heap.size + 1, 1, none⟩ = some (.slice ab j cb) := by rw [cell_of_row wr _ 1 _ _ _ hrk.obj]; rfl
      have hcl := World.block_lt_of_cell? wr _ x0
      have F : ∀ o i, i < 2 → (wr.alloc o).cell? ⟨w.heap.size + 1, i, none⟩ = wr.cell? ⟨w.heap.size + 1, i, none⟩ := fun o i _ => World.cell?_of_block (Below.heap_alloc wr o _ hcl)
      have F2 : ∀ o o' i, i < 2 → ((wr.alloc o).alloc o').cell? ⟨w.heap.size + 1, i, none⟩ = wr.cell? ⟨w.heap.size + 1, i, none⟩ := fun o o' i hi => (World.cell?_of_block (Below.heap_alloc (wr.alloc o) o' _ (by have := hcl; simp at this ⊢; omega))).trans (F o i hi)
      have xA0 : (wr.alloc (.cells #[.string (fullB ⟨#[]⟩)] 9)).cell? ⟨w.heap.size + 1, 0, none⟩ = some (.slice ad j cd) := (F _ 0 (by decide)).trans x0
      have xA1 : (wr.alloc (.cells #[.string (fullB ⟨#[]⟩)] 9)).cell? ⟨w.heap.size + 1, 1, none⟩ = some (.slice ab j cb) := (F _ 1 (by decide)).trans x1
      have xB0 : (wr.alloc (.cells #[.bool false] 4)).cell? ⟨w.heap.size + 1, 0, none⟩ = some (.slice ad j cd) := (F _ 0 (by decide)).trans x0
      have xB1 : (wr.alloc (.cells #[.bool false] 4)).cell? ⟨w.heap.size + 1, 1, none⟩ = some (.slice ab j cb) := (F _ 1 (by decide)).trans x1
      have xAB0 : ((wr.alloc (.cells #[.string (fullB ⟨#[]⟩)] 9)).alloc (.cells #[.bool false] 4)).cell? ⟨w.heap.size + 1, 0, none⟩ = some (.slice ad j cd) := (F2 _ _ 0 (by decide)).trans x0
      have xAB1 : ((wr.alloc (.cells #[.string (fullB ⟨#[]⟩)] 9)).alloc (.cells #[.bool false] 4)).cell? ⟨w.heap.size + 1, 1, none⟩ = some (.slice ab j cb) := (F2 _ _ 1 (by decide)).trans x1
      have xBA0 : ((wr.alloc (.cells #[.bool false] 4)).alloc (.cells #[.string (fullB ⟨#[]⟩)] 9)).cell? ⟨w.heap.size + 1, 0, none⟩ = some (.slice ad j cd) := (F2 _ _ 0 (by decide)).trans x0
      have xBA1 : ((wr.alloc (.cells #[.bool false] 4)).alloc (.cells #[.string (fullB ⟨#[]⟩)] 9)).cell? ⟨w.heap.size + 1, 1, none⟩ = some (.slice ab j cb) := (F2 _ _ 1 (by decide)).trans x1
      have cA : (wr.alloc (.cells #[.string (fullB ⟨#[]⟩)] 9)).cell? ⟨wr.heap.size, 0, none⟩ = some (.string (fullB ⟨#[]⟩)) := World.cell?_alloc_mark ..
      have cAB : ((wr.alloc (.cells #[.string (fullB ⟨#[]⟩)] 9)).alloc (.cells #[.bool false] 4)).cell? ⟨wr.heap.size, 0, none⟩ = some (.string (fullB ⟨#[]⟩)) := (World.cell?_of_block (Below.heap_alloc _ _ _ (by simp))).trans cA
      have dBA0 : (wr.alloc (.cells #[.bool false] 4)).cell? ⟨wr.heap.size, 0, none⟩ = some (.bool false) := World.cell?_alloc_mark ..
      have dBA : ((wr.alloc (.cells #[.bool false] 4)).alloc (.cells #[.string (fullB ⟨#[]⟩)] 9)).cell? ⟨wr.heap.size, 0, none⟩ = some (.bool false) := (World.cell?_of_block (Below.heap_alloc _ _ _ (by simp))).trans dBA0
      have cBA : ((wr.alloc (.cells #[.bool false] 4)).alloc (.cells #[.string (fullB ⟨#[]⟩)] 9)).cell? ⟨wr.heap.size + 1, 0, none⟩ = some (.string (fullB ⟨#[]⟩)) := by
        have := World.cell?_alloc_mark (wr.alloc (.cells #[.bool false] 4)) #[.string (fullB ⟨#[]⟩)] 9 (0, 0) 0
        simpa using this
      have dAB : ((wr.alloc (.cells #[.string (fullB ⟨#[]⟩)] 9)).alloc (.cells #[.bool false] 4)).cell? ⟨wr.heap.size + 1, 0, none⟩ = some (.bool false) := by
        have := World.cell?_alloc_mark (wr.alloc (.cells #[.string (fullB ⟨#[]⟩)] 9)) #[.bool false] 4 (0, 0) 0
        simpa using this
      have hvd : ∀ k, (Value.slice ad j cd).ownBlock = some k → k < wr.heap.size := fun k hk => (hrk.rd.lt k hk).2
      have hnC : some (w.heap.size + 1) ≠ (Value.slice ad j cd).ownBlock := fun hD => by
        obtain ⟨cur, hc⟩ := row_block hrk.rd hD.symm
        rw [hrk.obj] at hc
        injection hc with hc; injection hc with _ hc _; exact absurd hc (by decide)
      clear hrk hbel F F2 dBA0
      go_wp2_with fail
      refine wp_region_noPanic ?_
      refine wp_region_D 10 (fun w' => w'.cell? ⟨w.heap.size + 1, 0, none⟩ = some (.slice ad j cd) ∧ w'.cell? ⟨w.heap.size + 1, 1, none⟩ = some (.slice ab j cb)) (by kernel_rfl) ⟨x0, x1⟩ (fun hU => ?_)
      have hC : (fun w' : World => w'.cell? ⟨w.heap.size + 1, 0, none⟩ = some (.slice ad j cd) ∧ w'.cell? ⟨w.heap.size + 1, 1, none⟩ = some (.slice ab j cb)) wr.drew := ⟨x0, x1⟩
      clear hU
      refine wpAnyD_take (i := 0) (dst := some 19) (v := ?_) (fuel := 12) rfl rfl (by kernel_rfl) (fun _ _ _ h => h) (by rfl) ?_ (.inr hC) ?_
      rotate_left
      · (intro w; go_simp; try with_reducible rfl)
      simp only [Act.put, List.setIfInBounds_toArray, List.set_cons_zero, List.set_cons_succ]
      refine wpAnyD_load (i := 1) (dst := some 20) (v := ?_) (fuel := 11) rfl rfl (by kernel_rfl) (fun _ _ _ h => h) (by rfl) ?_ (.inr hC) ?_
      rotate_left
      · intro w hSw
        try dsimp only at hSw
        go_simp
        try with_reducible rfl
      simp only [Act.put, List.setIfInBounds_toArray, List.set_cons_zero, List.set_cons_succ]
      refine wpAnyD_take (i := 5) (dst := some 24) (v := ?_) (fuel := 10) rfl rfl (by kernel_rfl) (fun _ _ _ h => h) (by rfl) ?_ (.inr hC) ?_
      rotate_left
      · (intro w; go_simp; try with_reducible rfl)
      simp only [Act.put, List.setIfInBounds_toArray, List.set_cons_zero, List.set_cons_succ]
      refine wpAnyD_load (i := 6) (dst := some 25) (v := ?_) (fuel := 9) rfl rfl (by kernel_rfl) (fun _ _ _ h => h) (by rfl) ?_ (.inr hC) ?_
      rotate_left
      · intro w hSw
        try dsimp only at hSw
        go_simp
        try with_reducible rfl
      simp only [Act.put, List.setIfInBounds_toArray, List.set_cons_zero, List.set_cons_succ]
      refine wpAnyD_ready (fuel := 8) (rs := [2, 7]) (by kernel_rfl) (by simp) ?_
      refine AllReadyD.cons (o := _) rfl (fun K hK => ?_) ?_
      · go_simp
        go_at_call 13
        with_reducible refine (full_ref _ _ ?_).mono ?_
        · decide
        rintro e _ ⟨rfl, rfl⟩
        go_wp2_with fail
        refine shut_C hK ?_ (fun hC => ?_)
        · first | exact ⟨x80, x81⟩ | exact ⟨x40, x41⟩ | exact ⟨x4B0, x4B1⟩ | exact ⟨x0, x1⟩ | exact ⟨xA0, xA1⟩ | exact ⟨xB0, xB1⟩ | exact ⟨xAB0, xAB1⟩ | exact ⟨xBA0, xBA1⟩
        clear hK K
        try simp only [Act.put, List.setIfInBounds_toArray, List.set_cons_zero, List.set_cons_succ]
        refine wpAnyD_ready (fuel := 7) (rs := [3, 7]) (by kernel_rfl) (by simp) ?_
        refine AllReadyD.cons (o := _) rfl (fun K hK => ?_) ?_
        · go_simp
          refine shut_C hK ?_ (fun hC => ?_)
          · first | exact ⟨x80, x81⟩ | exact ⟨x40, x41⟩ | exact ⟨x4B0, x4B1⟩ | exact ⟨x0, x1⟩ | exact ⟨xA0, xA1⟩ | exact ⟨xB0, xB1⟩ | exact ⟨xAB0, xAB1⟩ | exact ⟨xBA0, xBA1⟩
          clear hK K
          try simp only [Act.put, List.setIfInBounds_toArray, List.set_cons_zero, List.set_cons_succ]
          refine wpAnyD_ready (fuel := 6) (rs := [4, 7]) (by kernel_rfl) (by simp) ?_
          refine AllReadyD.cons (o := _) rfl (fun K hK => ?_) ?_
          · refine step_grow rfl _ _ 27 rfl 9 _ _ 16 Try.underlying27 rfl rfl rfl rfl rfl (by decide) (.slice ad j cd) j _ _ (.string (fullB ⟨#[]⟩)) rfl rfl (by first | exact HR.out.rd.alloc _ | exact (HR.out.rd.alloc _).alloc _) (by first | exact cA | exact cAB | exact cBA) rfl (by omega) ?_
            intro a4 c4 w4 hrow4 hgr4 hbl4
            have h4 : ∀ i, i < wr.heap.size → some i ≠ (Value.slice ad j cd).ownBlock → w4.heap[i]? = wr.heap[i]? := fun i hi hne => (hgr4.block i (by simp; omega) hne).trans (by first | exact keep1 wr _ i hi | exact keep2 wr _ _ i hi)
            have s4 : wr.heap.size < w4.heap.size := by have := hgr4.size; simp at this; omega
            have n4 : ∀ k, (Value.slice a4 (j + 1) c4).ownBlock = some k → w.heap.size ≤ k := fun k hk => by
              rcases hbl4 with e | ⟨e, _⟩ <;> rw [e] at hk
              · exact HR.out.sd k hk
              · have := HB.out.size; simp at hk; omega
            have x40 : w4.cell? ⟨w.heap.size + 1, 0, none⟩ = some (.slice ad j cd) := (World.cell?_of_block (h4 _ hcl hnC)).trans x0
            have x41 : w4.cell? ⟨w.heap.size + 1, 1, none⟩ = some (.slice ab j cb) := (World.cell?_of_block (h4 _ hcl hnC)).trans x1
            have x4F : ∀ o i, (w4.alloc o).cell? ⟨w.heap.size + 1, i, none⟩ = w4.cell? ⟨w.heap.size + 1, i, none⟩ := fun o i => World.cell?_of_block (Below.heap_alloc w4 o _ (Nat.lt_trans hcl s4))
            have x4B0 := (x4F (.cells #[.bool false] 4) 0).trans x40
            have x4B1 := (x4F (.cells #[.bool false] 4) 1).trans x41
            have rb4 : w4.ownsRow 0 4 1 (.slice ab j cb) j (List.replicate j (.bool false)) := row_of HR.out.rb fun g hg => h4 g (HR.out.rb.lt g hg).2 (own_ne HR.out.rb HR.out.rd (by decide) hg)
            clear x4F
            refine shut_C hK ?_ (fun hC => ?_)
            · first | exact ⟨x80, x81⟩ | exact ⟨x40, x41⟩ | exact ⟨x4B0, x4B1⟩ | exact ⟨x0, x1⟩ | exact ⟨xA0, xA1⟩ | exact ⟨xB0, xB1⟩ | exact ⟨xAB0, xAB1⟩ | exact ⟨xBA0, xBA1⟩
            clear hK K
            try simp only [Act.put, List.setIfInBounds_toArray, List.set_cons_zero, List.set_cons_succ]
            refine wpAnyD_take (i := 9) (dst := some 28) (v := ?_) (fuel := 5) rfl rfl (by kernel_rfl) (fun _ _ _ h => h) (by rfl) ?_ (.inr hC) ?_
            rotate_left
            · (intro w; go_simp; try with_reducible rfl)
            simp only [Act.put, List.setIfInBounds_toArray, List.set_cons_zero, List.set_cons_succ]
            refine wpAnyD_ready (fuel := 4) (rs := [7]) (by kernel_rfl) (by simp) ?_
            refine AllReadyD.cons (o := _) rfl (fun K hK => ?_) ?_
            · go_simp
              refine shut_C hK ?_ (fun hC => ?_)
              · first | exact ⟨x80, x81⟩ | exact ⟨x40, x41⟩ | exact ⟨x4B0, x4B1⟩ | exact ⟨x0, x1⟩ | exact ⟨xA0, xA1⟩ | exact ⟨xB0, xB1⟩ | exact ⟨xAB0, xAB1⟩ | exact ⟨xBA0, xBA1⟩
              clear hK K
              try simp only [Act.put, List.setIfInBounds_toArray, List.set_cons_zero, List.set_cons_succ]
              refine wpAnyD_ready (fuel := 3) (rs := [8]) (by kernel_rfl) (by simp) ?_
              refine AllReadyD.cons (o := _) rfl (fun K hK => ?_) ?_
              · refine step_grow rfl _ _ 28 rfl 4 _ _ 1 Try.underlying28 rfl rfl rfl rfl rfl (by decide) (.slice ab j cb) j (List.replicate j (.bool false)) _ (.bool false) rfl rfl (by first | exact rb4 | exact rb4.alloc _) (by first | exact World.cell?_alloc_mark .. | (rw [World.cell?_of_block (hgr4.block _ (by first | (simp; done) | (simp; omega)) (fun e => absurd (hvd _ e.symm) (Nat.not_lt.2 (by first | omega | (simp; done) | (simp; omega)))))]; first | exact dAB | exact dBA)) rfl (by omega) ?_
                intro a8 c8 w8 hrow8 hgr8 hbl8
                have h8 : ∀ i, i < wr.heap.size → some i ≠ (Value.slice ad j cd).ownBlock → some i ≠ (Value.slice ab j cb).ownBlock → w8.heap[i]? = wr.heap[i]? := fun i hi hne hne' => (hgr8.block i (by first | omega | (simp; omega)) hne').trans (Eq.trans (by first | rfl | exact keep3 w4 _ i (by omega)) (h4 i hi hne))
                have s8 : wr.heap.size < w8.heap.size := by have := hgr8.size; (try simp at this); omega
                have n8 : ∀ k, (Value.slice a8 (j + 1) c8).ownBlock = some k → w.heap.size ≤ k := fun k hk => by
                  rcases hbl8 with e | ⟨e, _⟩ <;> rw [e] at hk
                  · exact HR.out.sb k hk
                  · have := HB.out.size; simp at hk; omega
                have rd8 : w8.ownsRow 0 9 1 (.slice a4 (j + 1) c4) (j + 1) (List.replicate j (.string (fullB ⟨#[]⟩)) ++ [.string (fullB ⟨#[]⟩)]) := row_of hrow4 fun g hg => by
                  have hl := (hrow4.lt g hg).2
                  exact (hgr8.block g (by first | omega | (simp; omega)) (own_ne hrow4 rb4 (by decide) hg)).trans (by first | rfl | exact keep3 w4 _ g hl)
                obtain ⟨hf, x80, x81, x8f⟩ := HR.out.push h8 rd8 hrow8 n4 n8
                have HF := Lib.hid hf
                have HT : Hid (Below w.heap.size w ((w8.setCell ⟨w.heap.size + 1, 0, none⟩ (.slice a4 (j + 1) c4)).setCell ⟨w.heap.size + 1, 1, none⟩ (.slice a8 (j + 1) c8))) := Lib.hid (by
                  have hsz := HB.out.size
                  have g2 : Below w.heap.size w w8 := HB.out.trans ⟨hgr8.os.trans hgr4.os, hgr8.tape.trans hgr4.tape, hgr8.output.trans hgr4.output, by omega, fun i hi => h8 i (by omega) (fun e => by have := HR.out.sd i e.symm; omega) (fun e => by have := HR.out.sb i e.symm; omega)⟩
                  exact (g2.setCell (by simp) _).setCell (by simp) _)
                have HZ8 : Hid (((w8.setCell ⟨w.heap.size + 1, 0, none⟩ (.slice a4 (j + 1) c4)).setCell ⟨w.heap.size + 1, 1, none⟩ (.slice a8 (j + 1) c8)).heap[w.heap.size]? = some (.cells zr33 33 (0, 0))) := Lib.hid (by
                  have hl : w.heap.size < wr.heap.size := (Array.getElem?_eq_some_iff.1 HZ.out).1
                  have n33 : ∀ {e v n xs}, wr.ownsRow 0 e 1 v n xs → e ≠ 33 → some w.heap.size ≠ v.ownBlock := fun hr he hD => by
                    obtain ⟨cur, hc⟩ := row_block hr hD.symm
                    rw [HZ.out] at hc
                    injection hc with hc; injection hc with _ hc _; exact he hc.symm
                  rw [Below.heap_setCell _ ⟨w.heap.size + 1, 1, none⟩ _ _ (by show w.heap.size ≠ w.heap.size + 1; omega), Below.heap_setCell _ ⟨w.heap.size + 1, 0, none⟩ _ _ (by show w.heap.size ≠ w.heap.size + 1; omega), h8 _ hl (n33 HR.out.rd (by decide)) (n33 HR.out.rb (by decide))]
                  exact HZ.out)
                clear hf h8 rd8 hrow8 hgr8 hbl8 n8
                refine shut_C hK ?_ (fun hC => ?_)
                · first | exact ⟨x80, x81⟩ | exact ⟨x40, x41⟩ | exact ⟨x4B0, x4B1⟩ | exact ⟨x0, x1⟩ | exact ⟨xA0, xA1⟩ | exact ⟨xB0, xB1⟩ | exact ⟨xAB0, xAB1⟩ | exact ⟨xBA0, xBA1⟩
                clear hK K
                try simp only [Act.put, List.setIfInBounds_toArray, List.set_cons_zero, List.set_cons_succ]
                refine wpAnyD_ready (fuel := 2) (rs := [10]) (by kernel_rfl) (by simp) ?_
                refine AllReadyD.cons (o := _) rfl (fun K hK => ?_) ?_
                · go_simp
                  refine shut_K hK (by kernel_rfl) ?_
                  clear hK K
                  try simp only [Act.put, List.setIfInBounds_toArray, List.set_cons_zero, List.set_cons_succ]
                  refine wpAnyD_take (i := 11) (dst := some 29) (v := ?_) (fuel := 1) rfl rfl (by kernel_rfl) (fun _ _ _ h => h) (by rfl) ?_ (.inl (by kernel_rfl)) ?_
                  rotate_left
                  · (intro w; go_simp; try with_reducible rfl)
                  simp only [Act.put, List.setIfInBounds_toArray, List.set_cons_zero, List.set_cons_succ]
                  refine wpAnyD_ready (fuel := 0) (rs := [12]) (by kernel_rfl) (by simp) ?_
                  refine AllReadyD.cons (o := _) rfl (fun K hK => ?_) ?_
                  · go_simp
                    refine shut_K hK (by kernel_rfl) ?_
                    clear hK K
                    try simp only [Act.put, List.setIfInBounds_toArray, List.set_cons_zero, List.set_cons_succ]
                    refine wpAnyD_done (by kernel_rfl) ?_ _
                    refine NoPanic.normal ?_
                    clear hrow4 hgr4 hbl4 h4 rb4
                    go_wp2_with fail
                    go_roundw
                    case rel => exact ⟨j + 1, by omega, by go_num, HT.out, HZ8.out, _, _, HF.out⟩
                    case measure => simp [intOf]; omega
                  exact AllReadyD.nil
                exact AllReadyD.nil
              exact AllReadyD.nil
            exact AllReadyD.nil
          refine AllReadyD.cons (o := _) rfl (fun K hK => ?_) ?_
          · go_simp
            refine shut_C hK ?_ (fun hC => ?_)
            · first | exact ⟨x80, x81⟩ | exact ⟨x40, x41⟩ | exact ⟨x4B0, x4B1⟩ | exact ⟨x0, x1⟩ | exact ⟨xA0, xA1⟩ | exact ⟨xB0, xB1⟩ | exact ⟨xAB0, xAB1⟩ | exact ⟨xBA0, xBA1⟩
            clear hK K
            try simp only [Act.put, List.setIfInBounds_toArray, List.set_cons_zero, List.set_cons_succ]
            refine wpAnyD_ready (fuel := 5) (rs := [4]) (by kernel_rfl) (by simp) ?_
            refine AllReadyD.cons (o := _) rfl (fun K hK => ?_) ?_
            · refine step_grow rfl _ _ 27 rfl 9 _ _ 16 Try.underlying27 rfl rfl rfl rfl rfl (by decide) (.slice ad j cd) j _ _ (.string (fullB ⟨#[]⟩)) rfl rfl (by first | exact HR.out.rd.alloc _ | exact (HR.out.rd.alloc _).alloc _) (by first | exact cA | exact cAB | exact cBA) rfl (by omega) ?_
              intro a4 c4 w4 hrow4 hgr4 hbl4
              have h4 : ∀ i, i < wr.heap.size → some i ≠ (Value.slice ad j cd).ownBlock → w4.heap[i]? = wr.heap[i]? := fun i hi hne => (hgr4.block i (by simp; omega) hne).trans (by first | exact keep1 wr _ i hi | exact keep2 wr _ _ i hi)
              have s4 : wr.heap.size < w4.heap.size := by have := hgr4.size; simp at this; omega
              have n4 : ∀ k, (Value.slice a4 (j + 1) c4).ownBlock = some k → w.heap.size ≤ k := fun k hk => by
                rcases hbl4 with e | ⟨e, _⟩ <;> rw [e] at hk
                · exact HR.out.sd k hk
                · have := HB.out.size; simp at hk; omega
              have x40 : w4.cell? ⟨w.heap.size + 1, 0, none⟩ = some (.slice ad j cd) := (World.cell?_of_block (h4 _ hcl hnC)).trans x0
              have x41 : w4.cell? ⟨w.heap.size + 1, 1, none⟩ = some (.slice ab j cb) := (World.cell?_of_block (h4 _ hcl hnC)).trans x1
              have x4F : ∀ o i, (w4.alloc o).cell? ⟨w.heap.size + 1, i, none⟩ = w4.cell? ⟨w.heap.size + 1, i, none⟩ := fun o i => World.cell?_of_block (Below.heap_alloc w4 o _ (Nat.lt_trans hcl s4))
              have x4B0 := (x4F (.cells #[.bool false] 4) 0).trans x40
              have x4B1 := (x4F (.cells #[.bool false] 4) 1).trans x41
              have rb4 : w4.ownsRow 0 4 1 (.slice ab j cb) j (List.replicate j (.bool false)) := row_of HR.out.rb fun g hg => h4 g (HR.out.rb.lt g hg).2 (own_ne HR.out.rb HR.out.rd (by decide) hg)
              clear x4F
              refine shut_C hK ?_ (fun hC => ?_)
              · first | exact ⟨x80, x81⟩ | exact ⟨x40, x41⟩ | exact ⟨x4B0, x4B1⟩ | exact ⟨x0, x1⟩ | exact ⟨xA0, xA1⟩ | exact ⟨xB0, xB1⟩ | exact ⟨xAB0, xAB1⟩ | exact ⟨xBA0, xBA1⟩
              clear hK K
              try simp only [Act.put, List.setIfInBounds_toArray, List.set_cons_zero, List.set_cons_succ]
              refine wpAnyD_take (i := 9) (dst := some 28) (v := ?_) (fuel := 4) rfl rfl (by kernel_rfl) (fun _ _ _ h => h) (by rfl) ?_ (.inr hC) ?_
              rotate_left
              · (intro w; go_simp; try with_reducible rfl)
              simp only [Act.put, List.setIfInBounds_toArray, List.set_cons_zero, List.set_cons_succ]
              refine wpAnyD_ready (fuel := 3) (rs := [8]) (by kernel_rfl) (by simp) ?_
              refine AllReadyD.cons (o := _) rfl (fun K hK => ?_) ?_
              · refine step_grow rfl _ _ 28 rfl 4 _ _ 1 Try.underlying28 rfl rfl rfl rfl rfl (by decide) (.slice ab j cb) j (List.replicate j (.bool false)) _ (.bool false) rfl rfl (by first | exact rb4 | exact rb4.alloc _) (by first | exact World.cell?_alloc_mark .. | (rw [World.cell?_of_block (hgr4.block _ (by first | (simp; done) | (simp; omega)) (fun e => absurd (hvd _ e.symm) (Nat.not_lt.2 (by first | omega | (simp; done) | (simp; omega)))))]; first | exact dAB | exact dBA)) rfl (by omega) ?_
                intro a8 c8 w8 hrow8 hgr8 hbl8
                have h8 : ∀ i, i < wr.heap.size → some i ≠ (Value.slice ad j cd).ownBlock → some i ≠ (Value.slice ab j cb).ownBlock → w8.heap[i]? = wr.heap[i]? := fun i hi hne hne' => (hgr8.block i (by first | omega | (simp; omega)) hne').trans (Eq.trans (by first | rfl | exact keep3 w4 _ i (by omega)) (h4 i hi hne))
                have s8 : wr.heap.size < w8.heap.size := by have := hgr8.size; (try simp at this); omega
                have n8 : ∀ k, (Value.slice a8 (j + 1) c8).ownBlock = some k → w.heap.size ≤ k := fun k hk => by
                  rcases hbl8 with e | ⟨e, _⟩ <;> rw [e] at hk
                  · exact HR.out.sb k hk
                  · have := HB.out.size; simp at hk; omega
                have rd8 : w8.ownsRow 0 9 1 (.slice a4 (j + 1) c4) (j + 1) (List.replicate j (.string (fullB ⟨#[]⟩)) ++ [.string (fullB ⟨#[]⟩)]) := row_of hrow4 fun g hg => by
                  have hl := (hrow4.lt g hg).2
                  exact (hgr8.block g (by first | omega | (simp; omega)) (own_ne hrow4 rb4 (by decide) hg)).trans (by first | rfl | exact keep3 w4 _ g hl)
                obtain ⟨hf, x80, x81, x8f⟩ := HR.out.push h8 rd8 hrow8 n4 n8
                have HF := Lib.hid hf
                have HT : Hid (Below w.heap.size w ((w8.setCell ⟨w.heap.size + 1, 0, none⟩ (.slice a4 (j + 1) c4)).setCell ⟨w.heap.size + 1, 1, none⟩ (.slice a8 (j + 1) c8))) := Lib.hid (by
                  have hsz := HB.out.size
                  have g2 : Below w.heap.size w w8 := HB.out.trans ⟨hgr8.os.trans hgr4.os, hgr8.tape.trans hgr4.tape, hgr8.output.trans hgr4.output, by omega, fun i hi => h8 i (by omega) (fun e => by have := HR.out.sd i e.symm; omega) (fun e => by have := HR.out.sb i e.symm; omega)⟩
                  exact (g2.setCell (by simp) _).setCell (by simp) _)
                have HZ8 : Hid (((w8.setCell ⟨w.heap.size + 1, 0, none⟩ (.slice a4 (j + 1) c4)).setCell ⟨w.heap.size + 1, 1, none⟩ (.slice a8 (j + 1) c8)).heap[w.heap.size]? = some (.cells zr33 33 (0, 0))) := Lib.hid (by
                  have hl : w.heap.size < wr.heap.size := (Array.getElem?_eq_some_iff.1 HZ.out).1
                  have n33 : ∀ {e v n xs}, wr.ownsRow 0 e 1 v n xs → e ≠ 33 → some w.heap.size ≠ v.ownBlock := fun hr he hD => by
                    obtain ⟨cur, hc⟩ := row_block hr hD.symm
                    rw [HZ.out] at hc
                    injection hc with hc; injection hc with _ hc _; exact he hc.symm
                  rw [Below.heap_setCell _ ⟨w.heap.size + 1, 1, none⟩ _ _ (by show w.heap.size ≠ w.heap.size + 1; omega), Below.heap_setCell _ ⟨w.heap.size + 1, 0, none⟩ _ _ (by show w.heap.size ≠ w.heap.size + 1; omega), h8 _ hl (n33 HR.out.rd (by decide)) (n33 HR.out.rb (by decide))]
                  exact HZ.out)
                clear hf h8 rd8 hrow8 hgr8 hbl8 n8
                refine shut_C hK ?_ (fun hC => ?_)
                · first | exact ⟨x80, x81⟩ | exact ⟨x40, x41⟩ | exact ⟨x4B0, x4B1⟩ | exact ⟨x0, x1⟩ | exact ⟨xA0, xA1⟩ | exact ⟨xB0, xB1⟩ | exact ⟨xAB0, xAB1⟩ | exact ⟨xBA0, xBA1⟩
                clear hK K
                try simp only [Act.put, List.setIfInBounds_toArray, List.set_cons_zero, List.set_cons_succ]
                refine wpAnyD_ready (fuel := 2) (rs := [10]) (by kernel_rfl) (by simp) ?_
                refine AllReadyD.cons (o := _) rfl (fun K hK => ?_) ?_
                · go_simp
                  refine shut_K hK (by kernel_rfl) ?_
                  clear hK K
                  try simp only [Act.put, List.setIfInBounds_toArray, List.set_cons_zero, List.set_cons_succ]
                  refine wpAnyD_take (i := 11) (dst := some 29) (v := ?_) (fuel := 1) rfl rfl (by kernel_rfl) (fun _ _ _ h => h) (by rfl) ?_ (.inl (by kernel_rfl)) ?_
                  rotate_left
                  · (intro w; go_simp; try with_reducible rfl)
                  simp only [Act.put, List.setIfInBounds_toArray, List.set_cons_zero, List.set_cons_succ]
                  refine wpAnyD_ready (fuel := 0) (rs := [12]) (by kernel_rfl) (by simp) ?_
                  refine AllReadyD.cons (o := _) rfl (fun K hK => ?_) ?_
                  · go_simp
                    refine shut_K hK (by kernel_rfl) ?_
                    clear hK K
                    try simp only [Act.put, List.setIfInBounds_toArray, List.set_cons_zero, List.set_cons_succ]
                    refine wpAnyD_done (by kernel_rfl) ?_ _
                    refine NoPanic.normal ?_
                    clear hrow4 hgr4 hbl4 h4 rb4
                    go_wp2_with fail
                    go_roundw
                    case rel => exact ⟨j + 1, by omega, by go_num, HT.out, HZ8.out, _, _, HF.out⟩
                    case measure => simp [intOf]; omega
                  exact AllReadyD.nil
                exact AllReadyD.nil
              exact AllReadyD.nil
            exact AllReadyD.nil
          exact AllReadyD.nil
        refine AllReadyD.cons (o := _) rfl (fun K hK => ?_) ?_
        · go_simp
          refine shut_C hK ?_ (fun hC => ?_)
          · first | exact ⟨x80, x81⟩ | exact ⟨x40, x41⟩ | exact ⟨x4B0, x4B1⟩ | exact ⟨x0, x1⟩ | exact ⟨xA0, xA1⟩ | exact ⟨xB0, xB1⟩ | exact ⟨xAB0, xAB1⟩ | exact ⟨xBA0, xBA1⟩
          clear hK K
          try simp only [Act.put, List.setIfInBounds_toArray, List.set_cons_zero, List.set_cons_succ]
          refine wpAnyD_ready (fuel := 6) (rs := [3]) (by kernel_rfl) (by simp) ?_
          refine AllReadyD.cons (o := _) rfl (fun K hK => ?_) ?_
          · go_simp
            refine shut_C hK ?_ (fun hC => ?_)
            · first | exact ⟨x80, x81⟩ | exact ⟨x40, x41⟩ | exact ⟨x4B0, x4B1⟩ | exact ⟨x0, x1⟩ | exact ⟨xA0, xA1⟩ | exact ⟨xB0, xB1⟩ | exact ⟨xAB0, xAB1⟩ | exact ⟨xBA0, xBA1⟩
            clear hK K
            try simp only [Act.put, List.setIfInBounds_toArray, List.set_cons_zero, List.set_cons_succ]
            refine wpAnyD_ready (fuel := 5) (rs := [4]) (by kernel_rfl) (by simp) ?_
            refine AllReadyD.cons (o := _) rfl (fun K hK => ?_) ?_
            · refine step_grow rfl _ _ 27 rfl 9 _ _ 16 Try.underlying27 rfl rfl rfl rfl rfl (by decide) (.slice ad j cd) j _ _ (.string (fullB ⟨#[]⟩)) rfl rfl (by first | exact HR.out.rd.alloc _ | exact (HR.out.rd.alloc _).alloc _) (by first | exact cA | exact cAB | exact cBA) rfl (by omega) ?_
              intro a4 c4 w4 hrow4 hgr4 hbl4
              have h4 : ∀ i, i < wr.heap.size → some i ≠ (Value.slice ad j cd).ownBlock → w4.heap[i]? = wr.heap[i]? := fun i hi hne => (hgr4.block i (by simp; omega) hne).trans (by first | exact keep1 wr _ i hi | exact keep2 wr _ _ i hi)
              have s4 : wr.heap.size < w4.heap.size := by have := hgr4.size; simp at this; omega
              have n4 : ∀ k, (Value.slice a4 (j + 1) c4).ownBlock = some k → w.heap.size ≤ k := fun k hk => by
                rcases hbl4 with e | ⟨e, _⟩ <;> rw [e] at hk
                · exact HR.out.sd k hk
                · have := HB.out.size; simp at hk; omega
              have x40 : w4.cell? ⟨w.heap.size + 1, 0, none⟩ = some (.slice ad j cd) := (World.cell?_of_block (h4 _ hcl hnC)).trans x0
              have x41 : w4.cell? ⟨w.heap.size + 1, 1, none⟩ = some (.slice ab j cb) := (World.cell?_of_block (h4 _ hcl hnC)).trans x1
              have x4F : ∀ o i, (w4.alloc o).cell? ⟨w.heap.size + 1, i, none⟩ = w4.cell? ⟨w.heap.size + 1, i, none⟩ := fun o i => World.cell?_of_block (Below.heap_alloc w4 o _ (Nat.lt_trans hcl s4))
              have x4B0 := (x4F (.cells #[.bool false] 4) 0).trans x40
              have x4B1 := (x4F (.cells #[.bool false] 4) 1).trans x41
              have rb4 : w4.ownsRow 0 4 1 (.slice ab j cb) j (List.replicate j (.bool false)) := row_of HR.out.rb fun g hg => h4 g (HR.out.rb.lt g hg).2 (own_ne HR.out.rb HR.out.rd (by decide) hg)
              clear x4F
              refine shut_C hK ?_ (fun hC => ?_)
              · first | exact ⟨x80, x81⟩ | exact ⟨x40, x41⟩ | exact ⟨x4B0, x4B1⟩ | exact ⟨x0, x1⟩ | exact ⟨xA0, xA1⟩ | exact ⟨xB0, xB1⟩ | exact ⟨xAB0, xAB1⟩ | exact ⟨xBA0, xBA1⟩
              clear hK K
              try simp only [Act.put, List.setIfInBounds_toArray, List.set_cons_zero, List.set_cons_succ]
              refine wpAnyD_take (i := 9) (dst := some 28) (v := ?_) (fuel := 4) rfl rfl (by kernel_rfl) (fun _ _ _ h => h) (by rfl) ?_ (.inr hC) ?_
              rotate_left
              · (intro w; go_simp; try with_reducible rfl)
              simp only [Act.put, List.setIfInBounds_toArray, List.set_cons_zero, List.set_cons_succ]
              refine wpAnyD_ready (fuel := 3) (rs := [8]) (by kernel_rfl) (by simp) ?_
              refine AllReadyD.cons (o := _) rfl (fun K hK => ?_) ?_
              · refine step_grow rfl _ _ 28 rfl 4 _ _ 1 Try.underlying28 rfl rfl rfl rfl rfl (by decide) (.slice ab j cb) j (List.replicate j (.bool false)) _ (.bool false) rfl rfl (by first | exact rb4 | exact rb4.alloc _) (by first | exact World.cell?_alloc_mark .. | (rw [World.cell?_of_block (hgr4.block _ (by first | (simp; done) | (simp; omega)) (fun e => absurd (hvd _ e.symm) (Nat.not_lt.2 (by first | omega | (simp; done) | (simp; omega)))))]; first | exact dAB | exact dBA)) rfl (by omega) ?_
                intro a8 c8 w8 hrow8 hgr8 hbl8
                have h8 : ∀ i, i < wr.heap.size → some i ≠ (Value.slice ad j cd).ownBlock → some i ≠ (Value.slice ab j cb).ownBlock → w8.heap[i]? = wr.heap[i]? := fun i hi hne hne' => (hgr8.block i (by first | omega | (simp; omega)) hne').trans (Eq.trans (by first | rfl | exact keep3 w4 _ i (by omega)) (h4 i hi hne))
                have s8 : wr.heap.size < w8.heap.size := by have := hgr8.size; (try simp at this); omega
                have n8 : ∀ k, (Value.slice a8 (j + 1) c8).ownBlock = some k → w.heap.size ≤ k := fun k hk => by
                  rcases hbl8 with e | ⟨e, _⟩ <;> rw [e] at hk
                  · exact HR.out.sb k hk
                  · have := HB.out.size; simp at hk; omega
                have rd8 : w8.ownsRow 0 9 1 (.slice a4 (j + 1) c4) (j + 1) (List.replicate j (.string (fullB ⟨#[]⟩)) ++ [.string (fullB ⟨#[]⟩)]) := row_of hrow4 fun g hg => by
                  have hl := (hrow4.lt g hg).2
                  exact (hgr8.block g (by first | omega | (simp; omega)) (own_ne hrow4 rb4 (by decide) hg)).trans (by first | rfl | exact keep3 w4 _ g hl)
                obtain ⟨hf, x80, x81, x8f⟩ := HR.out.push h8 rd8 hrow8 n4 n8
                have HF := Lib.hid hf
                have HT : Hid (Below w.heap.size w ((w8.setCell ⟨w.heap.size + 1, 0, none⟩ (.slice a4 (j + 1) c4)).setCell ⟨w.heap.size + 1, 1, none⟩ (.slice a8 (j + 1) c8))) := Lib.hid (by
                  have hsz := HB.out.size
                  have g2 : Below w.heap.size w w8 := HB.out.trans ⟨hgr8.os.trans hgr4.os, hgr8.tape.trans hgr4.tape, hgr8.output.trans hgr4.output, by omega, fun i hi => h8 i (by omega) (fun e => by have := HR.out.sd i e.symm; omega) (fun e => by have := HR.out.sb i e.symm; omega)⟩
                  exact (g2.setCell (by simp) _).setCell (by simp) _)
                have HZ8 : Hid (((w8.setCell ⟨w.heap.size + 1, 0, none⟩ (.slice a4 (j + 1) c4)).setCell ⟨w.heap.size + 1, 1, none⟩ (.slice a8 (j + 1) c8)).heap[w.heap.size]? = some (.cells zr33 33 (0, 0))) := Lib.hid (by
                  have hl : w.heap.size < wr.heap.size := (Array.getElem?_eq_some_iff.1 HZ.out).1
                  have n33 : ∀ {e v n xs}, wr.ownsRow 0 e 1 v n xs → e ≠ 33 → some w.heap.size ≠ v.ownBlock := fun hr he hD => by
                    obtain ⟨cur, hc⟩ := row_block hr hD.symm
                    rw [HZ.out] at hc
                    injection hc with hc; injection hc with _ hc _; exact he hc.symm
                  rw [Below.heap_setCell _ ⟨w.heap.size + 1, 1, none⟩ _ _ (by show w.heap.size ≠ w.heap.size + 1; omega), Below.heap_setCell _ ⟨w.heap.size + 1, 0, none⟩ _ _ (by show w.heap.size ≠ w.heap.size + 1; omega), h8 _ hl (n33 HR.out.rd (by decide)) (n33 HR.out.rb (by decide))]
                  exact HZ.out)
                clear hf h8 rd8 hrow8 hgr8 hbl8 n8
                refine shut_C hK ?_ (fun hC => ?_)
                · first | exact ⟨x80, x81⟩ | exact ⟨x40, x41⟩ | exact ⟨x4B0, x4B1⟩ | exact ⟨x0, x1⟩ | exact ⟨xA0, xA1⟩ | exact ⟨xB0, xB1⟩ | exact ⟨xAB0, xAB1⟩ | exact ⟨xBA0, xBA1⟩
                clear hK K
                try simp only [Act.put, List.setIfInBounds_toArray, List.set_cons_zero, List.set_cons_succ]
                refine wpAnyD_ready (fuel := 2) (rs := [10]) (by kernel_rfl) (by simp) ?_
                refine AllReadyD.cons (o := _) rfl (fun K hK => ?_) ?_
                · go_simp
                  refine shut_K hK (by kernel_rfl) ?_
                  clear hK K
                  try simp only [Act.put, List.setIfInBounds_toArray, List.set_cons_zero, List.set_cons_succ]
                  refine wpAnyD_take (i := 11) (dst := some 29) (v := ?_) (fuel := 1) rfl rfl (by kernel_rfl) (fun _ _ _ h => h) (by rfl) ?_ (.inl (by kernel_rfl)) ?_
                  rotate_left
                  · (intro w; go_simp; try with_reducible rfl)
                  simp only [Act.put, List.setIfInBounds_toArray, List.set_cons_zero, List.set_cons_succ]
                  refine wpAnyD_ready (fuel := 0) (rs := [12]) (by kernel_rfl) (by simp) ?_
                  refine AllReadyD.cons (o := _) rfl (fun K hK => ?_) ?_
                  · go_simp
                    refine shut_K hK (by kernel_rfl) ?_
                    clear hK K
                    try simp only [Act.put, List.setIfInBounds_toArray, List.set_cons_zero, List.set_cons_succ]
                    refine wpAnyD_done (by kernel_rfl) ?_ _
                    refine NoPanic.normal ?_
                    clear hrow4 hgr4 hbl4 h4 rb4
                    go_wp2_with fail
                    go_roundw
                    case rel => exact ⟨j + 1, by omega, by go_num, HT.out, HZ8.out, _, _, HF.out⟩
                    case measure => simp [intOf]; omega
                  exact AllReadyD.nil
                exact AllReadyD.nil
              exact AllReadyD.nil
            exact AllReadyD.nil
          exact AllReadyD.nil
        exact AllReadyD.nil
      refine AllReadyD.cons (o := _) rfl (fun K hK => ?_) ?_
      · go_simp
        refine shut_C hK ?_ (fun hC => ?_)
        · first | exact ⟨x80, x81⟩ | exact ⟨x40, x41⟩ | exact ⟨x4B0, x4B1⟩ | exact ⟨x0, x1⟩ | exact ⟨xA0, xA1⟩ | exact ⟨xB0, xB1⟩ | exact ⟨xAB0, xAB1⟩ | exact ⟨xBA0, xBA1⟩
        clear hK K
        try simp only [Act.put, List.setIfInBounds_toArray, List.set_cons_zero, List.set_cons_succ]
        refine wpAnyD_ready (fuel := 7) (rs := [2]) (by kernel_rfl) (by simp) ?_
        refine AllReadyD.cons (o := _) rfl (fun K hK => ?_) ?_
        · go_simp
          go_at_call 13
          with_reducible refine (full_ref _ _ ?_).mono ?_
          · decide
          rintro e _ ⟨rfl, rfl⟩
          go_wp2_with fail
          refine shut_C hK ?_ (fun hC => ?_)
          · first | exact ⟨x80, x81⟩ | exact ⟨x40, x41⟩ | exact ⟨x4B0, x4B1⟩ | exact ⟨x0, x1⟩ | exact ⟨xA0, xA1⟩ | exact ⟨xB0, xB1⟩ | exact ⟨xAB0, xAB1⟩ | exact ⟨xBA0, xBA1⟩
          clear hK K
          try simp only [Act.put, List.setIfInBounds_toArray, List.set_cons_zero, List.set_cons_succ]
          refine wpAnyD_ready (fuel := 6) (rs := [3]) (by kernel_rfl) (by simp) ?_
          refine AllReadyD.cons (o := _) rfl (fun K hK => ?_) ?_
          · go_simp
            refine shut_C hK ?_ (fun hC => ?_)
            · first | exact ⟨x80, x81⟩ | exact ⟨x40, x41⟩ | exact ⟨x4B0, x4B1⟩ | exact ⟨x0, x1⟩ | exact ⟨xA0, xA1⟩ | exact ⟨xB0, xB1⟩ | exact ⟨xAB0, xAB1⟩ | exact ⟨xBA0, xBA1⟩
            clear hK K
            try simp only [Act.put, List.setIfInBounds_toArray, List.set_cons_zero, List.set_cons_succ]
            refine wpAnyD_ready (fuel := 5) (rs := [4]) (by kernel_rfl) (by simp) ?_
            refine AllReadyD.cons (o := _) rfl (fun K hK => ?_) ?_
            · refine step_grow rfl _ _ 27 rfl 9 _ _ 16 Try.underlying27 rfl rfl rfl rfl rfl (by decide) (.slice ad j cd) j _ _ (.string (fullB ⟨#[]⟩)) rfl rfl (by first | exact HR.out.rd.alloc _ | exact (HR.out.rd.alloc _).alloc _) (by first | exact cA | exact cAB | exact cBA) rfl (by omega) ?_
              intro a4 c4 w4 hrow4 hgr4 hbl4
              have h4 : ∀ i, i < wr.heap.size → some i ≠ (Value.slice ad j cd).ownBlock → w4.heap[i]? = wr.heap[i]? := fun i hi hne => (hgr4.block i (by simp; omega) hne).trans (by first | exact keep1 wr _ i hi | exact keep2 wr _ _ i hi)
              have s4 : wr.heap.size < w4.heap.size := by have := hgr4.size; simp at this; omega
              have n4 : ∀ k, (Value.slice a4 (j + 1) c4).ownBlock = some k → w.heap.size ≤ k := fun k hk => by
                rcases hbl4 with e | ⟨e, _⟩ <;> rw [e] at hk
                · exact HR.out.sd k hk
                · have := HB.out.size; simp at hk; omega
              have x40 : w4.cell? ⟨w.heap.size + 1, 0, none⟩ = some (.slice ad j cd) := (World.cell?_of_block (h4 _ hcl hnC)).trans x0
              have x41 : w4.cell? ⟨w.heap.size + 1, 1, none⟩ = some (.slice ab j cb) := (World.cell?_of_block (h4 _ hcl hnC)).trans x1
              have x4F : ∀ o i, (w4.alloc o).cell? ⟨w.heap.size + 1, i, none⟩ = w4.cell? ⟨w.heap.size + 1, i, none⟩ := fun o i => World.cell?_of_block (Below.heap_alloc w4 o _ (Nat.lt_trans hcl s4))
              have x4B0 := (x4F (.cells #[.bool false] 4) 0).trans x40
              have x4B1 := (x4F (.cells #[.bool false] 4) 1).trans x41
              have rb4 : w4.ownsRow 0 4 1 (.slice ab j cb) j (List.replicate j (.bool false)) := row_of HR.out.rb fun g hg => h4 g (HR.out.rb.lt g hg).2 (own_ne HR.out.rb HR.out.rd (by decide) hg)
              clear x4F
              refine shut_C hK ?_ (fun hC => ?_)
              · first | exact ⟨x80, x81⟩ | exact ⟨x40, x41⟩ | exact ⟨x4B0, x4B1⟩ | exact ⟨x0, x1⟩ | exact ⟨xA0, xA1⟩ | exact ⟨xB0, xB1⟩ | exact ⟨xAB0, xAB1⟩ | exact ⟨xBA0, xBA1⟩
              clear hK K
              try simp only [Act.put, List.setIfInBounds_toArray, List.set_cons_zero, List.set_cons_succ]
              refine wpAnyD_take (i := 9) (dst := some 28) (v := ?_) (fuel := 4) rfl rfl (by kernel_rfl) (fun _ _ _ h => h) (by rfl) ?_ (.inr hC) ?_
              rotate_left
              · (intro w; go_simp; try with_reducible rfl)
              simp only [Act.put, List.setIfInBounds_toArray, List.set_cons_zero, List.set_cons_succ]
              refine wpAnyD_ready (fuel := 3) (rs := [8]) (by kernel_rfl) (by simp) ?_
              refine AllReadyD.cons (o := _) rfl (fun K hK => ?_) ?_
              · refine step_grow rfl _ _ 28 rfl 4 _ _ 1 Try.underlying28 rfl rfl rfl rfl rfl (by decide) (.slice ab j cb) j (List.replicate j (.bool false)) _ (.bool false) rfl rfl (by first | exact rb4 | exact rb4.alloc _) (by first | exact World.cell?_alloc_mark .. | (rw [World.cell?_of_block (hgr4.block _ (by first | (simp; done) | (simp; omega)) (fun e => absurd (hvd _ e.symm) (Nat.not_lt.2 (by first | omega | (simp; done) | (simp; omega)))))]; first | exact dAB | exact dBA)) rfl (by omega) ?_
                intro a8 c8 w8 hrow8 hgr8 hbl8
                have h8 : ∀ i, i < wr.heap.size → some i ≠ (Value.slice ad j cd).ownBlock → some i ≠ (Value.slice ab j cb).ownBlock → w8.heap[i]? = wr.heap[i]? := fun i hi hne hne' => (hgr8.block i (by first | omega | (simp; omega)) hne').trans (Eq.trans (by first | rfl | exact keep3 w4 _ i (by omega)) (h4 i hi hne))
                have s8 : wr.heap.size < w8.heap.size := by have := hgr8.size; (try simp at this); omega
                have n8 : ∀ k, (Value.slice a8 (j + 1) c8).ownBlock = some k → w.heap.size ≤ k := fun k hk => by
                  rcases hbl8 with e | ⟨e, _⟩ <;> rw [e] at hk
                  · exact HR.out.sb k hk
                  · have := HB.out.size; simp at hk; omega
                have rd8 : w8.ownsRow 0 9 1 (.slice a4 (j + 1) c4) (j + 1) (List.replicate j (.string (fullB ⟨#[]⟩)) ++ [.string (fullB ⟨#[]⟩)]) := row_of hrow4 fun g hg => by
                  have hl := (hrow4.lt g hg).2
                  exact (hgr8.block g (by first | omega | (simp; omega)) (own_ne hrow4 rb4 (by decide) hg)).trans (by first | rfl | exact keep3 w4 _ g hl)
                obtain ⟨hf, x80, x81, x8f⟩ := HR.out.push h8 rd8 hrow8 n4 n8
                have HF := Lib.hid hf
                have HT : Hid (Below w.heap.size w ((w8.setCell ⟨w.heap.size + 1, 0, none⟩ (.slice a4 (j + 1) c4)).setCell ⟨w.heap.size + 1, 1, none⟩ (.slice a8 (j + 1) c8))) := Lib.hid (by
                  have hsz := HB.out.size
                  have g2 : Below w.heap.size w w8 := HB.out.trans ⟨hgr8.os.trans hgr4.os, hgr8.tape.trans hgr4.tape, hgr8.output.trans hgr4.output, by omega, fun i hi => h8 i (by omega) (fun e => by have := HR.out.sd i e.symm; omega) (fun e => by have := HR.out.sb i e.symm; omega)⟩
                  exact (g2.setCell (by simp) _).setCell (by simp) _)
                have HZ8 : Hid (((w8.setCell ⟨w.heap.size + 1, 0, none⟩ (.slice a4 (j + 1) c4)).setCell ⟨w.heap.size + 1, 1, none⟩ (.slice a8 (j + 1) c8)).heap[w.heap.size]? = some (.cells zr33 33 (0, 0))) := Lib.hid (by
                  have hl : w.heap.size < wr.heap.size := (Array.getElem?_eq_some_iff.1 HZ.out).1
                  have n33 : ∀ {e v n xs}, wr.ownsRow 0 e 1 v n xs → e ≠ 33 → some w.heap.size ≠ v.ownBlock := fun hr he hD => by
                    obtain ⟨cur, hc⟩ := row_block hr hD.symm
                    rw [HZ.out] at hc
                    injection hc with hc; injection hc with _ hc _; exact he hc.symm
                  rw [Below.heap_setCell _ ⟨w.heap.size + 1, 1, none⟩ _ _ (by show w.heap.size ≠ w.heap.size + 1; omega), Below.heap_setCell _ ⟨w.heap.size + 1, 0, none⟩ _ _ (by show w.heap.size ≠ w.heap.size + 1; omega), h8 _ hl (n33 HR.out.rd (by decide)) (n33 HR.out.rb (by decide))]
                  exact HZ.out)
                clear hf h8 rd8 hrow8 hgr8 hbl8 n8
                refine shut_C hK ?_ (fun hC => ?_)
                · first | exact ⟨x80, x81⟩ | exact ⟨x40, x41⟩ | exact ⟨x4B0, x4B1⟩ | exact ⟨x0, x1⟩ | exact ⟨xA0, xA1⟩ | exact ⟨xB0, xB1⟩ | exact ⟨xAB0, xAB1⟩ | exact ⟨xBA0, xBA1⟩
                clear hK K
                try simp only [Act.put, List.setIfInBounds_toArray, List.set_cons_zero, List.set_cons_succ]
                refine wpAnyD_ready (fuel := 2) (rs := [10]) (by kernel_rfl) (by simp) ?_
                refine AllReadyD.cons (o := _) rfl (fun K hK => ?_) ?_
                · go_simp
                  refine shut_K hK (by kernel_rfl) ?_
                  clear hK K
                  try simp only [Act.put, List.setIfInBounds_toArray, List.set_cons_zero, List.set_cons_succ]
                  refine wpAnyD_take (i := 11) (dst := some 29) (v := ?_) (fuel := 1) rfl rfl (by kernel_rfl) (fun _ _ _ h => h) (by rfl) ?_ (.inl (by kernel_rfl)) ?_
                  rotate_left
                  · (intro w; go_simp; try with_reducible rfl)
                  simp only [Act.put, List.setIfInBounds_toArray, List.set_cons_zero, List.set_cons_succ]
                  refine wpAnyD_ready (fuel := 0) (rs := [12]) (by kernel_rfl) (by simp) ?_
                  refine AllReadyD.cons (o := _) rfl (fun K hK => ?_) ?_
                  · go_simp
                    refine shut_K hK (by kernel_rfl) ?_
                    clear hK K
                    try simp only [Act.put, List.setIfInBounds_toArray, List.set_cons_zero, List.set_cons_succ]
                    refine wpAnyD_done (by kernel_rfl) ?_ _
                    refine NoPanic.normal ?_
                    clear hrow4 hgr4 hbl4 h4 rb4
                    go_wp2_with fail
                    go_roundw
                    case rel => exact ⟨j + 1, by omega, by go_num, HT.out, HZ8.out, _, _, HF.out⟩
                    case measure => simp [intOf]; omega
                  exact AllReadyD.nil
                exact AllReadyD.nil
              exact AllReadyD.nil
            exact AllReadyD.nil
          exact AllReadyD.nil
        exact AllReadyD.nil
      exact AllReadyD.nil
    · obtain rfl : n = j := by omega
      obtain ⟨ad, cd, rfl⟩ := row_slice hrk.rd
      obtain ⟨ab, cb, rfl⟩ := row_slice hrk.rb
      have ho := hrk.obj
      have x0 : wr.cell? ⟨w.heap.size + 1, 0, none⟩ = some (.slice ad n cd) := by rw [cell_of_row wr _ 0 _ _ _ ho]; rfl
      have x1 : wr.cell? ⟨w.heap.size + 1, 1, none⟩ = some (.slice ab n cb) := by rw [cell_of_row wr _ 1 _ _ _ ho]; rfl
      have x2 : wr.cell? ⟨w.heap.size + 1, 2, none⟩ = some (.slice none 0 0) := by rw [cell_of_row wr _ 2 _ _ _ ho]; rfl
      have x3 : wr.cell? ⟨w.heap.size + 1, 3, none⟩ = some (.int .i64 (-1)) := by rw [cell_of_row wr _ 3 _ _ _ ho]; rfl
      have x4 : wr.cell? ⟨w.heap.size + 1, 4, none⟩ = some (.bool false) := by rw [cell_of_row wr _ 4 _ _ _ ho]; rfl
      have x5 : wr.cell? ⟨w.heap.size + 1, 5, none⟩ = some (.int .i64 0) := by rw [cell_of_row wr _ 5 _ _ _ ho]; rfl
      have x6 : wr.cell? ⟨w.heap.size + 1, 6, none⟩ = some (.int .i64 0) := by rw [cell_of_row wr _ 6 _ _ _ ho]; rfl
      have x7 : wr.cell? ⟨w.heap.size + 1, 7, none⟩ = some (.int .i64 0) := by rw [cell_of_row wr _ 7 _ _ _ ho]; rfl
      have hz := HZ.out
      have z : ∀ i (h : i < 8), wr.cell? ⟨w.heap.size, i, none⟩ = zr33[i]? := fun i _ => by rw [cell_of_row wr _ i _ _ _ hz]
      have z0 : wr.cell? ⟨w.heap.size, 0, none⟩ = some (.slice none 0 0) := z 0 (by decide)
      have z1 : wr.cell? ⟨w.heap.size, 1, none⟩ = some (.slice none 0 0) := z 1 (by decide)
      have z2 : wr.cell? ⟨w.heap.size, 2, none⟩ = some (.slice none 0 0) := z 2 (by decide)
      have z3 : wr.cell? ⟨w.heap.size, 3, none⟩ = some (.int .i64 0) := z 3 (by decide)
      have z4 : wr.cell? ⟨w.heap.size, 4, none⟩ = some (.bool false) := z 4 (by decide)
      have z5 : wr.cell? ⟨w.heap.size, 5, none⟩ = some (.int .i64 0) := z 5 (by decide)
      have z6 : wr.cell? ⟨w.heap.size, 6, none⟩ = some (.int .i64 0) := z 6 (by decide)
      have z7 : wr.cell? ⟨w.heap.size, 7, none⟩ = some (.int .i64 0) := z 7 (by decide)
      have zf : ∀ i, wr.frozen? ⟨w.heap.size, i, none⟩ = false := fun i => by simp [World.frozen?, hz]
      clear hrk hbel ho hz z
      go_wp2_with fail
      refine bodyPost_ret (v := .tuple #[.agg #[.slice ad n cd, .slice ab n cb, .slice none 0 0, .int .i64 (-1), .bool false, .int .i64 0, .int .i64 0, .int .i64 0], .int .i64 0]) (by simp [results, Try.results20, go_sem, z0, z1, z2, z3, z4, z5, z6, z7]) rfl ⟨_, rfl, ?_, .slice ad n cd, .slice ab n cb, .slice none 0 0, rfl, ?_⟩
      · exact (((((((HB.out.setCell (Nat.le_refl _) _).setCell (Nat.le_refl _) _).setCell (Nat.le_refl _) _).setCell (Nat.le_refl _) _).setCell (Nat.le_refl _) _).setCell (Nat.le_refl _) _).setCell (Nat.le_refl _) _).setCell (Nat.le_refl _) _
      · have n33 : ∀ {e v n xs}, wr.ownsRow 0 e 1 v n xs → e ≠ 33 → ∀ g, v.ownBlock = some g → g ≠ w.heap.size := fun hr he g hg hD => by
          obtain ⟨cur, hc⟩ := row_block hr hg
          rw [hD, HZ.out] at hc
          injection hc with hc; injection hc with _ hc _; exact he hc.symm
        have far : ∀ g, g ≠ w.heap.size → _ := fun g hg => set8_far wr w.heap.size (.slice ad n cd) (.slice ab n cb) (.slice none 0 0) (.int .i64 (-1)) (.bool false) (.int .i64 0) (.int .i64 0) (.int .i64 0) g hg
        have hrf := HR.out.rf h0
        exact ⟨row_of hrf.rd fun g hg => far g (n33 HR.out.rd (by decide) g hg), hrf.sd, row_of hrf.rb fun g hg => far g (n33 HR.out.rb (by decide) g hg), hrf.sb, World.ownsRow_nil _ _ _ _, hrf.sp, hrf.l64, hrf.len, hrf.fit⟩
end Go.Proofs.Ytagfnobchdfhfaa
