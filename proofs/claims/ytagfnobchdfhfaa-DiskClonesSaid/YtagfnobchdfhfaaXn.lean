import Derived.Test.YtagfnobchdfhfaaXm
namespace Go.Proofs.Ytagfnobchdfhfaa
set_option linter.unusedSimpArgs false
set_option linter.unnecessarySimpa false
set_option linter.unusedVariables false
open Go.RowKit Go.ChangeShapes Go.WideShapes Go.ChangeAt
attribute [local go_sem ↓] Go.wp_at_zero Go.wp_at_succ

/-- a law holds a disk (a clone of an older one), and the reference's value of it in block X -/
structure L9 (w0 : World) (X D : Nat) (d : DM) (w : World) (S T : Nat → Prop) (vd vb vp : Value) : Prop where
  st : StS w0 S D d w
  rf : RfO T d w vd vb vp
  tb : ∀ k, T k → k < w.heap.size
  dj : ∀ k, S k → ¬ T k
  x : w.heap[X]? = some (.cells #[vd, vb, vp, .int .i64 d.after, .bool d.failed, .int .i64 d.r, .int .i64 d.wn, .int .i64 d.sy] 33 (0, 0))
  xs : ¬ S X
  x0 : w0.heap.size ≤ X
section
variable {w0 w wa w2 wb w3 wc : World} {X D : Nat} {d d' : DM} {S T : Nat → Prop} {vd vb vp vd' vb' vp' : Value}
theorem L9.rf3 (h : L9 w0 X D d w S T vd vb vp) (ha : Below w.heap.size w wa) (r2 : RfO (grow T wa w2) d' w2 vd' vb' vp') (h2 : Below wa.heap.size wa w2) (hb : Below w2.heap.size w2 wb) (ht : Touch S wb w3) : RfO (grow T wa w2) d' w3 vd' vb' vp' := by
  have s1 := ha.size
  have s2 := h2.size
  have s3 := hb.size
  refine (r2.frame (w' := wb) fun k _ hk => hb.block k hk).frame fun k hk hl => ht.block k hl fun hS => ?_
  have hSb := (h.st.bd k hS).2
  rcases hk with hk | ⟨h1, _⟩
  · exact h.dj k hS hk
  · omega
theorem L9.x3 (h : L9 w0 X D d w S T vd vb vp) (ha : Below w.heap.size w wa) (h2 : Below wa.heap.size wa w2) (hb : Below w2.heap.size w2 wb) (ht : Touch S wb w3) : w3.heap[X]? = w.heap[X]? := by
  have s1 := ha.size
  have s2 := h2.size
  have s3 := hb.size
  have hl := (Array.getElem?_eq_some_iff.1 h.x).1
  rw [ht.block X (by omega) h.xs, hb.block X (by omega), h2.block X (by omega), ha.block X hl]
theorem L9.dk3 (h : L9 w0 X D d w S T vd vb vp) (ha : Below w.heap.size w wa) (h2 : Below wa.heap.size wa w2) (hb : Below w2.heap.size w2 wb) : Dk S D d wb := by
  have s1 := ha.size
  have s2 := h2.size
  exact h.st.dk.frame fun k _ hk => by rw [hb.block k (by omega), h2.block k (by omega), ha.block k hk]
theorem L9.next (h : L9 w0 X D d w S T vd vb vp) (ha : Below w.heap.size w wa) (h2 : Below wa.heap.size wa w2) (r2 : RfO (grow T wa w2) d' w2 vd' vb' vp') (hb : Below w2.heap.size w2 wb) (ht : Touch S wb w3) (hd : Dk (grow S wb w3) D d' w3) (hc : Below w3.heap.size w3 wc) :
    L9 w0 X D d' (set8 wc X vd' vb' vp' (.int .i64 d'.after) (.bool d'.failed) (.int .i64 d'.r) (.int .i64 d'.wn) (.int .i64 d'.sy)) (grow S wb w3) (grow T wa w2) vd' vb' vp' := by
  have s1 := ha.size
  have s2 := h2.size
  have s3 := hb.size
  have s4 := ht.size
  have s5 := hc.size
  have s0 := h.st.bel.size
  have hX3 := h.x3 ha h2 hb ht
  have hlX := (Array.getElem?_eq_some_iff.1 h.x).1
  have hXc : wc.heap[X]? = _ := (hc.block X (by omega)).trans (hX3.trans h.x)
  have hSW : (set8 wc X vd' vb' vp' (.int .i64 d'.after) (.bool d'.failed) (.int .i64 d'.r) (.int .i64 d'.wn) (.int .i64 d'.sy)).heap.size = wc.heap.size := by simp [set8]
  have b3 : Below w0.heap.size w0 w3 := ((h.st.bel.trans (ha.mono s0)).trans ((h2.mono (by omega)).trans (hb.mono (by omega)))).trans (ht.below _ (by omega) fun i hi => (h.st.bd i hi).1)
  have r3 := h.rf3 ha r2 h2 hb ht
  refine ⟨⟨?_, ?_, ?_⟩, ?_, ?_, ?_, set8_at hXc _ _ _ _ _ _ _ _, ?_, h.x0⟩
  · refine hd.frame fun k hk hl => ?_
    rw [set8_far _ _ _ _ _ _ _ _ _ _ _ (fun e => ?_), hc.block k hl]
    rw [e] at hk
    rcases hk with hk | ⟨h1, _⟩
    · exact h.xs hk
    · omega
  · exact below_set8 (b3.trans (hc.mono b3.size)) h.x0 _ _ _ _ _ _ _ _
  · intro k hk
    rw [hSW]
    rcases hk with hk | ⟨h1, h2'⟩
    · have := h.st.bd k hk; omega
    · omega
  · exact (r3.frame (w' := wc) fun k _ hk => hc.block k hk).far hXc hXc fun i h1 _ _ => set8_far _ _ _ _ _ _ _ _ _ _ _ h1
  · intro k hk
    rw [hSW]
    rcases hk with hk | ⟨h1, h2'⟩
    · have := h.tb k hk; omega
    · omega
  · intro k hk hk'
    rcases hk with hk | ⟨h1, h1'⟩
    · have := h.st.bd k hk
      rcases hk' with hk' | ⟨h3, _⟩
      · exact h.dj k hk hk'
      · omega
    · rcases hk' with hk' | ⟨h3, h4⟩
      · have := h.tb k hk'; omega
      · omega
  · rintro (hk | ⟨h1, _⟩)
    · exact h.xs hk
    · omega
end
section
variable {w0 w wa w2 w3 wc : World} {X D : Nat} {d d' : DM} {S T : Nat → Prop} {vd vb vp vd' vb' vp' : Value}
theorem L8.rf2 (h : L8 w0 X D d w S T vd vb vp) (ha : Below w.heap.size w wa) (ht : Touch S wa w2) : RfO T d w2 vd vb vp :=
  (h.rf.frame (w' := wa) fun k _ hk => ha.block k hk).frame fun k hk hl => ht.block k hl fun hS => h.dj k hS hk
theorem L8.x2 (h : L8 w0 X D d w S T vd vb vp) (ha : Below w.heap.size w wa) (ht : Touch S wa w2) : w2.heap[X]? = w.heap[X]? := by
  have s1 := ha.size
  have hl := (Array.getElem?_eq_some_iff.1 h.x).1
  rw [ht.block X (by omega) h.xs, ha.block X hl]
theorem L8.next2 (h : L8 w0 X D d w S T vd vb vp) (ha : Below w.heap.size w wa) (ht : Touch S wa w2) (hd : Dk (grow S wa w2) D d' w2) (h3 : Below w2.heap.size w2 w3) (r3 : RfO (grow T w2 w3) d' w3 vd' vb' vp') :
    L8 w0 X D d' (set8 w3 X vd' vb' vp' (.int .i64 d'.after) (.bool d'.failed) (.int .i64 d'.r) (.int .i64 d'.wn) (.int .i64 d'.sy)) (grow S wa w2) (grow T w2 w3) vd' vb' vp' := by
  have s1 := ha.size
  have s2 := ht.size
  have s3 := h3.size
  have s0 := h.st.bel.size
  have hX2 := h.x2 ha ht
  have hlX := (Array.getElem?_eq_some_iff.1 h.x).1
  have hXc : w3.heap[X]? = _ := (h3.block X (by omega)).trans (hX2.trans h.x)
  have hSW : (set8 w3 X vd' vb' vp' (.int .i64 d'.after) (.bool d'.failed) (.int .i64 d'.r) (.int .i64 d'.wn) (.int .i64 d'.sy)).heap.size = w3.heap.size := by simp [set8]
  have b2 : Below w0.heap.size w0 w2 := (h.st.bel.trans (ha.mono s0)).trans (ht.below _ (by omega) fun i hi => (h.st.bd i hi).1)
  refine ⟨⟨?_, ?_, ?_⟩, ?_, ?_, ?_, set8_at hXc _ _ _ _ _ _ _ _, ?_, h.x0⟩
  · refine hd.frame fun k hk hl => ?_
    rw [set8_far _ _ _ _ _ _ _ _ _ _ _ (fun e => ?_), h3.block k hl]
    rw [e] at hk
    rcases hk with hk | ⟨h1, _⟩
    · exact h.xs hk
    · omega
  · exact below_set8 (b2.trans (h3.mono b2.size)) h.x0 _ _ _ _ _ _ _ _
  · intro k hk
    rw [hSW]
    rcases hk with hk | ⟨h1, h2'⟩
    · have := h.st.bd k hk; omega
    · omega
  · exact r3.far hXc hXc fun i h1 _ _ => set8_far _ _ _ _ _ _ _ _ _ _ _ h1
  · intro k hk
    rw [hSW]
    rcases hk with hk | ⟨h1, h2'⟩
    · have := h.tb k hk; omega
    · omega
  · intro k hk hk'
    rcases hk with hk | ⟨h1, h1'⟩
    · have := h.st.bd k hk
      rcases hk' with hk' | ⟨h3, _⟩
      · exact h.dj k hk hk'
      · omega
    · rcases hk' with hk' | ⟨h3, h4⟩
      · have := h.tb k hk'; omega
      · omega
  · rintro (hk | ⟨h1, _⟩)
    · exact h.xs hk
    · omega
theorem L8.same (h : L8 w0 X D d w S T vd vb vp) (ha : Below w.heap.size w wa) : L8 w0 X D d wa S T vd vb vp := by
  have s1 := ha.size
  have hlX := (Array.getElem?_eq_some_iff.1 h.x).1
  exact ⟨h.st.same ha, h.rf.frame fun k _ hk => ha.block k hk, fun k hk => by have := h.tb k hk; omega, h.dj, (ha.block X hlX).trans h.x, h.xs, h.x0⟩
theorem L8.clone (h : L8 w0 X D d w S T vd vb vp) (h1 : Below w.heap.size w wa) (h2 : Dk (fun k => w.heap.size ≤ k) w.heap.size d wa) : L9 w wa.heap.size w.heap.size d (wa.alloc (.cells #[vd, vb, vp, .int .i64 d.after, .bool d.failed, .int .i64 d.r, .int .i64 d.wn, .int .i64 d.sy] 33)) (fun k => w.heap.size ≤ k ∧ k < wa.heap.size) T vd vb vp := by
  have s1 := h1.size
  refine ⟨⟨?_, ?_, ?_⟩, ?_, ?_, ?_, heap_alloc_new wa _, ?_, s1⟩
  · exact h2.bound.frame fun k _ hk => Below.heap_alloc _ _ k hk
  · exact h1.alloc s1 _
  · intro k hk
    have hk1 := hk.1
    have hk2 := hk.2
    simp; omega
  · exact (h.rf.frame (w' := wa) fun k _ hk => h1.block k hk).frame fun k _ hk => Below.heap_alloc _ _ k hk
  · intro k hk
    have := h.tb k hk
    simp; omega
  · intro k hk hk'
    have := h.tb k hk'
    have hk1 := hk.1
    omega
  · intro hk
    have := hk.2
    omega
end
end Go.Proofs.Ytagfnobchdfhfaa
