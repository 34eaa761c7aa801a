import Derived.Test.YtagfnobchdfhfaaXj
namespace Go.Proofs.Ytagfnobchdfhfaa
set_option linter.unusedSimpArgs false
set_option linter.unnecessarySimpa false
set_option linter.unusedVariables false
open Go.RowKit Go.ChangeShapes Go.WideShapes Go.ChangeAt
attribute [local go_sem ↓] Go.wp_at_zero Go.wp_at_succ

theorem endF_len (d : DM) (m : Nat → Nat) : (endF d m).secs.length = d.secs.length := by show (endN _ _ _ _).length = _; rw [endN_length]
theorem stepF_after (d : DM) (ha : d.after ≤ 9223372036854775807) : (stepF d).2.after ≤ 9223372036854775807 := by
  unfold stepF
  split
  · exact ha
  · split
    · show (-1 : Int) ≤ _; decide
    · split
      · show d.after - 1 ≤ _; omega
      · exact ha
/-- what an operation keeps -/
theorem stepO_inv (d : DM) (o : OpM) (ha : d.after ≤ 9223372036854775807) (hn : o.n ≤ 9223372036854775807) : (stepO d o).2.after ≤ 9223372036854775807 ∧ (stepO d o).2.pend.length ≤ d.pend.length + 1 ∧ (stepO d o).2.secs.length = d.secs.length := by
  have hs := stepF_same d
  have hsa := stepF_after d ha
  unfold stepO
  split
  · unfold readF
    split
    · exact ⟨ha, Nat.le_succ _, rfl⟩
    · split
      · exact ⟨ha, Nat.le_succ _, rfl⟩
      · exact ⟨ha, Nat.le_succ _, rfl⟩
  · split
    · show (writeF d o.n o.data).2.after ≤ _ ∧ (writeF d o.n o.data).2.pend.length ≤ _ ∧ (writeF d o.n o.data).2.secs.length = _
      unfold writeF
      split
      · exact ⟨ha, Nat.le_succ _, rfl⟩
      · split
        · exact ⟨ha, Nat.le_succ _, rfl⟩
        · split
          · exact ⟨hsa, by rw [hs.2.2.1]; omega, by rw [hs.1]⟩
          · refine ⟨hsa, ?_, by show (stepF d).2.secs.length = _; rw [hs.1]⟩
            show ((stepF d).2.pend ++ _).length ≤ _
            rw [hs.2.2.1]; simp
    · split
      · show (syncF d).2.after ≤ _ ∧ (syncF d).2.pend.length ≤ _ ∧ (syncF d).2.secs.length = _
        unfold syncF
        split
        · exact ⟨hsa, by rw [hs.2.2.1]; omega, by rw [hs.1]⟩
        · exact ⟨hsa, Nat.zero_le _, by rw [endF_len]; show (stepF d).2.secs.length = _; rw [hs.1]⟩
      · split
        · exact ⟨by show (-1 : Int) ≤ _; decide, Nat.zero_le _, endF_len d _⟩
        · split
          · show (failF d o.n).after ≤ _ ∧ (failF d o.n).pend.length ≤ _ ∧ (failF d o.n).secs.length = _
            unfold failF
            split
            · exact ⟨ha, Nat.le_succ _, rfl⟩
            · exact ⟨by show max o.n (-1) ≤ _; omega, Nat.le_succ _, rfl⟩
          · split
            · show (badF d o.n o.bad).2.after ≤ _ ∧ (badF d o.n o.bad).2.pend.length ≤ _ ∧ (badF d o.n o.bad).2.secs.length = _
              unfold badF
              split
              · exact ⟨ha, Nat.le_succ _, rfl⟩
              · exact ⟨ha, Nat.le_succ _, rfl⟩
            · show (damF d o.n o.at_ o.mask).2.after ≤ _ ∧ (damF d o.n o.at_ o.mask).2.pend.length ≤ _ ∧ (damF d o.n o.at_ o.mask).2.secs.length = _
              unfold damF
              split
              · exact ⟨ha, Nat.le_succ _, rfl⟩
              · split
                · exact ⟨ha, Nat.le_succ _, rfl⟩
                · exact ⟨ha, Nat.le_succ _, List.length_set⟩
theorem i64_le {n : Int} (h : (Lit.int .i64 n).wf = true) : n ≤ 9223372036854775807 := by
  simp [Lit.wf, IntKind.min, IntKind.max, IntKind.signed, IntKind.bits] at h; omega
/-- a law holds a disk, and the reference's value of it in block X -/
structure L8 (w0 : World) (X D : Nat) (d : DM) (w : World) (S T : Nat → Prop) (vd vb vp : Value) : Prop where
  st : StS w0 S D d w
  rf : RfO T d w vd vb vp
  tb : ∀ k, T k → w0.heap.size ≤ k ∧ k < w.heap.size
  dj : ∀ k, S k → ¬ T k
  x : w.heap[X]? = some (.cells #[vd, vb, vp, .int .i64 d.after, .bool d.failed, .int .i64 d.r, .int .i64 d.wn, .int .i64 d.sy] 33 (0, 0))
  xs : ¬ S X
  x0 : w0.heap.size ≤ X
section
variable {w0 w wa w2 wb w3 wc : World} {X D : Nat} {d d' : DM} {S T : Nat → Prop} {vd vb vp vd' vb' vp' : Value}
theorem L8.rf3 (h : L8 w0 X D d w S T vd vb vp) (ha : Below w.heap.size w wa) (r2 : RfO (grow T wa w2) d' w2 vd' vb' vp') (h2 : Below wa.heap.size wa w2) (hb : Below w2.heap.size w2 wb) (ht : Touch S wb w3) : RfO (grow T wa w2) d' w3 vd' vb' vp' := by
  have s1 := ha.size
  have s2 := h2.size
  have s3 := hb.size
  refine (r2.frame (w' := wb) fun k _ hk => hb.block k hk).frame fun k hk hl => ht.block k hl fun hS => ?_
  have hSb := (h.st.bd k hS).2
  rcases hk with hk | ⟨h1, _⟩
  · exact h.dj k hS hk
  · omega
theorem L8.x3 (h : L8 w0 X D d w S T vd vb vp) (ha : Below w.heap.size w wa) (h2 : Below wa.heap.size wa w2) (hb : Below w2.heap.size w2 wb) (ht : Touch S wb w3) : w3.heap[X]? = w.heap[X]? := by
  have s1 := ha.size
  have s2 := h2.size
  have s3 := hb.size
  have hl := (Array.getElem?_eq_some_iff.1 h.x).1
  rw [ht.block X (by omega) h.xs, hb.block X (by omega), h2.block X (by omega), ha.block X hl]
theorem L8.dk3 (h : L8 w0 X D d w S T vd vb vp) (ha : Below w.heap.size w wa) (h2 : Below wa.heap.size wa w2) (hb : Below w2.heap.size w2 wb) : Dk S D d wb := by
  have s1 := ha.size
  have s2 := h2.size
  exact h.st.dk.frame fun k _ hk => by rw [hb.block k (by omega), h2.block k (by omega), ha.block k hk]
theorem L8.next (h : L8 w0 X D d w S T vd vb vp) (ha : Below w.heap.size w wa) (h2 : Below wa.heap.size wa w2) (r2 : RfO (grow T wa w2) d' w2 vd' vb' vp') (hb : Below w2.heap.size w2 wb) (ht : Touch S wb w3) (hd : Dk (grow S wb w3) D d' w3) (hc : Below w3.heap.size w3 wc) :
    L8 w0 X D d' (set8 wc X vd' vb' vp' (.int .i64 d'.after) (.bool d'.failed) (.int .i64 d'.r) (.int .i64 d'.wn) (.int .i64 d'.sy)) (grow S wb w3) (grow T wa w2) vd' vb' vp' := by
  have s1 := ha.size
  have s2 := h2.size
  have s3 := hb.size
  have s4 := ht.size
  have s5 := hc.size
  have s0 := h.st.bel.size
  have hX3 := h.x3 ha h2 hb ht
  have hlX := (Array.getElem?_eq_some_iff.1 h.x).1
  have hXc : wc.heap[X]? = _ := (hc.block X (by omega)).trans (hX3.trans h.x)
  have hSW : (set8 wc X vd' vb' vp' (.int .i64 d'.after) (.bool d'.failed) (.int .i64 d'.r) (.int .i64 d'.wn) (.int .i64 d'.sy)).heap.size = wc.heap.size := by simp [set8]
  have b3 : Below w0.heap.size w0 w3 := ((h.st.bel.trans (ha.mono s0)).trans ((h2.mono (by omega)).trans (hb.mono (by omega)))).trans (ht.below _ (by omega) fun i hi => (h.st.bd i hi).1)
  have r3 := h.rf3 ha r2 h2 hb ht
  refine ⟨⟨?_, ?_, ?_⟩, ?_, ?_, ?_, set8_at hXc _ _ _ _ _ _ _ _, ?_, h.x0⟩
  · refine hd.frame fun k hk hl => ?_
    rw [set8_far _ _ _ _ _ _ _ _ _ _ _ (fun e => ?_), hc.block k hl]
    rw [e] at hk
    rcases hk with hk | ⟨h1, _⟩
    · exact h.xs hk
    · omega
  · exact below_set8 (b3.trans (hc.mono b3.size)) h.x0 _ _ _ _ _ _ _ _
  · intro k hk
    rw [hSW]
    rcases hk with hk | ⟨h1, h2'⟩
    · have := h.st.bd k hk; omega
    · omega
  · exact (r3.frame (w' := wc) fun k _ hk => hc.block k hk).far hXc hXc fun i h1 _ _ => set8_far _ _ _ _ _ _ _ _ _ _ _ h1
  · intro k hk
    rw [hSW]
    rcases hk with hk | ⟨h1, h2'⟩
    · have := h.tb k hk; omega
    · omega
  · intro k hk hk'
    rcases hk with hk | ⟨h1, h1'⟩
    · have := h.st.bd k hk
      rcases hk' with hk' | ⟨h3, _⟩
      · exact h.dj k hk hk'
      · omega
    · rcases hk' with hk' | ⟨h3, h4⟩
      · have := h.tb k hk'; omega
      · omega
  · rintro (hk | ⟨h1, _⟩)
    · exact h.xs hk
    · omega
end
end Go.Proofs.Ytagfnobchdfhfaa
