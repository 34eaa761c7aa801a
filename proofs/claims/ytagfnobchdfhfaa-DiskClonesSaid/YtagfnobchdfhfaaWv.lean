import Derived.Test.YtagfnobchdfhfaaWu
namespace Go.Proofs.Ytagfnobchdfhfaa
set_option linter.unusedSimpArgs false
set_option linter.unnecessarySimpa false
set_option linter.unusedVariables false
open Go.RowKit Go.ChangeShapes Go.WideShapes Go.ChangeAt
attribute [local go_sem ↓] Go.wp_at_zero Go.wp_at_succ

/-- a disk that works: its sectors and its pending writes -/
structure WI (secs : List (List UInt8)) (pend : List (Nat × ByteArray)) (d : DM) : Prop where
  len : secs.length = 6
  secs_ : d.secs = secs
  pend_ : d.pend = pend
  bad : d.bad = List.replicate 6 false
  fl : d.failed = false
  af : d.after = -1
theorem WI.write {secs : List (List UInt8)} {pend : List (Nat × ByteArray)} {d : DM} (h : WI secs pend d) (k : Nat) (hk : k < 6) (s : ByteArray) (hs : s.size = 64) : ∃ d', writeF d (k : Int) s = (0, d') ∧ WI secs (pend ++ [(k, s)]) d' := by
  have hin : inside d (k : Int) = true := by unfold inside; rw [h.secs_, h.len]; simp; omega
  have hst : stepF d = (true, d) := by unfold stepF; simp [h.fl, h.af]
  refine ⟨{ d with wn := IntKind.i64.wrap (d.wn + 1), pend := d.pend ++ [(k, s)] }, ?_, h.len, h.secs_, by show d.pend ++ _ = _; rw [h.pend_], h.bad, h.fl, h.af⟩
  unfold writeF
  rw [hin, hst]
  simp [hs]
theorem WI.sync {secs : List (List UInt8)} {pend : List (Nat × ByteArray)} {d : DM} (h : WI secs pend d) : ∃ d', syncF d = (0, d') ∧ WI (endN (fun _ => 64) secs pend pend.length) [] d' := by
  have hst : stepF d = (true, d) := by unfold stepF; simp [h.fl, h.af]
  refine ⟨endF { d with sy := IntKind.i64.wrap (d.sy + 1) } fun _ => 64, by unfold syncF; rw [hst]; rfl, by rw [endN_length]; exact h.len, ?_, rfl, h.bad, h.fl, h.af⟩
  show endN _ d.secs d.pend d.pend.length = _
  rw [h.secs_, h.pend_]
theorem WI.crash {secs : List (List UInt8)} {pend : List (Nat × ByteArray)} {d : DM} (h : WI secs pend d) (sv : List Int) : WI (endN (fun j => clampN (sv.getD j 0)) secs pend pend.length) [] (crashF d sv) := by
  refine ⟨by rw [endN_length]; exact h.len, ?_, rfl, h.bad, rfl, rfl⟩
  show endN _ d.secs d.pend d.pend.length = _
  rw [h.secs_, h.pend_]
theorem WI.read {secs : List (List UInt8)} {d : DM} (h : WI secs [] d) (k : Nat) (hk : k < 6) (b : List UInt8) (hb : secs[k]? = some b) : ∃ d', readF d (k : Int) = ((sB b, 0), d') ∧ WI secs [] d' := by
  have hin : inside d (k : Int) = true := by unfold inside; rw [h.secs_, h.len]; simp; omega
  have hbd : d.bad.getD (k : Int).toNat false = false := by rw [h.bad, List.getD_eq_getElem?_getD, List.getElem?_replicate]; split <;> rfl
  have hc : content d k = sB b := by
    unfold content
    rw [h.pend_, h.secs_, List.getD_eq_getElem?_getD, hb]; rfl
  refine ⟨{ d with r := IntKind.i64.wrap (d.r + 1) }, ?_, h.len, h.secs_, h.pend_, h.bad, h.fl, h.af⟩
  unfold readF
  rw [hin, hbd]
  simp [hc, h.fl]
def diag (f : Nat → ByteArray) (n : Nat) : List (Nat × ByteArray) := (List.range n).map fun i => (i, f i)
theorem diag_snoc (f : Nat → ByteArray) (n : Nat) : diag f n ++ [(n, f n)] = diag f (n + 1) := by unfold diag; rw [List.range_succ, List.map_append]; rfl
theorem diag_len (f : Nat → ByteArray) (n : Nat) : (diag f n).length = n := by simp [diag]
theorem endN_diag (m : Nat → Nat) (secs : List (List UInt8)) (f : Nat → ByteArray) (n : Nat) : ∀ j, j ≤ n → ∀ i, (endN m secs (diag f n) j)[i]? = if i < j then secs[i]?.map (fun o => torn o (f i).data.toList (m i)) else secs[i]? := by
  intro j
  induction j with
  | zero => intro _ i; simp [endN]
  | succ j ih =>
    intro hj i
    have e : (diag f n)[j]? = some (j, f j) := by unfold diag; rw [List.getElem?_map, List.getElem?_range (by omega)]; rfl
    unfold endN
    rw [e]
    show ((endN m secs (diag f n) j).modify j _)[i]? = _
    rw [List.getElem?_modify, ih (by omega) i]
    by_cases h1 : j = i
    · subst h1
      simp
    · by_cases h2 : i < j
      · have h3 : i < j + 1 := by omega
        simp [h1, h2, h3]
      · have h3 : ¬ i < j + 1 := by omega
        simp [h1, h2, h3]
theorem torn_all (o b : List UInt8) (ho : o.length = 64) (hb : b.length = 64) : torn o b 64 = b := by
  unfold torn; rw [List.take_of_length_le (by omega), List.drop_of_length_le (by omega), List.append_nil]
theorem torn_str (old x : ByteArray) (k : Nat) (ho : old.size = 64) : sB (torn old.data.toList x.data.toList k) = x.extract 0 k ++ old.extract k 64 := by
  apply ByteArray.ext
  apply Array.ext'
  have hl : old.data.toList.length = 64 := by rw [Array.length_toList]; exact ho
  simp only [sB, torn, ByteArray.data_append, ByteArray.data_extract, Array.toList_append, Array.toList_extract, List.extract_eq_take_drop]
  simp
  rw [List.take_of_length_le (by simp; omega)]
/-- what the sectors hold behind the crash -/
theorem torn_secs (old : ByteArray) (ho : old.size = 64) (f : Nat → ByteArray) (hf : ∀ i, (f i).size = 64) (n : Nat) (hn : n ≤ 6) (sv : List Int) (i : Nat) (hi : i < 6) :
    (endN (fun j => clampN (sv.getD j 0)) (endN (fun _ => 64) (List.replicate 6 (List.replicate 64 0)) (diag (fun _ => old) 6) 6) (diag f n) n)[i]? = some (if i < n then torn old.data.toList (f i).data.toList (clampN (sv.getD i 0)) else old.data.toList) := by
  have hl : old.data.toList.length = 64 := by rw [Array.length_toList]; exact ho
  have e : (endN (fun _ => 64) (List.replicate 6 (List.replicate 64 0)) (diag (fun _ => old) 6) 6)[i]? = some old.data.toList := by
    rw [endN_diag _ _ _ 6 6 (Nat.le_refl _) i, if_pos hi, List.getElem?_replicate, if_pos hi]
    simp only [Option.map_some]
    rw [torn_all _ _ (by simp) hl]
  rw [endN_diag _ _ _ n n (Nat.le_refl _) i, e]
  split <;> rfl
end Go.Proofs.Ytagfnobchdfhfaa
