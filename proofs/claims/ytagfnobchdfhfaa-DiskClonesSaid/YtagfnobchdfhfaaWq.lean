import Derived.Test.YtagfnobchdfhfaaWp
import Derived.Deep.Slices
namespace Go.Proofs.Ytagfnobchdfhfaa
set_option linter.unusedSimpArgs false
set_option linter.unnecessarySimpa false
set_option linter.unusedVariables false
open Go.RowKit Go.ChangeShapes Go.WideShapes Go.ChangeAt
attribute [local go_sem ↓] Go.wp_at_zero Go.wp_at_succ

/-- a slice of cells, somewhere below N -/
def Ones {α : Type} [Inhabited α] (f : α → Value) (w : World) (N : Nat) (A : Option Addr) (l : List α) : Prop := ∀ i, i < l.length → ∃ a, A = some a ∧ a.block < N ∧ w.cell? (a.add i) = some (f (l.getD i default))
theorem Ones.below {α : Type} [Inhabited α] {f : α → Value} {w w' : World} {N M : Nat} {A : Option Addr} {l : List α} (h : Ones f w N A l) (hb : Below M w w') (hN : N ≤ M) : Ones f w' N A l := fun i hi => by
  obtain ⟨a, h1, h2, c0⟩ := h i hi
  have hb' : (a.add i).block = a.block := by unfold Addr.add; split <;> rfl
  exact ⟨a, h1, h2, (hb.cell (p := a.add i) (by rw [hb']; omega)).trans c0⟩
section
variable {H : Type} {enc : TypeId × Value → H} {w : World} {base b0 : Nat} {held : Bool}
theorem slice_of {P : Program} {r : Reach} {v u : Value} {t e : TypeId} (ht : P.underlying t = some (.slice e)) (hv : Value.okWide P w r b0 t v) (h : v.cells.toList = [u]) : v = u := by
  cases v with
  | agg cs => simp [Value.okWide, ht, Cell.okWide, Cell.ok] at hv
  | _ => simpa [Value.cells] using h
theorem open_ones {α : Type} [Inhabited α] (f : α → Value) (R : α → Prop) {t e : TypeId} (ht : Try.prog.underlying t = some (.slice e)) (hc : Try.prog.cellsOf e = 1)
    (helem : ∀ fuel cs x, DataW.trod enc Try.prog w base (fun _ => true) held fuel e cs = some x → ∃ y : α, cs = [f y] ∧ R y)
    {r : Reach} {v : Value} {d : DataW H} {p : List MemPlace} (hv : Value.okWide Try.prog w r b0 t v) (h : DataW.Trod enc Try.prog w base (fun _ => true) held t v d p) :
    ∃ (A : Option Addr) (n c : Nat) (l : List α), v = .slice A n c ∧ l.length = n ∧ Ones f w w.heap.size A l ∧ ∀ i, i < n → R (l.getD i default) := by
  obtain ⟨fuel, hf⟩ := h
  rcases Deep.open_slice ht hf with ⟨h1, _⟩ | ⟨a, len, cap, m, fu, D, Pl, h1, _, hlc, hcm, hm, _, hel⟩
  · exact ⟨none, 0, 0, [], slice_of ht hv h1, rfl, fun i hi => absurd hi (by simp), fun i hi => by omega⟩
  · rw [hc] at hel
    have key : ∀ i, i < len → ∃ y : α, w.cell? (a.add i) = some (f y) ∧ R y := by
      intro i hi
      obtain ⟨cs', hcs, htr⟩ := hel i (by rw [hm, if_pos rfl]; omega)
      obtain ⟨y, rfl, hy⟩ := helem _ _ _ htr
      obtain ⟨_, _, hat⟩ := World.cells?_some hcs
      have h0 := hat 0 (by decide)
      rw [Nat.mul_one] at h0
      exact ⟨y, by simpa [Addr.add] using h0, hy⟩
    obtain ⟨g, hg⟩ := Deep.choose_lt key
    have hgd : ∀ i, i < len → ((List.range len).map g).getD i default = g i := fun i hi => by simp [List.getD, hi]
    refine ⟨some a, len, cap, (List.range len).map g, slice_of ht hv h1, by simp, fun i hi => ?_, fun i hi => by rw [hgd i hi]; exact (hg i hi).2⟩
    have hi' : i < len := by simpa using hi
    refine ⟨a, rfl, ?_, by rw [hgd i hi']; exact (hg i hi').1⟩
    have := World.block_lt_of_cell? w _ (hg i hi').1
    have hb' : (a.add i).block = a.block := by unfold Addr.add; split <;> rfl
    rwa [hb'] at this
theorem open_int23 {r : Reach} {v : Value} {d : DataW H} {p : List MemPlace} (hv : Value.okWide Try.prog w r b0 23 v) (h : DataW.Trod enc Try.prog w base (fun _ => true) held 23 v d p) :
    ∃ (A : Option Addr) (n c : Nat) (l : List Int), v = .slice A n c ∧ l.length = n ∧ Ones (Value.int .i64) w w.heap.size A l := by
  obtain ⟨A, n, c, l, h1, h2, h3, _⟩ := open_ones (α := Int) (Value.int .i64) (fun _ => True) Try.underlying23 (by kernel_rfl) (fun fuel cs x hx => by
    obtain ⟨a, ha, _⟩ := DataW.trod_int Try.underlying3 hx
    exact ⟨a, ha, trivial⟩) hv h
  exact ⟨A, n, c, l, h1, h2, h3⟩
theorem open_bool28 {r : Reach} {v : Value} {d : DataW H} {p : List MemPlace} (hv : Value.okWide Try.prog w r b0 28 v) (h : DataW.Trod enc Try.prog w base (fun _ => true) held 28 v d p) :
    ∃ (A : Option Addr) (n c : Nat) (l : List Bool), v = .slice A n c ∧ l.length = n ∧ Ones Value.bool w w.heap.size A l := by
  obtain ⟨A, n, c, l, h1, h2, h3, _⟩ := open_ones (α := Bool) Value.bool (fun _ => True) Try.underlying28 (by kernel_rfl) (fun fuel cs x hx => by
    obtain ⟨a, ha, _⟩ := DataW.trod_bool Try.underlying4 hx
    exact ⟨a, ha, trivial⟩) hv h
  exact ⟨A, n, c, l, h1, h2, h3⟩
theorem open_str27 {r : Reach} {v : Value} {d : DataW H} {p : List MemPlace} (hv : Value.okWide Try.prog w r b0 27 v) (h : DataW.Trod enc Try.prog w base (fun _ => true) held 27 v d p) :
    ∃ (A : Option Addr) (n c : Nat) (l : List ByteArray), v = .slice A n c ∧ l.length = n ∧ Ones Value.string w w.heap.size A l ∧ ∀ i, i < n → (l.getD i default).size ≤ maxLen := by
  exact open_ones (α := ByteArray) Value.string (fun s => s.size ≤ maxLen) Try.underlying27 (by kernel_rfl) (fun fuel cs x hx => by
    obtain ⟨s, hs, _, hl⟩ := DataW.trod_string Try.underlying9 hx
    exact ⟨s, hs, hl⟩) hv h
end
/-! the laws of failing, plain -/
theorem keepL_get (l : List (List UInt8)) (k : Nat) (f : List UInt8 → List UInt8) (h : k ≠ 0) : (l.modify k f)[0]? = l[0]? := by
  rw [List.getElem?_modify]; simp [h]
theorem endN_keep (m : Nat → Nat) (secs : List (List UInt8)) (l : List (Nat × ByteArray)) (n : Nat) (h : ∀ p ∈ l, p.1 ≠ n) : ∀ j, (endN m secs l j)[n]? = secs[n]? := by
  intro j
  induction j with
  | zero => rfl
  | succ j ih =>
    unfold endN
    split
    · rename_i p hp
      rw [List.getElem?_modify]
      have := h p (List.mem_of_getElem? hp)
      simp [this, ih]
    · exact ih
/-- the state before call i of a disk that fails at call m; what is kept in sector 0 -/
structure FI (kept : List UInt8) (m i : Nat) (d : DM) : Prop where
  len : d.secs.length = 6
  zero : d.secs[0]? = some kept
  bad : d.bad = List.replicate 6 false
  pne : ∀ p ∈ d.pend, p.1 ≠ 0
  pl : d.pend.length ≤ i
  st : (i ≤ m ∧ d.failed = false ∧ d.after = (m : Int) - i) ∨ (m < i ∧ d.failed = true ∧ d.after = -1)
theorem FI.stepF {kept : List UInt8} {m i : Nat} {d : DM} (h : FI kept m i d) : ∃ d', stepF d = (decide (i < m), d') ∧ FI kept m (i + 1) d' := by
  obtain ⟨h1, h2, h3, h4, h5, h6⟩ := h
  rcases h6 with ⟨a, b, c⟩ | ⟨a, b, c⟩
  · rcases Nat.lt_or_ge i m with hi | hi
    · refine ⟨{ d with after := d.after - 1 }, ?_, h1, h2, h3, h4, by show d.pend.length ≤ i + 1; omega, .inl ⟨hi, b, ?_⟩⟩
      · have e1 : d.after ≠ 0 := by omega
        have e2 : 0 < d.after := by omega
        simp [Go.Proofs.Ytagfnobchdfhfaa.stepF, b, e1, e2, hi]
      · show d.after - 1 = (m : Int) - ((i + 1 : Nat) : Int)
        omega
    · refine ⟨{ d with failed := true, after := -1 }, ?_, h1, h2, h3, h4, by show d.pend.length ≤ i + 1; omega, .inr ⟨by omega, rfl, rfl⟩⟩
      have e1 : d.after = 0 := by omega
      have e2 : ¬ i < m := by omega
      simp [Go.Proofs.Ytagfnobchdfhfaa.stepF, b, e1, e2]
  · refine ⟨d, ?_, h1, h2, h3, h4, by omega, .inr ⟨by omega, b, c⟩⟩
    have e2 : ¬ i < m := by omega
    simp [Go.Proofs.Ytagfnobchdfhfaa.stepF, b, e2]
def okE (b : Bool) : Int := if b then 0 else 11
theorem FI.write {kept : List UInt8} {m i : Nat} {d : DM} (h : FI kept m i d) (k : Nat) (hk : 1 ≤ k ∧ k ≤ 5) (s : ByteArray) (hs : s.size = 64) : ∃ d', writeF d (k : Int) s = (okE (decide (i < m)), d') ∧ FI kept m (i + 1) d' := by
  obtain ⟨d1, e1, h1⟩ := h.stepF
  have hin : inside d (k : Int) = true := by unfold inside; rw [h.len]; simp; omega
  have es := stepF_same d
  rw [e1] at es
  unfold writeF
  rw [hin, e1]
  rcases Nat.lt_or_ge i m with hi | hi
  · refine ⟨{ d1 with wn := IntKind.i64.wrap (d1.wn + 1), pend := d1.pend ++ [(k, s)] }, by simp [hs, hi, okE], h1.len, h1.zero, h1.bad, ?_, ?_, h1.st⟩
    · intro p hp
      simp only [List.mem_append, List.mem_singleton] at hp
      rcases hp with hp | rfl
      · exact h1.pne p hp
      · show k ≠ 0
        omega
    · show (d1.pend ++ [(k, s)]).length ≤ i + 1
      have e : d1.pend = d.pend := es.2.2.1
      rw [e]
      have := h.pl
      simp; omega
  · have : ¬ i < m := by omega
    exact ⟨d1, by simp [hs, this, okE], h1⟩
theorem FI.sync {kept : List UInt8} {m i : Nat} {d : DM} (h : FI kept m i d) : ∃ d', syncF d = (okE (decide (i < m)), d') ∧ FI kept m (i + 1) d' := by
  obtain ⟨d1, e1, h1⟩ := h.stepF
  unfold syncF
  rw [e1]
  rcases Nat.lt_or_ge i m with hi | hi
  · refine ⟨endF { d1 with sy := IntKind.i64.wrap (d1.sy + 1) } fun _ => 64, by simp [hi, okE], ?_, ?_, h1.bad, fun p hp => (by cases hp), Nat.zero_le _, h1.st⟩
    · show (endN _ _ _ _).length = 6
      rw [endN_length]; exact h1.len
    · show (endN _ _ _ _)[0]? = some kept
      rw [endN_keep _ _ _ _ h1.pne]; exact h1.zero
  · have : ¬ i < m := by omega
    exact ⟨d1, by simp [this, okE], h1⟩
theorem FI.failed {kept : List UInt8} {m i : Nat} {d : DM} (h : FI kept m (i + 1) d) : d.failed = !decide (i < m) := by
  rcases h.st with ⟨a, b, _⟩ | ⟨a, b, _⟩
  · rw [b, decide_eq_true (by omega)]; rfl
  · rw [b, decide_eq_false (by omega)]; rfl
theorem FI.read {kept : List UInt8} {m i : Nat} {d : DM} (h : FI kept m (i + 1) d) : ∃ b d', readF d 0 = ((b, okE (decide (i < m))), d') ∧ FI kept m (i + 1) d' := by
  have hf := h.failed
  have hin : inside d 0 = true := by unfold inside; rw [h.len]; decide
  have hb : d.bad.getD (0 : Int).toNat false = false := by rw [h.bad]; rfl
  unfold readF
  rw [hin, hb]
  rcases Nat.lt_or_ge i m with hi | hi
  · have hf' : d.failed = false := by rw [hf]; simp [hi]
    exact ⟨content d 0, { d with r := IntKind.i64.wrap (d.r + 1) }, by simp [hi, okE, hf'], h.len, h.zero, h.bad, h.pne, h.pl, h.st⟩
  · have : ¬ i < m := by omega
    have hf' : d.failed = true := by rw [hf]; simp [this]
    exact ⟨⟨#[]⟩, d, by simp [this, okE, hf'], h⟩
theorem lastOf_none (l : List (Nat × ByteArray)) (k : Nat) (h : ∀ p ∈ l, p.1 ≠ k) : lastOf l k = none := by
  unfold lastOf
  induction l with
  | nil => rfl
  | cons q l ih =>
    simp only [List.foldl_cons]
    rw [if_neg (h q (by simp))]
    exact ih fun p hp => h p (by simp [hp])
/-- a disk that works; what is kept in sector 0 -/
structure EI (kept : List UInt8) (d : DM) : Prop where
  len : d.secs.length = 6
  zero : d.secs[0]? = some kept
  bad : d.bad = List.replicate 6 false
  pl : d.pend = []
  fl : d.failed = false
  af : d.after = -1
theorem FI.crash {kept : List UInt8} {m i : Nat} {d : DM} (h : FI kept m i d) (sv : List Int) : EI kept (crashF d sv) := by
  refine ⟨?_, ?_, h.bad, rfl, rfl, rfl⟩
  · show (endN _ _ _ _).length = 6
    rw [endN_length]; exact h.len
  · show (endN _ _ _ _)[0]? = some kept
    rw [endN_keep _ _ _ _ h.pne]; exact h.zero
theorem EI.read {kept : List UInt8} {d : DM} (h : EI kept d) : ∃ d', readF d 0 = ((sB kept, 0), d') ∧ EI kept d' := by
  have hin : inside d 0 = true := by unfold inside; rw [h.len]; decide
  have hb : d.bad.getD (0 : Int).toNat false = false := by rw [h.bad]; rfl
  refine ⟨{ d with r := IntKind.i64.wrap (d.r + 1) }, ?_, h.len, h.zero, h.bad, h.pl, h.fl, h.af⟩
  unfold readF
  rw [hin, hb, h.fl]
  have e : content d 0 = sB kept := by
    unfold content
    rw [h.pl]
    have := h.zero
    simp [lastOf, List.getD_eq_getElem?_getD, this]
  simp [e]
theorem EI.step {kept : List UInt8} {d : DM} (h : EI kept d) : stepF d = (true, d) := by
  unfold stepF
  simp [h.fl, h.af]
theorem EI.write {kept : List UInt8} {d : DM} (h : EI kept d) (s : ByteArray) (hs : s.size = 64) : ∃ d', writeF d 0 s = (0, d') ∧ d'.pend.length = 1 ∧ d'.after = -1 ∧ d'.failed = false := by
  have hin : inside d 0 = true := by unfold inside; rw [h.len]; decide
  refine ⟨{ d with wn := IntKind.i64.wrap (d.wn + 1), pend := d.pend ++ [(0, s)] }, ?_, by simp [h.pl], h.af, h.fl⟩
  unfold writeF
  rw [hin, h.step]
  simp [hs]
theorem sync_ok (d : DM) (h1 : d.after = -1) (h2 : d.failed = false) : ∃ d', syncF d = (0, d') := by
  have e : stepF d = (true, d) := by unfold stepF; simp [h1, h2]
  exact ⟨_, by unfold syncF; rw [e]; rfl⟩
end Go.Proofs.Ytagfnobchdfhfaa
