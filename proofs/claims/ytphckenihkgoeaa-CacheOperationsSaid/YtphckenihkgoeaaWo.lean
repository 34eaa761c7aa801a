import Derived.Test.YtphckenihkgoeaaWn
import Derived.Deep.Slices
namespace Go.Proofs.Ytphckenihkgoeaa
set_option linter.unusedSimpArgs false
set_option linter.unnecessarySimpa false
set_option linter.unusedVariables false
open Go.RowKit Go.ChangeShapes Go.WideShapes Go.ChangeAt
attribute [local go_sem ↓] Go.wp_at_zero Go.wp_at_succ

theorem u8_of {m : Int} (h : (Lit.int .u8 m).wf = true) : ∃ n : Nat, m = (n : Int) ∧ n < 256 := by
  have h' : 0 ≤ m ∧ m < 256 := by
    simp [Lit.wf, IntKind.min, IntKind.max, IntKind.signed, IntKind.bits] at h; omega
  exact ⟨m.toNat, by omega, by omega⟩
section
variable {H : Type} {enc : TypeId × Value → H} {w : World} {base b0 : Nat} {held : Bool}
theorem slice_of {P : Program} {r : Reach} {v u : Value} {t e : TypeId} (ht : P.underlying t = some (.slice e)) (hv : Value.okWide P w r b0 t v) (h : v.cells.toList = [u]) : v = u := by
  cases v with
  | agg cs => simp [Value.okWide, ht, Cell.okWide, Cell.ok] at hv
  | _ => simpa [Value.cells] using h
theorem cells35 : Try.prog.cellsOf 35 = 2 := by kernel_rfl
theorem chg_cells {fuel : Nat} {cs : List Value} {x : DataW H × List MemPlace} (h : DataW.trod enc Try.prog w base (fun _ => true) held fuel 35 cs = some x) : ∃ y : Chg, cs = [.int .i64 y.1, .string y.2] := by
  obtain ⟨xs, n, _, _, hl, hx, hg⟩ := DataW.trod_struct Try.underlying35 h
  rw [cells35] at hl
  match cs, hl with
  | [c0, c1], _ =>
    have h0 := hg 0 _ rfl
    have h1 := hg 1 _ rfl
    match xs, hx with
    | [y0, y1], _ =>
      simp only [List.getElem?_cons_zero, List.getElem?_cons_succ] at h0 h1
      obtain ⟨n, e1, _⟩ := DataW.trod_int Try.underlying3 h0
      obtain ⟨s, e3, _⟩ := DataW.trod_string Try.underlying9 h1
      have z1 : c0 = .int .i64 n := List.singleton_inj.1 e1
      have z3 : c1 = .string s := List.singleton_inj.1 e3
      subst z1 z3
      exact ⟨(n, s), rfl⟩
theorem chgs_cells {fuel : Nat} {cs : List Value} {x : DataW H × List MemPlace} (h : DataW.trod enc Try.prog w base (fun _ => true) held fuel 22 cs = some x) :
    ∃ (A : Option Addr) (n c : Nat) (l : List Chg), cs = [.slice A n c] ∧ l.length = n ∧ n ≤ maxLen ∧ Chgs w (fun k => k < w.heap.size) A l := by
  rcases Deep.open_slice Try.underlying22 h with ⟨h1, _⟩ | ⟨a, len, cap, m, fu, D, Pl, h1, _, hlc, hcm, hm, _, hel⟩
  · exact ⟨none, 0, 0, [], h1, rfl, Nat.zero_le _, fun i hi => absurd hi (by simp)⟩
  · rw [cells35] at hel
    have key : ∀ i, i < len → ∃ y : Chg, ChgAt w (fun k => k < w.heap.size) a i y := by
      intro i hi
      obtain ⟨cs', hcs, htr⟩ := hel i (by rw [hm, if_pos rfl]; omega)
      obtain ⟨y, rfl⟩ := chg_cells htr
      obtain ⟨_, _, hat⟩ := World.cells?_some hcs
      have q0 := hat 0 (by decide)
      have q1 := hat 1 (by decide)
      have hne : (a.add (i * 2)).add 1 = ⟨(a.add (i * 2)).block, (a.add (i * 2)).off + 1, none⟩ := by
        unfold Addr.add; rw [if_neg (by omega : ¬ (1 : Nat) = 0)]
      rw [hne] at q1
      have q0' : w.cell? (a.add (i * 2)) = some (.int .i64 y.1) := by simpa [Addr.add] using q0
      have hbl := World.block_lt_of_cell? w _ q0'
      rw [add_block] at hbl
      exact ⟨y, hbl, q0', by simpa using q1⟩
    obtain ⟨g, hg⟩ := Deep.choose_lt key
    have hgd : ∀ i, i < len → ((List.range len).map g).getD i default = g i := fun i hi => by simp [List.getD, hi]
    refine ⟨some a, len, cap, (List.range len).map g, h1, by simp, by omega, fun i hi => ?_⟩
    have hi' : i < len := by simpa using hi
    rw [hgd i hi']
    exact ⟨a, rfl, hg i hi'⟩
theorem open_chgs {r : Reach} {v : Value} {d : DataW H} {p : List MemPlace} (hv : Value.okWide Try.prog w r b0 22 v) (h : DataW.Trod enc Try.prog w base (fun _ => true) held 22 v d p) :
    ∃ (A : Option Addr) (c : Nat) (l : List Chg), v = .slice A l.length c ∧ l.length ≤ maxLen ∧ Chgs w (fun k => k < w.heap.size) A l := by
  obtain ⟨fuel, hf⟩ := h
  obtain ⟨A, n, c, l, h1, rfl, h3, h4⟩ := chgs_cells hf
  exact ⟨A, c, l, slice_of Try.underlying22 hv h1, h3, h4⟩
/-- an operation -/
structure OpC where
  kind : Nat
  key : K
  list : List Chg
  from_ : Int
  to_ : Int
  lA : Option Addr
  lc : Nat
instance : Inhabited OpC := ⟨⟨0, default, [], 0, 0, none, 0⟩⟩
structure OpAt (w : World) (T : Nat → Prop) (a : Addr) (i : Nat) (o : OpC) : Prop where
  c0 : w.cell? (a.add (i * 7)) = some (.int .u8 (o.kind : Int))
  c1 : w.cell? ⟨(a.add (i * 7)).block, (a.add (i * 7)).off + 1, none⟩ = some (.int .i64 o.key.1)
  c2 : w.cell? ⟨(a.add (i * 7)).block, (a.add (i * 7)).off + 2, none⟩ = some (.int .i64 o.key.2.1)
  c3 : w.cell? ⟨(a.add (i * 7)).block, (a.add (i * 7)).off + 3, none⟩ = some (.int .i64 o.key.2.2)
  c4 : w.cell? ⟨(a.add (i * 7)).block, (a.add (i * 7)).off + 4, none⟩ = some (.slice o.lA o.list.length o.lc)
  c5 : w.cell? ⟨(a.add (i * 7)).block, (a.add (i * 7)).off + 5, none⟩ = some (.int .i64 o.from_)
  c6 : w.cell? ⟨(a.add (i * 7)).block, (a.add (i * 7)).off + 6, none⟩ = some (.int .i64 o.to_)
  bl : T a.block
  kd : o.kind < 256
  wf : wfK o.key
  ll : o.list.length ≤ maxLen
  ls : Chgs w T o.lA o.list
def Ops (w : World) (T : Nat → Prop) (A : Option Addr) (l : List OpC) : Prop := ∀ i, i < l.length → ∃ a, A = some a ∧ OpAt w T a i (l.getD i default)
theorem OpAt.frame {w w' : World} {T : Nat → Prop} {a : Addr} {i : Nat} {o : OpC} (h : OpAt w T a i o) (hf : ∀ k, T k → k < w.heap.size → w'.heap[k]? = w.heap[k]?) : OpAt w' T a i o := by
  have hl := World.block_lt_of_cell? w _ h.c0
  rw [add_block] at hl
  have k : ∀ p : Addr, p.block = a.block → w'.cell? p = w.cell? p := fun p hp => World.cell?_of_block (by rw [hp]; exact hf _ h.bl hl)
  have hb := add_block a (i * 7)
  exact ⟨(k _ hb).trans h.c0, (k _ (by exact hb)).trans h.c1, (k _ (by exact hb)).trans h.c2, (k _ (by exact hb)).trans h.c3, (k _ (by exact hb)).trans h.c4, (k _ (by exact hb)).trans h.c5, (k _ (by exact hb)).trans h.c6, h.bl, h.kd, h.wf, h.ll, h.ls.frame hf⟩
theorem Ops.frame {w w' : World} {T : Nat → Prop} {A : Option Addr} {l : List OpC} (h : Ops w T A l) (hf : ∀ k, T k → k < w.heap.size → w'.heap[k]? = w.heap[k]?) : Ops w' T A l := fun i hi => by
  obtain ⟨a, h1, h2⟩ := h i hi
  exact ⟨a, h1, h2.frame hf⟩
theorem cells50 : Try.prog.cellsOf 50 = 7 := by kernel_rfl
theorem cells48 : Try.prog.cellsOf 48 = 3 := by kernel_rfl
theorem key_cells {fuel : Nat} {cs : List Value} {x : DataW H × List MemPlace} (h : DataW.trod enc Try.prog w base (fun _ => true) held fuel 48 cs = some x) : ∃ y : K, cs = kcells y ∧ wfK y := by
  obtain ⟨xs, n, _, _, hl, hx, hg⟩ := DataW.trod_struct Try.underlying48 h
  rw [cells48] at hl
  match cs, hl with
  | [c0, c1, c2], _ =>
    have h0 := hg 0 _ rfl
    have h1 := hg 1 _ rfl
    have h2 := hg 2 _ rfl
    match xs, hx with
    | [y0, y1, y2], _ =>
      simp only [List.getElem?_cons_zero, List.getElem?_cons_succ] at h0 h1 h2
      obtain ⟨n0, e0, _, g0⟩ := DataW.trod_int Try.underlying3 h0
      obtain ⟨n1, e1, _, g1⟩ := DataW.trod_int Try.underlying3 h1
      obtain ⟨n2, e2, _, g2⟩ := DataW.trod_int Try.underlying3 h2
      have z0 : c0 = .int .i64 n0 := List.singleton_inj.1 e0
      have z1 : c1 = .int .i64 n1 := List.singleton_inj.1 e1
      have z2 : c2 = .int .i64 n2 := List.singleton_inj.1 e2
      subst z0 z1 z2
      exact ⟨(n0, n1, n2), rfl, g0, g1, g2⟩
theorem op_cells {fuel : Nat} {cs : List Value} {x : DataW H × List MemPlace} (h : DataW.trod enc Try.prog w base (fun _ => true) held fuel 50 cs = some x) :
    ∃ o : OpC, cs = [.int .u8 (o.kind : Int), .int .i64 o.key.1, .int .i64 o.key.2.1, .int .i64 o.key.2.2, .slice o.lA o.list.length o.lc, .int .i64 o.from_, .int .i64 o.to_] ∧ o.kind < 256 ∧ wfK o.key ∧ o.list.length ≤ maxLen ∧ Chgs w (fun k => k < w.heap.size) o.lA o.list := by
  obtain ⟨xs, n, _, _, hl, hx, hg⟩ := DataW.trod_struct Try.underlying50 h
  rw [cells50] at hl
  match cs, hl with
  | [c0, c1, c2, c3, c4, c5, c6], _ =>
    have h0 := hg 0 _ rfl
    have h1 := hg 1 _ rfl
    have h2 := hg 2 _ rfl
    have h3 := hg 3 _ rfl
    have h4 := hg 4 _ rfl
    match xs, hx with
    | [y0, y1, y2, y3, y4], _ =>
      simp only [List.getElem?_cons_zero, List.getElem?_cons_succ] at h0 h1 h2 h3 h4
      obtain ⟨k, e0, _, hk⟩ := DataW.trod_int Try.underlying5 h0
      obtain ⟨y, e1, hy⟩ := key_cells h1
      obtain ⟨A, n, c, l, e2, rfl, hml, hc⟩ := chgs_cells h2
      obtain ⟨a, e3, _⟩ := DataW.trod_int Try.underlying3 h3
      obtain ⟨b, e4, _⟩ := DataW.trod_int Try.underlying3 h4
      have z0 : c0 = .int .u8 k := List.singleton_inj.1 e0
      have z1 : [c1, c2, c3] = kcells y := e1
      have z2 : c4 = .slice A l.length c := List.singleton_inj.1 e2
      have z3 : c5 = .int .i64 a := List.singleton_inj.1 e3
      have z4 : c6 = .int .i64 b := List.singleton_inj.1 e4
      simp only [kcells, List.cons.injEq, and_true] at z1
      obtain ⟨z5, z6, z7⟩ := z1
      subst z0 z2 z3 z4 z5 z6 z7
      obtain ⟨kk, rfl, hkk⟩ := u8_of hk
      exact ⟨⟨kk, y, l, a, b, A, c⟩, rfl, hkk, hy, hml, hc⟩
theorem open_ops {r : Reach} {v : Value} {d : DataW H} {p : List MemPlace} (hv : Value.okWide Try.prog w r b0 45 v) (h : DataW.Trod enc Try.prog w base (fun _ => true) held 45 v d p) :
    ∃ (A : Option Addr) (c : Nat) (l : List OpC), v = .slice A l.length c ∧ l.length ≤ maxLen ∧ Ops w (fun k => k < w.heap.size) A l := by
  obtain ⟨fuel, hf⟩ := h
  rcases Deep.open_slice Try.underlying45 hf with ⟨h1, _⟩ | ⟨a, len, cap, m, fu, D, Pl, h1, _, hlc, hcm, hm, _, hel⟩
  · exact ⟨none, 0, [], slice_of Try.underlying45 hv h1, Nat.zero_le _, fun i hi => absurd hi (by simp)⟩
  · rw [cells50] at hel
    have key : ∀ i, i < len → ∃ o : OpC, OpAt w (fun k => k < w.heap.size) a i o := by
      intro i hi
      obtain ⟨cs', hcs, htr⟩ := hel i (by rw [hm, if_pos rfl]; omega)
      obtain ⟨o, rfl, h1, h2, h3, h4⟩ := op_cells htr
      obtain ⟨_, _, hat⟩ := World.cells?_some hcs
      have hne : ∀ k, 0 < k → (a.add (i * 7)).add k = ⟨(a.add (i * 7)).block, (a.add (i * 7)).off + k, none⟩ := fun k hk => by
        unfold Addr.add; rw [if_neg (by omega : ¬ k = 0)]
      have q0 := hat 0 (by decide)
      have q1 := hat 1 (by decide)
      have q2 := hat 2 (by decide)
      have q3 := hat 3 (by decide)
      have q4 := hat 4 (by decide)
      have q5 := hat 5 (by decide)
      have q6 := hat 6 (by decide)
      rw [hne 1 (by decide)] at q1
      rw [hne 2 (by decide)] at q2
      rw [hne 3 (by decide)] at q3
      rw [hne 4 (by decide)] at q4
      rw [hne 5 (by decide)] at q5
      rw [hne 6 (by decide)] at q6
      have q0' : w.cell? (a.add (i * 7)) = some (.int .u8 (o.kind : Int)) := by simpa [Addr.add] using q0
      have hbl := World.block_lt_of_cell? w _ q0'
      rw [add_block] at hbl
      exact ⟨o, q0', by simpa using q1, by simpa using q2, by simpa using q3, by simpa using q4, by simpa using q5, by simpa using q6, hbl, h1, h2, h3, h4⟩
    obtain ⟨g, hg⟩ := Deep.choose_lt key
    have hgd : ∀ i, i < len → ((List.range len).map g).getD i default = g i := fun i hi => by simp [List.getD, hi]
    refine ⟨some a, cap, (List.range len).map g, by rw [slice_of Try.underlying45 hv h1]; simp, by simp; omega, fun i hi => ?_⟩
    have hi' : i < len := by simpa using hi
    rw [hgd i hi']
    exact ⟨a, rfl, hg i hi'⟩
end
end Go.Proofs.Ytphckenihkgoeaa
