import Derived.Test.YtagfnobchdfhfaaWs
namespace Go.Proofs.Ytagfnobchdfhfaa
set_option linter.unusedSimpArgs false
set_option linter.unnecessarySimpa false
set_option linter.unusedVariables false
open Go.RowKit Go.ChangeShapes Go.WideShapes Go.ChangeAt
attribute [local go_sem ↓] Go.wp_at_zero Go.wp_at_succ

/-- an operation -/
structure OpM where
  kind : Nat
  n : Int
  at_ : Int
  data : ByteArray
  mask : UInt8
  bad : Bool
  sv : List Int
  sA : Option Addr
  sc : Nat
instance : Inhabited OpM := ⟨⟨0, 0, 0, ⟨#[]⟩, 0, false, [], none, 0⟩⟩
def off7 (a : Addr) (i j : Nat) : Addr := ⟨(a.add (i * 7)).block, (a.add (i * 7)).off + j, none⟩
structure OpAt (w : World) (N : Nat) (a : Addr) (i : Nat) (o : OpM) : Prop where
  c0 : w.cell? (a.add (i * 7)) = some (.int .u8 (o.kind : Int))
  c1 : w.cell? ⟨(a.add (i * 7)).block, (a.add (i * 7)).off + 1, none⟩ = some (.int .i64 o.n)
  c2 : w.cell? ⟨(a.add (i * 7)).block, (a.add (i * 7)).off + 2, none⟩ = some (.int .i64 o.at_)
  c3 : w.cell? ⟨(a.add (i * 7)).block, (a.add (i * 7)).off + 3, none⟩ = some (.string o.data)
  c4 : w.cell? ⟨(a.add (i * 7)).block, (a.add (i * 7)).off + 4, none⟩ = some (.int .u8 (o.mask.toNat : Int))
  c5 : w.cell? ⟨(a.add (i * 7)).block, (a.add (i * 7)).off + 5, none⟩ = some (.bool o.bad)
  c6 : w.cell? ⟨(a.add (i * 7)).block, (a.add (i * 7)).off + 6, none⟩ = some (.slice o.sA o.sv.length o.sc)
  kd : o.kind < 256
  dl : o.data.size ≤ maxLen
  nw : (Lit.int .i64 o.n).wf = true
  aw : (Lit.int .i64 o.at_).wf = true
  sv : Ones (Value.int .i64) w N o.sA o.sv
def Ops (w : World) (N : Nat) (A : Option Addr) (l : List OpM) : Prop := ∀ i, i < l.length → ∃ a, A = some a ∧ a.block < N ∧ OpAt w N a i (l.getD i default)
theorem OpAt.below {w w' : World} {N M : Nat} {a : Addr} {i : Nat} {o : OpM} (h : OpAt w N a i o) (ha : a.block < N) (hb : Below M w w') (hN : N ≤ M) : OpAt w' N a i o := by
  have hb' : (a.add (i * 7)).block = a.block := by unfold Addr.add; split <;> rfl
  have k : ∀ p : Addr, p.block = a.block → w'.cell? p = w.cell? p := fun p hp => hb.cell (by rw [hp]; omega)
  exact ⟨(k _ hb').trans h.c0, (k _ (by exact hb')).trans h.c1, (k _ (by exact hb')).trans h.c2, (k _ (by exact hb')).trans h.c3, (k _ (by exact hb')).trans h.c4, (k _ (by exact hb')).trans h.c5, (k _ (by exact hb')).trans h.c6, h.kd, h.dl, h.nw, h.aw, h.sv.below hb hN⟩
theorem Ops.below {w w' : World} {N M : Nat} {A : Option Addr} {l : List OpM} (h : Ops w N A l) (hb : Below M w w') (hN : N ≤ M) : Ops w' N A l := fun i hi => by
  obtain ⟨a, h1, h2, h3⟩ := h i hi
  exact ⟨a, h1, h2, h3.below h2 hb hN⟩
section
variable {H : Type} {enc : TypeId × Value → H} {w : World} {base b0 : Nat} {held : Bool}
theorem int23_cells {fuel : Nat} {cs : List Value} {x : DataW H × List MemPlace} (h : DataW.trod enc Try.prog w base (fun _ => true) held fuel 23 cs = some x) :
    ∃ (A : Option Addr) (n c : Nat) (l : List Int), cs = [.slice A n c] ∧ l.length = n ∧ Ones (Value.int .i64) w w.heap.size A l := by
  rcases Deep.open_slice Try.underlying23 h with ⟨h1, _⟩ | ⟨a, len, cap, m, fu, D, Pl, h1, _, hlc, hcm, hm, _, hel⟩
  · exact ⟨none, 0, 0, [], h1, rfl, fun i hi => absurd hi (by simp)⟩
  · rw [show Try.prog.cellsOf 3 = 1 by kernel_rfl] at hel
    have key : ∀ i, i < len → ∃ y : Int, w.cell? (a.add i) = some (.int .i64 y) := by
      intro i hi
      obtain ⟨cs', hcs, htr⟩ := hel i (by rw [hm, if_pos rfl]; omega)
      obtain ⟨y, rfl, _⟩ := DataW.trod_int Try.underlying3 htr
      obtain ⟨_, _, hat⟩ := World.cells?_some hcs
      have h0 := hat 0 (by decide)
      rw [Nat.mul_one] at h0
      exact ⟨y, by simpa [Addr.add] using h0⟩
    obtain ⟨g, hg⟩ := Deep.choose_lt key
    have hgd : ∀ i, i < len → ((List.range len).map g).getD i default = g i := fun i hi => by simp [List.getD, hi]
    refine ⟨some a, len, cap, (List.range len).map g, h1, by simp, fun i hi => ?_⟩
    have hi' : i < len := by simpa using hi
    refine ⟨a, rfl, ?_, by rw [hgd i hi']; exact hg i hi'⟩
    have := World.block_lt_of_cell? w _ (hg i hi')
    have hb' : (a.add i).block = a.block := by unfold Addr.add; split <;> rfl
    rwa [hb'] at this
theorem cells42 : Try.prog.cellsOf 42 = 7 := by kernel_rfl
theorem op_cells {fuel : Nat} {cs : List Value} {x : DataW H × List MemPlace} (h : DataW.trod enc Try.prog w base (fun _ => true) held fuel 42 cs = some x) :
    ∃ o : OpM, cs = [.int .u8 (o.kind : Int), .int .i64 o.n, .int .i64 o.at_, .string o.data, .int .u8 (o.mask.toNat : Int), .bool o.bad, .slice o.sA o.sv.length o.sc] ∧ o.kind < 256 ∧ o.data.size ≤ maxLen ∧ (Lit.int .i64 o.n).wf = true ∧ (Lit.int .i64 o.at_).wf = true ∧ Ones (Value.int .i64) w w.heap.size o.sA o.sv := by
  obtain ⟨xs, n, _, _, hl, hx, hg⟩ := DataW.trod_struct Try.underlying42 h
  rw [cells42] at hl
  match cs, hl with
  | [c0, c1, c2, c3, c4, c5, c6], _ =>
    have h0 := hg 0 _ rfl
    have h1 := hg 1 _ rfl
    have h2 := hg 2 _ rfl
    have h3 := hg 3 _ rfl
    have h4 := hg 4 _ rfl
    have h5 := hg 5 _ rfl
    have h6 := hg 6 _ rfl
    match xs, hx with
    | [y0, y1, y2, y3, y4, y5, y6], _ =>
      simp only [List.getElem?_cons_zero, List.getElem?_cons_succ] at h0 h1 h2 h3 h4 h5 h6
      obtain ⟨k, e0, _, hk⟩ := DataW.trod_int Try.underlying5 h0
      obtain ⟨n, e1, _, hn⟩ := DataW.trod_int Try.underlying3 h1
      obtain ⟨a, e2, _, ha⟩ := DataW.trod_int Try.underlying3 h2
      obtain ⟨s, e3, _, hs⟩ := DataW.trod_string Try.underlying9 h3
      obtain ⟨m, e4, _, hm⟩ := DataW.trod_int Try.underlying5 h4
      obtain ⟨b, e5, _⟩ := DataW.trod_bool Try.underlying4 h5
      obtain ⟨A, q, c, l, e6, rfl, hO⟩ := int23_cells h6
      have z0 : c0 = .int .u8 k := List.singleton_inj.1 e0
      have z1 : c1 = .int .i64 n := List.singleton_inj.1 e1
      have z2 : c2 = .int .i64 a := List.singleton_inj.1 e2
      have z3 : c3 = .string s := List.singleton_inj.1 e3
      have z4 : c4 = .int .u8 m := List.singleton_inj.1 e4
      have z5 : c5 = .bool b := List.singleton_inj.1 e5
      have z6 : c6 = .slice A l.length c := List.singleton_inj.1 e6
      subst z0 z1 z2 z3 z4 z5 z6
      obtain ⟨kk, rfl, hkk⟩ := u8_of hk
      obtain ⟨mm, rfl, hmm⟩ := u8_of hm
      have em : ((UInt8.ofNat mm).toNat : Int) = (mm : Int) := by rw [UInt8.toNat_ofNat']; omega
      exact ⟨⟨kk, n, a, s, UInt8.ofNat mm, b, l, A, c⟩, by rw [em], hkk, hs, hn, ha, hO⟩
theorem open_ops {r : Reach} {v : Value} {d : DataW H} {p : List MemPlace} (hv : Value.okWide Try.prog w r b0 22 v) (h : DataW.Trod enc Try.prog w base (fun _ => true) held 22 v d p) :
    ∃ (A : Option Addr) (n c : Nat) (l : List OpM), v = .slice A n c ∧ l.length = n ∧ n ≤ maxLen ∧ Ops w w.heap.size A l := by
  obtain ⟨fuel, hf⟩ := h
  rcases Deep.open_slice Try.underlying22 hf with ⟨h1, _⟩ | ⟨a, len, cap, m, fu, D, Pl, h1, _, hlc, hcm, hm, _, hel⟩
  · exact ⟨none, 0, 0, [], slice_of Try.underlying22 hv h1, rfl, Nat.zero_le _, fun i hi => absurd hi (by simp)⟩
  · rw [cells42] at hel
    have key : ∀ i, i < len → ∃ o : OpM, OpAt w w.heap.size a i o := by
      intro i hi
      obtain ⟨cs', hcs, htr⟩ := hel i (by rw [hm, if_pos rfl]; omega)
      obtain ⟨o, rfl, h1, h2, h3, h4, h5⟩ := op_cells htr
      obtain ⟨_, _, hat⟩ := World.cells?_some hcs
      have hne : ∀ k, 0 < k → (a.add (i * 7)).add k = ⟨(a.add (i * 7)).block, (a.add (i * 7)).off + k, none⟩ := fun k hk => by
        unfold Addr.add; rw [if_neg (by omega : ¬ k = 0)]
      have q0 := hat 0 (by decide)
      have q1 := hat 1 (by decide)
      have q2 := hat 2 (by decide)
      have q3 := hat 3 (by decide)
      have q4 := hat 4 (by decide)
      have q5 := hat 5 (by decide)
      have q6 := hat 6 (by decide)
      rw [hne 1 (by decide)] at q1
      rw [hne 2 (by decide)] at q2
      rw [hne 3 (by decide)] at q3
      rw [hne 4 (by decide)] at q4
      rw [hne 5 (by decide)] at q5
      rw [hne 6 (by decide)] at q6
      exact ⟨o, by simpa [Addr.add] using q0, by simpa using q1, by simpa using q2, by simpa using q3, by simpa using q4, by simpa using q5, by simpa using q6, h1, h2, h3, h4, h5⟩
    obtain ⟨g, hg⟩ := Deep.choose_lt key
    have hgd : ∀ i, i < len → ((List.range len).map g).getD i default = g i := fun i hi => by simp [List.getD, hi]
    refine ⟨some a, len, cap, (List.range len).map g, slice_of Try.underlying22 hv h1, by simp, by omega, fun i hi => ?_⟩
    have hi' : i < len := by simpa using hi
    rw [hgd i hi']
    refine ⟨a, rfl, ?_, hg i hi'⟩
    have := World.block_lt_of_cell? w _ (hg i hi').c0
    have hb' : (a.add (i * 7)).block = a.block := by unfold Addr.add; split <;> rfl
    rwa [hb'] at this
end
/-- the operations are few and small -/
def fewO (o : OpM) : Bool := decide (o.data.size ≤ 200) && decide (o.sv.length ≤ 100)
def fewB (l : List OpM) (n : Nat) : Bool := l.all fewO && decide (l.length ≤ n)
theorem few_get {l : List OpM} {i : Nat} (h : l.all fewO = true) (hi : i < l.length) : (l.getD i default).data.size ≤ 200 ∧ (l.getD i default).sv.length ≤ 100 := by
  rw [List.getD_eq_getElem?_getD, List.getElem?_eq_getElem hi]
  have := List.all_eq_true.1 h _ (List.getElem_mem hi)
  simpa [fewO] using this
theorem few_walk (w : World) (A : Option Addr) (c : Nat) (l : List OpM) (n N : Nat) (h : Ops w N A l) (hml : l.length ≤ maxLen) : Calls Try.prog 11 #[.slice A l.length c, .int .i64 (n : Int)] w fun e w' => e = .returned (.bool (fewB l n)) ∧ w = w' := by
  unfold maxLen at hml
  have H := Lib.hid h
  clear h
  go_enter Try.func11, Try.ntmps11
  go_wp2_with fail
  go_loopw [5] (fun i wr => ∃ k : Nat, k ≤ l.length ∧ i = .int .i64 (k : Int) ∧ (l.take k).all fewO = true ∧ w = wr) (fun i _ => l.length - (intOf i).toNat)
  case atStart => exact ⟨0, Nat.zero_le _, rfl, by simp, rfl⟩
  case round =>
    obtain ⟨k, hk, rfl, hall, rfl⟩ := hrel
    have HA := Lib.hid hall
    clear hall
    by_cases hlt : k < l.length
    · have hkl : (k : Int) < l.length := by omega
      obtain ⟨a, rfl, _, ho⟩ := H.out k hlt
      obtain ⟨o, ho'⟩ : ∃ o, l.getD k default = o := ⟨_, rfl⟩
      have hg : l[k]? = some o := by rw [← ho', List.getD_eq_getElem?_getD, List.getElem?_eq_getElem hlt]; rfl
      rw [ho'] at ho
      have c3 := ho.c3
      have c6 := ho.c6
      have HG := Lib.hid hg
      clear ho ho' hg
      have HT : Hid ((l.take (k + 1)).all fewO = ((l.take k).all fewO && fewO o)) := Lib.hid (by
        rw [List.take_add_one, HG.out, List.all_append]; simp)
      have hbad : fewO o = false → fewB l n = false := fun hf => by
        unfold fewB
        have : l.all fewO = false := by
          rw [Bool.eq_false_iff]
          intro h
          rw [List.all_eq_true.1 h o (List.mem_of_getElem? HG.out)] at hf
          cases hf
        rw [this]; rfl
      have HBad := Lib.hid hbad
      clear hbad
      by_cases h1 : o.data.size ≤ 200
      · have h1' : ¬ (200 : Int) < o.data.size := by omega
        by_cases h2 : o.sv.length ≤ 100
        · have h2' : ¬ (100 : Int) < o.sv.length := by omega
          go_wp2_with fail
          go_roundw
          case rel => exact ⟨k + 1, by omega, by go_num, by rw [HT.out, HA.out]; simp [fewO, h1, h2], trivial⟩
          case measure => simp [intOf]; omega
        · have h2' : (100 : Int) < o.sv.length := by omega
          go_wp2_with fail
          go_ret
          exact ⟨by rw [HBad.out (by simp [fewO, h2])]; rfl, rfl⟩
      · have h1' : (200 : Int) < o.data.size := by omega
        go_wp2_with fail
        go_ret
        exact ⟨by rw [HBad.out (by simp [fewO, h1])]; rfl, rfl⟩
    · obtain rfl : k = l.length := by omega
      rw [List.take_length] at HA
      go_wp2_with fail
      go_ret
      exact ⟨by unfold fewB; rw [HA.out]; simp, rfl⟩
end Go.Proofs.Ytagfnobchdfhfaa
