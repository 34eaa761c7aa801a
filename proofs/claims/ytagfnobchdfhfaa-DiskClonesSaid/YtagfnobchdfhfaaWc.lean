import Derived.Test.YtagfnobchdfhfaaWb
namespace Go.Proofs.Ytagfnobchdfhfaa
set_option linter.unusedSimpArgs false
set_option linter.unnecessarySimpa false
set_option linter.unusedVariables false
open Go.RowKit
attribute [local go_sem ↓] Go.wp_at_zero Go.wp_at_succ

/-- append to an own row: the row, what changed, and in which block it lies now -/
theorem append_at {P : Program} (w : World) (t ty e : TypeId) (i : TypeInfo) (z : Value) (size bytes : Nat) (ht : P.underlying t = some (.slice e)) (hi : P.info? e = some i) (hz : i.zero = some z)
    (hsize : i.size = size) (hby : i.bytes = bytes) (hzs : z.cells.size = size) (hsz : 0 < size)
    (v : Value) (n : Nat) (xs : List Value) (hown : w.ownsRow 0 e size v n xs)
    (a : Addr) (m c : Nat) (news : List Value) (hl : news.length = m * size) (hnews : ∀ j u, news[j]? = some u → w.cell? (a.add j) = some u) (h1 : ∀ u ∈ news, u.oneCell' = true)
    (h63 : n + m ≤ 1000000) (hb : bytes ≤ 1000) (hm : 0 < m) :
    ∃ v' w', (Builtin.append_ #[t, t] ty #[v, .slice (some a) m c]).run P w = .ok v' w' ∧ w'.ownsRow 0 e size v' (n + m) (xs ++ news) ∧ w.grownBy w' v.ownBlock ∧
      (v'.ownBlock = v.ownBlock ∨ (v'.ownBlock = some w.heap.size ∧ w.heap.size < w'.heap.size)) := by
  have hbytes : (n + m) * bytes ≤ 140737488355328 := by
    have : (n + m) * bytes ≤ 1000000 * 1000 := Nat.mul_le_mul h63 hb
    omega
  have h63' : n + m ≤ maxLen := by unfold maxLen; omega
  obtain ⟨v', w', hr, h2, h3, _⟩ := run_append_own (P := P) w 0 t ty e i z size bytes ht hi hz hsize hby hzs hsz v n xs hown a m c news hl hnews h1 h63' hbytes (Nat.zero_le _)
  refine ⟨v', w', hr, h2, h3, ?_⟩
  subst hsize
  subst hby
  rcases hown.2 with ⟨rfl, rfl⟩ | ⟨g, cap, cur, rfl, hbg, hg, hnc, hcm, hcs, htake⟩
  · have hr' := run_append_nil (P := P) w t ty e i z ht hi hz a m c news hl hnews hm (by omega) (by have hb := hbytes; simp only [Nat.zero_add] at hb; omega)
    rw [hr'] at hr
    injection hr with e1 e2
    subst e1 e2
    right; exact ⟨rfl, by simp⟩
  · by_cases hroom : n + m ≤ cap
    · have hfit : n * i.size + news.length ≤ cur.size := by rw [hl, hcs, ← Nat.add_mul]; exact Nat.mul_le_mul_right _ hroom
      have hr' := run_append_room (P := P) w t ty e i ht hi g n cap cur hg a m c news hl hnews h1 hroom hfit
      rw [hr'] at hr
      injection hr with e1 e2
      subst e1 e2
      left; rfl
    · have holds : ∀ j u, xs[j]? = some u → w.cell? ((⟨g, 0, none⟩ : Addr).add j) = some u := hown.cells (g := g) rfl
      have hr' := run_append_grow (P := P) w t ty e i z ht hi hz ⟨g, 0, none⟩ n cap xs hown.1 holds a m c news hl hnews (by omega) (by omega) (growslice_fits (by omega) hbytes)
      rw [hr'] at hr
      injection hr with e1 e2
      subst e1 e2
      right; exact ⟨rfl, by simp⟩
/-- an append whose run is known -/
theorem wpList_append_eq {P : Program} {w w' : World} {v' : Value} {ops : Array Oper} {rest : List Oper} {o : Oper} {a : Act} {Q : Exit → Act → World → Prop} (hgd : o.guard = none) (s x : Operand) (t : TypeId)
    (ho : o.op = .call { callee := .builtin .append, args := #[s, x], argTypes := #[t, t] }) (v1 v2 : Value) (hs : a.eval s = v1) (hx : a.eval x = v2)
    (hrun : (Builtin.append_ #[t, t] o.type #[v1, v2]).run P w = .ok v' w') (h : wpList P ops Q rest (a.put o.dst v') w') : wpList P ops Q (o :: rest) a w :=
  wpList_plain hgd fun _ hK => by
    unfold Oper.wp execOp
    simp only [ho, resolve, invoke, builtin, Sem.run_bind, Sem.run_pure, Result.andThen_ok, List.map_toArray, List.map_cons, List.map_nil, hs, hx, hrun]
    exact hK _ _ h
section
variable {S : Nat → Prop} {D : Nat} {d : DM} {w : World} {vd vb vp : Value} {dl : List Value}
theorem DkO.not_own (h : DkO S D d w vd vb vp dl) {e : TypeId} {size : Nat} {v : Value} {n : Nat} {xs : List Value} (hr : w.ownsRow 0 e size v n xs) (he : e ≠ 69) : some D ≠ v.ownBlock := fun hD => by
  obtain ⟨cur, hc⟩ := row_block hr hD.symm
  rw [h.obj] at hc
  injection hc with hc; injection hc with _ hc _; exact he hc.symm
theorem own_ne {e e' : TypeId} {size size' : Nat} {v v' : Value} {n n' : Nat} {xs xs' : List Value} (h : w.ownsRow 0 e size v n xs) (h' : w.ownsRow 0 e' size' v' n' xs') (hne : e ≠ e') {g : Nat} (hg : v.ownBlock = some g) : some g ≠ v'.ownBlock := fun hD => by
  obtain ⟨cur, hc⟩ := row_block h hg
  obtain ⟨cur', hc'⟩ := row_block h' hD.symm
  rw [hc] at hc'
  injection hc' with hc'; injection hc' with _ hc' _; exact hne hc'
/-- a pending write more -/
theorem DkO.push {w1 : World} {v' : Value} (h : DkO S D d w vd vb vp dl) (k : Nat) (s : ByteArray) (hk : k < d.secs.length) (hs : s.size = 64) (hrow : w1.ownsRow 0 71 2 v' (d.pend.length + 1) (pcells d.pend ++ [.int .i64 (k : Int), .string s])) (hg : w.grownBy w1 vp.ownBlock)
    (hb : v'.ownBlock = vp.ownBlock ∨ (v'.ownBlock = some w.heap.size ∧ w.heap.size < w1.heap.size)) : DkO (grow S w w1) D { d with pend := d.pend ++ [(k, s)] } (w1.setCell ⟨D, 2, none⟩ v') vd vb v' dl ∧ w1.cell? ⟨D, 2, none⟩ = some vp ∧ w1.frozen? ⟨D, 2, none⟩ = false := by
  have hD : w1.heap[D]? = w.heap[D]? := hg.block D h.lt (h.not_own h.rp (by decide))
  have hobj := hD.trans h.obj
  have keep : ∀ {e size v n xs}, w.ownsRow 0 e size v n xs → e ≠ 71 → e ≠ 69 → (w1.setCell ⟨D, 2, none⟩ v').ownsRow 0 e size v n xs := fun {e size v n xs} hr he he' => by
    refine row_of hr fun g hgg => ?_
    have hlt := (hr.lt g hgg).2
    have hne : g ≠ D := fun e' => h.not_own hr he' (by rw [hgg, e'])
    exact (Below.heap_setCell w1 ⟨D, 2, none⟩ v' g hne).trans (hg.block g hlt (own_ne hr h.rp he hgg))
  have hS : ∀ k, S k → grow S w w1 k := fun k hk => .inl hk
  have hv'D : ∀ g, v'.ownBlock = some g → g ≠ D := fun g hgg e' => by
    obtain ⟨cur, hc⟩ := row_block hrow hgg
    rw [e', hobj] at hc
    injection hc with hc; injection hc with _ hc _; exact absurd hc (by decide)
  refine ⟨⟨?_, hS _ h.sD, keep h.rd (by decide) (by decide), fun k hk => hS _ (h.sd k hk), keep h.rb (by decide) (by decide), fun k hk => hS _ (h.sb k hk), ?_, ?_, ?_, h.inj, h.len, ?_⟩, ?_, ?_⟩
  · rw [heap_setCell_any w1 D 2 _ _ _ v' hobj]; rfl
  · have : (w1.setCell ⟨D, 2, none⟩ v').ownsRow 0 71 2 v' (d.pend.length + 1) (pcells d.pend ++ [.int .i64 (k : Int), .string s]) := row_of hrow fun g hgg => Below.heap_setCell w1 ⟨D, 2, none⟩ v' g (hv'D g hgg)
    simpa [pcells] using this
  · intro g hgg
    rcases hb with hb | ⟨hb, hlt⟩
    · rw [hb] at hgg; exact hS _ (h.sp g hgg)
    · rw [hb] at hgg; cases hgg; exact .inr ⟨Nat.le_refl _, hlt⟩
  · intro i b hb'
    obtain ⟨v, h1, h2, g, h3, h4⟩ := h.sec i b hb'
    exact ⟨v, h1, keep h2 (by decide) (by decide), g, h3, hS _ h4⟩
  · intro p hp
    simp only [List.mem_append, List.mem_singleton] at hp
    rcases hp with hp | rfl
    · exact h.fit p hp
    · exact ⟨hk, hs⟩
  · rw [cell_of_row w1 D 2 _ _ _ hobj]; rfl
  · simp [World.frozen?, hobj]
/-- Write, on its disk -/
def writeF (d : DM) (n : Int) (s : ByteArray) : Int × DM :=
  if inside d n = false then (2, d) else if s.size ≠ 64 then (1, d) else if (stepF d).1 = false then (11, (stepF d).2) else (0, { (stepF d).2 with wn := IntKind.i64.wrap ((stepF d).2.wn + 1), pend := (stepF d).2.pend ++ [(n.toNat, s)] })
theorem stepF_same (d : DM) : (stepF d).2.secs = d.secs ∧ (stepF d).2.bad = d.bad ∧ (stepF d).2.pend = d.pend ∧ (stepF d).2.wn = d.wn ∧ (stepF d).2.r = d.r ∧ (stepF d).2.sy = d.sy := by
  unfold stepF; (repeat' split) <;> exact ⟨rfl, rfl, rfl, rfl, rfl, rfl⟩
theorem write_walk (n : Int) (s : ByteArray) (h : DkO S D d w vd vb vp dl) (ha : d.after ≤ 9223372036854775807) (hp : d.pend.length ≤ 1000) (r : Int) (d' : DM) (hr : writeF d n s = (r, d')) : Calls Try.prog 14 #[.pointer (some ⟨D, 0, none⟩), .int .i64 n, .string s] w fun e w' => e = .returned (.int .i64 r) ∧ Touch S w w' ∧ Dk (grow S w w') D d' w' := by
  have hgr : ∀ k, S k → grow S w w k := fun k hk => .inl hk
  cases hin : inside d n with
  | false =>
    have HR : Hid ((2, d) = (r, d')) := Lib.hid (by rw [← hr]; unfold writeF; rw [if_pos hin])
    have H := Lib.hid h
    clear h hr
    go_enter Try.func14, Try.ntmps14
    go_wp2_with fail
    refine (exists_walk n H.out).mono ?_; rintro e _ ⟨rfl, rfl⟩
    rw [hin]
    go_wp2_with fail
    go_ret
    have e := HR.out
    injection e with e1 e2
    subst e1 e2
    exact ⟨rfl, Touch.refl _ _, _, _, _, _, H.out.mono hgr⟩
  | true =>
    by_cases hs : s.size = 64
    · obtain ⟨ok, d1, hst⟩ : ∃ ok d1, stepF d = (ok, d1) := ⟨_, _, rfl⟩
      cases ok with
      | false =>
        have HR : Hid ((11, d1) = (r, d')) := Lib.hid (by rw [← hr]; unfold writeF; rw [hst]; simp [hin, hs])
        have H := Lib.hid h
        clear h hr
        have hs' : (s.size : Int) = 64 := by omega
        go_enter Try.func14, Try.ntmps14
        go_wp2_with fail
        refine (exists_walk n H.out).mono ?_; rintro e _ ⟨rfl, rfl⟩
        rw [hin]
        go_wp2_with fail
        refine (step_walk H.out ha _ _ hst).mono ?_; rintro e w1 ⟨rfl, ht1, h1⟩
        go_wp2_with fail
        go_ret
        have e := HR.out
        injection e with e1 e2
        subst e1 e2
        exact ⟨rfl, ht1, _, _, _, _, h1.mono fun k hk => .inl hk⟩
      | true =>
        obtain ⟨k, rfl, hk⟩ : ∃ k : Nat, n = (k : Int) ∧ k < d.secs.length := by
          have := of_decide_eq_true hin
          exact ⟨n.toNat, by omega, by omega⟩
        obtain ⟨e1, e2, e3, e4, e5, e6⟩ := stepF_same d
        rw [hst] at e1 e2 e3 e4 e5 e6
        have HR : Hid ((0, { d1 with wn := IntKind.i64.wrap (d1.wn + 1), pend := d1.pend ++ [(k, s)] }) = (r, d')) := Lib.hid (by rw [← hr]; unfold writeF; rw [hst]; simp [hin, hs])
        have H := Lib.hid h
        clear h hr
        have hs' : (s.size : Int) = 64 := by omega
        go_enter Try.func14, Try.ntmps14
        go_wp2_with fail
        refine (exists_walk (k : Int) H.out).mono ?_; rintro e _ ⟨rfl, rfl⟩
        rw [hin]
        go_wp2_with fail
        refine (step_walk H.out ha _ _ hst).mono ?_; rintro e w1 ⟨rfl, ht1, h1⟩
        have T1 := Lib.hid ht1
        obtain ⟨x, hx⟩ : ∃ x, IntKind.i64.wrap (d1.wn + 1) = x := ⟨_, rfl⟩
        have h2 := h1.set 4 (.int .i64 x) { d1 with wn := x } rfl rfl rfl rfl
        have x3 := h1.c4
        have xf := h1.fr
        have y2 := h2.c2
        have yf := h2.fr
        have h3 : DkO S D { d1 with wn := x } ((w1.setCell ⟨D, 4, none⟩ (.int .i64 x)).alloc (.cells #[.int .i64 (k : Int), .string s] 71)) vd vb vp dl := h2.frame fun k' _ hlt => Below.heap_alloc _ _ k' hlt
        have n1 : ∀ j u, ([.int .i64 (k : Int), .string s] : List Value)[j]? = some u → ((w1.setCell ⟨D, 4, none⟩ (.int .i64 x)).alloc (.cells #[.int .i64 (k : Int), .string s] 71)).cell? ((⟨w1.heap.size, 0, none⟩ : Addr).add j) = some u := by
          have e := cell_two_new (w1.setCell ⟨D, 4, none⟩ (.int .i64 x)) (.int .i64 (k : Int)) (.string s) 71
          rw [show (w1.setCell ⟨D, 4, none⟩ (.int .i64 x)).heap.size = w1.heap.size by simp] at e
          exact e
        have n2 : ∀ u ∈ ([.int .i64 (k : Int), .string s] : List Value), u.oneCell' = true := by
          intro u hu
          simp at hu
          rcases hu with rfl | rfl <;> rfl
        have n3 : d1.pend.length + 1 ≤ 1000000 := by rw [e3]; omega
        obtain ⟨v', w4, hrun, hrow, hgrown, hblock⟩ := append_at (P := Try.prog) ((w1.setCell ⟨D, 4, none⟩ (.int .i64 x)).alloc (.cells #[.int .i64 (k : Int), .string s] 71)) 67 67 (e := 71) _ _ 2 24 Try.underlying67 rfl rfl rfl rfl rfl (by decide) vp d1.pend.length (pcells d1.pend) h3.rp ⟨w1.heap.size, 0, none⟩ 1 1 [.int .i64 (k : Int), .string s] rfl n1 n2 n3 (by decide) (by decide)
        · obtain ⟨a', c', rfl⟩ := row_slice hrow
          obtain ⟨hf, z2, zf⟩ := h3.push k s (by show k < d1.secs.length; rw [e1]; exact hk) hs hrow hgrown hblock
          have HF := Lib.hid hf
          have HX := Lib.hid hx
          have HT : Hid (Touch S w (w4.setCell ⟨D, 2, none⟩ (.slice a' (d1.pend.length + 1) c'))) := Lib.hid (by
            refine ((((T1.out.setCell (p := ⟨D, 4, none⟩) (.inl H.out.sD) _).alloc _).grown hgrown fun g hg => ?_).setCell (p := ⟨D, 2, none⟩) (.inl H.out.sD) _)
            exact .inl (h1.sp g hg))
          have HG : Hid (∀ g, grow S ((w1.setCell ⟨D, 4, none⟩ (.int .i64 x)).alloc (.cells #[.int .i64 (k : Int), .string s] 71)) w4 g → grow S w (w4.setCell ⟨D, 2, none⟩ (.slice a' (d1.pend.length + 1) c')) g) := Lib.hid (by
            rintro g (hg | ⟨hg1, hg2⟩)
            · exact .inl hg
            · right
              have := T1.out.size
              simp at hg1 hg2 ⊢
              omega)
          clear hf h3 h2 h1 hrow hgrown hblock ht1 e1 e2 e3 e4 e5 e6
          go_wp2_with (at_builtin; refine wpList_append_eq rfl _ _ _ rfl _ _ rfl rfl hrun ?_)
          go_ret
          have e := HR.out
          injection e with e1 e2
          subst e1 e2
          have := HF.out.mono HG.out
          rw [← HX.out] at this
          exact ⟨rfl, HT.out, _, _, _, _, this⟩
    · have HR : Hid ((1, d) = (r, d')) := Lib.hid (by rw [← hr]; unfold writeF; simp [hin, hs])
      have H := Lib.hid h
      have hs' : ((s.size : Int) == 64) = false := by rw [Bool.eq_false_iff]; simp; omega
      clear h hr hs
      go_enter Try.func14, Try.ntmps14
      go_wp2_with fail
      refine (exists_walk n H.out).mono ?_; rintro e _ ⟨rfl, rfl⟩
      rw [hin]
      go_wp2_with fail
      go_ret
      have e := HR.out
      injection e with e1 e2
      subst e1 e2
      exact ⟨rfl, Touch.refl _ _, _, _, _, _, H.out.mono hgr⟩
end
end Go.Proofs.Ytagfnobchdfhfaa
