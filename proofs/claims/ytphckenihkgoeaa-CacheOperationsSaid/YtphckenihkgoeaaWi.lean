import Derived.Test.YtphckenihkgoeaaWh
import Derived.Test.YtphckenihkgoeaaRg
namespace Go.Proofs.Ytphckenihkgoeaa
set_option linter.unusedSimpArgs false
set_option linter.unnecessarySimpa false
set_option linter.unusedVariables false
open Go.RowKit
attribute [local go_sem ↓] Go.wp_at_zero Go.wp_at_succ

/-- append to an own row: the row, what changed, and in which block it lies now -/
theorem append_at {P : Program} (w : World) (t ty e : TypeId) (i : TypeInfo) (z : Value) (size bytes : Nat) (ht : P.underlying t = some (.slice e)) (hi : P.info? e = some i) (hz : i.zero = some z)
    (hsize : i.size = size) (hby : i.bytes = bytes) (hzs : z.cells.size = size) (hsz : 0 < size)
    (v : Value) (n : Nat) (xs : List Value) (hown : w.ownsRow 0 e size v n xs)
    (a : Addr) (m c : Nat) (news : List Value) (hl : news.length = m * size) (hnews : ∀ j u, news[j]? = some u → w.cell? (a.add j) = some u) (h1 : ∀ u ∈ news, u.oneCell' = true)
    (h63 : n + m ≤ 1000000) (hb : bytes ≤ 1000) (hm : 0 < m) :
    ∃ v' w', (Builtin.append_ #[t, t] ty #[v, .slice (some a) m c]).run P w = .ok v' w' ∧ w'.ownsRow 0 e size v' (n + m) (xs ++ news) ∧ w.grownBy w' v.ownBlock ∧
      (v'.ownBlock = v.ownBlock ∨ (v'.ownBlock = some w.heap.size ∧ w.heap.size < w'.heap.size)) := by
  have hbytes : (n + m) * bytes ≤ 140737488355328 := by
    have : (n + m) * bytes ≤ 1000000 * 1000 := Nat.mul_le_mul h63 hb
    omega
  have h63' : n + m ≤ maxLen := by unfold maxLen; omega
  obtain ⟨v', w', hr, h2, h3, _⟩ := run_append_own (P := P) w 0 t ty e i z size bytes ht hi hz hsize hby hzs hsz v n xs hown a m c news hl hnews h1 h63' hbytes (Nat.zero_le _)
  refine ⟨v', w', hr, h2, h3, ?_⟩
  subst hsize
  subst hby
  rcases hown.2 with ⟨rfl, rfl⟩ | ⟨g, cap, cur, rfl, hbg, hg, hnc, hcm, hcs, htake⟩
  · have hr' := run_append_nil (P := P) w t ty e i z ht hi hz a m c news hl hnews hm (by omega) (by have hb := hbytes; simp only [Nat.zero_add] at hb; omega)
    rw [hr'] at hr
    injection hr with e1 e2
    subst e1 e2
    right; exact ⟨rfl, by simp⟩
  · by_cases hroom : n + m ≤ cap
    · have hfit : n * i.size + news.length ≤ cur.size := by rw [hl, hcs, ← Nat.add_mul]; exact Nat.mul_le_mul_right _ hroom
      have hr' := run_append_room (P := P) w t ty e i ht hi g n cap cur hg a m c news hl hnews h1 hroom hfit
      rw [hr'] at hr
      injection hr with e1 e2
      subst e1 e2
      left; rfl
    · have holds : ∀ j u, xs[j]? = some u → w.cell? ((⟨g, 0, none⟩ : Addr).add j) = some u := hown.cells (g := g) rfl
      have hr' := run_append_grow (P := P) w t ty e i z ht hi hz ⟨g, 0, none⟩ n cap xs hown.1 holds a m c news hl hnews (by omega) (by omega) (growslice_fits (by omega) hbytes)
      rw [hr'] at hr
      injection hr with e1 e2
      subst e1 e2
      right; exact ⟨rfl, by simp⟩
/-- an append whose run is known -/
theorem wpList_append_eq {P : Program} {w w' : World} {v' : Value} {ops : Array Oper} {rest : List Oper} {o : Oper} {a : Act} {Q : Exit → Act → World → Prop} (hgd : o.guard = none) (s x : Operand) (t : TypeId)
    (ho : o.op = .call { callee := .builtin .append, args := #[s, x], argTypes := #[t, t] }) (v1 v2 : Value) (hs : a.eval s = v1) (hx : a.eval x = v2)
    (hrun : (Builtin.append_ #[t, t] o.type #[v1, v2]).run P w = .ok v' w') (h : wpList P ops Q rest (a.put o.dst v') w') : wpList P ops Q (o :: rest) a w :=
  wpList_plain hgd fun _ hK => by
    unfold Oper.wp execOp
    simp only [ho, resolve, invoke, builtin, Sem.run_bind, Sem.run_pure, Result.andThen_ok, List.map_toArray, List.map_cons, List.map_nil, hs, hx, hrun]
    exact hK _ _ h
/-- append to an own row of keys -/
theorem push_key (w : World) (v : Value) (ks : List K) (n : Nat) (hown : w.ownsRow 0 33 3 v n (kscells ks)) (hn : n ≤ 900000) (g : Nat) (k : K) (hB : Box w g k) : ∃ v' w', (Builtin.append_ #[55, 55] 55 #[v, .slice (some ⟨g, 0, none⟩) 1 1]).run Try.prog w = .ok v' w' ∧ w'.ownsRow 0 33 3 v' (n + 1) (kscells (ks ++ [k])) ∧ w.grownBy w' v.ownBlock ∧ (v'.ownBlock = v.ownBlock ∨ (v'.ownBlock = some w.heap.size ∧ w.heap.size < w'.heap.size)) := by
  obtain ⟨c0, c1, c2⟩ := hB.cells
  obtain ⟨v', w', h1, h2, h3, h4⟩ := append_at (P := Try.prog) w 55 55 33 _ _ 3 24 Try.underlying55 rfl rfl rfl rfl rfl (by decide) v n (kscells ks) hown ⟨g, 0, none⟩ 1 1 (kcells k) rfl (fun j u hj => by
    rw [Addr.add_lit]
    match j, hj with
    | 0, hj => cases hj; exact c0
    | 1, hj => cases hj; exact c1
    | 2, hj => cases hj; exact c2) (fun u hu => by
      simp only [kcells, List.mem_cons, List.not_mem_nil, or_false] at hu
      rcases hu with rfl | rfl | rfl <;> rfl) (by omega) (by decide) (by decide)
  exact ⟨v', w', h1, by rw [kscells_append]; exact h2, h3, h4⟩
section
variable {S R : Nat → Prop} {C : Nat} {d : CM} {w w' : World} {vo : Value} {M : Nat} {f : K → Option Value}
theorem CkO.nM (h : CkO S R C d w vo M f) : M ≠ C := by
  rintro rfl
  obtain ⟨es, cl, h1, _⟩ := h.mp
  rw [h.obj] at h1; cases h1
theorem CkO.no (h : CkO S R C d w vo M f) : ∀ g, vo.ownBlock = some g → g ≠ C ∧ g ≠ M := fun g hgg => by
  obtain ⟨cur, hcur⟩ := row_block h.ro hgg
  constructor
  · rintro rfl
    rw [h.obj] at hcur; injection hcur with hcur; injection hcur with _ h _; exact absurd h (by decide)
  · rintro rfl
    obtain ⟨es, cl, h1, _⟩ := h.mp
    rw [hcur] at h1; cases h1
/-- the object's own numbers are written -/
theorem CkO.set (h : CkO S R C d w vo M f) (i : Nat) (v : Value) (d' : CM) (hi : d'.items = d.items) (he : (#[.int .i64 d.cap, .int .i64 (tot d.items), .map (some M), vo, .int .i64 d.hits, .int .i64 d.misses] : Array Value).setIfInBounds i v = #[.int .i64 d'.cap, .int .i64 (tot d'.items), .map (some M), vo, .int .i64 d'.hits, .int .i64 d'.misses]) : CkO S R C d' (w.setCell ⟨C, i, none⟩ v) vo M f := by
  have far : ∀ b, b ≠ C → (w.setCell ⟨C, i, none⟩ v).heap[b]? = w.heap[b]? := fun b hb => Below.heap_setCell w ⟨C, i, none⟩ v b hb
  refine ⟨(heap_setCell_any w C i _ _ _ v h.obj).trans (by rw [he]), h.sC, h.mp.of_heap (far M h.nM), h.sM, ?_, h.so, ?_, ?_, h.dj⟩
  · rw [hi]; exact row_of h.ro fun g hg => far g (h.no g hg).1
  · rw [hi]
    intro p hp
    obtain ⟨A, c, h1, h2⟩ := h.has p hp
    exact ⟨A, c, h1, h2.frame fun k hk _ => far k fun e => h.dj C h.sC (e ▸ hk)⟩
  · rw [hi]; exact h.non
set_option maxRecDepth 100000 in
/-- Get, of a key that is not there -/
theorem get_none (h : CkO S R C d w vo M f) (k : K) (hk : k ∉ keys d.items) (hwf : wfK k) (hm : d.misses ≤ 1000000 ∧ 0 ≤ d.misses) : Calls Try.prog 15 #[.pointer (some ⟨C, 0, none⟩), kv k] w fun e w' => e = .returned (.tuple #[.slice none 0 0, .bool false]) ∧ Touch S w w' ∧ CkO S R C { d with misses := d.misses + 1 } w' vo M f := by
  have hf := h.non k hk
  obtain ⟨W1, hW1⟩ : ∃ W, w.alloc (.cells #[.int .i64 k.1, .int .i64 k.2.1, .int .i64 k.2.2] 33) = W := ⟨_, rfl⟩
  have hb1 : Below w.heap.size w W1 := by rw [← hW1]; exact (Below.refl _ _).alloc (Nat.le_refl _) _
  have hB : Box W1 w.heap.size k := by rw [← hW1]; exact heap_alloc_new w _
  have H := Lib.hid h
  have HW1 := Lib.hid hW1
  have HB := Lib.hid hB
  clear h hW1 hB
  have H1 := H.out.frame (w' := W1) fun k _ hk => hb1.block k hk
  have c2 := H1.c2
  obtain ⟨b0, b1, b2⟩ := HB.out.cells
  have hz : (zeroValue 65).run Try.prog W1.drew = .ok (.agg #[.slice none 0 0, .int .i64 0]) W1.drew := by kernel_rfl
  have hlk := mapF_none (t := 61) (w := W1.drew) (H1.mp.of_heap rfl) hwf Try.underlying61 hz hf true
  simp only [if_true] at hlk
  have a2 := Lib.cell?_alloc_some (.cells #[.slice none 0 0, .int .i64 0] 65) c2
  have a3 := Lib.cell?_alloc_some (.cells #[.slice none 0 0, .int .i64 0] 65) b0
  have a4 := Lib.cell?_alloc_some (.cells #[.slice none 0 0, .int .i64 0] 65) b1
  have a5 := Lib.cell?_alloc_some (.cells #[.slice none 0 0, .int .i64 0] 65) b2
  have hz' : (zeroValue 65).run Try.prog (W1.alloc (.cells #[.slice none 0 0, .int .i64 0] 65)).drew = .ok (.agg #[.slice none 0 0, .int .i64 0]) (W1.alloc (.cells #[.slice none 0 0, .int .i64 0] 65)).drew := by kernel_rfl
  have hla := mapF_none (t := 61) (w := (W1.alloc (.cells #[.slice none 0 0, .int .i64 0] 65)).drew) (H1.mp.of_heap (Below.heap_alloc _ _ M H1.mp.lt)) hwf Try.underlying61 hz' hf true
  simp only [if_true] at hla
  unfold kv at hlk hla
  unfold kv
  go_enter Try.func15, Try.ntmps15
  go_upto_region 1 with (fail)
  rw [HW1.out]
  have H2 := H1.frame (w' := (W1.alloc (.cells #[.slice none 0 0, .int .i64 0] 65)).drew) fun k _ hk => Below.heap_alloc _ _ k hk
  have c5 := H2.c5
  have fr5 := H2.fr 5
  have e5 : wrap64 (d.misses + 1) = d.misses + 1 := wrap_small (by omega) (by omega)
  have HT := Lib.hid (Touch.alloc (.of_below hb1) (S := S) (.cells #[.slice none 0 0, .int .i64 0] 65))
  have H2 := Lib.hid H2
  go_region
  all_goals
    go_wp2_with fail
    refine bodyPost_ret (v := .tuple #[.slice none 0 0, .bool false]) (by simp [results, Try.results15, go_sem]) rfl ⟨rfl, (HT.out.setCell (.inl H.out.sC) _).drew, ?_⟩
    exact (H2.out.set 5 (.int .i64 (d.misses + 1)) { d with misses := d.misses + 1 } rfl rfl).frame fun _ _ _ => rfl
end
end Go.Proofs.Ytphckenihkgoeaa
