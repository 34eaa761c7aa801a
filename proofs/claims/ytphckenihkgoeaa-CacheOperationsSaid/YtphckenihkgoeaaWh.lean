import Derived.Test.YtphckenihkgoeaaWg
namespace Go.Proofs.Ytphckenihkgoeaa
set_option linter.unusedSimpArgs false
set_option linter.unnecessarySimpa false
set_option linter.unusedVariables false
open Go.RowKit
attribute [local go_sem ↓] Go.wp_at_zero Go.wp_at_succ

/-- the items without a key -/
def delI (l : Items) (k : K) : Items := l.filter fun p => decide (p.1 ≠ k)
theorem keys_delI (l : Items) (k : K) : keys (delI l k) = without (keys l) k := by
  unfold keys delI without
  rw [List.filter_map]
  rfl
theorem delI_none {l : Items} {k : K} (h : k ∉ keys l) : delI l k = l := by
  unfold delI
  rw [List.filter_eq_self]
  intro p hp
  simp
  rintro rfl
  exact h (List.mem_map.2 ⟨p, hp, rfl⟩)
theorem tot_cons (p : K × List Chg) (l : Items) : tot (p :: l) = weight p.2 + tot l := by simp [tot]
theorem tot_append (a b : Items) : tot (a ++ b) = tot a + tot b := by simp [tot]
theorem tot_delI : ∀ (l : Items) (k : K) (c : List Chg), (keys l).Nodup → (k, c) ∈ l → tot (delI l k) = tot l - weight c
  | [], _, _, _, h => by cases h
  | p :: l, k, c, hn, h => by
    have hn' : p.1 ∉ keys l ∧ (keys l).Nodup := by simpa [keys] using hn
    rcases List.mem_cons.1 h with h | h
    · have e : delI (p :: l) k = delI l k := by subst h; simp [delI]
      have hk : k ∉ keys l := by have := hn'.1; rw [← h] at this; exact this
      rw [e, delI_none hk, tot_cons]
      subst h
      show tot l = weight c + tot l - weight c
      omega
    · have hne : p.1 ≠ k := fun e => hn'.1 (by rw [e]; exact List.mem_map.2 ⟨_, h, rfl⟩)
      have e : delI (p :: l) k = p :: delI l k := by simp [delI, hne]
      rw [e, tot_cons, tot_cons, tot_delI l k c hn'.2 h]
      omega
theorem tot_nonneg : ∀ (l : Items), (∀ p ∈ l, p.2.length ≤ 1000 ∧ ∀ i, i < p.2.length → (p.2.getD i default).2.size ≤ 1000) → 0 ≤ tot l
  | [], _ => by simp [tot]
  | p :: l, h => by
    rw [tot_cons]
    have h1 := tot_nonneg l fun q hq => h q (List.mem_cons_of_mem _ hq)
    have h2 := (wtF_bound p.2 (h p (List.mem_cons_self ..)).2 p.2.length (Nat.le_refl _)).1
    show (0 : Int) ≤ wtF p.2 p.2.length + tot l
    omega
theorem mem_delI {l : Items} {k : K} {p : K × List Chg} (h : p ∈ delI l k) : p ∈ l ∧ p.1 ≠ k := by
  have := List.mem_filter.1 h
  exact ⟨this.1, by simpa using this.2⟩
theorem Good.del {d : CM} (h : Good d) {k : K} {c : List Chg} (hk : (k, c) ∈ d.items) : Good { d with items := delI d.items k } := by
  refine ⟨h.cap0, h.cap1, ?_, fun x hx => ?_, fun p hp => h.small p (mem_delI hp).1, ?_⟩
  · show (keys (delI d.items k)).Nodup
    rw [keys_delI]; exact h.nd.sublist List.filter_sublist
  · change x ∈ keys (delI d.items k) at hx
    rw [keys_delI] at hx
    exact h.wf x (List.mem_filter.1 hx).1
  · show tot (delI d.items k) ≤ 4294967296
    rw [tot_delI d.items k c h.nd hk]
    have := (wtF_bound c (h.small _ hk).2 c.length (Nat.le_refl _)).1
    have h2 := h.fit
    show tot d.items - wtF c c.length ≤ 4294967296
    omega
theorem field65 (W : World) (a : Value) (n : Int) : (Instr.field 65 (.agg #[a, .int .i64 n]) 1).run Try.prog W = .ok (.int .i64 n) W := by
  simp [Instr.field, run_underlying Try.underlying65, Result.andThen, asAgg, go_sem]
section
variable {S R : Nat → Prop} {C : Nat} {d : CM} {w w' : World} {vo : Value} {M : Nat} {f : K → Option Value}
set_option maxRecDepth 100000 in
/-- forget, of a key that is there -/
theorem forget_walk (h : CkO S R C d w vo M f) (hg : Good d) (hn : d.items.length ≤ 1000000) (k : K) (l : List Chg) (hk : (k, l) ∈ d.items) : Calls Try.prog 24 #[.pointer (some ⟨C, 0, none⟩), kv k] w fun e w' => e = .returned (.tuple #[]) ∧ Touch S w w' ∧ Ck S R C { d with items := delI d.items k } w' := by
  obtain ⟨A, c, hf, hc⟩ := h.has _ hk
  have hwf := hg.wf k (List.mem_map.2 ⟨_, hk, rfl⟩)
  obtain ⟨W1, hW1⟩ : ∃ W, w.alloc (.cells #[.int .i64 k.1, .int .i64 k.2.1, .int .i64 k.2.2] 33) = W := ⟨_, rfl⟩
  have hb1 : Below w.heap.size w W1 := by rw [← hW1]; exact (Below.refl _ _).alloc (Nat.le_refl _) _
  have hB : Box W1 w.heap.size k := by rw [← hW1]; exact heap_alloc_new w _
  have H := Lib.hid h
  have HW1 := Lib.hid hW1
  have HB := Lib.hid hB
  clear h hW1 hB
  unfold kv
  go_enter Try.func24, Try.ntmps24
  go_upto_region 1 with (fail)
  rw [HW1.out]
  have H1 := H.out.frame (w' := W1) fun k _ hk => hb1.block k hk
  have c1 := H1.c1
  have c2 := H1.c2
  have fr1 := H1.fr 1
  obtain ⟨b0, b1, b2⟩ := HB.out.cells
  have hlk := mapF_look (t := 61) (w := W1.drew) (H1.mp.of_heap rfl) hwf Try.underlying61 hf false
  simp only [Bool.false_eq_true, if_false] at hlk
  unfold kv at hlk
  have hfd := field65 W1.drew
  go_region
  obtain ⟨W2, hW2⟩ : ∃ W, (W1.setCell ⟨C, 1, none⟩ (.int .i64 (wrap64 (tot d.items - weight l)))).drew = W := ⟨_, rfl⟩
  have hC : C < w.heap.size := H.out.lt
  have hMC : M ≠ C := by
    rintro rfl
    obtain ⟨es, cl, h1, _⟩ := H.out.mp
    rw [H.out.obj] at h1; cases h1
  have hfar : ∀ b, b ≠ C → W2.heap[b]? = W1.heap[b]? := fun b hb => by rw [← hW2]; exact Below.heap_setCell W1 ⟨C, 1, none⟩ _ b hb
  have hobj2 : W2.heap[C]? = some (.cells #[.int .i64 d.cap, .int .i64 (wrap64 (tot d.items - weight l)), .map (some M), vo, .int .i64 d.hits, .int .i64 d.misses] 63 (0, 0)) := by
    rw [← hW2]; exact (heap_setCell_any W1 C 1 _ _ _ _ H1.obj).trans rfl
  have hT2 : Touch S w W2 := by
    rw [← hW2]; exact (Touch.setCell (.of_below hb1) (.inl H.out.sC) _).drew
  have hB2 : Box W2 w.heap.size k := (hfar _ (by omega)).trans HB.out
  have hM2 : MapF W2.drew M f := H1.mp.of_heap (hfar M hMC)
  obtain ⟨o, hdel, hM3⟩ := mapF_del (t := 61) hM2 hwf Try.underlying61 33 0
  have hW2' := Lib.hid hW2
  have HO2 := Lib.hid hobj2
  have HT2 := Lib.hid hT2
  have HB2 := Lib.hid hB2
  have HM3 := Lib.hid hM3
  have HFar := Lib.hid hfar
  clear c1 c2 fr1 b0 b1 b2 hlk hfd hobj2 hT2 hB2 hM2 hM3 hfar hW2 H1
  go_upto_region 2 with (fail)
  rw [hW2'.out]
  have c2 : W2.cell? ⟨C, 2, none⟩ = some (.map (some M)) := by rw [cell_of_row W2 C 2 _ _ _ HO2.out]; rfl
  obtain ⟨b0, b1, b2⟩ := HB2.out.cells
  unfold kv at hdel
  go_region
  obtain ⟨W3, hW3⟩ : ∃ W, mset W2.drew M o = W := ⟨_, rfl⟩
  have HW3 := Lib.hid hW3
  have hlt2 := HT2.out.size
  have hMS := H.out.sM
  have hoS := H.out.so
  have hBx : w.heap.size ≠ M := by have := H.out.mp.lt; omega
  have hM3 : MapF W3 M (upd f k none) := by rw [← hW3]; exact HM3.out
  have hobj3 : W3.heap[C]? = _ := (show W3.heap[C]? = W2.heap[C]? by rw [← hW3]; exact mset_far o (Ne.symm hMC)).trans HO2.out
  have hB3 : Box W3 w.heap.size k := (show W3.heap[w.heap.size]? = W2.heap[w.heap.size]? by rw [← hW3]; exact mset_far o hBx).trans HB2.out
  have hT3 : Touch S w W3 := by rw [← hW3]; exact mset_touch HT2.out.drew (.inl hMS) o
  have hro3 : W3.ownsRow 0 33 3 vo d.items.length (kscells (keys d.items)) := row_of H.out.ro fun g hg => by
    have hgl := (H.out.ro.lt g hg).2
    obtain ⟨cur, hcur⟩ := row_block H.out.ro hg
    have h1 : g ≠ M := by
      rintro rfl
      obtain ⟨es, cl, h1, _⟩ := H.out.mp
      rw [hcur] at h1; cases h1
    have h2 : g ≠ C := by
      rintro rfl
      rw [H.out.obj] at hcur; injection hcur with hcur; injection hcur with _ h _; exact absurd h (by decide)
    rw [← hW3, mset_far o h1]
    show W2.heap[g]? = _
    rw [HFar.out g h2, hb1.block g hgl]
  have el : (keys d.items).length = d.items.length := by simp [keys]
  have HD := Lib.hid (delete34 W3 vo d.items.length (keys d.items) hro3 hn el w.heap.size k hB3 (fun e => by have := (H.out.ro.lt _ e).2; omega))
  have c3 : W3.cell? ⟨C, 3, none⟩ = some vo := by rw [cell_of_row W3 C 3 _ _ _ hobj3]; rfl
  have HM3' := Lib.hid hM3
  have HO3 := Lib.hid hobj3
  have HT3 := Lib.hid hT3
  clear c2 b0 b1 b2 hdel hM3 hobj3 hT3 hro3 hB3 el
  go_upto_region 3 with (fail)
  rw [HW3.out]
  go_wp2_with fail
  refine (HD.out).mono ?_
  rintro e w4 ⟨v', rfl, hv', hr4, ht4⟩
  have hro := H.out.ro
  have hgC : ∀ g, vo.ownBlock = some g → g ≠ C ∧ g ≠ M := fun g hgg => by
    obtain ⟨cur, hcur⟩ := row_block hro hgg
    constructor
    · rintro rfl
      rw [H.out.obj] at hcur; injection hcur with hcur; injection hcur with _ h _; exact absurd h (by decide)
    · rintro rfl
      obtain ⟨es, cl, h1, _⟩ := H.out.mp
      rw [hcur] at h1; cases h1
  have hC3 : C < W3.heap.size := (Array.getElem?_eq_some_iff.1 HO3.out).1
  have hobj4 := (ht4.block C hC3 fun e => (hgC C e).1 rfl).trans HO3.out
  have c3' : w4.cell? ⟨C, 3, none⟩ = some vo := by rw [cell_of_row w4 C 3 _ _ _ hobj4]; rfl
  have fr3 : w4.frozen? ⟨C, 3, none⟩ = false := by simp [World.frozen?, hobj4]
  have hM4 : MapF w4 M (upd f k none) := HM3'.out.of_heap (ht4.block M HM3'.out.lt fun e => (hgC M e).2 rfl)
  have hT4 : Touch S w w4 := HT3.out.trans ht4 fun i _ he => hoS i he
  have HO4 := Lib.hid hobj4
  have HM4 := Lib.hid hM4
  have HT4 := Lib.hid hT4
  have HR4 := Lib.hid hr4
  have HV := Lib.hid hv'
  obtain ⟨A4, c4, rfl⟩ := row_sl hr4
  clear hobj4 hM4 hT4 hr4 hv' ht4 c3 hro
  go_wp2_with fail
  refine bodyPost_end (results_none rfl _ _ _) rfl ?_
  have hT5 : Touch S w (w4.setCell ⟨C, 3, none⟩ (.slice A4 (without (keys d.items) k).length c4)) := HT4.out.setCell (.inl H.out.sC) _
  have hlen : (delI d.items k).length = (without (keys d.items) k).length := by rw [← keys_delI]; simp [keys]
  refine ⟨rfl, hT5, .slice A4 (without (keys d.items) k).length c4, M, upd f k none, ?_, H.out.sC, ?_, hMS, ?_, ?_, ?_, ?_, H.out.dj⟩
  · have h1 := tot_delI d.items k l hg.nd hk
    have h2 := tot_nonneg (delI d.items k) fun p hp => hg.small p (mem_delI hp).1
    have h3 := (hg.del hk).fit
    have h4 := hg.cap1
    change tot (delI d.items k) ≤ 4294967296 at h3
    have hwr : wrap64 (tot d.items - weight l) = tot (delI d.items k) := by rw [← h1]; exact wrap_small (by omega) (by omega)
    refine (heap_setCell_any w4 C 3 _ _ _ _ HO4.out).trans ?_
    rw [hwr]
    rfl
  · exact HM4.out.of_heap (Below.heap_setCell w4 ⟨C, 3, none⟩ _ M hMC)
  · show World.ownsRow _ 0 33 3 _ (delI d.items k).length (kscells (keys (delI d.items k)))
    rw [hlen, keys_delI]
    exact row_of HR4.out fun g hgg => Below.heap_setCell w4 ⟨C, 3, none⟩ _ g fun e => (hgC g (by rw [← HV.out]; exact hgg)).1 e
  · intro g hgg
    exact hoS g (by rw [← HV.out]; exact hgg)
  · intro p hp
    obtain ⟨hp1, hp2⟩ := mem_delI hp
    obtain ⟨A', c', h1, h2⟩ := H.out.has p hp1
    exact ⟨A', c', by unfold upd; rw [if_neg hp2]; exact h1, h2.frame fun k hk hl => hT5.block k hl fun hs => H.out.dj k hs hk⟩
  · intro x hx
    change x ∉ keys (delI d.items k) at hx
    rw [keys_delI] at hx
    unfold upd
    split
    · rfl
    · rename_i hxk
      exact H.out.non x fun h => hx (List.mem_filter.2 ⟨h, by simpa using hxk⟩)
end
end Go.Proofs.Ytphckenihkgoeaa
