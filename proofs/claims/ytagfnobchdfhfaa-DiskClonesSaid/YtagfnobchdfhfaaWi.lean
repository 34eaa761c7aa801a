import Derived.Test.YtagfnobchdfhfaaWh
namespace Go.Proofs.Ytagfnobchdfhfaa
set_option linter.unusedSimpArgs false
set_option linter.unnecessarySimpa false
set_option linter.unusedVariables false
open Go.RowKit
attribute [local go_sem ↓] Go.wp_at_zero Go.wp_at_succ

theorem row_open {w : World} {e : TypeId} {size : Nat} {v : Value} {n : Nat} {xs : List Value} (h : w.ownsRow 0 e size v n xs) (hn : 0 < n) : ∃ g c cur, v = .slice (some ⟨g, 0, none⟩) n c ∧ w.heap[g]? = some (.cells cur e (0, 0)) ∧ n ≤ c ∧ c ≤ maxLen ∧ cur.size = c * size ∧ cur.toList.take (n * size) = xs := by
  rcases h.2 with ⟨rfl, rfl⟩ | ⟨g, cap, cur, rfl, _, hg, hc, hm, hs, ht⟩
  · omega
  · exact ⟨g, cap, cur, rfl, hg, hc, hm, hs, ht⟩
section
variable {S : Nat → Prop} {D : Nat} {d : DM} {w : World} {vd vb vp : Value} {dl : List Value}
/-- SetBad, on its disk -/
def badF (d : DM) (n : Int) (b : Bool) : Int × DM := if inside d n = false then (2, d) else (0, { d with bad := d.bad.set n.toNat b })
theorem DkO.setBad (h : DkO S D d w vd vb vp dl) {g c : Nat} (hv : vb = .slice (some ⟨g, 0, none⟩) d.secs.length c) (k : Nat) (hk : k < d.secs.length) (b : Bool) : DkO S D { d with bad := d.bad.set k b } (w.setCell ⟨g, k, none⟩ (.bool b)) vd vb vp dl := by
  obtain ⟨g', c', cur, e, hg, hc, hm, hs, ht⟩ := row_open h.rb h.len
  rw [hv] at e
  injection e with e1 e2 e3
  injection e1 with e1
  injection e1 with e1
  subst e1 e3
  have hfar : ∀ i, i ≠ g → (w.setCell ⟨g, k, none⟩ (.bool b)).heap[i]? = w.heap[i]? := fun i hi => Below.heap_setCell w ⟨g, k, none⟩ _ i hi
  have ne : ∀ {e size v n xs}, w.ownsRow 0 e size v n xs → e ≠ 4 → ∀ i, v.ownBlock = some i → i ≠ g := fun hr he i hi hig => by
    obtain ⟨cc, hcc⟩ := row_block hr hi
    rw [hig, hg] at hcc
    injection hcc with hcc; injection hcc with _ hcc _; exact he hcc.symm
  have keep : ∀ {e size v n xs}, w.ownsRow 0 e size v n xs → e ≠ 4 → (w.setCell ⟨g, k, none⟩ (.bool b)).ownsRow 0 e size v n xs := fun hr he => row_of hr fun i hi => hfar i (ne hr he i hi)
  have hD : D ≠ g := fun e => by
    have := h.obj
    rw [e, hg] at this
    injection this with this; injection this with _ this _; exact absurd this (by decide)
  refine ⟨(hfar D hD).trans h.obj, h.sD, keep h.rd (by decide), h.sd, ?_, h.sb, keep h.rp (by decide), h.sp, fun i b' hb' => ?_, h.inj, h.len, h.fit⟩
  · refine ⟨by have := h.rb.1; simpa using this, .inr ⟨g, c, cur.setIfInBounds k (.bool b), hv, Nat.zero_le _, heap_setCell_any w g k _ _ _ _ hg, hc, hm, by simpa using hs, ?_⟩⟩
    rw [Array.toList_setIfInBounds, List.take_set, ht, List.map_set]
  · obtain ⟨v, h1, h2, h3⟩ := h.sec i b' hb'
    exact ⟨v, h1, keep h2 (by decide), h3⟩
theorem setBad_walk (n : Int) (b : Bool) (h : DkO S D d w vd vb vp dl) (r : Int) (d' : DM) (hr : badF d n b = (r, d')) : Calls Try.prog 24 #[.pointer (some ⟨D, 0, none⟩), .int .i64 n, .bool b] w fun e w' => e = .returned (.int .i64 r) ∧ Touch S w w' ∧ DkO S D d' w' vd vb vp dl := by
  cases hin : inside d n with
  | false =>
    have HR : Hid ((2, d) = (r, d')) := Lib.hid (by rw [← hr]; unfold badF; rw [if_pos hin])
    have H := Lib.hid h
    clear h hr
    go_enter Try.func24, Try.ntmps24
    go_wp2_with fail
    refine (exists_walk n H.out).mono ?_; rintro e _ ⟨rfl, rfl⟩
    rw [hin]
    go_wp2_with fail
    go_ret
    have e := HR.out
    injection e with e1 e2
    subst e1 e2
    exact ⟨rfl, Touch.refl _ _, H.out⟩
  | true =>
    obtain ⟨k, rfl, hk⟩ : ∃ k : Nat, n = (k : Int) ∧ k < d.secs.length := by
      have := of_decide_eq_true hin
      exact ⟨n.toNat, by omega, by omega⟩
    have HR : Hid ((0, { d with bad := d.bad.set k b }) = (r, d')) := Lib.hid (by rw [← hr]; unfold badF; rw [hin]; rfl)
    obtain ⟨g, c, e, hgl, hc, hcells, hfr⟩ := row_some h.rb h.len
    have hbl : d.bad.length = d.secs.length := by have := h.rb.1; simpa using this
    have hs := h.sb g (by rw [e]; rfl)
    have x1 := h.c1
    rw [e] at x1
    have hck := hcells k (.bool (d.bad.getD k false)) (by rw [List.getElem?_map, List.getElem?_eq_getElem (by omega)]; simp [List.getD, hbl, hk])
    have hfk := hfr k
    have H2 := Lib.hid (h.setBad e k hk b)
    have HS := Lib.hid hs
    have H := Lib.hid h
    have hkl : (k : Int) < d.secs.length := by omega
    have HIN := Lib.hid hin
    clear h hr hin hcells hfr e hbl
    go_enter Try.func24, Try.ntmps24
    go_wp2_with fail
    refine (exists_walk (k : Int) H.out).mono ?_; rintro e _ ⟨rfl, rfl⟩
    rw [HIN.out]
    go_wp2_with fail
    go_ret
    have e := HR.out
    injection e with e1 e2
    subst e1 e2
    exact ⟨rfl, (Touch.refl _ _).setCell (.inl HS.out) _, H2.out⟩
end
end Go.Proofs.Ytagfnobchdfhfaa
