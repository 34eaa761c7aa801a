import Derived.Test.YtagfnobchdfhfaaWi
import Derived.Laws.BitsAllLaws
namespace Go.Proofs.Ytagfnobchdfhfaa
set_option linter.unusedSimpArgs false
set_option linter.unnecessarySimpa false
set_option linter.unusedVariables false
open Go.RowKit
attribute [local go_sem ↓] Go.wp_at_zero Go.wp_at_succ

section
variable {S : Nat → Prop} {D : Nat} {d : DM} {w : World} {vd vb vp : Value} {dl : List Value}
def dmg (b : List UInt8) (k : Nat) (m : UInt8) : List UInt8 := b.set k (b.getD k 0 ^^^ m)
/-- Damage, on its disk -/
def damF (d : DM) (n at_ : Int) (m : UInt8) : Int × DM := if inside d n = false ∨ at_ < 0 ∨ 64 ≤ at_ then (2, d) else if m = 0 then (1, d) else (0, { d with secs := d.secs.set n.toNat (dmg (d.secs.getD n.toNat []) at_.toNat m) })
theorem damage_walk (n at_ : Int) (m : UInt8) (h : DkO S D d w vd vb vp dl) (r : Int) (d' : DM) (hr : damF d n at_ m = (r, d')) : Calls Try.prog 25 #[.pointer (some ⟨D, 0, none⟩), .int .i64 n, .int .i64 at_, .int .u8 (m.toNat : Int)] w fun e w' => e = .returned (.int .i64 r) ∧ Touch S w w' ∧ DkO S D d' w' vd vb vp dl := by
  by_cases hout : inside d n = false ∨ at_ < 0 ∨ 64 ≤ at_
  · have HR : Hid ((2, d) = (r, d')) := Lib.hid (by rw [← hr]; unfold damF; rw [if_pos hout])
    have H := Lib.hid h
    have HO := Lib.hid hout
    cases hin : inside d n with
    | false =>
      clear h hr hout
      go_enter Try.func25, Try.ntmps25
      go_wp2_with fail
      refine (exists_walk n H.out).mono ?_; rintro e _ ⟨rfl, rfl⟩
      rw [hin]
      go_wp2_with fail
      go_ret
      have e := HR.out
      injection e with e1 e2
      subst e1 e2
      exact ⟨rfl, Touch.refl _ _, H.out⟩
    | true =>
      have HIN := Lib.hid hin
      rw [hin] at hout
      rcases (by rcases hout with h | h | h; · cases h
                 · exact Or.inl h
                 · exact Or.inr h : at_ < 0 ∨ 64 ≤ at_) with hx | hx
      · clear h hr hout hin
        go_enter Try.func25, Try.ntmps25
        go_wp2_with fail
        refine (exists_walk n H.out).mono ?_; rintro e _ ⟨rfl, rfl⟩
        rw [HIN.out]
        go_wp2_with fail
        go_ret
        have e := HR.out
        injection e with e1 e2
        subst e1 e2
        exact ⟨rfl, Touch.refl _ _, H.out⟩
      · have hx' : ¬ at_ < 0 := by omega
        clear h hr hout hin
        go_enter Try.func25, Try.ntmps25
        go_wp2_with fail
        refine (exists_walk n H.out).mono ?_; rintro e _ ⟨rfl, rfl⟩
        rw [HIN.out]
        go_wp2_with fail
        go_ret
        have e := HR.out
        injection e with e1 e2
        subst e1 e2
        exact ⟨rfl, Touch.refl _ _, H.out⟩
  · have hin : inside d n = true := by
      cases hi : inside d n with
      | false => exact absurd (Or.inl hi) hout
      | true => rfl
    have h0 : 0 ≤ at_ ∧ at_ < 64 := by
      constructor
      · exact Int.not_lt.1 fun h => hout (.inr (.inl h))
      · exact Int.not_le.1 fun h => hout (.inr (.inr h))
    obtain ⟨q, rfl, hq⟩ : ∃ q : Nat, at_ = q ∧ q < 64 := ⟨at_.toNat, by omega, by omega⟩
    have hq' : (q : Int) < 64 := by omega
    by_cases hm : m = 0
    · subst hm
      have HR : Hid ((1, d) = (r, d')) := Lib.hid (by rw [← hr]; unfold damF; rw [if_neg hout, if_pos rfl])
      have H := Lib.hid h
      have HIN := Lib.hid hin
      clear h hr hout hin h0
      go_enter Try.func25, Try.ntmps25
      go_wp2_with fail
      refine (exists_walk n H.out).mono ?_; rintro e _ ⟨rfl, rfl⟩
      rw [HIN.out]
      go_wp2_with fail
      go_ret
      have e := HR.out
      injection e with e1 e2
      subst e1 e2
      exact ⟨rfl, Touch.refl _ _, H.out⟩
    · obtain ⟨k, rfl, hk⟩ : ∃ k : Nat, n = (k : Int) ∧ k < d.secs.length := by
        have := of_decide_eq_true hin
        exact ⟨n.toNat, by omega, by omega⟩
      obtain ⟨b, hb⟩ : ∃ b, d.secs[k]? = some b := ⟨_, List.getElem?_eq_getElem hk⟩
      have HR : Hid ((0, { d with secs := d.secs.set k (dmg b q m) }) = (r, d')) := Lib.hid (by
        rw [← hr]; unfold damF; rw [if_neg hout, if_neg hm]
        simp [hb])
      have hm0 : ((m.toNat : Int) == 0) = false := by
        rw [Bool.eq_false_iff]; intro h; apply hm; apply UInt8.toNat_inj.1
        have : (m.toNat : Int) = 0 := by simpa using h
        simp; omega
      obtain ⟨v, hv1, hv2, g, hv3, hv4⟩ := h.sec k b hb
      have hb64 : b.length = 64 := by have := hv2.1; simpa [bcells] using this
      obtain ⟨g', c, cur, rfl, hcur, hc, _, hsz, htk⟩ := row_open hv2 (by decide)
      obtain rfl : g' = g := by injection hv3
      obtain ⟨gd, cd, e, _, _, hdc, _⟩ := row_some h.rd h.len
      have z0 := hdc k _ hv1
      have x0 := h.c0
      rw [e] at x0
      obtain ⟨y, hy⟩ : ∃ y, b.getD q 0 = y := ⟨_, rfl⟩
      obtain ⟨_, _, e', _, _, hsc, hsf⟩ := row_some hv2 (by decide)
      injection e' with e1 e2 e3
      injection e1 with e1
      injection e1 with e1
      subst e1
      have z1 := hsc q (.int .u8 (y.toNat : Int)) (by
        unfold bcells; rw [List.getElem?_map, List.getElem?_eq_getElem (by omega), ← hy, List.getD_eq_getElem?_getD, List.getElem?_eq_getElem (by omega)]; rfl)
      have zf := hsf q
      have hx : bits .xor .u8 (y.toNat : Int) (m.toNat : Int) = ((y ^^^ m).toNat : Int) := by
        rw [u8_xor_nat _ _ y.toNat_lt m.toNat_lt, UInt8.toNat_xor]
      obtain ⟨x, hxx⟩ : ∃ x, y ^^^ m = x := ⟨_, rfl⟩
      rw [hxx] at hx
      have hcs : 64 ≤ cur.size := by omega
      have h2 := h.sector hb hv1 (b' := dmg b q m) (by simp [dmg, hb64]) hcur (heap_setCell_any w g' q _ _ _ (.int .u8 (x.toNat : Int)) hcur) (by simp) (by
        rw [Array.toList_setIfInBounds, List.take_set, show List.take 64 cur.toList = bcells b from htk]
        unfold dmg bcells
        rw [List.map_set, hy, hxx]) (fun i hi _ => Below.heap_setCell w ⟨g', q, none⟩ _ i hi)
      have H2 := Lib.hid h2
      have HS := Lib.hid hv4
      have H := Lib.hid h
      have HIN := Lib.hid hin
      have hkl : (k : Int) < d.secs.length := by omega
      clear h h2 hr hout hin h0 hdc hsc hsf hv1 hv2 hv3 hv4 hcur htk hsz hb hm hcs e3
      go_enter Try.func25, Try.ntmps25
      go_wp2_with fail
      refine (exists_walk (k : Int) H.out).mono ?_; rintro e _ ⟨rfl, rfl⟩
      rw [HIN.out]
      go_wp2_with fail
      go_ret
      have e := HR.out
      injection e with e1 e2
      subst e1 e2
      exact ⟨rfl, (Touch.refl _ _).setCell (.inl HS.out) _, H2.out⟩
end
end Go.Proofs.Ytagfnobchdfhfaa
