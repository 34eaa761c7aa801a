import Derived.Test.YtagfnobchdfhfaaWc
namespace Go.Proofs.Ytagfnobchdfhfaa
set_option linter.unusedSimpArgs false
set_option linter.unnecessarySimpa false
set_option linter.unusedVariables false
open Go.RowKit
attribute [local go_sem ↓] Go.wp_at_zero Go.wp_at_succ

/-- the last write of a sector -/
def lastOf (l : List (Nat × ByteArray)) (k : Nat) : Option ByteArray := l.foldl (fun o p => if p.1 = k then some p.2 else o) none
theorem lastOf_snoc (l : List (Nat × ByteArray)) (p : Nat × ByteArray) (k : Nat) : lastOf (l ++ [p]) k = if p.1 = k then some p.2 else lastOf l k := by simp [lastOf]
def sB (l : List UInt8) : ByteArray := ⟨l.toArray⟩
def content (d : DM) (k : Nat) : ByteArray := (lastOf d.pend k).getD (sB (d.secs.getD k []))
/-- Read, on its disk -/
def readF (d : DM) (n : Int) : (ByteArray × Int) × DM :=
  if inside d n = false then ((⟨#[]⟩, 2), d) else if d.failed || d.bad.getD n.toNat false then ((⟨#[]⟩, 11), d) else ((content d n.toNat, 0), { d with r := IntKind.i64.wrap (d.r + 1) })
theorem pcells_get (l : List (Nat × ByteArray)) (m : Nat) (p : Nat × ByteArray) (h : l[m]? = some p) : (pcells l)[m * 2]? = some (.int .i64 (p.1 : Int)) ∧ (pcells l)[m * 2 + 1]? = some (.string p.2) := by
  induction l generalizing m with
  | nil => simp at h
  | cons q l ih =>
    cases m with
    | zero => simp at h; subst h; simp [pcells]
    | succ m =>
      simp at h
      have := ih m h
      have e : pcells (q :: l) = .int .i64 (q.1 : Int) :: .string q.2 :: pcells l := by simp [pcells]
      rw [e, show (m + 1) * 2 = m * 2 + 1 + 1 by omega]
      simpa using this
section
variable {S : Nat → Prop} {D : Nat} {d : DM} {w : World} {vd vb vp : Value} {dl : List Value}
theorem read_walk (n : Int) (h : DkO S D d w vd vb vp dl) (hp : d.pend.length ≤ 1000) (r : (ByteArray × Int) × DM) (hr : readF d n = r) : Calls Try.prog 18 #[.pointer (some ⟨D, 0, none⟩), .int .i64 n] w fun e w' => e = .returned (.tuple #[.string r.1.1, .int .i64 r.1.2]) ∧ Touch S w w' ∧ DkO S D r.2 w' vd vb vp dl := by
  cases hin : inside d n with
  | false =>
    have HR : Hid (r = ((⟨#[]⟩, 2), d)) := Lib.hid (by rw [← hr]; unfold readF; rw [if_pos hin])
    have H := Lib.hid h
    clear h hr
    go_enter Try.func18, Try.ntmps18
    go_wp2_with fail
    refine (exists_walk n H.out).mono ?_; rintro e _ ⟨rfl, rfl⟩
    rw [hin]
    go_wp2_with fail
    go_ret2
    rw [HR.out]
    exact ⟨rfl, Touch.refl _ _, H.out⟩
  | true =>
    obtain ⟨k, rfl, hk⟩ : ∃ k : Nat, n = (k : Int) ∧ k < d.secs.length := by
      have := of_decide_eq_true hin
      exact ⟨n.toNat, by omega, by omega⟩
    have x6 := h.c6
    have HIN := Lib.hid hin
    cases hf : d.failed with
    | true =>
      rw [hf] at x6
      have HR : Hid (r = ((⟨#[]⟩, 11), d)) := Lib.hid (by rw [← hr]; unfold readF; rw [hin, hf]; rfl)
      have H := Lib.hid h
      clear h hr hin hf
      go_enter Try.func18, Try.ntmps18
      go_wp2_with fail
      refine (exists_walk (k : Int) H.out).mono ?_; rintro e _ ⟨rfl, rfl⟩
      rw [HIN.out]
      go_wp2_with fail
      go_ret2
      rw [HR.out]
      exact ⟨rfl, Touch.refl _ _, H.out⟩
    | false =>
      rw [hf] at x6
      have hbl : d.bad.length = d.secs.length := by have := h.rb.1; simpa using this
      obtain ⟨gb, cb, rfl, hgb, hcb, hbc, hbf⟩ := row_some h.rb h.len
      have hbk := hbc k (.bool (d.bad.getD k false)) (by rw [List.getElem?_map, List.getElem?_eq_getElem (by omega)]; simp [List.getD, hbl, hk])
      have x1 := h.c1
      have hkl : (k : Int) < d.secs.length := by omega
      cases hb : d.bad.getD k false with
      | true =>
        rw [hb] at hbk
        have HR : Hid (r = ((⟨#[]⟩, 11), d)) := Lib.hid (by rw [← hr]; unfold readF; rw [hin, hf, Int.toNat_natCast, hb]; rfl)
        have H := Lib.hid h
        clear h hr hin hf hb hbc hbl
        go_enter Try.func18, Try.ntmps18
        go_wp2_with fail
        refine (exists_walk (k : Int) H.out).mono ?_; rintro e _ ⟨rfl, rfl⟩
        rw [HIN.out]
        go_wp2_with fail
        go_ret2
        rw [HR.out]
        exact ⟨rfl, Touch.refl _ _, H.out⟩
      | false =>
        rw [hb] at hbk
        obtain ⟨x, hx⟩ : ∃ x, IntKind.i64.wrap (d.r + 1) = x := ⟨_, rfl⟩
        have HR : Hid (r = ((content d k, 0), { d with r := x })) := Lib.hid (by rw [← hr, ← hx]; unfold readF; rw [hin, hf, Int.toNat_natCast, hb]; rfl)
        have h2 := h.set 3 (.int .i64 x) { d with r := x } rfl rfl rfl rfl
        obtain ⟨ap, cp, rfl⟩ := row_slice h.rp
        have x3 := h.c3
        have xf := h.fr
        have y2 := h2.c2
        have y0 := h2.c0
        have yf := h2.fr
        have H2 := Lib.hid h2
        have H := Lib.hid h
        have hpl : d.pend.length ≤ 9223372036854775807 := by omega
        clear h h2 hr hin hf hb hbc hbl
        go_enter Try.func18, Try.ntmps18
        go_wp2_with fail
        refine (exists_walk (k : Int) H.out).mono ?_; rintro e _ ⟨rfl, rfl⟩
        rw [HIN.out]
        go_wp2_with fail
        go_loopw [6] (fun i wr => ∃ j : Nat, j ≤ d.pend.length ∧ i = .int .i64 ((j : Int) - 1) ∧ lastOf d.pend k = lastOf (d.pend.take j) k ∧ wr = w.setCell ⟨D, 3, none⟩ (.int .i64 x)) (fun i _ => (intOf i + 1).toNat)
        case atStart => exact ⟨d.pend.length, Nat.le_refl _, rfl, by rw [List.take_of_length_le (Nat.le_refl _)], rfl⟩
        case round =>
          obtain ⟨j, hj, rfl, hl, rfl⟩ := hrel
          match j, hj, hl with
          | 0, hj, hl =>
            have HC : Hid (content d k = sB (d.secs.getD k [])) := Lib.hid (by unfold content; rw [hl]; rfl)
            obtain ⟨gd, cd, e, hgd, hcd, hdc, hdf⟩ := row_some H2.out.rd H.out.len
            subst e
            obtain ⟨b, hbk'⟩ : ∃ b, d.secs[k]? = some b := ⟨_, List.getElem?_eq_getElem hk⟩
            obtain ⟨v, hv1, hv2, g, hv3, hv4⟩ := H2.out.sec k b hbk'
            obtain ⟨g', c', rfl, hg', hc', hsc, _⟩ := row_some hv2 (by decide)
            have z0 := hdc k _ hv1
            have hbl : b.length = 64 := by have := hv2.1; simpa [bcells] using this
            have hcv := run_convert_bytes_back (P := Try.prog) (w.setCell ⟨D, 3, none⟩ (.int .i64 x)) 74 9 5 ⟨g', 0, none⟩ c' b Try.underlying74 Try.underlying5 Try.underlying9 (fun j hj => by
              have := hsc j (.int .u8 (b[j].toNat : Int)) (by unfold bcells; rw [List.getElem?_map, List.getElem?_eq_getElem hj]; rfl)
              rw [← this]; congr 1; unfold Addr.add; split <;> simp_all)
            rw [hbl] at hcv
            have HB : Hid (d.secs.getD k [] = b) := Lib.hid (by rw [List.getD_eq_getElem?_getD, hbk']; rfl)
            clear hl hdc hsc hv1 hv2 hv3 hv4 hbl hbk' hdf
            go_wp2_with fail
            go_ret2
            rw [HR.out, HC.out, HB.out]
            exact ⟨rfl, (Touch.refl _ _).setCell (.inl H.out.sD) _, H2.out⟩
          | m + 1, hj, hl =>
            obtain ⟨gp, c, e, hgp, hcp, hpc, hpf⟩ := row_some H2.out.rp (by show 0 < d.pend.length; omega)
            injection e with e1 e2 e3
            subst e1 e3
            obtain ⟨p, hpm⟩ : ∃ p, d.pend[m]? = some p := ⟨_, List.getElem?_eq_getElem hj⟩
            obtain ⟨q1, q2⟩ := pcells_get d.pend m p hpm
            have z1 := hpc _ _ q1
            have z2 := hpc _ _ q2
            have ht : d.pend.take (m + 1) = d.pend.take m ++ [p] := by
              rw [List.take_add_one, hpm]; rfl
            rw [ht, lastOf_snoc] at hl
            have hmm : (m : Int) < d.pend.length := by omega
            rw [show ((m + 1 : Nat) : Int) - 1 = (m : Int) by omega]
            by_cases hpk : p.1 = k
            · have heq : ((p.1 : Int) == (k : Int)) = true := by simp [hpk]
              rw [if_pos hpk] at hl
              have HC : Hid (content d k = p.2) := Lib.hid (by unfold content; rw [hl]; rfl)
              clear hl hpc q1 q2 ht hpm hpk hpf
              go_wp2_with fail
              go_ret2
              rw [HR.out, HC.out]
              exact ⟨rfl, (Touch.refl _ _).setCell (.inl H.out.sD) _, H2.out⟩
            · have heq : ((p.1 : Int) == (k : Int)) = false := by rw [Bool.eq_false_iff]; simp; omega
              rw [if_neg hpk] at hl
              have HL := Lib.hid hl
              clear hl hpc q1 q2 ht hpm hpk hpf
              go_wp2_with fail
              go_roundw
              case rel => exact ⟨m, by omega, by go_num, HL.out, trivial⟩
              case measure => simp [intOf]
end
end Go.Proofs.Ytagfnobchdfhfaa
