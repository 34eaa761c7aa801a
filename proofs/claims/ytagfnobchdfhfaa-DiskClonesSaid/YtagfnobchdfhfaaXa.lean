import Derived.Test.YtagfnobchdfhfaaWw
namespace Go.Proofs.Ytagfnobchdfhfaa
set_option linter.unusedSimpArgs false
set_option linter.unnecessarySimpa false
set_option linter.unusedVariables false
open Go.RowKit Go.ChangeShapes Go.WideShapes Go.ChangeAt
attribute [local go_sem ↓] Go.wp_at_zero Go.wp_at_succ

theorem grow_left {S : Nat → Prop} {w w' : World} {k : Nat} (h : S k) : grow S w w' k := .inl h
theorem Rf.below {T : Nat → Prop} {d : DM} {w w' : World} {v : Value} (h : Rf T d w v) (hb : Below w.heap.size w w') : Rf (grow T w w') d w' v := (h.frame fun k _ hk => hb.block k hk).mono fun _ => .inl
section
variable {T : Nat → Prop} {d : DM} {w : World} {vd vb vp : Value}
theorem there_walk (n : Int) (h : RfO T d w vd vb vp) : Calls Try.prog 43 #[rv d vd vb vp, .int .i64 n] w fun e w' => e = .returned (.bool (inside d n)) ∧ Below w.heap.size w w' := by
  obtain ⟨ad, cd, rfl⟩ := row_slice h.rd
  obtain ⟨ab, cb, rfl⟩ := row_slice h.rb
  obtain ⟨ap, cp, rfl⟩ := row_slice h.rp
  have HR := Lib.hid h
  clear h
  unfold rv
  obtain ⟨m, hm⟩ : ∃ m, d.secs.length = m := ⟨_, rfl⟩
  have HI : Hid (inside d n = (decide (0 ≤ n) && decide (n < m))) := Lib.hid (by unfold inside; rw [hm]; simp)
  rw [hm]
  by_cases h0 : (0 : Int) ≤ n
  · go_enter Try.func43, Try.ntmps43
    go_wp2
    go_ret
    exact ⟨by rw [HI.out]; simp [h0], (Below.refl _ _).alloc (Nat.le_refl _) _⟩
  · have h0' : ¬ (0 : Int) ≤ n := h0
    go_enter Try.func43, Try.ntmps43
    go_wp2
    go_ret
    exact ⟨by rw [HI.out, decide_eq_false (by omega)]; rfl, (Below.refl _ _).alloc (Nat.le_refl _) _⟩
theorem content_walk (k : Nat) (hk : k < d.secs.length) (h : RfO T d w vd vb vp) (hp : d.pend.length ≤ 1000) : Calls Try.prog 44 #[rv d vd vb vp, .int .i64 (k : Int)] w fun e w' => e = .returned (.string (content d k)) ∧ Below w.heap.size w w' := by
  obtain ⟨ad, cd, rfl⟩ := row_slice h.rd
  obtain ⟨ab, cb, rfl⟩ := row_slice h.rb
  obtain ⟨ap, cp, rfl⟩ := row_slice h.rp
  have HR := Lib.hid h
  clear h
  unfold rv
  have hpl : (d.pend.length : Int) ≤ 1000 := by omega
  obtain ⟨W, hW⟩ : ∃ W, w.alloc (.cells #[.slice ad d.secs.length cd, .slice ab d.secs.length cb, .slice ap d.pend.length cp, .int .i64 d.after, .bool d.failed, .int .i64 d.r, .int .i64 d.wn, .int .i64 d.sy] 33) = W := ⟨_, rfl⟩
  have h0 : RfO T d W (.slice ad d.secs.length cd) (.slice ab d.secs.length cb) (.slice ap d.pend.length cp) := HR.out.frame fun k _ hk => by rw [← hW]; exact Below.heap_alloc _ _ _ hk
  have H0 := Lib.hid h0
  have HW := Lib.hid hW
  clear h0 hW
  go_enter Try.func44, Try.ntmps44
  go_wp2_with fail
  go_loopw [5] (fun i wr => ∃ j : Nat, j ≤ d.pend.length ∧ i = .int .i64 ((j : Int) - 1) ∧ lastOf d.pend k = lastOf (d.pend.take j) k ∧ wr = w.alloc (.cells #[.slice ad d.secs.length cd, .slice ab d.secs.length cb, .slice ap d.pend.length cp, .int .i64 d.after, .bool d.failed, .int .i64 d.r, .int .i64 d.wn, .int .i64 d.sy] 33)) (fun i _ => (intOf i + 1).toNat)
  case atStart => exact ⟨d.pend.length, Nat.le_refl _, rfl, by rw [List.take_of_length_le (Nat.le_refl _)], rfl⟩
  case round =>
    obtain ⟨j, hj, rfl, hl, rfl⟩ := hrel
    have h0 := H0.out
    rw [← HW.out] at h0
    match j, hj, hl with
    | 0, hj, hl =>
      have HC : Hid (content d k = sB (d.secs.getD k [])) := Lib.hid (by unfold content; rw [hl]; rfl)
      obtain ⟨gd, c, e, hgd, hcd, hdc, hdf⟩ := row_some h0.rd h0.len
      injection e with e1 e2 e3
      subst e1 e3
      obtain ⟨b, hb⟩ : ∃ b, d.secs[k]? = some b := ⟨_, List.getElem?_eq_getElem hk⟩
      have z0 := hdc k (.string (sB b)) (by rw [List.getElem?_map, hb]; rfl)
      have HB : Hid (d.secs.getD k [] = b) := Lib.hid (by rw [List.getD_eq_getElem?_getD, hb]; rfl)
      clear hb
      have hkl : (k : Int) < d.secs.length := by omega
      clear hl hdc hdf h0
      go_wp2_with fail
      go_ret
      exact ⟨by rw [HC.out, HB.out]; rfl, (Below.refl _ _).alloc (Nat.le_refl _) _⟩
    | m + 1, hj, hl =>
      obtain ⟨gp, c, e, hgp, hcp, hpc, hpf⟩ := row_some h0.rp (by show 0 < d.pend.length; omega)
      injection e with e1 e2 e3
      subst e1 e3
      obtain ⟨p, hpm⟩ : ∃ p, d.pend[m]? = some p := ⟨_, List.getElem?_eq_getElem hj⟩
      obtain ⟨q1, q2⟩ := pcells_get d.pend m p hpm
      have z1 := hpc _ _ q1
      have z2 := hpc _ _ q2
      have ht : d.pend.take (m + 1) = d.pend.take m ++ [p] := by
        rw [List.take_add_one, hpm]; rfl
      rw [ht, lastOf_snoc] at hl
      have hmm : (m : Int) < d.pend.length := by omega
      rw [show ((m + 1 : Nat) : Int) - 1 = (m : Int) by omega]
      by_cases hpk : p.1 = k
      · have heq : ((p.1 : Int) == (k : Int)) = true := by simp [hpk]
        rw [if_pos hpk] at hl
        have HC : Hid (content d k = p.2) := Lib.hid (by unfold content; rw [hl]; rfl)
        clear hl hpc q1 q2 ht hpm hpk hpf h0
        go_wp2_with fail
        go_ret
        exact ⟨by rw [HC.out]; rfl, (Below.refl _ _).alloc (Nat.le_refl _) _⟩
      · have heq : ((p.1 : Int) == (k : Int)) = false := by rw [Bool.eq_false_iff]; simp; omega
        rw [if_neg hpk] at hl
        have HL := Lib.hid hl
        clear hl hpc q1 q2 ht hpm hpk hpf h0
        go_wp2_with fail
        go_roundw
        case rel => exact ⟨m, by omega, by go_num, HL.out, trivial⟩
        case measure => simp [intOf]
theorem there_any (ad ab ap : Option Addr) (m cd m2 cb m3 cp : Nat) (f : Int) (fl : Bool) (r wn sy n : Int) (i : Bool) (hi : (decide (0 ≤ n) && decide (n < m)) = i) (w : World) : Calls Try.prog 43 #[.agg #[.slice ad m cd, .slice ab m2 cb, .slice ap m3 cp, .int .i64 f, .bool fl, .int .i64 r, .int .i64 wn, .int .i64 sy], .int .i64 n] w fun e w' => e = .returned (.bool i) ∧ Below w.heap.size w w' := by
  have HI := Lib.hid hi
  clear hi
  by_cases h0 : (0 : Int) ≤ n
  · go_enter Try.func43, Try.ntmps43
    go_wp2
    go_ret
    exact ⟨by rw [← HI.out]; simp [h0], (Below.refl _ _).alloc (Nat.le_refl _) _⟩
  · have h0' : ¬ (0 : Int) ≤ n := h0
    go_enter Try.func43, Try.ntmps43
    go_wp2
    go_ret
    exact ⟨by rw [← HI.out, decide_eq_false (by omega)]; rfl, (Below.refl _ _).alloc (Nat.le_refl _) _⟩
theorem inside_eq (d : DM) (n : Int) : (decide (0 ≤ n) && decide (n < (d.secs.length : Int))) = inside d n := by unfold inside; simp
theorem c33 {w : World} {B : Nat} {v0 v1 v2 v3 v4 v5 v6 v7 : Value} (h : w.heap[B]? = some (.cells #[v0, v1, v2, v3, v4, v5, v6, v7] 33 (0, 0))) : w.cell? ⟨B, 0, none⟩ = some v0 ∧ w.cell? ⟨B, 1, none⟩ = some v1 ∧ w.cell? ⟨B, 2, none⟩ = some v2 ∧ w.cell? ⟨B, 3, none⟩ = some v3 ∧ w.cell? ⟨B, 4, none⟩ = some v4 ∧ w.cell? ⟨B, 5, none⟩ = some v5 ∧ w.cell? ⟨B, 6, none⟩ = some v6 ∧ w.cell? ⟨B, 7, none⟩ = some v7 ∧ ∀ i, w.frozen? ⟨B, i, none⟩ = false := by
  have z : ∀ i (_ : i < 8), w.cell? ⟨B, i, none⟩ = #[v0, v1, v2, v3, v4, v5, v6, v7][i]? := fun i _ => by rw [cell_of_row w _ i _ _ _ h]
  exact ⟨z 0 (by decide), z 1 (by decide), z 2 (by decide), z 3 (by decide), z 4 (by decide), z 5 (by decide), z 6 (by decide), z 7 (by decide), fun i => by simp [World.frozen?, h]⟩
theorem below_set8 {N B : Nat} {w w1 : World} (h : Below N w w1) (hB : N ≤ B) (v0 v1 v2 v3 v4 v5 v6 v7 : Value) : Below N w (set8 w1 B v0 v1 v2 v3 v4 v5 v6 v7) :=
  (((((((h.setCell hB _).setCell hB _).setCell hB _).setCell hB _).setCell hB _).setCell hB _).setCell hB _).setCell hB _
/-- the result of a function of the reference -/
def Res (T : Nat → Prop) (d' : DM) (w : World) (mk : Value → Ending) (e : Ending) (w' : World) : Prop := ∃ v', e = mk v' ∧ Below w.heap.size w w' ∧ Rf (grow T w w') d' w' v'
theorem res_same {d' : DM} {W : World} {mk : Value → Ending} (h : RfO T d w vd vb vp) (hb : Below w.heap.size w W) (e1 : d'.secs = d.secs) (e2 : d'.bad = d.bad) (e3 : d'.pend = d.pend) : Res T d' w mk (mk (rv d' vd vb vp)) W := by
  have h1 := (h.frame (w' := W) fun k _ hk => hb.block k hk).mono (T' := grow T w W) fun _ => .inl
  exact ⟨_, rfl, hb, vd, vb, vp, rfl, by rw [e1]; exact h1.rd, h1.sd, by rw [e1, e2]; exact h1.rb, h1.sb, by rw [e3]; exact h1.rp, h1.sp, by rw [e1]; exact h1.l64, by rw [e1]; exact h1.len, by rw [e1, e3]; exact h1.fit⟩
set_option maxHeartbeats 400000 in
theorem read_ref (n : Int) (h : RfO T d w vd vb vp) (hp : d.pend.length ≤ 1000) (r : (ByteArray × Int) × DM) (hr : readF d n = r) : Calls Try.prog 36 #[rv d vd vb vp, .int .i64 n] w (Res T r.2 w fun v' => .returned (.tuple #[v', .string r.1.1, .int .i64 r.1.2])) := by
  cases hin : inside d n with
  | false =>
    obtain ⟨gd, cd, rfl, hgd, _, hdc, _⟩ := row_some h.rd h.len
    obtain ⟨gb, cb, rfl, hgb, _, hbc, _⟩ := row_some h.rb h.len
    obtain ⟨ap, cp, rfl⟩ := row_slice h.rp
    have HR := Lib.hid h
    obtain ⟨W1, hW1⟩ : ∃ W, (w.alloc (.cells #[.slice (some ⟨gd, 0, none⟩) d.secs.length cd, .slice (some ⟨gb, 0, none⟩) d.secs.length cb, .slice ap d.pend.length cp, .int .i64 d.after, .bool d.failed, .int .i64 d.r, .int .i64 d.wn, .int .i64 d.sy] 33)).alloc (.cells zr33 33) = W := ⟨_, rfl⟩
    have hs1 : W1.heap.size = w.heap.size + 2 := by rw [← hW1]; simp
    have hb1 : Below w.heap.size w W1 := by rw [← hW1]; exact ((Below.refl _ _).alloc (Nat.le_refl _) _).alloc (by simp) _
    have hX1 : W1.heap[w.heap.size]? = some (.cells #[.slice (some ⟨gd, 0, none⟩) d.secs.length cd, .slice (some ⟨gb, 0, none⟩) d.secs.length cb, .slice ap d.pend.length cp, .int .i64 d.after, .bool d.failed, .int .i64 d.r, .int .i64 d.wn, .int .i64 d.sy] 33 (0, 0)) := by rw [← hW1, Below.heap_alloc _ _ _ (by simp)]; exact heap_alloc_new w _
    have hZ1 : W1.heap[w.heap.size + 1]? = some (.cells zr33 33 (0, 0)) := by
      have := heap_alloc_new (w.alloc (.cells #[.slice (some ⟨gd, 0, none⟩) d.secs.length cd, .slice (some ⟨gb, 0, none⟩) d.secs.length cb, .slice ap d.pend.length cp, .int .i64 d.after, .bool d.failed, .int .i64 d.r, .int .i64 d.wn, .int .i64 d.sy] 33)) (.cells zr33 33)
      rw [hW1] at this
      simpa using this
    have HS1 := Lib.hid hs1
    have HB1 := Lib.hid hb1
    have HX1 := Lib.hid hX1
    have HZ1 := Lib.hid hZ1
    have HW1 := Lib.hid hW1
    clear hs1 hb1 hX1 hZ1 hW1
    have HI := Lib.hid hin
    have HRR : Hid (r = ((⟨#[]⟩, 2), d)) := Lib.hid (by rw [← hr]; unfold readF; rw [hin]; rfl)
    clear h hr hin hdc hbc
    unfold rv
    go_enter Try.func36, Try.ntmps36
    go_wp2_with fail
    rw [show (w.alloc (.cells #[.slice (some ⟨gd, 0, none⟩) d.secs.length cd, .slice (some ⟨gb, 0, none⟩) d.secs.length cb, .slice ap d.pend.length cp, .int .i64 d.after, .bool d.failed, .int .i64 d.r, .int .i64 d.wn, .int .i64 d.sy] 33)).alloc (.cells #[.slice none 0 0, .slice none 0 0, .slice none 0 0, .int .i64 0, .bool false, .int .i64 0, .int .i64 0, .int .i64 0] 33) = W1 from HW1.out]
    refine (there_any _ _ _ _ _ _ _ _ _ _ _ _ _ _ _ _ (inside_eq d _) _).mono ?_; rintro e w2 ⟨rfl, hb⟩
    rw [HI.out]
    have hbl := hb
    have hX2 := (hbl.block w.heap.size (by rw [HS1.out]; omega)).trans HX1.out
    have hZ2 := (hbl.block (w.heap.size + 1) (by rw [HS1.out]; omega)).trans HZ1.out
    have HB2 : Hid (Below w.heap.size w w2) := Lib.hid (HB1.out.trans (hbl.mono (by rw [HS1.out]; omega)))
    obtain ⟨x0, x1, x2, x3, x4, x5, x6, x7, xf⟩ := c33 hX2
    obtain ⟨z0, z1, z2, z3, z4, z5, z6, z7, zf⟩ := z33 hZ2
    have HX2 := Lib.hid hX2
    have HZ2 := Lib.hid hZ2
    clear hbl hX2 hZ2
    go_wp2_with fail
    refine bodyPost_ret (v := .tuple #[rv d (.slice (some ⟨gd, 0, none⟩) d.secs.length cd) (.slice (some ⟨gb, 0, none⟩) d.secs.length cb) (.slice ap d.pend.length cp), .string ⟨#[]⟩, .int .i64 2]) (by simp [rv, results, Try.results36, go_sem, z0, z1, z2, z3, z4, z5, z6, z7]) rfl ?_
    rw [HRR.out]
    exact res_same HR.out (below_set8 HB2.out (Nat.le_succ _) _ _ _ _ _ _ _ _) rfl rfl rfl
  | true =>
    obtain ⟨k, rfl, hk⟩ : ∃ k : Nat, n = (k : Int) ∧ k < d.secs.length := by
      have := of_decide_eq_true hin
      exact ⟨n.toNat, by omega, by omega⟩
    have hkl : (k : Int) < d.secs.length := by omega
    cases hf : d.failed with
    | true =>
      obtain ⟨gd, cd, rfl, hgd, _, hdc, _⟩ := row_some h.rd h.len
      obtain ⟨gb, cb, rfl, hgb, _, hbc, _⟩ := row_some h.rb h.len
      obtain ⟨ap, cp, rfl⟩ := row_slice h.rp
      have HR := Lib.hid h
      obtain ⟨W1, hW1⟩ : ∃ W, (w.alloc (.cells #[.slice (some ⟨gd, 0, none⟩) d.secs.length cd, .slice (some ⟨gb, 0, none⟩) d.secs.length cb, .slice ap d.pend.length cp, .int .i64 d.after, .bool d.failed, .int .i64 d.r, .int .i64 d.wn, .int .i64 d.sy] 33)).alloc (.cells zr33 33) = W := ⟨_, rfl⟩
      have hs1 : W1.heap.size = w.heap.size + 2 := by rw [← hW1]; simp
      have hb1 : Below w.heap.size w W1 := by rw [← hW1]; exact ((Below.refl _ _).alloc (Nat.le_refl _) _).alloc (by simp) _
      have hX1 : W1.heap[w.heap.size]? = some (.cells #[.slice (some ⟨gd, 0, none⟩) d.secs.length cd, .slice (some ⟨gb, 0, none⟩) d.secs.length cb, .slice ap d.pend.length cp, .int .i64 d.after, .bool d.failed, .int .i64 d.r, .int .i64 d.wn, .int .i64 d.sy] 33 (0, 0)) := by rw [← hW1, Below.heap_alloc _ _ _ (by simp)]; exact heap_alloc_new w _
      have hZ1 : W1.heap[w.heap.size + 1]? = some (.cells zr33 33 (0, 0)) := by
        have := heap_alloc_new (w.alloc (.cells #[.slice (some ⟨gd, 0, none⟩) d.secs.length cd, .slice (some ⟨gb, 0, none⟩) d.secs.length cb, .slice ap d.pend.length cp, .int .i64 d.after, .bool d.failed, .int .i64 d.r, .int .i64 d.wn, .int .i64 d.sy] 33)) (.cells zr33 33)
        rw [hW1] at this
        simpa using this
      have HS1 := Lib.hid hs1
      have HB1 := Lib.hid hb1
      have HX1 := Lib.hid hX1
      have HZ1 := Lib.hid hZ1
      have HW1 := Lib.hid hW1
      clear hs1 hb1 hX1 hZ1 hW1
      have HI := Lib.hid hin
      have HF := Lib.hid hf
      have HRR : Hid (r = ((⟨#[]⟩, 11), d)) := Lib.hid (by rw [← hr]; unfold readF; rw [hin, hf]; rfl)
      clear h hr hin hf hdc hbc
      unfold rv
      go_enter Try.func36, Try.ntmps36
      go_wp2_with fail
      rw [show (w.alloc (.cells #[.slice (some ⟨gd, 0, none⟩) d.secs.length cd, .slice (some ⟨gb, 0, none⟩) d.secs.length cb, .slice ap d.pend.length cp, .int .i64 d.after, .bool d.failed, .int .i64 d.r, .int .i64 d.wn, .int .i64 d.sy] 33)).alloc (.cells #[.slice none 0 0, .slice none 0 0, .slice none 0 0, .int .i64 0, .bool false, .int .i64 0, .int .i64 0, .int .i64 0] 33) = W1 from HW1.out]
      refine (there_any _ _ _ _ _ _ _ _ _ _ _ _ _ _ _ _ (inside_eq d _) _).mono ?_; rintro e w2 ⟨rfl, hb⟩
      rw [HI.out]
      have hbl := hb
      have hX2 := (hbl.block w.heap.size (by rw [HS1.out]; omega)).trans HX1.out
      have hZ2 := (hbl.block (w.heap.size + 1) (by rw [HS1.out]; omega)).trans HZ1.out
      have HB2 : Hid (Below w.heap.size w w2) := Lib.hid (HB1.out.trans (hbl.mono (by rw [HS1.out]; omega)))
      obtain ⟨x0, x1, x2, x3, x4, x5, x6, x7, xf⟩ := c33 hX2
      obtain ⟨z0, z1, z2, z3, z4, z5, z6, z7, zf⟩ := z33 hZ2
      have HX2 := Lib.hid hX2
      have HZ2 := Lib.hid hZ2
      clear hbl hX2 hZ2
      rw [HF.out] at x4
      go_wp2_with fail
      refine bodyPost_ret (v := .tuple #[rv d (.slice (some ⟨gd, 0, none⟩) d.secs.length cd) (.slice (some ⟨gb, 0, none⟩) d.secs.length cb) (.slice ap d.pend.length cp), .string ⟨#[]⟩, .int .i64 11]) (by simp [rv, results, Try.results36, go_sem, z0, z1, z2, z3, z4, z5, z6, z7, HF.out]) rfl ?_
      rw [HRR.out]
      exact res_same HR.out (below_set8 HB2.out (Nat.le_succ _) _ _ _ _ _ _ _ _) rfl rfl rfl
    | false =>
      have hbl : d.bad.length = d.secs.length := by have := h.rb.1; simpa using this
      obtain ⟨bk, hb⟩ : ∃ b, d.bad.getD k false = b := ⟨_, rfl⟩
      obtain ⟨gd, cd, rfl, hgd, _, hdc, _⟩ := row_some h.rd h.len
      obtain ⟨gb, cb, rfl, hgb, _, hbc, _⟩ := row_some h.rb h.len
      obtain ⟨ap, cp, rfl⟩ := row_slice h.rp
      have HR := Lib.hid h
      have hbk := hbc k (.bool bk) (by rw [List.getElem?_map, List.getElem?_eq_getElem (by omega), ← hb, List.getD_eq_getElem?_getD, List.getElem?_eq_getElem (by omega)]; rfl)
      obtain ⟨W1, hW1⟩ : ∃ W, (w.alloc (.cells #[.slice (some ⟨gd, 0, none⟩) d.secs.length cd, .slice (some ⟨gb, 0, none⟩) d.secs.length cb, .slice ap d.pend.length cp, .int .i64 d.after, .bool d.failed, .int .i64 d.r, .int .i64 d.wn, .int .i64 d.sy] 33)).alloc (.cells zr33 33) = W := ⟨_, rfl⟩
      have hs1 : W1.heap.size = w.heap.size + 2 := by rw [← hW1]; simp
      have hb1 : Below w.heap.size w W1 := by rw [← hW1]; exact ((Below.refl _ _).alloc (Nat.le_refl _) _).alloc (by simp) _
      have hX1 : W1.heap[w.heap.size]? = some (.cells #[.slice (some ⟨gd, 0, none⟩) d.secs.length cd, .slice (some ⟨gb, 0, none⟩) d.secs.length cb, .slice ap d.pend.length cp, .int .i64 d.after, .bool d.failed, .int .i64 d.r, .int .i64 d.wn, .int .i64 d.sy] 33 (0, 0)) := by rw [← hW1, Below.heap_alloc _ _ _ (by simp)]; exact heap_alloc_new w _
      have hZ1 : W1.heap[w.heap.size + 1]? = some (.cells zr33 33 (0, 0)) := by
        have := heap_alloc_new (w.alloc (.cells #[.slice (some ⟨gd, 0, none⟩) d.secs.length cd, .slice (some ⟨gb, 0, none⟩) d.secs.length cb, .slice ap d.pend.length cp, .int .i64 d.after, .bool d.failed, .int .i64 d.r, .int .i64 d.wn, .int .i64 d.sy] 33)) (.cells zr33 33)
        rw [hW1] at this
        simpa using this
      have HS1 := Lib.hid hs1
      have HB1 := Lib.hid hb1
      have HX1 := Lib.hid hX1
      have HZ1 := Lib.hid hZ1
      have HW1 := Lib.hid hW1
      clear hs1 hb1 hX1 hZ1 hW1
      have HI := Lib.hid hin
      have HF := Lib.hid hf
      cases bk with
      | true =>
        have HRR : Hid (r = ((⟨#[]⟩, 11), d)) := Lib.hid (by rw [← hr]; unfold readF; rw [hin, hf, Int.toNat_natCast, hb]; rfl)
        clear h hr hin hf hb hbl hbc hdc
        unfold rv
        go_enter Try.func36, Try.ntmps36
        go_wp2_with fail
        rw [show (w.alloc (.cells #[.slice (some ⟨gd, 0, none⟩) d.secs.length cd, .slice (some ⟨gb, 0, none⟩) d.secs.length cb, .slice ap d.pend.length cp, .int .i64 d.after, .bool d.failed, .int .i64 d.r, .int .i64 d.wn, .int .i64 d.sy] 33)).alloc (.cells #[.slice none 0 0, .slice none 0 0, .slice none 0 0, .int .i64 0, .bool false, .int .i64 0, .int .i64 0, .int .i64 0] 33) = W1 from HW1.out]
        refine (there_any _ _ _ _ _ _ _ _ _ _ _ _ _ _ _ _ (inside_eq d _) _).mono ?_; rintro e w2 ⟨rfl, hb⟩
        rw [HI.out]
        have hbl := hb
        have hX2 := (hbl.block w.heap.size (by rw [HS1.out]; omega)).trans HX1.out
        have hZ2 := (hbl.block (w.heap.size + 1) (by rw [HS1.out]; omega)).trans HZ1.out
        have HB2 : Hid (Below w.heap.size w w2) := Lib.hid (HB1.out.trans (hbl.mono (by rw [HS1.out]; omega)))
        obtain ⟨x0, x1, x2, x3, x4, x5, x6, x7, xf⟩ := c33 hX2
        obtain ⟨z0, z1, z2, z3, z4, z5, z6, z7, zf⟩ := z33 hZ2
        have HX2 := Lib.hid hX2
        have HZ2 := Lib.hid hZ2
        clear hbl hX2 hZ2
        have hbk2 := (HB2.out.cell (p := ⟨gb, k, none⟩) hgb).trans hbk
        rw [HF.out] at x4
        go_wp2_with fail
        refine bodyPost_ret (v := .tuple #[rv d (.slice (some ⟨gd, 0, none⟩) d.secs.length cd) (.slice (some ⟨gb, 0, none⟩) d.secs.length cb) (.slice ap d.pend.length cp), .string ⟨#[]⟩, .int .i64 11]) (by simp [rv, results, Try.results36, go_sem, z0, z1, z2, z3, z4, z5, z6, z7, HF.out]) rfl ?_
        rw [HRR.out]
        exact res_same HR.out (below_set8 HB2.out (Nat.le_succ _) _ _ _ _ _ _ _ _) rfl rfl rfl
      | false =>
        obtain ⟨x, hx⟩ : ∃ x, IntKind.i64.wrap (d.r + 1) = x := ⟨_, rfl⟩
        have HRR : Hid (r = ((content d k, 0), { d with r := x })) := Lib.hid (by rw [← hr, ← hx]; unfold readF; rw [hin, hf, Int.toNat_natCast, hb]; rfl)
        clear h hr hin hf hb hbl hbc hdc
        unfold rv
        go_enter Try.func36, Try.ntmps36
        go_wp2_with fail
        rw [show (w.alloc (.cells #[.slice (some ⟨gd, 0, none⟩) d.secs.length cd, .slice (some ⟨gb, 0, none⟩) d.secs.length cb, .slice ap d.pend.length cp, .int .i64 d.after, .bool d.failed, .int .i64 d.r, .int .i64 d.wn, .int .i64 d.sy] 33)).alloc (.cells #[.slice none 0 0, .slice none 0 0, .slice none 0 0, .int .i64 0, .bool false, .int .i64 0, .int .i64 0, .int .i64 0] 33) = W1 from HW1.out]
        refine (there_any _ _ _ _ _ _ _ _ _ _ _ _ _ _ _ _ (inside_eq d _) _).mono ?_; rintro e w2 ⟨rfl, hb⟩
        rw [HI.out]
        have hbl := hb
        have hX2 := (hbl.block w.heap.size (by rw [HS1.out]; omega)).trans HX1.out
        have hZ2 := (hbl.block (w.heap.size + 1) (by rw [HS1.out]; omega)).trans HZ1.out
        have HB2 : Hid (Below w.heap.size w w2) := Lib.hid (HB1.out.trans (hbl.mono (by rw [HS1.out]; omega)))
        obtain ⟨x0, x1, x2, x3, x4, x5, x6, x7, xf⟩ := c33 hX2
        obtain ⟨z0, z1, z2, z3, z4, z5, z6, z7, zf⟩ := z33 hZ2
        have HX2 := Lib.hid hX2
        have HZ2 := Lib.hid hZ2
        clear hbl hX2 hZ2
        have hbk2 := (HB2.out.cell (p := ⟨gb, k, none⟩) hgb).trans hbk
        rw [HF.out] at x4
        have HCT : Hid (∀ W : World, RfO T { d with r := x } W (.slice (some ⟨gd, 0, none⟩) d.secs.length cd) (.slice (some ⟨gb, 0, none⟩) d.secs.length cb) (.slice ap d.pend.length cp) → Calls Try.prog 44 #[.agg #[.slice (some ⟨gd, 0, none⟩) d.secs.length cd, .slice (some ⟨gb, 0, none⟩) d.secs.length cb, .slice ap d.pend.length cp, .int .i64 d.after, .bool false, .int .i64 x, .int .i64 d.wn, .int .i64 d.sy], .int .i64 (k : Int)] W fun e w' => e = .returned (.string (content d k)) ∧ Below W.heap.size W w') := Lib.hid (fun W hW => by
          have := content_walk (d := { d with r := x }) k hk hW hp
          unfold rv at this
          rw [HF.out] at this
          exact this)
        have hX5 : (w2.setCell ⟨w.heap.size, 5, none⟩ (.int .i64 x)).heap[w.heap.size]? = some (.cells #[.slice (some ⟨gd, 0, none⟩) d.secs.length cd, .slice (some ⟨gb, 0, none⟩) d.secs.length cb, .slice ap d.pend.length cp, .int .i64 d.after, .bool false, .int .i64 x, .int .i64 d.wn, .int .i64 d.sy] 33 (0, 0)) := by
          rw [heap_setCell_any w2 w.heap.size 5 _ _ _ _ HX2.out, HF.out]; rfl
        have hZ5 : (w2.setCell ⟨w.heap.size, 5, none⟩ (.int .i64 x)).heap[w.heap.size + 1]? = some (.cells zr33 33 (0, 0)) := (Below.heap_setCell w2 ⟨w.heap.size, 5, none⟩ _ _ (by show w.heap.size + 1 ≠ w.heap.size; omega)).trans HZ2.out
        have hl50 : w.heap.size < (w2.setCell ⟨w.heap.size, 5, none⟩ (.int .i64 x)).heap.size := (Array.getElem?_eq_some_iff.1 hX5).1
        have hl51 : w.heap.size + 1 < (w2.setCell ⟨w.heap.size, 5, none⟩ (.int .i64 x)).heap.size := (Array.getElem?_eq_some_iff.1 hZ5).1
        have HB5 : Hid (Below w.heap.size w (w2.setCell ⟨w.heap.size, 5, none⟩ (.int .i64 x)).drew) := Lib.hid (below_drewN (HB2.out.setCell (Nat.le_refl _) _) 1)
        have hsz5 : w.heap.size ≤ (w2.setCell ⟨w.heap.size, 5, none⟩ (.int .i64 x)).drew.heap.size := HB5.out.size
        have HR5 : Hid (RfO T { d with r := x } (w2.setCell ⟨w.heap.size, 5, none⟩ (.int .i64 x)).drew (.slice (some ⟨gd, 0, none⟩) d.secs.length cd) (.slice (some ⟨gb, 0, none⟩) d.secs.length cb) (.slice ap d.pend.length cp)) := Lib.hid (by
          have h1 := HR.out.frame (w' := (w2.setCell ⟨w.heap.size, 5, none⟩ (.int .i64 x)).drew) fun k _ hk => HB5.out.block k hk
          exact ⟨h1.rd, h1.sd, h1.rb, h1.sb, h1.rp, h1.sp, h1.l64, h1.len, h1.fit⟩)
        clear z0 z1 z2 z3 z4 z5 z6 z7 zf
        go_wp2_with fail
        clear hx
        refine wp_region_noPanic ?_
        refine wp_region_D 7 (fun w' => w'.heap[w.heap.size]? = some (.cells #[.slice (some ⟨gd, 0, none⟩) d.secs.length cd, .slice (some ⟨gb, 0, none⟩) d.secs.length cb, .slice ap d.pend.length cp, .int .i64 d.after, .bool false, .int .i64 x, .int .i64 d.wn, .int .i64 d.sy] 33 (0, 0))) (by kernel_rfl) hX5 (fun hU => ?_)
        have hC : (fun w' : World => w'.heap[w.heap.size]? = some (.cells #[.slice (some ⟨gd, 0, none⟩) d.secs.length cd, .slice (some ⟨gb, 0, none⟩) d.secs.length cb, .slice ap d.pend.length cp, .int .i64 d.after, .bool false, .int .i64 x, .int .i64 d.wn, .int .i64 d.sy] 33 (0, 0))) (w2.setCell ⟨w.heap.size, 5, none⟩ (.int .i64 x)).drew := hX5
        clear hU
        refine wpAnyD_load (i := 0) (dst := some 28) (v := ?_) (fuel := 6) rfl rfl (by kernel_rfl) (fun _ _ _ h => h) (by rfl) ?_ (.inr hC) ?_
        rotate_left
        · intro w hSw
          obtain ⟨y0, y1, y2, y3, y4, y5, y6, y7, _⟩ := c33 hSw
          go_simp
          try with_reducible rfl
        simp only [Act.put, List.setIfInBounds_toArray, List.set_cons_zero, List.set_cons_succ]
        refine wpAnyD_load (i := 1) (dst := some 29) (v := ?_) (fuel := 5) rfl rfl (by kernel_rfl) (fun _ _ _ h => h) (by rfl) ?_ (.inr hC) ?_
        rotate_left
        · intro w hSw
          obtain ⟨y0, y1, y2, y3, y4, y5, y6, y7, _⟩ := c33 hSw
          go_simp
          try with_reducible rfl
        simp only [Act.put, List.setIfInBounds_toArray, List.set_cons_zero, List.set_cons_succ]
        refine wpAnyD_take (i := 2) (dst := some 30) (v := ?_) (fuel := 4) rfl rfl (by kernel_rfl) (fun _ _ _ h => h) (by rfl) ?_ (.inr hC) ?_
        rotate_left
        · (intro w; go_simp; try with_reducible rfl)
        simp only [Act.put, List.setIfInBounds_toArray, List.set_cons_zero, List.set_cons_succ]
        refine wpAnyD_ready (fuel := 3) (rs := [3]) (by kernel_rfl) (by simp) ?_
        refine AllReadyD.cons (o := _) rfl (fun K hK => ?_) ?_
        · go_simp
          go_at_call 44
          with_reducible refine (HCT.out _ HR5.out).mono ?_
          rintro e w6 ⟨rfl, hb6⟩
          have hX6 := (hb6.block w.heap.size hl50).trans hX5
          have hZ6 := (hb6.block (w.heap.size + 1) hl51).trans hZ5
          have hX7 := (set8_far w6 (w.heap.size + 1) (.slice (some ⟨gd, 0, none⟩) d.secs.length cd) (.slice (some ⟨gb, 0, none⟩) d.secs.length cb) (.slice ap d.pend.length cp) (.int .i64 d.after) (.bool false) (.int .i64 x) (.int .i64 d.wn) (.int .i64 d.sy) w.heap.size (by omega)).trans hX6
          obtain ⟨z0, z1, z2, z3, z4, z5, z6, z7, zf⟩ := z33 hZ6
          have HB6 := Lib.hid hb6
          clear hb6 hZ6
          go_wp2_with fail
          refine shut_C hK ?_ (fun hC => ?_)
          · first | with_reducible exact hX5 | with_reducible exact hX6 | exact hX7
          clear hK K
          try simp only [Act.put, List.setIfInBounds_toArray, List.set_cons_zero, List.set_cons_succ]
          refine wpAnyD_ready (fuel := 2) (rs := [4]) (by kernel_rfl) (by simp) ?_
          refine AllReadyD.cons (o := _) rfl (fun K hK => ?_) ?_
          · go_simp
            refine shut_C hK ?_ (fun hC => ?_)
            · first | with_reducible exact hX5 | with_reducible exact hX6 | exact hX7
            clear hK K
            try simp only [Act.put, List.setIfInBounds_toArray, List.set_cons_zero, List.set_cons_succ]
            refine wpAnyD_take (i := 5) (dst := some 5) (v := ?_) (fuel := 1) rfl rfl (by kernel_rfl) (fun _ _ _ h => h) (by rfl) ?_ (.inr hC) ?_
            rotate_left
            · (intro w; go_simp; try with_reducible rfl)
            simp only [Act.put, List.setIfInBounds_toArray, List.set_cons_zero, List.set_cons_succ]
            refine wpAnyD_take (i := 6) (dst := some 6) (v := ?_) (fuel := 0) rfl rfl (by kernel_rfl) (fun _ _ _ h => h) (by rfl) ?_ (.inr hC) ?_
            rotate_left
            · (intro w; go_simp; try with_reducible rfl)
            simp only [Act.put, List.setIfInBounds_toArray, List.set_cons_zero, List.set_cons_succ]
            refine wpAnyD_done (by kernel_rfl) ?_ _
            refine NoPanic.normal ?_
            clear hX5 hX6 hX7 hZ5 hl50 hl51
            go_wp2_with fail
            refine bodyPost_ret (v := .tuple #[rv { d with r := x } (.slice (some ⟨gd, 0, none⟩) d.secs.length cd) (.slice (some ⟨gb, 0, none⟩) d.secs.length cb) (.slice ap d.pend.length cp), .string (content d k), .int .i64 0]) (by simp [rv, results, Try.results36, go_sem, z0, z1, z2, z3, z4, z5, z6, z7, HF.out]) rfl ?_
            rw [HRR.out]
            exact res_same HR.out (below_set8 (HB5.out.trans (HB6.out.mono hsz5)) (Nat.le_succ _) _ _ _ _ _ _ _ _) rfl rfl rfl
          exact AllReadyD.nil
        exact AllReadyD.nil
end
end Go.Proofs.Ytagfnobchdfhfaa
