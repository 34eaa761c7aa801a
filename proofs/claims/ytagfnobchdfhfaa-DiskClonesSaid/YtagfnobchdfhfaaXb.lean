import Derived.Test.YtagfnobchdfhfaaXa
namespace Go.Proofs.Ytagfnobchdfhfaa
set_option linter.unusedSimpArgs false
set_option linter.unnecessarySimpa false
set_option linter.unusedVariables false
open Go.RowKit Go.ChangeShapes Go.WideShapes Go.ChangeAt
attribute [local go_sem ↓] Go.wp_at_zero Go.wp_at_succ

def stepV (f : Int) (fl : Bool) : Bool × Int × Bool := if fl then (false, f, fl) else if f = 0 then (false, -1, true) else if 0 < f then (true, f - 1, fl) else (true, f, fl)
theorem stepF_V (d : DM) : stepF d = ((stepV d.after d.failed).1, { d with after := (stepV d.after d.failed).2.1, failed := (stepV d.after d.failed).2.2 }) := by
  obtain ⟨s, b, p, r, wn, sy, fl, af⟩ := d
  unfold stepF stepV
  cases fl with
  | true => rfl
  | false =>
    by_cases h0 : af = 0
    · simp [h0]
    · by_cases h1 : 0 < af
      · simp [h0, h1]
      · simp [h0, h1]
theorem use_any (ad ab ap : Option Addr) (m cd m2 cb m3 cp : Nat) (f : Int) (fl : Bool) (r wn sy : Int) (hf : f ≤ 9223372036854775807) (ok : Bool) (f' : Int) (fl' : Bool) (hs : stepV f fl = (ok, f', fl')) (w : World) :
    Calls Try.prog 45 #[.agg #[.slice ad m cd, .slice ab m2 cb, .slice ap m3 cp, .int .i64 f, .bool fl, .int .i64 r, .int .i64 wn, .int .i64 sy]] w fun e w' => e = .returned (.tuple #[.agg #[.slice ad m cd, .slice ab m2 cb, .slice ap m3 cp, .int .i64 f', .bool fl', .int .i64 r, .int .i64 wn, .int .i64 sy], .bool ok]) ∧ Below w.heap.size w w' := by
  cases fl with
  | true =>
    have e : (false, f, true) = (ok, f', fl') := by rw [← hs]; rfl
    injection e with e1 e2
    injection e2 with e2 e3
    subst e1 e2 e3
    clear hs
    go_enter Try.func45, Try.ntmps45
    go_wp2_with fail
    refine bodyPost_ret (v := .tuple #[.agg #[.slice ad m cd, .slice ab m2 cb, .slice ap m3 cp, .int .i64 f, .bool true, .int .i64 r, .int .i64 wn, .int .i64 sy], .bool false]) (by simp [results, Try.results45, go_sem]) rfl ?_
    exact ⟨rfl, ((Below.refl _ _).alloc (Nat.le_refl _) _).alloc (by simp) _⟩
  | false =>
    by_cases h0 : f = 0
    · subst h0
      have e : (false, (-1 : Int), true) = (ok, f', fl') := by rw [← hs]; rfl
      injection e with e1 e2
      injection e2 with e2 e3
      subst e1 e2 e3
      clear hs
      go_enter Try.func45, Try.ntmps45
      go_wp2_with fail
      refine bodyPost_ret (v := .tuple #[.agg #[.slice ad m cd, .slice ab m2 cb, .slice ap m3 cp, .int .i64 (-1), .bool true, .int .i64 r, .int .i64 wn, .int .i64 sy], .bool false]) (by simp [results, Try.results45, go_sem]) rfl ?_
      exact ⟨rfl, ((Below.refl _ _).alloc (Nat.le_refl _) _).alloc (by simp) _⟩
    · have h0' : (f == 0) = false := by rw [Bool.eq_false_iff]; simpa using h0
      by_cases h1 : 0 < f
      · have e : (true, f - 1, false) = (ok, f', fl') := by rw [← hs]; simp [stepV, h0, h1]
        injection e with e1 e2
        injection e2 with e2 e3
        subst e1 e2 e3
        clear hs h0
        go_enter Try.func45, Try.ntmps45
        go_wp2_with fail
        refine bodyPost_ret (v := .tuple #[.agg #[.slice ad m cd, .slice ab m2 cb, .slice ap m3 cp, .int .i64 (f - 1), .bool false, .int .i64 r, .int .i64 wn, .int .i64 sy], .bool true]) (by simp [results, Try.results45, go_sem]) rfl ?_
        exact ⟨rfl, ((Below.refl _ _).alloc (Nat.le_refl _) _).alloc (by simp) _⟩
      · have e : (true, f, false) = (ok, f', fl') := by rw [← hs]; simp [stepV, h0, h1]
        injection e with e1 e2
        injection e2 with e2 e3
        subst e1 e2 e3
        clear hs h0
        go_enter Try.func45, Try.ntmps45
        go_wp2_with fail
        refine bodyPost_ret (v := .tuple #[.agg #[.slice ad m cd, .slice ab m2 cb, .slice ap m3 cp, .int .i64 f, .bool false, .int .i64 r, .int .i64 wn, .int .i64 sy], .bool true]) (by simp [results, Try.results45, go_sem]) rfl ?_
        exact ⟨rfl, ((Below.refl _ _).alloc (Nat.le_refl _) _).alloc (by simp) _⟩
section
variable {T : Nat → Prop} {d : DM} {w : World} {vd vb vp : Value}
theorem failAfter_ref (n : Int) (h : RfO T d w vd vb vp) : Calls Try.prog 40 #[rv d vd vb vp, .int .i64 n] w (Res T (failF d n) w fun v' => .returned v') := by
  obtain ⟨ad, cd, rfl⟩ := row_slice h.rd
  obtain ⟨ab, cb, rfl⟩ := row_slice h.rb
  obtain ⟨ap, cp, rfl⟩ := row_slice h.rp
  have HR := Lib.hid h
  clear h
  cases hf : d.failed with
  | true =>
    have HD : Hid (failF d n = d) := Lib.hid (by unfold failF; rw [hf]; rfl)
    have HF := Lib.hid hf
    unfold rv
    rw [hf]
    clear hf
    go_enter Try.func40, Try.ntmps40
    go_wp2_with fail
    refine bodyPost_ret (v := .agg #[.slice ad d.secs.length cd, .slice ab d.secs.length cb, .slice ap d.pend.length cp, .int .i64 d.after, .bool true, .int .i64 d.r, .int .i64 d.wn, .int .i64 d.sy]) (by simp [results, Try.results40, go_sem]) rfl ?_
    rw [HD.out, ← HF.out]
    exact res_same (mk := fun v' => .returned v') HR.out (((Below.refl _ _).alloc (Nat.le_refl _) _).alloc (by simp) _) rfl rfl rfl
  | false =>
    have HD : Hid (failF d n = { d with after := max n (-1) }) := Lib.hid (by unfold failF; rw [hf]; rfl)
    have HF := Lib.hid hf
    unfold rv
    rw [hf]
    clear hf
    by_cases hn : n < -1
    · have hm : max n (-1) = -1 := by omega
      rw [hm] at HD
      clear hm
      go_enter Try.func40, Try.ntmps40
      go_wp2_with fail
      refine bodyPost_ret (v := .agg #[.slice ad d.secs.length cd, .slice ab d.secs.length cb, .slice ap d.pend.length cp, .int .i64 (-1), .bool false, .int .i64 d.r, .int .i64 d.wn, .int .i64 d.sy]) (by simp [results, Try.results40, go_sem]) rfl ?_
      rw [HD.out, ← HF.out]
      exact res_same (mk := fun v' => .returned v') (d' := { d with after := -1 }) HR.out (((Below.refl _ _).alloc (Nat.le_refl _) _).alloc (by simp) _) rfl rfl rfl
    · have hm : max n (-1) = n := by omega
      rw [hm] at HD
      clear hm
      have hn' : -1 ≤ n := by omega
      go_enter Try.func40, Try.ntmps40
      go_wp2_with fail
      all_goals
        refine bodyPost_ret (v := .agg #[.slice ad d.secs.length cd, .slice ab d.secs.length cb, .slice ap d.pend.length cp, .int .i64 n, .bool false, .int .i64 d.r, .int .i64 d.wn, .int .i64 d.sy]) (by simp [results, Try.results40, go_sem] <;> omega) rfl ?_
        rw [HD.out, ← HF.out]
        exact res_same (mk := fun v' => .returned v') (d' := { d with after := n }) HR.out (((Below.refl _ _).alloc (Nat.le_refl _) _).alloc (by simp) _) rfl rfl rfl
end
end Go.Proofs.Ytagfnobchdfhfaa
