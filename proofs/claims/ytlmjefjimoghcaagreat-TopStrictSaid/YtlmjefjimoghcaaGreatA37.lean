/- A part of the proofs of TopCounter and TopStrict: what the functions of the program do, each walked once, and plain laws about it. No condition. -/
import Derived.Test.YtlmjefjimoghcaaGreatA36
namespace Go.Proofs.YtlmjefjimoghcaaGreat
set_option linter.unusedSimpArgs false
set_option linter.unnecessarySimpa false
set_option linter.unusedVariables false
open Go.RowKit
attribute [local go_sem ↓] Go.wp_at_zero Go.wp_at_succ
set_option maxRecDepth 100000 in
theorem writers_walk (w : World) : Calls Tryz.prog 85 #[] w fun x w' => ∃ M f, x = .returned (.map (some M)) ∧ Below w.heap.size w w' ∧ MapF kI (fun _ => True) w' M f ∧ f 0 = some (fn 122) ∧ f 1 = some (fn 123) ∧ f 2 = some (fn 124) ∧ f 3 = some (fn 125) := by
 have hmk : (Instr.makeMap 129 none).run Tryz.prog w = .ok (.map (some w.heap.size)) (w.alloc (.map #[] 0)) := by simp [Instr.makeMap, Result.andThen]
 have hb0 : Below w.heap.size w (w.alloc (.map #[] 0)) := (Below.refl _ _).alloc (Nat.le_refl _) _
 have hm0 : MapF kI (fun _ => True) (w.alloc (.map #[] 0)) w.heap.size (fun _ => none) := mapF_new w
 obtain ⟨M, hM⟩ : ∃ M, w.heap.size = M := ⟨_, rfl⟩
 obtain ⟨W0, hW0⟩ : ∃ W, w.alloc (.map #[] 0) = W := ⟨_, rfl⟩
 rw [hW0] at hm0 hb0 hmk
 rw [hM] at hm0 hmk
 obtain ⟨o0, u0, hm1⟩ := mapF_upd (kv := kI) keyInt hm0 (k := 0) trivial Tryz.underlying129 (fn 122)
 have hb1 := mset_below hb0 (Nat.le_of_eq hM) o0
 obtain ⟨W1, hW1⟩ : ∃ W, mset W0 M o0 = W := ⟨_, rfl⟩
 rw [hW1] at u0 hm1 hb1
 unfold fn kI at u0
 obtain ⟨o1, u1, hm2⟩ := mapF_upd (kv := kI) keyInt hm1 (k := 1) trivial Tryz.underlying129 (fn 123)
 have hb2 := mset_below hb1 (Nat.le_of_eq hM) o1
 obtain ⟨W2, hW2⟩ : ∃ W, mset W1 M o1 = W := ⟨_, rfl⟩
 rw [hW2] at u1 hm2 hb2
 unfold fn kI at u1
 obtain ⟨o2, u2, hm3⟩ := mapF_upd (kv := kI) keyInt hm2 (k := 2) trivial Tryz.underlying129 (fn 124)
 have hb3 := mset_below hb2 (Nat.le_of_eq hM) o2
 obtain ⟨W3, hW3⟩ : ∃ W, mset W2 M o2 = W := ⟨_, rfl⟩
 rw [hW3] at u2 hm3 hb3
 unfold fn kI at u2
 obtain ⟨o3, u3, hm4⟩ := mapF_upd (kv := kI) keyInt hm3 (k := 3) trivial Tryz.underlying129 (fn 125)
 have hb4 := mset_below hb3 (Nat.le_of_eq hM) o3
 obtain ⟨W4, hW4⟩ : ∃ W, mset W3 M o3 = W := ⟨_, rfl⟩
 rw [hW4] at u3 hm4 hb4
 unfold fn kI at u3
 have HB := Lib.hid hb4
 have HM := Lib.hid hm4
 clear hb0 hm0 hW0 hb1 hm1 hW1 hb2 hm2 hW2 hb3 hm3 hW3 hb4 hm4 hW4
 go_enter Tryz.func85, Tryz.ntmps85
 go_wp2_with fail
 go_ret
 exact ⟨M, _, rfl, HB.out, HM.out, rfl, rfl, rfl, rfl⟩
set_option maxRecDepth 100000 in
theorem readers_walk (w : World) : Calls Tryz.prog 64 #[] w fun x w' => ∃ M f, x = .returned (.map (some M)) ∧ Below w.heap.size w w' ∧ MapF kI (fun _ => True) w' M f ∧ f 0 = some (fn 112) ∧ f 1 = some (fn 113) ∧ f 2 = some (fn 114) ∧ f 3 = some (fn 115) := by
 have hmk : (Instr.makeMap 106 none).run Tryz.prog w = .ok (.map (some w.heap.size)) (w.alloc (.map #[] 0)) := by simp [Instr.makeMap, Result.andThen]
 have hb0 : Below w.heap.size w (w.alloc (.map #[] 0)) := (Below.refl _ _).alloc (Nat.le_refl _) _
 have hm0 : MapF kI (fun _ => True) (w.alloc (.map #[] 0)) w.heap.size (fun _ => none) := mapF_new w
 obtain ⟨M, hM⟩ : ∃ M, w.heap.size = M := ⟨_, rfl⟩
 obtain ⟨W0, hW0⟩ : ∃ W, w.alloc (.map #[] 0) = W := ⟨_, rfl⟩
 rw [hW0] at hm0 hb0 hmk
 rw [hM] at hm0 hmk
 obtain ⟨o0, u0, hm1⟩ := mapF_upd (kv := kI) keyInt hm0 (k := 0) trivial Tryz.underlying106 (fn 112)
 have hb1 := mset_below hb0 (Nat.le_of_eq hM) o0
 obtain ⟨W1, hW1⟩ : ∃ W, mset W0 M o0 = W := ⟨_, rfl⟩
 rw [hW1] at u0 hm1 hb1
 unfold fn kI at u0
 obtain ⟨o1, u1, hm2⟩ := mapF_upd (kv := kI) keyInt hm1 (k := 1) trivial Tryz.underlying106 (fn 113)
 have hb2 := mset_below hb1 (Nat.le_of_eq hM) o1
 obtain ⟨W2, hW2⟩ : ∃ W, mset W1 M o1 = W := ⟨_, rfl⟩
 rw [hW2] at u1 hm2 hb2
 unfold fn kI at u1
 obtain ⟨o2, u2, hm3⟩ := mapF_upd (kv := kI) keyInt hm2 (k := 2) trivial Tryz.underlying106 (fn 114)
 have hb3 := mset_below hb2 (Nat.le_of_eq hM) o2
 obtain ⟨W3, hW3⟩ : ∃ W, mset W2 M o2 = W := ⟨_, rfl⟩
 rw [hW3] at u2 hm3 hb3
 unfold fn kI at u2
 obtain ⟨o3, u3, hm4⟩ := mapF_upd (kv := kI) keyInt hm3 (k := 3) trivial Tryz.underlying106 (fn 115)
 have hb4 := mset_below hb3 (Nat.le_of_eq hM) o3
 obtain ⟨W4, hW4⟩ : ∃ W, mset W3 M o3 = W := ⟨_, rfl⟩
 rw [hW4] at u3 hm4 hb4
 unfold fn kI at u3
 have HB := Lib.hid hb4
 have HM := Lib.hid hm4
 clear hb0 hm0 hW0 hb1 hm1 hW1 hb2 hm2 hW2 hb3 hm3 hW3 hb4 hm4 hW4
 go_enter Tryz.func64, Tryz.ntmps64
 go_wp2_with fail
 go_ret
 exact ⟨M, _, rfl, HB.out, HM.out, rfl, rfl, rfl, rfl⟩
def writeB (cd : Nat) (n : Nat) (l : List Str) : List UInt8 × Bool :=
 match cd with
 | 0 => plainF l
 | 1 => (counterF l, true)
 | 2 => (mixedF n l, true)
 | _ => ((encRL (l.map shortV)).1, true)
def encAsB (cd n : Nat) (l : List Str) : List UInt8 × Int := if (writeB cd n l).2 then (V.num cd ++ (writeB cd n l).1, 0) else ([], 9)
theorem busV_all {n : Nat} {l : List Str} (h : busV (n : Int) l = true) : ∀ s ∈ l, isV s = true ∧ s.length = n := fun s hs => by
 have := vecB_of h hs
 exact ⟨this.1, by omega⟩
theorem writeB_len (cd n : Nat) (l : List Str) (hl : l.length ≤ 4096) : (writeB cd n l).1.length ≤ 4000000 := by
 unfold writeB
 split
 ·unfold plainF
  split
  ·rename_i h
   have h1 := num_len l.length
   rw [List.length_append]
   have h2 : (wbit (pbits l.flatten) (2 * l.flatten.length) 1).length ≤ 100000 := by
    rw [wbit, wset, List.length_set]
    have h3 : ∀ cs : List UInt8, (pbits cs).length = (2 * cs.length + 7) / 8 := by
     intro cs
     induction cs using snoc_rec with
     | h0 => rfl
     | h1 cs c ih =>
      rw [pbits_snoc, put2, List.length_append]
      have hw : ∀ (l : List UInt8) (n b : Nat), l.length = (n + 7) / 8 → (wbit l n b).length = (n + 1 + 7) / 8 := by
       intro l n b h
       rw [wbit, wset, List.length_set, wpush]
       split
       ·rw [List.length_append]; simp only [List.length_cons, List.length_nil]; omega
       ·omega
      rw [hw _ _ _ (hw _ _ _ ih)]
      simp only [List.length_cons, List.length_nil]
      congr 1
    have := h3 l.flatten
    unfold wpush
    split
    ·rw [List.length_append]; simp only [List.length_cons, List.length_nil]; omega
    ·omega
   omega
  ·simp
 ·show (counterF l).length ≤ _
  unfold counterF
  split
  ·have := num_len 0; omega
  ·simp only [List.length_append]
   have h1 := num_len l.length
   have h2 := textF_len (shortV (l.getD 0 default))
   have h3 := textF_len (shortV (stepV l))
   have h4 := textF_len (numsF (cgap (-1) (excF l (stepV l))))
   have h5 : (numsF (cgap (-1) (excF l (stepV l)))).length ≤ 600000 := encNumF_len _
   have h6 := encRL_len ((valsC l (excF l (stepV l))).map shortV)
   have h7 := shortV_length (stepV l)
   have h8 := stepV_len l
   have h9 := shortV_length (l.getD 0 default)
   have h10 : (shortV (l.getD 0 default)).length ≤ 128 := by
    unfold shortV
    split
    ·rename_i hv
     have := shortL_length (l.getD 0 default)
     have := (isV_parts hv).2.1
     omega
    ·simp
   omega
 ·have := encRL_len ((mixK (List.replicate n 48) l).map shortV)
  show (encRL _).1.length ≤ _
  omega
 ·have := encRL_len (l.map shortV)
  show (encRL _).1.length ≤ _
  omega
set_option maxRecDepth 100000 in
set_option maxHeartbeats 1000000 in
theorem encAsB0_walk (n : Nat) (l : List Str) (hv : busV (n : Int) l = true) (w : World) (A : Option Addr) (c : Nat) (hF : InS w A l) : Calls Tryz.prog 38 #[.int .i64 0, .int .i64 (n : Int), .slice A l.length c] w fun e w' => e = .returned (.tuple #[.string (sB (encAsB 0 n l).1), .int .i64 (encAsB 0 n l).2]) ∧ Below w.heap.size w w' := by
 have hn := busV_n hv
 have hall := busV_all hv
 have h100 : ∀ s ∈ l, s.length ≤ 100000 := fun s hs => by have := (hall s hs).2; omega
 have HBv := Lib.hid (busV_walk l (by omega) h100 (n : Int) w A c hF)
 rw [hv] at HBv
 have HW := Lib.hid fun w => writers_walk w
 have HF := Lib.hid hF
 have HNm : Hid (∀ w : World, Calls Tryz.prog 53 #[.int .i64 0] w fun e w' => e = .returned (.string (sB (V.num 0))) ∧ Below w.heap.size w w') := Lib.hid fun w => num_at 0 (by decide) w
 have z1 : (sB (V.num 0)).size ≤ 9 := by rw [sB_size]; exact num_len _
 have hwl := writeB_len 0 n l hn.2.2
 have HWr : Hid (∀ w : World, InS w A l → Calls Tryz.prog 122 #[.agg #[.int .i64 (n : Int)], .slice A l.length c] w fun e w' => e = .returned (.tuple #[.string (sB (writeB 0 n l).1), .bool (writeB 0 n l).2]) ∧ Below w.heap.size w w') := Lib.hid fun w h => plain_walk (n : Int) l hn.2.2 (fun s hs => (hall s hs).1) w A c h
 obtain ⟨r, hr⟩ : ∃ r, writeB 0 n l = r := ⟨_, rfl⟩
 have HE : Hid (encAsB 0 n l = if r.2 then (V.num 0 ++ r.1, 0) else ([], 9)) := Lib.hid (by unfold encAsB; rw [hr])
 rw [hr] at HWr hwl
 obtain ⟨s, ok⟩ := r
 have z2 : (sB s).size ≤ 4000000 := by rw [sB_size]; exact hwl
 clear hv hn hall h100 hF hwl hr
 go_enter Tryz.func38, Tryz.ntmps38
 go_wp2_with fail
 refine (HBv.out).mono ?_
 rintro x w1 ⟨rfl, hb1⟩
 have HB1 := Lib.hid hb1
 clear hb1
 go_wp2_with fail
 refine (HW.out _).mono ?_
 rintro x w2 ⟨M, f, rfl, hb2, hm, f0, f1, f2, f3⟩
 have hlk := mapF_look (kv := kI) keyInt hm (k := 0) trivial Tryz.underlying129 f0 false
 unfold fn kI at hlk
 have HB2 := Lib.hid (bstep HB1.out (Nat.le_refl _) hb2)
 have HX := Lib.hid (HWr.out w2 (HF.out.mono HB2.out))
 clear hb2 hm f0 f1 f2 f3
 go_wp2_with fail
 refine (HX.out).mono ?_
 rintro x w3 ⟨rfl, hb3⟩
 have HB3 := Lib.hid (bstep HB2.out (Nat.le_refl _) hb3)
 clear hb3
 cases ok with
 | false =>
  go_wp2_with fail
  go_ret2
  rw [HE.out]
  exact ⟨rfl, HB3.out⟩
 | true =>
  go_wp2_with fail
  refine (HNm.out _).mono ?_
  rintro x w4 ⟨rfl, hb4⟩
  have HB4 := Lib.hid (bstep HB3.out (Nat.le_refl _) hb4)
  clear hb4
  go_wp2_with fail
  go_ret2
  rw [HE.out]
  refine ⟨?_, HB4.out⟩
  show Ending.returned (.tuple #[.string (sB (V.num 0) ++ sB s), .int .i64 0]) = Ending.returned (.tuple #[.string (sB (V.num 0 ++ s)), .int .i64 0])
  rw [sB_app]
set_option maxRecDepth 100000 in
set_option maxHeartbeats 1000000 in
theorem encAsB1_walk (n : Nat) (l : List Str) (hv : busV (n : Int) l = true) (w : World) (A : Option Addr) (c : Nat) (hF : InS w A l) : Calls Tryz.prog 38 #[.int .i64 1, .int .i64 (n : Int), .slice A l.length c] w fun e w' => e = .returned (.tuple #[.string (sB (encAsB 1 n l).1), .int .i64 (encAsB 1 n l).2]) ∧ Below w.heap.size w w' := by
 have hn := busV_n hv
 have hall := busV_all hv
 have h100 : ∀ s ∈ l, s.length ≤ 100000 := fun s hs => by have := (hall s hs).2; omega
 have HBv := Lib.hid (busV_walk l (by omega) h100 (n : Int) w A c hF)
 rw [hv] at HBv
 have HW := Lib.hid fun w => writers_walk w
 have HF := Lib.hid hF
 have HNm : Hid (∀ w : World, Calls Tryz.prog 53 #[.int .i64 1] w fun e w' => e = .returned (.string (sB (V.num 1))) ∧ Below w.heap.size w w') := Lib.hid fun w => num_at 1 (by decide) w
 have z1 : (sB (V.num 1)).size ≤ 9 := by rw [sB_size]; exact num_len _
 have hwl := writeB_len 1 n l hn.2.2
 have HWr : Hid (∀ w : World, InS w A l → Calls Tryz.prog 123 #[.agg #[.int .i64 (n : Int)], .slice A l.length c] w fun e w' => e = .returned (.tuple #[.string (sB (writeB 1 n l).1), .bool (writeB 1 n l).2]) ∧ Below w.heap.size w w') := Lib.hid fun w h => counter_walk (n : Int) l hn.2.2 (fun s hs => by have := (hall s hs).2; omega) w A c h
 obtain ⟨r, hr⟩ : ∃ r, writeB 1 n l = r := ⟨_, rfl⟩
 have HE : Hid (encAsB 1 n l = if r.2 then (V.num 1 ++ r.1, 0) else ([], 9)) := Lib.hid (by unfold encAsB; rw [hr])
 rw [hr] at HWr hwl
 obtain ⟨s, ok⟩ := r
 have z2 : (sB s).size ≤ 4000000 := by rw [sB_size]; exact hwl
 clear hv hn hall h100 hF hwl hr
 go_enter Tryz.func38, Tryz.ntmps38
 go_wp2_with fail
 refine (HBv.out).mono ?_
 rintro x w1 ⟨rfl, hb1⟩
 have HB1 := Lib.hid hb1
 clear hb1
 go_wp2_with fail
 refine (HW.out _).mono ?_
 rintro x w2 ⟨M, f, rfl, hb2, hm, f0, f1, f2, f3⟩
 have hlk := mapF_look (kv := kI) keyInt hm (k := 1) trivial Tryz.underlying129 f1 false
 unfold fn kI at hlk
 have HB2 := Lib.hid (bstep HB1.out (Nat.le_refl _) hb2)
 have HX := Lib.hid (HWr.out w2 (HF.out.mono HB2.out))
 clear hb2 hm f0 f1 f2 f3
 go_wp2_with fail
 refine (HX.out).mono ?_
 rintro x w3 ⟨rfl, hb3⟩
 have HB3 := Lib.hid (bstep HB2.out (Nat.le_refl _) hb3)
 clear hb3
 cases ok with
 | false =>
  go_wp2_with fail
  go_ret2
  rw [HE.out]
  exact ⟨rfl, HB3.out⟩
 | true =>
  go_wp2_with fail
  refine (HNm.out _).mono ?_
  rintro x w4 ⟨rfl, hb4⟩
  have HB4 := Lib.hid (bstep HB3.out (Nat.le_refl _) hb4)
  clear hb4
  go_wp2_with fail
  go_ret2
  rw [HE.out]
  refine ⟨?_, HB4.out⟩
  show Ending.returned (.tuple #[.string (sB (V.num 1) ++ sB s), .int .i64 0]) = Ending.returned (.tuple #[.string (sB (V.num 1 ++ s)), .int .i64 0])
  rw [sB_app]
set_option maxRecDepth 100000 in
set_option maxHeartbeats 1000000 in
theorem encAsB2_walk (n : Nat) (l : List Str) (hv : busV (n : Int) l = true) (w : World) (A : Option Addr) (c : Nat) (hF : InS w A l) : Calls Tryz.prog 38 #[.int .i64 2, .int .i64 (n : Int), .slice A l.length c] w fun e w' => e = .returned (.tuple #[.string (sB (encAsB 2 n l).1), .int .i64 (encAsB 2 n l).2]) ∧ Below w.heap.size w w' := by
 have hn := busV_n hv
 have hall := busV_all hv
 have h100 : ∀ s ∈ l, s.length ≤ 100000 := fun s hs => by have := (hall s hs).2; omega
 have HBv := Lib.hid (busV_walk l (by omega) h100 (n : Int) w A c hF)
 rw [hv] at HBv
 have HW := Lib.hid fun w => writers_walk w
 have HF := Lib.hid hF
 have HNm : Hid (∀ w : World, Calls Tryz.prog 53 #[.int .i64 2] w fun e w' => e = .returned (.string (sB (V.num 2))) ∧ Below w.heap.size w w') := Lib.hid fun w => num_at 2 (by decide) w
 have z1 : (sB (V.num 2)).size ≤ 9 := by rw [sB_size]; exact num_len _
 have hwl := writeB_len 2 n l hn.2.2
 have HWr : Hid (∀ w : World, InS w A l → Calls Tryz.prog 124 #[.agg #[.int .i64 (n : Int)], .slice A l.length c] w fun e w' => e = .returned (.tuple #[.string (sB (writeB 2 n l).1), .bool (writeB 2 n l).2]) ∧ Below w.heap.size w w') := Lib.hid fun w h => mixed_walk n (by omega) (by omega) l (by omega) hall w A c h
 obtain ⟨r, hr⟩ : ∃ r, writeB 2 n l = r := ⟨_, rfl⟩
 have HE : Hid (encAsB 2 n l = if r.2 then (V.num 2 ++ r.1, 0) else ([], 9)) := Lib.hid (by unfold encAsB; rw [hr])
 rw [hr] at HWr hwl
 obtain ⟨s, ok⟩ := r
 have z2 : (sB s).size ≤ 4000000 := by rw [sB_size]; exact hwl
 clear hv hn hall h100 hF hwl hr
 go_enter Tryz.func38, Tryz.ntmps38
 go_wp2_with fail
 refine (HBv.out).mono ?_
 rintro x w1 ⟨rfl, hb1⟩
 have HB1 := Lib.hid hb1
 clear hb1
 go_wp2_with fail
 refine (HW.out _).mono ?_
 rintro x w2 ⟨M, f, rfl, hb2, hm, f0, f1, f2, f3⟩
 have hlk := mapF_look (kv := kI) keyInt hm (k := 2) trivial Tryz.underlying129 f2 false
 unfold fn kI at hlk
 have HB2 := Lib.hid (bstep HB1.out (Nat.le_refl _) hb2)
 have HX := Lib.hid (HWr.out w2 (HF.out.mono HB2.out))
 clear hb2 hm f0 f1 f2 f3
 go_wp2_with fail
 refine (HX.out).mono ?_
 rintro x w3 ⟨rfl, hb3⟩
 have HB3 := Lib.hid (bstep HB2.out (Nat.le_refl _) hb3)
 clear hb3
 cases ok with
 | false =>
  go_wp2_with fail
  go_ret2
  rw [HE.out]
  exact ⟨rfl, HB3.out⟩
 | true =>
  go_wp2_with fail
  refine (HNm.out _).mono ?_
  rintro x w4 ⟨rfl, hb4⟩
  have HB4 := Lib.hid (bstep HB3.out (Nat.le_refl _) hb4)
  clear hb4
  go_wp2_with fail
  go_ret2
  rw [HE.out]
  refine ⟨?_, HB4.out⟩
  show Ending.returned (.tuple #[.string (sB (V.num 2) ++ sB s), .int .i64 0]) = Ending.returned (.tuple #[.string (sB (V.num 2 ++ s)), .int .i64 0])
  rw [sB_app]
set_option maxRecDepth 100000 in
set_option maxHeartbeats 1000000 in
theorem encAsB3_walk (n : Nat) (l : List Str) (hv : busV (n : Int) l = true) (w : World) (A : Option Addr) (c : Nat) (hF : InS w A l) : Calls Tryz.prog 38 #[.int .i64 3, .int .i64 (n : Int), .slice A l.length c] w fun e w' => e = .returned (.tuple #[.string (sB (encAsB 3 n l).1), .int .i64 (encAsB 3 n l).2]) ∧ Below w.heap.size w w' := by
 have hn := busV_n hv
 have hall := busV_all hv
 have h100 : ∀ s ∈ l, s.length ≤ 100000 := fun s hs => by have := (hall s hs).2; omega
 have HBv := Lib.hid (busV_walk l (by omega) h100 (n : Int) w A c hF)
 rw [hv] at HBv
 have HW := Lib.hid fun w => writers_walk w
 have HF := Lib.hid hF
 have HNm : Hid (∀ w : World, Calls Tryz.prog 53 #[.int .i64 3] w fun e w' => e = .returned (.string (sB (V.num 3))) ∧ Below w.heap.size w w') := Lib.hid fun w => num_at 3 (by decide) w
 have z1 : (sB (V.num 3)).size ≤ 9 := by rw [sB_size]; exact num_len _
 have hwl := writeB_len 3 n l hn.2.2
 have HWr : Hid (∀ w : World, InS w A l → Calls Tryz.prog 125 #[.agg #[.int .i64 (n : Int)], .slice A l.length c] w fun e w' => e = .returned (.tuple #[.string (sB (writeB 3 n l).1), .bool (writeB 3 n l).2]) ∧ Below w.heap.size w w') := Lib.hid fun w h => words_walk (n : Int) l (by omega) h100 w A c h
 obtain ⟨r, hr⟩ : ∃ r, writeB 3 n l = r := ⟨_, rfl⟩
 have HE : Hid (encAsB 3 n l = if r.2 then (V.num 3 ++ r.1, 0) else ([], 9)) := Lib.hid (by unfold encAsB; rw [hr])
 rw [hr] at HWr hwl
 obtain ⟨s, ok⟩ := r
 have z2 : (sB s).size ≤ 4000000 := by rw [sB_size]; exact hwl
 clear hv hn hall h100 hF hwl hr
 go_enter Tryz.func38, Tryz.ntmps38
 go_wp2_with fail
 refine (HBv.out).mono ?_
 rintro x w1 ⟨rfl, hb1⟩
 have HB1 := Lib.hid hb1
 clear hb1
 go_wp2_with fail
 refine (HW.out _).mono ?_
 rintro x w2 ⟨M, f, rfl, hb2, hm, f0, f1, f2, f3⟩
 have hlk := mapF_look (kv := kI) keyInt hm (k := 3) trivial Tryz.underlying129 f3 false
 unfold fn kI at hlk
 have HB2 := Lib.hid (bstep HB1.out (Nat.le_refl _) hb2)
 have HX := Lib.hid (HWr.out w2 (HF.out.mono HB2.out))
 clear hb2 hm f0 f1 f2 f3
 go_wp2_with fail
 refine (HX.out).mono ?_
 rintro x w3 ⟨rfl, hb3⟩
 have HB3 := Lib.hid (bstep HB2.out (Nat.le_refl _) hb3)
 clear hb3
 cases ok with
 | false =>
  go_wp2_with fail
  go_ret2
  rw [HE.out]
  exact ⟨rfl, HB3.out⟩
 | true =>
  go_wp2_with fail
  refine (HNm.out _).mono ?_
  rintro x w4 ⟨rfl, hb4⟩
  have HB4 := Lib.hid (bstep HB3.out (Nat.le_refl _) hb4)
  clear hb4
  go_wp2_with fail
  go_ret2
  rw [HE.out]
  refine ⟨?_, HB4.out⟩
  show Ending.returned (.tuple #[.string (sB (V.num 3) ++ sB s), .int .i64 0]) = Ending.returned (.tuple #[.string (sB (V.num 3 ++ s)), .int .i64 0])
  rw [sB_app]
theorem encAsB_walk (cd : Nat) (hc : cd < 4) (n : Nat) (l : List Str) (hv : busV (n : Int) l = true) (w : World) (A : Option Addr) (c : Nat) (hF : InS w A l) : Calls Tryz.prog 38 #[.int .i64 (cd : Int), .int .i64 (n : Int), .slice A l.length c] w fun e w' => e = .returned (.tuple #[.string (sB (encAsB cd n l).1), .int .i64 (encAsB cd n l).2]) ∧ Below w.heap.size w w' := by
 rcases (by omega : cd = 0 ∨ cd = 1 ∨ cd = 2 ∨ cd = 3) with rfl | rfl | rfl | rfl
 ·exact encAsB0_walk n l hv w A c hF
 ·exact encAsB1_walk n l hv w A c hF
 ·exact encAsB2_walk n l hv w A c hF
 ·exact encAsB3_walk n l hv w A c hF
def pickB (out : List UInt8) (r : List UInt8 × Int) : List UInt8 := if r.2 = 0 ∧ (out = [] ∨ r.1.length < out.length) then r.1 else out
def bestE (n : Nat) (l : List Str) : Nat → List UInt8
 | 0 => []
 | k + 1 => pickB (bestE n l k) (encAsB k n l)
def encB (n : Int) (l : List Str) : List UInt8 × Int := if busV n l then (bestE n.toNat l 4, 0) else ([], 2)
def EncR (w : World) (n : Nat) (l : List Str) (v i : Value) (wr : World) : Prop := ∃ k : Nat, i = .int .i64 (k : Int) ∧ k ≤ 4 ∧ v = .string (sB (bestE n l k)) ∧ Below w.heap.size w wr
theorem encAsB_len (cd n : Nat) (l : List Str) (hl : l.length ≤ 4096) : (encAsB cd n l).1.length ≤ 4000009 := by
 unfold encAsB
 split
 ·have := writeB_len cd n l hl
  have := num_len cd
  show (V.num cd ++ _).length ≤ _
  rw [List.length_append]; omega
 ·simp
theorem bestE_len (n : Nat) (l : List Str) (hl : l.length ≤ 4096) : ∀ k, (bestE n l k).length ≤ 4000009
 | 0 => by simp [bestE]
 | k + 1 => by
  unfold bestE pickB
  split
  ·exact encAsB_len k n l hl
  ·exact bestE_len n l hl k
set_option maxRecDepth 100000 in
set_option maxHeartbeats 1000000 in
theorem busE_walk (n : Int) (l : List Str) (hl : l.length ≤ 1000000) (hs : ∀ s ∈ l, s.length ≤ 100000) (w : World) (A : Option Addr) (c : Nat) (hF : InS w A l) : Calls Tryz.prog 11 #[.int .i64 n, .slice A l.length c] w fun e w' => e = .returned (.tuple #[.string (sB (encB n l).1), .int .i64 (encB n l).2]) ∧ Below w.heap.size w w' := by
 have HBv := Lib.hid (busV_walk l hl hs n w A c hF)
 cases hv : busV n l with
 | false =>
  rw [hv] at HBv
  have HE : Hid (encB n l = ([], 2)) := Lib.hid (by unfold encB; rw [hv]; rfl)
  clear hl hs hF hv
  go_enter Tryz.func11, Tryz.ntmps11
  go_wp2_with fail
  refine (HBv.out).mono ?_
  rintro x w1 ⟨rfl, hb1⟩
  have HB1 := Lib.hid hb1
  clear hb1
  go_wp2_with fail
  go_ret2
  rw [HE.out]
  exact ⟨rfl, HB1.out⟩
 | true =>
  rw [hv] at HBv
  have hn := busV_n hv
  obtain ⟨m, rfl⟩ : ∃ m : Nat, n = (m : Int) := ⟨n.toNat, by omega⟩
  have HE : Hid (encB (m : Int) l = (bestE m l 4, 0)) := Lib.hid (by unfold encB; rw [hv]; rfl)
  have HV := Lib.hid hv
  have HF := Lib.hid hF
  have HL4 := Lib.hid hn.2.2
  clear hl hs hF hv hn
  go_enter Tryz.func11, Tryz.ntmps11
  go_wp2_with fail
  refine (HBv.out).mono ?_
  rintro x w1 ⟨rfl, hb1⟩
  have HB1 := Lib.hid hb1
  clear hb1
  go_wp2_with fail
  go_loopw [6, 14] (fun v i wr => EncR w m l v i wr) (fun _ i _ => (4 - intOf i).toNat)
  case atStart => exact ⟨0, rfl, by omega, rfl, HB1.out⟩
  case round =>
   obtain ⟨k, rfl, hk, rfl, hb⟩ := hrel
   have HB := Lib.hid hb
   by_cases hlt : k < 4
   ·have hki : (k : Int) < 4 := by omega
    have HX := Lib.hid (encAsB_walk k hlt m l HV.out wr A c (HF.out.mono hb))
    have hrl := encAsB_len k m l HL4.out
    have hbl := bestE_len m l HL4.out k
    have HN : Hid (bestE m l (k + 1) = pickB (bestE m l k) (encAsB k m l)) := Lib.hid rfl
    obtain ⟨out, hout⟩ : ∃ o, bestE m l k = o := ⟨_, rfl⟩
    obtain ⟨⟨s, e⟩, hr⟩ : ∃ r, encAsB k m l = r := ⟨_, rfl⟩
    rw [hr] at HX HN hrl
    rw [hout] at HN hbl ⊢
    have hss := sB_size s
    have hso := sB_size out
    have hs4 : (s.length : Int) ≤ 4000009 := by have : s.length ≤ 4000009 := hrl; omega
    have ho4 : (out.length : Int) ≤ 4000009 := by omega
    clear hb hk hrl hbl hout hr
    by_cases he : e = 0
    ·subst he
     by_cases ho : out = []
     ·subst ho
      have HP : Hid (bestE m l (k + 1) = s) := Lib.hid (by rw [HN.out]; unfold pickB; rw [if_pos ⟨rfl, .inl rfl⟩])
      clear hso ho4
      have ez : sB [] = ⟨#[]⟩ := rfl
      rw [ez]
      go_wp2_with fail
      refine (HX.out).mono ?_
      rintro x w2 ⟨rfl, hb2⟩
      have HB2 := Lib.hid (bstep HB.out (Nat.le_refl _) hb2)
      clear hb2
      go_wp2_with fail
      go_roundw
      case rel => exact ⟨k + 1, by go_num, by omega, by rw [HP.out], HB2.out⟩
      case measure => simp [intOf]; omega
     ·have hse : ((sB out).toList == ([] : List UInt8)) = false := by
       rw [sB_toList]; simpa using ho
      by_cases hlt2 : s.length < out.length
      ·have HP : Hid (bestE m l (k + 1) = s) := Lib.hid (by rw [HN.out]; unfold pickB; rw [if_pos ⟨rfl, .inr hlt2⟩])
       have hl2 : (s.length : Int) < out.length := by omega
       clear ho hlt2
       go_wp2_with fail
       refine (HX.out).mono ?_
       rintro x w2 ⟨rfl, hb2⟩
       have HB2 := Lib.hid (bstep HB.out (Nat.le_refl _) hb2)
       clear hb2
       go_wp2_with fail
       go_roundw
       case rel => exact ⟨k + 1, by go_num, by omega, by rw [HP.out], HB2.out⟩
       case measure => simp [intOf]; omega
      ·have HP : Hid (bestE m l (k + 1) = out) := Lib.hid (by rw [HN.out]; unfold pickB; rw [if_neg (by rintro ⟨_, h | h⟩ <;> contradiction)])
       have hl2 : ¬ (s.length : Int) < out.length := by omega
       clear ho hlt2
       go_wp2_with fail
       refine (HX.out).mono ?_
       rintro x w2 ⟨rfl, hb2⟩
       have HB2 := Lib.hid (bstep HB.out (Nat.le_refl _) hb2)
       clear hb2
       go_wp2_with fail
       go_roundw
       case rel => exact ⟨k + 1, by go_num, by omega, by rw [HP.out], HB2.out⟩
       case measure => simp [intOf]; omega
    ·have HP : Hid (bestE m l (k + 1) = out) := Lib.hid (by rw [HN.out]; unfold pickB; rw [if_neg (by rintro ⟨h, _⟩; exact he h)])
     have hen : (e == 0) = false := by simpa using he
     clear hso ho4
     go_wp2_with fail
     refine (HX.out).mono ?_
     rintro x w2 ⟨rfl, hb2⟩
     have HB2 := Lib.hid (bstep HB.out (Nat.le_refl _) hb2)
     clear hb2
     go_wp2_with fail
     go_roundw
     case rel => exact ⟨k + 1, by go_num, by omega, by rw [HP.out], HB2.out⟩
     case measure => simp [intOf]; omega
   ·obtain rfl : k = 4 := by omega
    go_wp2_with fail
    go_ret2
    rw [HE.out]
    exact ⟨rfl, HB.out⟩
def RwP (n R : Nat) (w : World) (x : Ending) (w' : World) : Prop := Touch (fun k => k = R) w w' ∧ ∃ ok : Bool, (x = .returned (.tuple #[.slice none 0 0, .bool ok])) ∨ ∃ (l : List Str) (G : Nat), w.heap.size ≤ G ∧ x = .returned (.tuple #[.slice (some ⟨G, 0, none⟩) l.length l.length, .bool ok]) ∧ SRow w' G l ∧ (∀ s ∈ l, isV s = true ∧ s.length = n) ∧ l.length ≤ 4096
theorem rwP_nil {n R : Nat} {w w' : World} {ok : Bool} (h : Touch (fun k => k = R) w w') : RwP n R w (.returned (.tuple #[.slice none 0 0, .bool ok])) w' := ⟨h, ok, .inl rfl⟩
theorem longV_len (n : Nat) (l : List Str) : (longV n l).1.length ≤ l.length := by
 unfold longV
 split
 ·simp
 ·simp
theorem touch_below {S : Nat → Prop} {a b c : World} (h : Below a.heap.size a b) (k : Touch S b c) (hS : ∀ i, S i → S i ∨ a.heap.size ≤ i) : Touch S a c := (Touch.of_below h).trans k fun i _ hs => hs
set_option maxRecDepth 100000 in
set_option maxHeartbeats 1000000 in
theorem rwords_walk (n : Nat) (h1 : 1 ≤ n) (h128 : n ≤ 128) {w : World} {R m : Nat} (hR : RdS w R m) (hm : m ≤ 100000) : Calls Tryz.prog 115 #[.agg #[.int .i64 (n : Int)], .pointer (some ⟨R, 0, none⟩)] w fun x w' => RwP n R w x w' := by
 obtain ⟨W0, hW0⟩ : ∃ W, w.alloc (.cells #[.int .i64 (n : Int)] 109) = W := ⟨_, rfl⟩
 have hb0 : Below w.heap.size w W0 := by rw [← hW0]; exact (Below.refl _ _).alloc (Nat.le_refl _) _
 obtain ⟨P, hP⟩ : ∃ P, w.heap.size = P := ⟨_, rfl⟩
 have hce : W0.heap[P]? = some (.cells #[.int .i64 (n : Int)] 109 (0, 0)) := by rw [← hW0, ← hP]; exact heap_alloc_new _ _
 have hlt := hR.lt
 have hRP : P ≠ R := by omega
 have HCe := Lib.hid hce
 have HRP := Lib.hid hRP
 have HB0 := Lib.hid hb0
 have HW0 := Lib.hid hW0
 have HPe := Lib.hid hP
 have HR0 := Lib.hid (hR.frame (hb0.block R hlt))
 have HM := Lib.hid hm
 have HN : Hid (1 ≤ n ∧ n ≤ 128) := Lib.hid ⟨h1, h128⟩
 clear hb0 hW0 hlt hRP hR hm hce hP h1 h128
 go_enter Tryz.func115, Tryz.ntmps115
 go_upto_region 1 with (fail)
 rw [HW0.out, HPe.out]
 go_wp2_with fail
 refine (rdsL (by exact HR0.out)).mono ?_
 rintro x _ ⟨a, rfl, -, rfl⟩
 go_wp2_with fail
 refine (rdsT (by exact HR0.out) _).mono ?_
 rintro x w1 ⟨s, rfl, hsm, hr1, ht1⟩
 have HT1 := Lib.hid ht1
 have HX := Lib.hid (rldec_walk s (by have := HM.out; omega) 4096 w1)
 have HC1 := Lib.hid ((ht1.block P (Array.getElem?_eq_some_iff.1 HCe.out).1 HRP.out).trans HCe.out)
 clear hsm hr1 ht1
 go_wp2_with fail
 refine (HX.out).mono ?_
 rintro x w2 ⟨hb2, l, e, A, c, rfl, hin, hl4, hls, -⟩
 have HB2 := Lib.hid hb2
 have hC2 := (hb2.block P (Array.getElem?_eq_some_iff.1 HC1.out).1).trans HC1.out
 have cp := (one_cell hC2).1
 have HX2 := Lib.hid (long_walk n HN.out.1 HN.out.2 l (by omega) (fun s h => by have := hls s h; omega) w2 A c hin)
 have HOk := Lib.hid (longV_ok (n := n) (l := l) HN.out.1 HN.out.2)
 have hll := longV_len n l
 have HLl : Hid ((longV n l).1.length ≤ 4096) := Lib.hid (by omega)
 clear hb2 hin hl4 hls hC2 hll HX
 go_wp2_with fail
 refine (HX2.out).mono ?_
 rintro x w3 ⟨hb3, hcase⟩
 have HT3 : Hid (Touch (fun k => k = R) w w3) := Lib.hid (below_touch (below_touch (touch_below HB0.out HT1.out fun _ h => .inl h) HB2.out) hb3)
 have HS2 : Hid (w.heap.size ≤ w2.heap.size) := Lib.hid (by have := HB0.out.size; have := HT1.out.size; have := HB2.out.size; omega)
 clear hb3
 rcases hcase with ⟨-, rfl⟩ | ⟨-, G, hG, rfl, hs⟩
 ·clear cp HX2
  go_wp2_with fail
  refine bodyPost_ret (results_tmp2 rfl _ _ _) rfl ?_
  exact rwP_nil HT3.out
 ·have HG := Lib.hid hG
  have HS := Lib.hid hs
  obtain ⟨o, ho⟩ : ∃ o, (longV n l).1 = o := ⟨_, rfl⟩
  rw [ho] at HS HLl HOk ⊢
  clear cp HX2 hs hG ho
  by_cases he : e = 0
  ·subst he
   go_wp2_with fail
   refine bodyPost_ret (results_tmp2 rfl _ _ _) rfl ?_
   exact ⟨HT3.out, true, .inr ⟨o, G, Nat.le_trans HS2.out HG.out, rfl, HS.out, HOk.out, HLl.out⟩⟩
  ·have hen : (e == 0) = false := by simpa using he
   clear he
   go_wp2_with fail
   refine bodyPost_ret (results_tmp2 rfl _ _ _) rfl ?_
   exact ⟨HT3.out, false, .inr ⟨o, G, Nat.le_trans HS2.out HG.out, rfl, HS.out, HOk.out, HLl.out⟩⟩
theorem mix_valid {a b : Str} {n : Nat} (ha : isV a = true) (hb : isV b = true) (hla : a.length = n) (hlb : b.length = n) : isV (List.zipWith mixC a b) = true ∧ (List.zipWith mixC a b).length = n := by
 have hl : (List.zipWith mixC a b).length = n := by rw [List.length_zipWith]; omega
 refine ⟨?_, hl⟩
 obtain ⟨h0, h1, h2⟩ := isV_parts ha
 have hb2 := (isV_parts hb).2.2
 unfold isV
 rw [hl, decide_eq_true (by omega : n ≤ 128)]
 have he : (List.zipWith mixC a b).isEmpty = false := by
  cases hq : List.zipWith mixC a b with
  | nil => rw [hq] at hl; have := List.length_pos_iff.2 h0; simp at hl; omega
  | cons => rfl
 rw [he]
 simp only [Bool.not_false, Bool.true_and]
 rw [List.all_eq_true]
 intro x hx
 obtain ⟨i, hi, rfl⟩ := List.mem_iff_getElem.1 hx
 rw [List.getElem_zipWith]
 exact (mixC_ok (List.all_eq_true.1 h2 _ (List.getElem_mem _)) (List.all_eq_true.1 hb2 _ (List.getElem_mem _))).2.2
def RmR (w0 : World) (G n N : Nat) (v i : Value) (wr : World) : Prop := ∃ (k : Nat) (last : Str) (l : List Str), i = .int .i64 (k : Int) ∧ v = .string (sB last) ∧ k ≤ N ∧ isV last = true ∧ last.length = n ∧ SRow wr G l ∧ l.length = N ∧ (∀ s ∈ l, isV s = true ∧ s.length = n) ∧ Touch (fun k => k = G) w0 wr
set_option maxRecDepth 100000 in
set_option maxHeartbeats 1000000 in
theorem rmixed_walk (n : Nat) (h1 : 1 ≤ n) (h128 : n ≤ 128) {w : World} {R m : Nat} (hR : RdS w R m) (hm : m ≤ 100000) : Calls Tryz.prog 114 #[.agg #[.int .i64 (n : Int)], .pointer (some ⟨R, 0, none⟩)] w fun x w' => RwP n R w x w' := by
 obtain ⟨W0, hW0⟩ : ∃ W, w.alloc (.cells #[.int .i64 (n : Int)] 109) = W := ⟨_, rfl⟩
 have hb0 : Below w.heap.size w W0 := by rw [← hW0]; exact (Below.refl _ _).alloc (Nat.le_refl _) _
 obtain ⟨P, hP⟩ : ∃ P, w.heap.size = P := ⟨_, rfl⟩
 have hce : W0.heap[P]? = some (.cells #[.int .i64 (n : Int)] 109 (0, 0)) := by rw [← hW0, ← hP]; exact heap_alloc_new _ _
 have hlt := hR.lt
 have hRP : P ≠ R := by omega
 have HCe := Lib.hid hce
 have HRP := Lib.hid hRP
 have HB0 := Lib.hid hb0
 have HW0 := Lib.hid hW0
 have HPe := Lib.hid hP
 have HX := Lib.hid (rwords_walk n h1 h128 (hR.frame (hb0.block R hlt)) hm)
 have HAl := Lib.hid (all_walk n h1 h128)
 have HZ := Lib.hid (isV_zeros n h1 h128)
 have HZl : Hid ((List.replicate n (48 : UInt8)).length = n) := Lib.hid (by simp)
 have HN : Hid (1 ≤ n ∧ n ≤ 128) := Lib.hid ⟨h1, h128⟩
 have cp := (one_cell hce).1
 have HPw : Hid (P < W0.heap.size) := Lib.hid (Array.getElem?_eq_some_iff.1 hce).1
 clear hb0 hW0 hlt hRP hR hm hce hP h1 h128
 go_enter Tryz.func114, Tryz.ntmps114
 go_upto_region 1 with (fail)
 rw [HW0.out, HPe.out]
 go_wp2_with fail
 refine (HX.out).mono ?_
 rintro x w1 ⟨ht1, ok, hcase⟩
 have cp1 := (one_cell ((ht1.block P HPw.out HRP.out).trans HCe.out)).1
 have HT1 := Lib.hid (touch_below HB0.out ht1 fun _ h => .inl h)
 have HS1 : Hid (w.heap.size ≤ W0.heap.size) := Lib.hid HB0.out.size
 clear ht1 cp HX
 rcases hcase with rfl | ⟨l, G, hG, rfl, hs, hv, hl4⟩
 ·go_wp2_with fail
  refine (HAl.out _).mono ?_
  rintro x w2 ⟨rfl, hb2⟩
  have HT2 := Lib.hid (below_touch HT1.out hb2)
  clear hb2 cp1
  go_wp2_with fail
  go_loopw [22] (fun i wr => i = .int .i64 0 ∧ Touch (fun k => k = R) w wr) (fun _ _ => 0)
  case atStart => exact ⟨rfl, HT2.out⟩
  case round =>
   obtain ⟨rfl, ht⟩ := hrel
   have HT3 := Lib.hid ht
   clear ht
   go_wp2_with fail
   refine bodyPost_ret (results_tmp2 rfl _ _ _) rfl ?_
   exact rwP_nil HT3.out
 ·have HG := Lib.hid hG
  have HS := Lib.hid hs
  have HV := Lib.hid hv
  have hli : (l.length : Int) ≤ 4096 := by omega
  have HL4 := Lib.hid hl4
  clear hG hs hv hl4
  go_wp2_with fail
  refine (HAl.out _).mono ?_
  rintro x w2 ⟨rfl, hb2⟩
  have HT2 := Lib.hid (below_touch HT1.out hb2)
  have HS2 := Lib.hid (HS.out.mono hb2)
  clear hb2 cp1
  obtain ⟨N, hN⟩ : ∃ N, l.length = N := ⟨_, rfl⟩
  have HNl := Lib.hid hN
  rw [hN] at hli HL4 ⊢
  clear hN
  go_wp2_with fail
  go_loopw [8, 22] (fun v i wr => RmR w2 G n N v i wr) (fun _ i _ => ((N : Int) - intOf i).toNat)
  case atStart => exact ⟨0, _, l, rfl, rfl, Nat.zero_le _, HZ.out, HZl.out, HS2.out, HNl.out, HV.out, .refl _ _⟩
  case round =>
   obtain ⟨k, last, l', rfl, rfl, hk, hlv, hln, hs, hl', hv, ht⟩ := hrel
   by_cases hlt : k < N
   ·have hki : (k : Int) < N := by omega
    have hkl : k < l'.length := by omega
    have c0 := hs.cell hkl
    obtain ⟨s, hsk⟩ : ∃ s, l'.getD k default = s := ⟨_, rfl⟩
    rw [hsk] at c0
    have hsv := hv s (by rw [← hsk]; exact List.mem_of_getElem? (get_default hkl))
    have HMx := Lib.hid (mix_walk s last hsv.1 hlv (by omega))
    have hmv := mix_valid hsv.1 hlv hsv.2 hln
    obtain ⟨x, hx⟩ : ∃ x, List.zipWith mixC s last = x := ⟨_, rfl⟩
    rw [hx] at hmv HMx
    have HMv := Lib.hid hmv
    have HSr := Lib.hid hs
    have HTr := Lib.hid ht
    have HKl := Lib.hid hkl
    have HLe := Lib.hid hl'
    have HV' : Hid (∀ s ∈ l'.set k x, isV s = true ∧ s.length = n) := Lib.hid fun s h => by
     rcases List.mem_or_eq_of_mem_set h with h | rfl
     ·exact hv s h
     ·exact hmv
    clear hlv hln hs hl' hv ht hsk hsv hmv hx hkl
    go_wp2_with fail
    refine (HMx.out _).mono ?_
    rintro y w3 ⟨rfl, hb3⟩
    have hr1 := HSr.out.mono hb3
    have g0 := hr1.cell HKl.out
    have gf := hr1.fr k
    have hset := hr1.set k x
    have g1 := hset.cell (i := k) (by rw [List.length_set]; exact HKl.out)
    have hgx : (l'.set k x).getD k default = x := by simp [List.getD, HKl.out]
    rw [hgx] at g1
    have HSet := Lib.hid hset
    have HT3 := Lib.hid (below_touch HTr.out hb3)
    have hGl : w2.heap.size > G := (Array.getElem?_eq_some_iff.1 HS2.out.to).1
    have HGl := Lib.hid hGl
    clear hb3 hr1 hset hgx hGl
    go_wp2_with fail
    go_roundw
    case rel => exact ⟨k + 1, x, l'.set k x, by go_num, rfl, by omega, HMv.out.1, HMv.out.2, HSet.out, by rw [List.length_set]; exact HLe.out, HV'.out, HT3.out.setCell (p := ⟨G, k, none⟩) (.inl rfl) _⟩
    case measure => simp [intOf]; omega
   ·obtain rfl : k = N := by omega
    subst hl'
    have HSr := Lib.hid hs
    have HV' := Lib.hid hv
    have HT3 : Hid (Touch (fun k => k = R) w wr) := Lib.hid (new_touch HT2.out ht fun i hi => .inr (by rw [hi]; have := HG.out; have := HS1.out; omega))
    clear hlv hln hs hv ht
    go_wp2_with fail
    refine bodyPost_ret (results_tmp2 rfl _ _ _) rfl ?_
    exact ⟨HT3.out, ok, .inr ⟨l', G, by have := HG.out; have := HS1.out; omega, rfl, HSr.out, HV'.out, HL4.out⟩⟩
end Go.Proofs.YtlmjefjimoghcaaGreat
