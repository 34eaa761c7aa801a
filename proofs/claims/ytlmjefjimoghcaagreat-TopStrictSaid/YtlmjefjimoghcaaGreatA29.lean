/- A part of the proofs of TopCounter and TopStrict: what the functions of the program do, each walked once, and plain laws about it. No condition. -/
import Derived.Laws.EntriesVeiled
import Derived.StillTailTactics
import Derived.Test.YtlmjefjimoghcaaGreatA17
namespace Go.Proofs.YtlmjefjimoghcaaGreat
set_option linter.unusedSimpArgs false
set_option linter.unnecessarySimpa false
set_option linter.unusedVariables false
open Go.RowKit
attribute [local go_sem ↓] Go.wp_at_zero Go.wp_at_succ
def fn (n : Nat) : Value := .func (.func n) #[] #[]
def kI (k : Int) : Value := .int .i64 k
def kindV (a b : Int) (f g h i : Nat) : Value := .agg #[.int .i64 a, .int .i64 b, fn f, fn g, fn h, fn i]
set_option maxRecDepth 100000 in
theorem kinds_walk (w : World) : Calls Tryz.prog 189 #[] w fun x w' => ∃ M f, x = .returned (.map (some M)) ∧ Below w.heap.size w w' ∧ MapF kI (fun _ => True) w' M f ∧ f 0 = some (kindV 0 62 203 204 205 206) := by
 have hmk : (Instr.makeMap 253 none).run Tryz.prog w = .ok (.map (some w.heap.size)) (w.alloc (.map #[] 0)) := by simp [Instr.makeMap, Result.andThen]
 have hb0 : Below w.heap.size w (w.alloc (.map #[] 0)) := (Below.refl _ _).alloc (Nat.le_refl _) _
 have hm0 : MapF kI (fun _ => True) (w.alloc (.map #[] 0)) w.heap.size (fun _ => none) := mapF_new w
 obtain ⟨M, hM⟩ : ∃ M, w.heap.size = M := ⟨_, rfl⟩
 obtain ⟨W0, hW0⟩ : ∃ W, w.alloc (.map #[] 0) = W := ⟨_, rfl⟩
 rw [hW0] at hm0 hb0 hmk
 rw [hM] at hm0 hmk
 obtain ⟨o0, u0, hm1⟩ := mapF_upd (kv := kI) keyInt hm0 (k := 0) trivial Tryz.underlying253 (kindV 0 62 203 204 205 206)
 have hb1 := mset_below hb0 (Nat.le_of_eq hM) o0
 obtain ⟨W1, hW1⟩ : ∃ W, mset W0 M o0 = W := ⟨_, rfl⟩
 rw [hW1] at u0 hm1 hb1
 unfold kindV fn kI at u0
 obtain ⟨o1, u1, hm2⟩ := mapF_upd (kv := kI) keyInt hm1 (k := 1) trivial Tryz.underlying253 (kindV 0 0 202 208 209 211)
 have hb2 := mset_below hb1 (Nat.le_of_eq hM) o1
 obtain ⟨W2, hW2⟩ : ∃ W, mset W1 M o1 = W := ⟨_, rfl⟩
 rw [hW2] at u1 hm2 hb2
 unfold kindV fn kI at u1
 obtain ⟨o2, u2, hm3⟩ := mapF_upd (kv := kI) keyInt hm2 (k := 2) trivial Tryz.underlying253 (kindV 0 30 202 213 214 215)
 have hb3 := mset_below hb2 (Nat.le_of_eq hM) o2
 obtain ⟨W3, hW3⟩ : ∃ W, mset W2 M o2 = W := ⟨_, rfl⟩
 rw [hW3] at u2 hm3 hb3
 unfold kindV fn kI at u2
 obtain ⟨o3, u3, hm4⟩ := mapF_upd (kv := kI) keyInt hm3 (k := 3) trivial Tryz.underlying253 (kindV 0 30 216 217 218 219)
 have hb4 := mset_below hb3 (Nat.le_of_eq hM) o3
 obtain ⟨W4, hW4⟩ : ∃ W, mset W3 M o3 = W := ⟨_, rfl⟩
 rw [hW4] at u3 hm4 hb4
 unfold kindV fn kI at u3
 obtain ⟨o4, u4, hm5⟩ := mapF_upd (kv := kI) keyInt hm4 (k := 4) trivial Tryz.underlying253 (kindV 1 4294967296 220 221 223 224)
 have hb5 := mset_below hb4 (Nat.le_of_eq hM) o4
 obtain ⟨W5, hW5⟩ : ∃ W, mset W4 M o4 = W := ⟨_, rfl⟩
 rw [hW5] at u4 hm5 hb5
 unfold kindV fn kI at u4
 have HB := Lib.hid hb5
 have HM := Lib.hid hm5
 clear hb0 hm0 hW0 hb1 hm1 hW1 hb2 hm2 hW2 hb3 hm3 hW3 hb4 hm4 hW4 hb5 hm5 hW5
 go_enter Tryz.func189, Tryz.ntmps189
 go_wp2_with fail
 go_ret
 exact ⟨M, _, rfl, HB.out, HM.out, rfl⟩
set_option maxRecDepth 100000 in
theorem find_walk (w : World) : Calls Tryz.prog 170 #[.int .i64 0, .int .i64 2] w fun x w' => x = .returned (.tuple #[kindV 0 62 203 204 205 206, .bool true]) ∧ Below w.heap.size w w' := by
 have HK := Lib.hid fun w => kinds_walk w
 go_enter Tryz.func170, Tryz.ntmps170
 go_wp2_with fail
 refine (HK.out _).mono ?_
 rintro x w1 ⟨M, f, rfl, hb, hm, hf⟩
 have hlook := mapF_look (kv := kI) keyInt hm (k := 0) trivial Tryz.underlying253 hf true
 rw [if_pos rfl] at hlook
 unfold kI kindV fn at hlook
 have hbz : Below w.heap.size w w1 := bstep ((Below.refl _ _).alloc (Nat.le_refl _) _) (Nat.le_refl _) hb
 have hz4 : ∃ z, z.size = 6 ∧ w1.heap[w.heap.size]? = some (.cells z 237 (0, 0)) := ⟨_, rfl, (hb.block _ (by rw [World.size_alloc]; omega)).trans (heap_alloc_new _ _)⟩
 obtain ⟨z, hzs, hz4⟩ := hz4
 have h4 : w.heap.size < w1.heap.size := (Array.getElem?_eq_some_iff.1 hz4).1
 have hb6 := heap_alloc_new w1 (.cells #[Value.int .i64 0, Value.int .i64 62, Value.func (.func 203) #[] #[], Value.func (.func 204) #[] #[], Value.func (.func 205) #[] #[], Value.func (.func 206) #[] #[]] 237)
 have hb4 := (Below.heap_alloc w1 (.cells #[Value.int .i64 0, Value.int .i64 62, Value.func (.func 203) #[] #[], Value.func (.func 204) #[] #[], Value.func (.func 205) #[] #[], Value.func (.func 206) #[] #[]] 237) w.heap.size h4).trans hz4
 have hbw := hbz.alloc hbz.size (.cells #[Value.int .i64 0, Value.int .i64 62, Value.func (.func 203) #[] #[], Value.func (.func 204) #[] #[], Value.func (.func 205) #[] #[], Value.func (.func 206) #[] #[]] 237)
 clear hm hf hb hbz hz4
 obtain ⟨W2, hW2⟩ : ∃ W2, w1.alloc (.cells #[Value.int .i64 0, Value.int .i64 62, Value.func (.func 203) #[] #[], Value.func (.func 204) #[] #[], Value.func (.func 205) #[] #[], Value.func (.func 206) #[] #[]] 237) = W2 := ⟨_, rfl⟩
 obtain ⟨D6, hD6⟩ : ∃ D, w1.heap.size = D := ⟨_, rfl⟩
 rw [hW2] at hb6 hb4 hbw
 rw [hD6] at hb6 h4
 have HB := Lib.hid hbw
 have c0 : W2.cell? ⟨D6, 0, none⟩ = some (Value.int .i64 0) := by rw [cell_of_row W2 D6 0 _ _ _ hb6]; rfl
 have c1 : W2.cell? ⟨D6, 1, none⟩ = some (Value.int .i64 62) := by rw [cell_of_row W2 D6 1 _ _ _ hb6]; rfl
 have c2 : W2.cell? ⟨D6, 2, none⟩ = some (Value.func (.func 203) #[] #[]) := by rw [cell_of_row W2 D6 2 _ _ _ hb6]; rfl
 have c3 : W2.cell? ⟨D6, 3, none⟩ = some (Value.func (.func 204) #[] #[]) := by rw [cell_of_row W2 D6 3 _ _ _ hb6]; rfl
 have c4 : W2.cell? ⟨D6, 4, none⟩ = some (Value.func (.func 205) #[] #[]) := by rw [cell_of_row W2 D6 4 _ _ _ hb6]; rfl
 have c5 : W2.cell? ⟨D6, 5, none⟩ = some (Value.func (.func 206) #[] #[]) := by rw [cell_of_row W2 D6 5 _ _ _ hb6]; rfl
 obtain ⟨D4, hD4⟩ : ∃ D, w.heap.size = D := ⟨_, rfl⟩
 have HD4 := Lib.hid hD4
 rw [hD4] at hb4 h4
 obtain ⟨z0, z1, z2, z3, z4, z5, rfl⟩ : ∃ z0 z1 z2 z3 z4 z5, z = #[z0, z1, z2, z3, z4, z5] := by
  rcases z with ⟨_ | ⟨z0, _ | ⟨z1, _ | ⟨z2, _ | ⟨z3, _ | ⟨z4, _ | ⟨z5, _ | ⟨z6, r⟩⟩⟩⟩⟩⟩⟩⟩ <;> simp at hzs
  exact ⟨_, _, _, _, _, _, rfl⟩
 have hl0 : W2.drew.heap[D4]? = some (.cells #[z0, z1, z2, z3, z4, z5] 237 (0, 0)) := hb4
 have hl6 : W2.drew.heap[D6]? = some (.cells #[Value.int .i64 0, Value.int .i64 62, Value.func (.func 203) #[] #[], Value.func (.func 204) #[] #[], Value.func (.func 205) #[] #[], Value.func (.func 206) #[] #[]] 237 (0, 0)) := hb6
 have x0 : (W2.drew).cell? ⟨D4, 0, none⟩ = some z0 := by rw [cell_of_row (W2.drew) D4 0 _ _ _ hl0]; rfl
 have fx0 : (W2.drew).frozen? ⟨D4, 0, none⟩ = false := by simp [World.frozen?, hl0]
 have hs : ((W2.drew).setCell ⟨D4, 0, none⟩ (Value.int .i64 0)).heap[D4]? = some (.cells #[Value.int .i64 0, z1, z2, z3, z4, z5] 237 (0, 0)) := heap_setCell_any (W2.drew) D4 0 _ _ _ (Value.int .i64 0) hl0
 have hs6 := (Below.heap_setCell (W2.drew) ⟨D4, 0, none⟩ (Value.int .i64 0) D6 (by show D6 ≠ D4; omega)).trans hl6
 have hbw := hbw.drew.setCell (p := ⟨D4, 0, none⟩) (by show w.heap.size ≤ D4; omega) (Value.int .i64 0)
 obtain ⟨L1, hL1⟩ : ∃ L, (W2.drew).setCell ⟨D4, 0, none⟩ (Value.int .i64 0) = L := ⟨_, rfl⟩
 rw [hL1] at hs hs6
 rw [show ((W2.drew).setCell ⟨D4, 0, none⟩ (Value.int .i64 0)) = L1 from hL1] at hbw
 clear hl0 hl6
 have hl0 := hs
 have hl6 := hs6
 clear hs hs6
 have x1 : (L1).cell? ⟨D4, 1, none⟩ = some z1 := by rw [cell_of_row (L1) D4 1 _ _ _ hl0]; rfl
 have fx1 : (L1).frozen? ⟨D4, 1, none⟩ = false := by simp [World.frozen?, hl0]
 have hs : ((L1).setCell ⟨D4, 1, none⟩ (Value.int .i64 62)).heap[D4]? = some (.cells #[Value.int .i64 0, Value.int .i64 62, z2, z3, z4, z5] 237 (0, 0)) := heap_setCell_any (L1) D4 1 _ _ _ (Value.int .i64 62) hl0
 have hs6 := (Below.heap_setCell (L1) ⟨D4, 1, none⟩ (Value.int .i64 62) D6 (by show D6 ≠ D4; omega)).trans hl6
 have hbw := hbw.setCell (p := ⟨D4, 1, none⟩) (by show w.heap.size ≤ D4; omega) (Value.int .i64 62)
 obtain ⟨L2, hL2⟩ : ∃ L, (L1).setCell ⟨D4, 1, none⟩ (Value.int .i64 62) = L := ⟨_, rfl⟩
 rw [hL2] at hs hs6
 rw [hL2] at hbw
 clear hl0 hl6
 have hl0 := hs
 have hl6 := hs6
 clear hs hs6
 have x2 : (L2).cell? ⟨D4, 2, none⟩ = some z2 := by rw [cell_of_row (L2) D4 2 _ _ _ hl0]; rfl
 have fx2 : (L2).frozen? ⟨D4, 2, none⟩ = false := by simp [World.frozen?, hl0]
 have hs : ((L2).setCell ⟨D4, 2, none⟩ (Value.func (.func 203) #[] #[])).heap[D4]? = some (.cells #[Value.int .i64 0, Value.int .i64 62, Value.func (.func 203) #[] #[], z3, z4, z5] 237 (0, 0)) := heap_setCell_any (L2) D4 2 _ _ _ (Value.func (.func 203) #[] #[]) hl0
 have hs6 := (Below.heap_setCell (L2) ⟨D4, 2, none⟩ (Value.func (.func 203) #[] #[]) D6 (by show D6 ≠ D4; omega)).trans hl6
 have hbw := hbw.setCell (p := ⟨D4, 2, none⟩) (by show w.heap.size ≤ D4; omega) (Value.func (.func 203) #[] #[])
 obtain ⟨L3, hL3⟩ : ∃ L, (L2).setCell ⟨D4, 2, none⟩ (Value.func (.func 203) #[] #[]) = L := ⟨_, rfl⟩
 rw [hL3] at hs hs6
 rw [hL3] at hbw
 clear hl0 hl6
 have hl0 := hs
 have hl6 := hs6
 clear hs hs6
 have x3 : (L3).cell? ⟨D4, 3, none⟩ = some z3 := by rw [cell_of_row (L3) D4 3 _ _ _ hl0]; rfl
 have fx3 : (L3).frozen? ⟨D4, 3, none⟩ = false := by simp [World.frozen?, hl0]
 have hs : ((L3).setCell ⟨D4, 3, none⟩ (Value.func (.func 204) #[] #[])).heap[D4]? = some (.cells #[Value.int .i64 0, Value.int .i64 62, Value.func (.func 203) #[] #[], Value.func (.func 204) #[] #[], z4, z5] 237 (0, 0)) := heap_setCell_any (L3) D4 3 _ _ _ (Value.func (.func 204) #[] #[]) hl0
 have hs6 := (Below.heap_setCell (L3) ⟨D4, 3, none⟩ (Value.func (.func 204) #[] #[]) D6 (by show D6 ≠ D4; omega)).trans hl6
 have hbw := hbw.setCell (p := ⟨D4, 3, none⟩) (by show w.heap.size ≤ D4; omega) (Value.func (.func 204) #[] #[])
 obtain ⟨L4, hL4⟩ : ∃ L, (L3).setCell ⟨D4, 3, none⟩ (Value.func (.func 204) #[] #[]) = L := ⟨_, rfl⟩
 rw [hL4] at hs hs6
 rw [hL4] at hbw
 clear hl0 hl6
 have hl0 := hs
 have hl6 := hs6
 clear hs hs6
 have x4 : (L4).cell? ⟨D4, 4, none⟩ = some z4 := by rw [cell_of_row (L4) D4 4 _ _ _ hl0]; rfl
 have fx4 : (L4).frozen? ⟨D4, 4, none⟩ = false := by simp [World.frozen?, hl0]
 have hs : ((L4).setCell ⟨D4, 4, none⟩ (Value.func (.func 205) #[] #[])).heap[D4]? = some (.cells #[Value.int .i64 0, Value.int .i64 62, Value.func (.func 203) #[] #[], Value.func (.func 204) #[] #[], Value.func (.func 205) #[] #[], z5] 237 (0, 0)) := heap_setCell_any (L4) D4 4 _ _ _ (Value.func (.func 205) #[] #[]) hl0
 have hs6 := (Below.heap_setCell (L4) ⟨D4, 4, none⟩ (Value.func (.func 205) #[] #[]) D6 (by show D6 ≠ D4; omega)).trans hl6
 have hbw := hbw.setCell (p := ⟨D4, 4, none⟩) (by show w.heap.size ≤ D4; omega) (Value.func (.func 205) #[] #[])
 obtain ⟨L5, hL5⟩ : ∃ L, (L4).setCell ⟨D4, 4, none⟩ (Value.func (.func 205) #[] #[]) = L := ⟨_, rfl⟩
 rw [hL5] at hs hs6
 rw [hL5] at hbw
 clear hl0 hl6
 have hl0 := hs
 have hl6 := hs6
 clear hs hs6
 have x5 : (L5).cell? ⟨D4, 5, none⟩ = some z5 := by rw [cell_of_row (L5) D4 5 _ _ _ hl0]; rfl
 have fx5 : (L5).frozen? ⟨D4, 5, none⟩ = false := by simp [World.frozen?, hl0]
 have hs : ((L5).setCell ⟨D4, 5, none⟩ (Value.func (.func 206) #[] #[])).heap[D4]? = some (.cells #[Value.int .i64 0, Value.int .i64 62, Value.func (.func 203) #[] #[], Value.func (.func 204) #[] #[], Value.func (.func 205) #[] #[], Value.func (.func 206) #[] #[]] 237 (0, 0)) := heap_setCell_any (L5) D4 5 _ _ _ (Value.func (.func 206) #[] #[]) hl0
 have hs6 := (Below.heap_setCell (L5) ⟨D4, 5, none⟩ (Value.func (.func 206) #[] #[]) D6 (by show D6 ≠ D4; omega)).trans hl6
 have hbw := hbw.setCell (p := ⟨D4, 5, none⟩) (by show w.heap.size ≤ D4; omega) (Value.func (.func 206) #[] #[])
 obtain ⟨L6, hL6⟩ : ∃ L, (L5).setCell ⟨D4, 5, none⟩ (Value.func (.func 206) #[] #[]) = L := ⟨_, rfl⟩
 rw [hL6] at hs hs6
 rw [hL6] at hbw
 clear hl0 hl6
 have hl0 := hs
 have hl6 := hs6
 clear hs hs6
 have r0 : L6.cell? ⟨D4, 0, none⟩ = some (Value.int .i64 0) := by rw [cell_of_row L6 D4 0 _ _ _ hl0]; rfl
 have r1 : L6.cell? ⟨D4, 1, none⟩ = some (Value.int .i64 62) := by rw [cell_of_row L6 D4 1 _ _ _ hl0]; rfl
 have r2 : L6.cell? ⟨D4, 2, none⟩ = some (Value.func (.func 203) #[] #[]) := by rw [cell_of_row L6 D4 2 _ _ _ hl0]; rfl
 have r3 : L6.cell? ⟨D4, 3, none⟩ = some (Value.func (.func 204) #[] #[]) := by rw [cell_of_row L6 D4 3 _ _ _ hl0]; rfl
 have r4 : L6.cell? ⟨D4, 4, none⟩ = some (Value.func (.func 205) #[] #[]) := by rw [cell_of_row L6 D4 4 _ _ _ hl0]; rfl
 have r5 : L6.cell? ⟨D4, 5, none⟩ = some (Value.func (.func 206) #[] #[]) := by rw [cell_of_row L6 D4 5 _ _ _ hl0]; rfl
 have HKp : Hid ((fun w' : World => w'.cell? ⟨D6, 0, none⟩ = some (Value.int .i64 0) ∧ w'.cell? ⟨D6, 1, none⟩ = some (Value.int .i64 62) ∧ w'.cell? ⟨D6, 2, none⟩ = some (Value.func (.func 203) #[] #[]) ∧ w'.cell? ⟨D6, 3, none⟩ = some (Value.func (.func 204) #[] #[]) ∧ w'.cell? ⟨D6, 4, none⟩ = some (Value.func (.func 205) #[] #[]) ∧ w'.cell? ⟨D6, 5, none⟩ = some (Value.func (.func 206) #[] #[])) L6) := Lib.hid ⟨by rw [cell_of_row L6 D6 0 _ _ _ hl6]; rfl, by rw [cell_of_row L6 D6 1 _ _ _ hl6]; rfl, by rw [cell_of_row L6 D6 2 _ _ _ hl6]; rfl, by rw [cell_of_row L6 D6 3 _ _ _ hl6]; rfl, by rw [cell_of_row L6 D6 4 _ _ _ hl6]; rfl, by rw [cell_of_row L6 D6 5 _ _ _ hl6]; rfl⟩
 have HBw := Lib.hid hbw
 clear hl0 hl6 hbw hb6 hb4 h4 hzs
 go_upto_region 2 with (fail)
 refine wp_region_noPanic ?_
 refine wp_region_D 16 (fun w' : World => w'.cell? ⟨D6, 0, none⟩ = some (Value.int .i64 0) ∧ w'.cell? ⟨D6, 1, none⟩ = some (Value.int .i64 62) ∧ w'.cell? ⟨D6, 2, none⟩ = some (Value.func (.func 203) #[] #[]) ∧ w'.cell? ⟨D6, 3, none⟩ = some (Value.func (.func 204) #[] #[]) ∧ w'.cell? ⟨D6, 4, none⟩ = some (Value.func (.func 205) #[] #[]) ∧ w'.cell? ⟨D6, 5, none⟩ = some (Value.func (.func 206) #[] #[])) (by kernel_rfl) ⟨c0, c1, c2, c3, c4, c5⟩ (fun hU => ?_)
 have hC : (fun w' : World => w'.cell? ⟨D6, 0, none⟩ = some (Value.int .i64 0) ∧ w'.cell? ⟨D6, 1, none⟩ = some (Value.int .i64 62) ∧ w'.cell? ⟨D6, 2, none⟩ = some (Value.func (.func 203) #[] #[]) ∧ w'.cell? ⟨D6, 3, none⟩ = some (Value.func (.func 204) #[] #[]) ∧ w'.cell? ⟨D6, 4, none⟩ = some (Value.func (.func 205) #[] #[]) ∧ w'.cell? ⟨D6, 5, none⟩ = some (Value.func (.func 206) #[] #[])) W2.drew := ⟨c0, c1, c2, c3, c4, c5⟩
 clear hU
 refine tl 0 14 15 rfl rfl (.inr hC) ?_
 simp only [Act.put, zA, zB, zC]
 refine tk 1 15 14 rfl rfl (.inr hC) ?_
 simp only [Act.put, zA, zB, zC]
 refine tk 2 16 13 rfl rfl (.inr hC) ?_
 simp only [Act.put, zA, zB, zC]
 refine tk 3 17 12 rfl rfl (.inr hC) ?_
 simp only [Act.put, zA, zB, zC]
 refine tk 4 18 11 rfl rfl (.inr hC) ?_
 simp only [Act.put, zA, zB, zC]
 refine tl 5 19 10 rfl rfl (.inr hC) ?_
 simp only [Act.put, zA, zB, zC]
 refine tk 6 20 9 rfl rfl (.inr hC) ?_
 simp only [Act.put, zA, zB, zC]
 refine tk 7 21 8 rfl rfl (.inr hC) ?_
 simp only [Act.put, zA, zB, zC]
 refine tk 8 22 7 rfl rfl (.inr hC) ?_
 simp only [Act.put, zA, zB, zC]
 refine tk 9 23 6 rfl rfl (.inr hC) ?_
 simp only [Act.put, zA, zB, zC]
 refine tk 10 24 5 rfl rfl (.inr hC) ?_
 simp only [Act.put, zA, zB, zC]
 refine tl 11 25 4 rfl rfl (.inr hC) ?_
 simp only [Act.put, zA, zB, zC]
 refine tk 12 26 3 rfl rfl (.inr hC) ?_
 simp only [Act.put, zA, zB, zC]
 refine tk 13 27 2 rfl rfl (.inr hC) ?_
 simp only [Act.put, zA, zB, zC]
 refine ry 1 [14] ?_
 refine rn rfl (fun K hK => ?_) ?_
 ·go_simp
  refine shut_C hK ?_ (fun hC => ?_)
  ·exact HKp.out
  clear hK K
  try simp only [Act.put, zA, zB, zC]
  refine tk 15 5 0 rfl rfl (.inr hC) ?_
  simp only [Act.put, zA, zB, zC]
  refine wpAnyD_done (by kernel_rfl) ?_ _
  refine NoPanic.normal ?_
  go_wp2_with fail
  exact bodyPost_ret (v := .tuple #[kindV 0 62 203 204 205 206, .bool true]) (by simp [results, Tryz.results170, go_sem, r0, r1, r2, r3, r4, r5, kindV, fn]) rfl ⟨rfl, by rw [← HD4.out]; exact HBw.out⟩
 exact rz
end Go.Proofs.YtlmjefjimoghcaaGreat
