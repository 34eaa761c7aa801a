import Derived.Test.YtfaifdmjgkaphaaWf
import Derived.Deep.RegionHeld3
import Derived.Deep.DrawnRows
import Derived.IntWalk
import Derived.WalkLawsBesides
namespace Go.Proofs.Ytfaifdmjgkaphaa
open Go.RowKit
attribute [local go_sem ↓] Go.wp_at_zero Go.wp_at_succ

theorem val_int {k : IntKind} {a b : Int} (h : a = b) : Value.int k a = .int k b := by rw [h]
/-- how many bytes have a code -/
def cnt (l : List UInt8) (i : Int) : Nat := (l.filter fun b => code b.toNat == i).length
theorem cnt_snoc (l : List UInt8) (b : UInt8) (i : Int) : cnt (l ++ [b]) i = cnt l i + if code b.toNat = i then 1 else 0 := by
  unfold cnt
  rw [List.filter_append]
  by_cases h : code b.toNat = i <;> simp [List.filter_cons, h]
theorem cnt_le (l : List UInt8) (i : Int) : cnt l i ≤ l.length := List.length_filter_le _ _
def C4 (w : World) (B : Nat) (a b c d : Int) : Prop := w.heap[B]? = some (.cells #[.int .i64 a, .int .i64 b, .int .i64 c, .int .i64 d] 34 (0, 0))
theorem C4.c0 {w B a b c d} (h : C4 w B a b c d) : w.cell? ⟨B, 0, none⟩ = some (.int .i64 a) := by rw [cell_of_row w B 0 _ _ _ h]; rfl
theorem C4.c1 {w B a b c d} (h : C4 w B a b c d) : w.cell? ⟨B, 1, none⟩ = some (.int .i64 b) := by rw [cell_of_row w B 1 _ _ _ h]; rfl
theorem C4.c2 {w B a b c d} (h : C4 w B a b c d) : w.cell? ⟨B, 2, none⟩ = some (.int .i64 c) := by rw [cell_of_row w B 2 _ _ _ h]; rfl
theorem C4.c3 {w B a b c d} (h : C4 w B a b c d) : w.cell? ⟨B, 3, none⟩ = some (.int .i64 d) := by rw [cell_of_row w B 3 _ _ _ h]; rfl
theorem C4.fr {w B a b c d} (h : C4 w B a b c d) (i : Nat) : w.frozen? ⟨B, i, none⟩ = false := by
  have h' : w.heap[B]? = some (.cells #[.int .i64 a, .int .i64 b, .int .i64 c, .int .i64 d] 34 (0, 0)) := h
  simp [World.frozen?, h']
theorem C4.lt {w B a b c d} (h : C4 w B a b c d) : B < w.heap.size := (Array.getElem?_eq_some_iff.1 h).1
theorem C4.below {w w' B a b c d} {N : Nat} (h : C4 w B a b c d) (hb : Below N w w') (hN : B < N) : C4 w' B a b c d := (hb.block B hN).trans h
theorem C4.alloc {w B a b c d} (h : C4 w B a b c d) (o : Obj) : C4 (w.alloc o) B a b c d := (Below.heap_alloc w o B h.lt).trans h
theorem heap_setCell_any (w : World) (g i : Nat) (cs : Array Value) (t : TypeId) (fz : Nat × Nat) (v : Value) (hg : w.heap[g]? = some (.cells cs t fz)) :
    (w.setCell ⟨g, i, none⟩ v).heap[g]? = some (.cells (cs.setIfInBounds i v) t fz) := by
  rw [setCell_eq_setRow w g i cs t fz v hg]
  exact setRow_heap w g cs _ t _ hg
theorem C4.set0 {w B a b c d} (h : C4 w B a b c d) (x : Int) : C4 (w.setCell ⟨B, 0, none⟩ (.int .i64 x)) B x b c d := heap_setCell_any w B 0 _ _ _ (.int .i64 x) h
theorem C4.set1 {w B a b c d} (h : C4 w B a b c d) (x : Int) : C4 (w.setCell ⟨B, 1, none⟩ (.int .i64 x)) B a x c d := heap_setCell_any w B 1 _ _ _ (.int .i64 x) h
theorem C4.set2 {w B a b c d} (h : C4 w B a b c d) (x : Int) : C4 (w.setCell ⟨B, 2, none⟩ (.int .i64 x)) B a b x d := heap_setCell_any w B 2 _ _ _ (.int .i64 x) h
theorem C4.set3 {w B a b c d} (h : C4 w B a b c d) (x : Int) : C4 (w.setCell ⟨B, 3, none⟩ (.int .i64 x)) B a b c x := heap_setCell_any w B 3 _ _ _ (.int .i64 x) h
theorem C4.far {w B a b c d} (h : C4 w B a b c d) {p : Addr} (hp : B ≠ p.block) (v : Value) : C4 (w.setCell p v) B a b c d := (Below.heap_setCell w p v B hp).trans h
theorem code_range (c : Nat) : code c = -1 ∨ code c = 0 ∨ code c = 1 ∨ code c = 2 ∨ code c = 3 := by unfold code; (repeat' split) <;> omega
theorem code_at (c : Nat) (r : Int) (hr : code c = r) (hc : c < 256) (w : World) : Calls Try.prog 33 #[.int .u8 c] w fun e w' => e = .returned (.int .i64 r) ∧ w = w' := by subst hr; exact code_walk c hc w
theorem rcode_at (c : Nat) (r : Int) (hr : code c = r) (hc : c < 256) (w : World) : Calls Try.prog 34 #[.int .u8 c] w fun e w' => e = .returned (.int .i64 r) ∧ w = w' := by subst hr; exact rcode_walk c w
set_option maxRecDepth 100000 in
set_option maxHeartbeats 2000000 in
theorem count_walk (s : ByteArray) (hs : s.size ≤ 1000) (w : World) : Calls Try.prog 26 #[.string s] w fun e w' => e = .returned (.agg #[.int .i64 (cnt s.data.toList 0 : Nat), .int .i64 (cnt s.data.toList 1 : Nat), .int .i64 (cnt s.data.toList 2 : Nat), .int .i64 (cnt s.data.toList 3 : Nat)]) ∧ Below w.heap.size w w' := by
  go_enter Try.func26, Try.ntmps26
  go_wp2_with fail
  go_loopw [8] (fun i wr => ∃ k : Nat, k ≤ s.size ∧ i = .int .i64 k ∧ C4 wr w.heap.size 0 0 0 0 ∧ C4 wr (w.heap.size + 1) (cnt (s.data.toList.take k) 0 : Nat) (cnt (s.data.toList.take k) 1 : Nat) (cnt (s.data.toList.take k) 2 : Nat) (cnt (s.data.toList.take k) 3 : Nat) ∧ Below w.heap.size w wr) (fun i _ => s.size - (intOf i).toNat)
  case atStart =>
    refine ⟨0, by omega, rfl, (Below.heap_alloc _ _ _ (by simp)).trans (heap_alloc_new _ _), ?_, ((Below.refl _ _).alloc (Nat.le_refl _) _).alloc (by simp) _⟩
    rw [show w.heap.size + 1 = (w.alloc (.cells #[.int .i64 0, .int .i64 0, .int .i64 0, .int .i64 0] 34)).heap.size by simp]; exact heap_alloc_new _ _
  case round =>
    obtain ⟨k, hk, rfl, hR, hO, hb⟩ := hrel
    have HB := Lib.hid hb
    have HR := Lib.hid hR
    have hcl : ∀ i, cnt (s.data.toList.take k) i ≤ 1000 := fun i => by
      have h1 := cnt_le (s.data.toList.take k) i
      have h2 : (s.data.toList.take k).length ≤ k := List.length_take_le _ _
      omega
    have HT : Hid (∀ h : k < s.size, ∀ i, cnt (s.data.toList.take (k + 1)) i = cnt (s.data.toList.take k) i + if code (s[k]'h).toNat = i then 1 else 0) := Lib.hid fun h i => by
      rw [take_snoc s k h, cnt_snoc]
    obtain ⟨c0, e0⟩ : ∃ c, cnt (s.data.toList.take k) 0 = c := ⟨_, rfl⟩
    obtain ⟨c1, e1⟩ : ∃ c, cnt (s.data.toList.take k) 1 = c := ⟨_, rfl⟩
    obtain ⟨c2, e2⟩ : ∃ c, cnt (s.data.toList.take k) 2 = c := ⟨_, rfl⟩
    obtain ⟨c3, e3⟩ : ∃ c, cnt (s.data.toList.take k) 3 = c := ⟨_, rfl⟩
    have b0 : c0 ≤ 1000 := by rw [← e0]; exact hcl 0
    have b1 : c1 ≤ 1000 := by rw [← e1]; exact hcl 1
    have b2 : c2 ≤ 1000 := by rw [← e2]; exact hcl 2
    have b3 : c3 ≤ 1000 := by rw [← e3]; exact hcl 3
    rw [e0, e1, e2, e3] at hO
    have HO := Lib.hid hO
    have HE : Hid (cnt (s.data.toList.take k) 0 = c0 ∧ cnt (s.data.toList.take k) 1 = c1 ∧ cnt (s.data.toList.take k) 2 = c2 ∧ cnt (s.data.toList.take k) 3 = c3) := Lib.hid ⟨e0, e1, e2, e3⟩
    have o0 := hO.c0
    have o1 := hO.c1
    have o2 := hO.c2
    have o3 := hO.c3
    have of_ := hO.fr
    have ol := hO.lt
    clear hb hcl e0 e1 e2 e3
    by_cases hlt : k < s.size
    · obtain ⟨x, hx⟩ : ∃ x, s[k] = x := ⟨_, rfl⟩
      have hxl := x.toNat_lt
      have HTT : Hid (∀ i, cnt (s.data.toList.take (k + 1)) i = cnt (s.data.toList.take k) i + if code x.toNat = i then 1 else 0) := Lib.hid fun i => by
        rw [HT.out hlt i, hx]
      clear hR hO
      rcases code_range x.toNat with hc | hc | hc | hc | hc
      · have HC := Lib.hid hc
        clear hc
        go_wp2_with fail
        refine (code_at x.toNat (-1) HC.out hxl _).mono ?_; rintro e _ ⟨rfl, rfl⟩
        go_wp2_with fail
        go_roundw
        case rel =>
          refine ⟨k + 1, by omega, by go_num, HR.out, ?_, HB.out⟩
          obtain ⟨q0, q1, q2, q3⟩ := HE.out
          rw [HTT.out, HTT.out, HTT.out, HTT.out, HC.out, q0, q1, q2, q3]; exact HO.out
        case measure => simp [intOf]; omega
      · have HC := Lib.hid hc
        clear hc
        go_wp2_with fail
        refine (code_at x.toNat 0 HC.out hxl _).mono ?_; rintro e _ ⟨rfl, rfl⟩
        go_wp2_with fail
        go_roundw
        case rel =>
          refine ⟨k + 1, by omega, by go_num, HR.out.far (by simp) _, ?_, HB.out.setCell (by simp) _⟩
          obtain ⟨q0, q1, q2, q3⟩ := HE.out
          rw [HTT.out, HTT.out, HTT.out, HTT.out, HC.out, q0, q1, q2, q3]; exact HO.out.set0 _
        case measure => simp [intOf]; omega
      · have HC := Lib.hid hc
        clear hc
        go_wp2_with fail
        refine (code_at x.toNat 1 HC.out hxl _).mono ?_; rintro e _ ⟨rfl, rfl⟩
        go_wp2_with fail
        go_roundw
        case rel =>
          refine ⟨k + 1, by omega, by go_num, HR.out.far (by simp) _, ?_, HB.out.setCell (by simp) _⟩
          obtain ⟨q0, q1, q2, q3⟩ := HE.out
          rw [HTT.out, HTT.out, HTT.out, HTT.out, HC.out, q0, q1, q2, q3]; exact HO.out.set1 _
        case measure => simp [intOf]; omega
      · have HC := Lib.hid hc
        clear hc
        go_wp2_with fail
        refine (code_at x.toNat 2 HC.out hxl _).mono ?_; rintro e _ ⟨rfl, rfl⟩
        go_wp2_with fail
        go_roundw
        case rel =>
          refine ⟨k + 1, by omega, by go_num, HR.out.far (by simp) _, ?_, HB.out.setCell (by simp) _⟩
          obtain ⟨q0, q1, q2, q3⟩ := HE.out
          rw [HTT.out, HTT.out, HTT.out, HTT.out, HC.out, q0, q1, q2, q3]; exact HO.out.set2 _
        case measure => simp [intOf]; omega
      · have HC := Lib.hid hc
        clear hc
        go_wp2_with fail
        refine (code_at x.toNat 3 HC.out hxl _).mono ?_; rintro e _ ⟨rfl, rfl⟩
        go_wp2_with fail
        go_roundw
        case rel =>
          refine ⟨k + 1, by omega, by go_num, HR.out.far (by simp) _, ?_, HB.out.setCell (by simp) _⟩
          obtain ⟨q0, q1, q2, q3⟩ := HE.out
          rw [HTT.out, HTT.out, HTT.out, HTT.out, HC.out, q0, q1, q2, q3]; exact HO.out.set3 _
        case measure => simp [intOf]; omega
    · obtain rfl : s.size = k := by omega
      have HTA : Hid (s.data.toList.take s.size = s.data.toList) := Lib.hid (List.take_of_length_le (by simp))
      have r0 := hR.c0
      have r1 := hR.c1
      have r2 := hR.c2
      have r3 := hR.c3
      have rf := hR.fr
      clear hR hO
      go_wp2_with fail
      obtain ⟨q0, q1, q2, q3⟩ := HE.out
      rw [HTA.out] at q0 q1 q2 q3
      subst q0 q1 q2 q3
      exact bodyPost_ret (v := .agg #[.int .i64 (cnt s.data.toList 0 : Nat), .int .i64 (cnt s.data.toList 1 : Nat), .int .i64 (cnt s.data.toList 2 : Nat), .int .i64 (cnt s.data.toList 3 : Nat)]) (by simp [results, Try.results26, go_sem, r0, r1, r2, r3]) rfl ⟨rfl, (((HB.out.setCell (by simp) _).setCell (by simp) _).setCell (by simp) _).setCell (by simp) _⟩
set_option maxRecDepth 100000 in
set_option maxHeartbeats 2000000 in
theorem rcount_walk (s : ByteArray) (hs : s.size ≤ 1000) (w : World) : Calls Try.prog 27 #[.string s] w fun e w' => e = .returned (.agg #[.int .i64 (cnt s.data.toList 0 : Nat), .int .i64 (cnt s.data.toList 1 : Nat), .int .i64 (cnt s.data.toList 2 : Nat), .int .i64 (cnt s.data.toList 3 : Nat)]) ∧ Below w.heap.size w w' := by
  go_enter Try.func27, Try.ntmps27
  go_wp2_with fail
  go_loopw [4] (fun i wr => ∃ k : Nat, k ≤ s.size ∧ i = .int .i64 k ∧ C4 wr w.heap.size 0 0 0 0 ∧ C4 wr (w.heap.size + 1) (cnt (s.data.toList.take k) 0 : Nat) (cnt (s.data.toList.take k) 1 : Nat) (cnt (s.data.toList.take k) 2 : Nat) (cnt (s.data.toList.take k) 3 : Nat) ∧ Below w.heap.size w wr) (fun i _ => s.size - (intOf i).toNat)
  case atStart =>
    refine ⟨0, by omega, rfl, (Below.heap_alloc _ _ _ (by simp)).trans (heap_alloc_new _ _), ?_, ((Below.refl _ _).alloc (Nat.le_refl _) _).alloc (by simp) _⟩
    rw [show w.heap.size + 1 = (w.alloc (.cells #[.int .i64 0, .int .i64 0, .int .i64 0, .int .i64 0] 34)).heap.size by simp]; exact heap_alloc_new _ _
  case round =>
    obtain ⟨k, hk, rfl, hR, hO, hb⟩ := hrel
    have HB := Lib.hid hb
    have HR := Lib.hid hR
    have hcl : ∀ i, cnt (s.data.toList.take k) i ≤ 1000 := fun i => by
      have h1 := cnt_le (s.data.toList.take k) i
      have h2 : (s.data.toList.take k).length ≤ k := List.length_take_le _ _
      omega
    have HT : Hid (∀ h : k < s.size, ∀ i, cnt (s.data.toList.take (k + 1)) i = cnt (s.data.toList.take k) i + if code (s[k]'h).toNat = i then 1 else 0) := Lib.hid fun h i => by
      rw [take_snoc s k h, cnt_snoc]
    obtain ⟨c0, e0⟩ : ∃ c, cnt (s.data.toList.take k) 0 = c := ⟨_, rfl⟩
    obtain ⟨c1, e1⟩ : ∃ c, cnt (s.data.toList.take k) 1 = c := ⟨_, rfl⟩
    obtain ⟨c2, e2⟩ : ∃ c, cnt (s.data.toList.take k) 2 = c := ⟨_, rfl⟩
    obtain ⟨c3, e3⟩ : ∃ c, cnt (s.data.toList.take k) 3 = c := ⟨_, rfl⟩
    have b0 : c0 ≤ 1000 := by rw [← e0]; exact hcl 0
    have b1 : c1 ≤ 1000 := by rw [← e1]; exact hcl 1
    have b2 : c2 ≤ 1000 := by rw [← e2]; exact hcl 2
    have b3 : c3 ≤ 1000 := by rw [← e3]; exact hcl 3
    rw [e0, e1, e2, e3] at hO
    have HO := Lib.hid hO
    have HE : Hid (cnt (s.data.toList.take k) 0 = c0 ∧ cnt (s.data.toList.take k) 1 = c1 ∧ cnt (s.data.toList.take k) 2 = c2 ∧ cnt (s.data.toList.take k) 3 = c3) := Lib.hid ⟨e0, e1, e2, e3⟩
    have o0 := hO.c0
    have o1 := hO.c1
    have o2 := hO.c2
    have o3 := hO.c3
    have of_ := hO.fr
    have ol := hO.lt
    clear hb hcl e0 e1 e2 e3
    by_cases hlt : k < s.size
    · obtain ⟨x, hx⟩ : ∃ x, s[k] = x := ⟨_, rfl⟩
      have hxl := x.toNat_lt
      have HTT : Hid (∀ i, cnt (s.data.toList.take (k + 1)) i = cnt (s.data.toList.take k) i + if code x.toNat = i then 1 else 0) := Lib.hid fun i => by
        rw [HT.out hlt i, hx]
      clear hR hO
      rcases code_range x.toNat with hc | hc | hc | hc | hc
      · have HC := Lib.hid hc
        clear hc
        go_wp2_with fail
        refine (rcode_at x.toNat (-1) HC.out hxl _).mono ?_; rintro e _ ⟨rfl, rfl⟩
        go_wp2_with fail
        go_roundw
        case rel =>
          refine ⟨k + 1, by omega, by go_num, HR.out, ?_, HB.out⟩
          obtain ⟨q0, q1, q2, q3⟩ := HE.out
          rw [HTT.out, HTT.out, HTT.out, HTT.out, HC.out, q0, q1, q2, q3]; exact HO.out
        case measure => simp [intOf]; omega
      · have HC := Lib.hid hc
        clear hc
        go_wp2_with fail
        refine (rcode_at x.toNat 0 HC.out hxl _).mono ?_; rintro e _ ⟨rfl, rfl⟩
        go_wp2_with fail
        go_roundw
        case rel =>
          refine ⟨k + 1, by omega, by go_num, HR.out.far (by simp) _, ?_, HB.out.setCell (by simp) _⟩
          obtain ⟨q0, q1, q2, q3⟩ := HE.out
          rw [HTT.out, HTT.out, HTT.out, HTT.out, HC.out, q0, q1, q2, q3]; exact HO.out.set0 _
        case measure => simp [intOf]; omega
      · have HC := Lib.hid hc
        clear hc
        go_wp2_with fail
        refine (rcode_at x.toNat 1 HC.out hxl _).mono ?_; rintro e _ ⟨rfl, rfl⟩
        go_wp2_with fail
        go_roundw
        case rel =>
          refine ⟨k + 1, by omega, by go_num, HR.out.far (by simp) _, ?_, HB.out.setCell (by simp) _⟩
          obtain ⟨q0, q1, q2, q3⟩ := HE.out
          rw [HTT.out, HTT.out, HTT.out, HTT.out, HC.out, q0, q1, q2, q3]; exact HO.out.set1 _
        case measure => simp [intOf]; omega
      · have HC := Lib.hid hc
        clear hc
        go_wp2_with fail
        refine (rcode_at x.toNat 2 HC.out hxl _).mono ?_; rintro e _ ⟨rfl, rfl⟩
        go_wp2_with fail
        go_roundw
        case rel =>
          refine ⟨k + 1, by omega, by go_num, HR.out.far (by simp) _, ?_, HB.out.setCell (by simp) _⟩
          obtain ⟨q0, q1, q2, q3⟩ := HE.out
          rw [HTT.out, HTT.out, HTT.out, HTT.out, HC.out, q0, q1, q2, q3]; exact HO.out.set2 _
        case measure => simp [intOf]; omega
      · have HC := Lib.hid hc
        clear hc
        go_wp2_with fail
        refine (rcode_at x.toNat 3 HC.out hxl _).mono ?_; rintro e _ ⟨rfl, rfl⟩
        go_wp2_with fail
        go_roundw
        case rel =>
          refine ⟨k + 1, by omega, by go_num, HR.out.far (by simp) _, ?_, HB.out.setCell (by simp) _⟩
          obtain ⟨q0, q1, q2, q3⟩ := HE.out
          rw [HTT.out, HTT.out, HTT.out, HTT.out, HC.out, q0, q1, q2, q3]; exact HO.out.set3 _
        case measure => simp [intOf]; omega
    · obtain rfl : s.size = k := by omega
      have HTA : Hid (s.data.toList.take s.size = s.data.toList) := Lib.hid (List.take_of_length_le (by simp))
      have r0 := hR.c0
      have r1 := hR.c1
      have r2 := hR.c2
      have r3 := hR.c3
      have rf := hR.fr
      clear hR hO
      go_wp2_with fail
      obtain ⟨q0, q1, q2, q3⟩ := HE.out
      rw [HTA.out] at q0 q1 q2 q3
      subst q0 q1 q2 q3
      exact bodyPost_ret (v := .agg #[.int .i64 (cnt s.data.toList 0 : Nat), .int .i64 (cnt s.data.toList 1 : Nat), .int .i64 (cnt s.data.toList 2 : Nat), .int .i64 (cnt s.data.toList 3 : Nat)]) (by simp [results, Try.results27, go_sem, r0, r1, r2, r3]) rfl ⟨rfl, (((HB.out.setCell (by simp) _).setCell (by simp) _).setCell (by simp) _).setCell (by simp) _⟩
end Go.Proofs.Ytfaifdmjgkaphaa
