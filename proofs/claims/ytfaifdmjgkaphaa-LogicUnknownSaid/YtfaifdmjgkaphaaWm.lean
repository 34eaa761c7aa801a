import Derived.Test.YtfaifdmjgkaphaaWf
import Derived.MapKept
import Derived.WideLaws
import Derived.Laws.IdiomStrings
namespace Go.Proofs.Ytfaifdmjgkaphaa
open Go.RowKit

/-- a map of bytes to true, by its keys -/
def MB (w : World) (B : Nat) (ks : List Nat) : Prop := ∃ es clock, w.heap[B]? = some (.map es clock) ∧ es.toList.map (fun e => (e.key, e.val)) = ks.map (fun (k : Nat) => (Value.int .u8 (k : Int), Value.bool true))
def ins (ks : List Nat) (k : Nat) : List Nat := if k ∈ ks then ks else ks ++ [k]
def mset (w : World) (B : Nat) (o : Obj) : World := { w with heap := w.heap.setIfInBounds B o }
theorem MB.lt {w B ks} (h : MB w B ks) : B < w.heap.size := by
  obtain ⟨es, c, h, _⟩ := h; exact (Array.getElem?_eq_some_iff.1 h).1
theorem MB.of_heap {w w' : World} {B ks} (h : MB w B ks) (e : w'.heap[B]? = w.heap[B]?) : MB w' B ks := by
  obtain ⟨es, c, h, h2⟩ := h; exact ⟨es, c, e.trans h, h2⟩
theorem MB.below {w w' B ks} {N : Nat} (h : MB w B ks) (hb : Below N w w') (hN : B < N) : MB w' B ks := h.of_heap (hb.block B hN)
theorem mb_new (w : World) : MB (w.alloc (.map #[] 0)) w.heap.size [] := ⟨#[], 0, heap_alloc_new _ _, rfl⟩
theorem MB.keys {es : Array MapEntry} {ks : List Nat} (h2 : es.toList.map (fun e => (e.key, e.val)) = ks.map (fun (k : Nat) => (Value.int .u8 (k : Int), Value.bool true))) {x : MapEntry} (hx : x ∈ es.toList) : ∃ k ∈ ks, x.key = .int .u8 (k : Int) ∧ x.val = .bool true := by
  have : (x.key, x.val) ∈ es.toList.map (fun e => (e.key, e.val)) := List.mem_map.2 ⟨x, hx, rfl⟩
  rw [h2] at this
  obtain ⟨k, hk, e⟩ := List.mem_map.1 this
  injection e with e1 e2
  exact ⟨k, hk, e1.symm, e2.symm⟩
theorem MB.isKey {es : Array MapEntry} {ks : List Nat} (h2 : es.toList.map (fun e => (e.key, e.val)) = ks.map (fun (k : Nat) => (Value.int .u8 (k : Int), Value.bool true))) : ∀ x ∈ es.toList, MapKept.IsKey (.int .u8) x.key := fun x hx => by
  obtain ⟨k, _, e, _⟩ := MB.keys h2 hx
  rw [e]; simp [MapKept.IsKey]
theorem MB.mem {es : Array MapEntry} {ks : List Nat} (h2 : es.toList.map (fun e => (e.key, e.val)) = ks.map (fun (k : Nat) => (Value.int .u8 (k : Int), Value.bool true))) (k : Nat) : k ∈ ks ↔ ∃ x ∈ es.toList, x.key = .int .u8 (k : Int) := by
  constructor
  · intro hk
    have : (Value.int .u8 (k : Int), Value.bool true) ∈ es.toList.map (fun e => (e.key, e.val)) := by rw [h2]; exact List.mem_map.2 ⟨k, hk, rfl⟩
    obtain ⟨x, hx, e⟩ := List.mem_map.1 this
    injection e with e1 e2
    exact ⟨x, hx, e1⟩
  · rintro ⟨x, hx, e⟩
    obtain ⟨k', hk', e', _⟩ := MB.keys h2 hx
    rw [e] at e'
    injection e' with _ e'
    have : k = k' := by omega
    rw [this]; exact hk'
theorem mb_len {w : World} {B : Nat} {ks : List Nat} (h : MB w B ks) : (Builtin.len_ #[25] 3 #[.map (some B)]).run Try.prog w = .ok (.int .i64 (ks.length : Nat)) w := by
  obtain ⟨es, c, h, h2⟩ := h
  rw [run_len_map (P := Try.prog) w 25 3 B es c rfl h]
  have : es.size = ks.length := by
    have e := congrArg List.length h2
    simpa using e
  rw [this]; rfl
theorem mb_look {w : World} {B : Nat} {ks : List Nat} (h : MB w B ks) (k : Nat) : (Instr.lookup 25 (.map (some B)) (.int .u8 (k : Int)) false).run Try.prog w = .ok (.bool (decide (k ∈ ks))) w := by
  obtain ⟨es, c, h, h2⟩ := h
  have hk : MapKept.IsKey (.int .u8) (.int .u8 (k : Int)) := by simp [MapKept.IsKey]
  have hd : Try.prog.underlying 5 = some (.int .u8) := Try.underlying5
  rcases MapKept.findNow_spec hk es.toList 0 (MB.isKey h2) with ⟨h1, h3⟩ | ⟨j, e, h1, h3, h4⟩
  · have hn : ¬ k ∈ ks := by
      rw [MB.mem h2]; rintro ⟨x, hx, e⟩; exact h3 x hx e
    simp [Instr.lookup, run_underlying Try.underlying25, MapKept.run_getObj_map h, MapKept.run_checkKey hd hk, MapKept.run_findKey hd h1, Result.andThen, hn, go_sem]
  · have hm : e ∈ es.toList := List.mem_of_getElem? h3
    have hn : k ∈ ks := by rw [MB.mem h2]; exact ⟨e, hm, h4⟩
    obtain ⟨_, _, _, hv⟩ := MB.keys h2 hm
    simp [Instr.lookup, run_underlying Try.underlying25, MapKept.run_getObj_map h, MapKept.run_checkKey hd hk, MapKept.run_findKey hd h1, Result.andThen, hn, hv]
theorem mb_upd {w : World} {B : Nat} {ks : List Nat} (h : MB w B ks) (k : Nat) : ∃ o, (Instr.mapUpdate 25 (.map (some B)) (.int .u8 (k : Int)) (.bool true)).run Try.prog w = .ok () (mset w B o) ∧ MB (mset w B o) B (ins ks k) := by
  obtain ⟨es, c, h, h2⟩ := h
  have hk : MapKept.IsKey (.int .u8) (.int .u8 (k : Int)) := by simp [MapKept.IsKey]
  have hd : Try.prog.underlying 5 = some (.int .u8) := Try.underlying5
  rcases MapKept.findNow_spec hk es.toList 0 (MB.isKey h2) with ⟨h1, h3⟩ | ⟨j, e, h1, h3, h4⟩
  · have hn : ¬ k ∈ ks := by
      rw [MB.mem h2]; rintro ⟨x, hx, e⟩; exact h3 x hx e
    refine ⟨.map (es.push { key := .int .u8 (k : Int), val := .bool true, born := c }) (c + 1), ?_, _, _, (MapKept.heap_set h).1, ?_⟩
    · simp [Instr.mapUpdate, run_underlying Try.underlying25, MapKept.run_getObj_map h, MapKept.run_checkKey hd hk, MapKept.run_findKey hd h1, MapKept.run_setObj_map _ h, Result.andThen, mset]
    · simp [ins, hn, h2]
  · have hm : e ∈ es.toList := List.mem_of_getElem? h3
    have hn : k ∈ ks := by rw [MB.mem h2]; exact ⟨e, hm, h4⟩
    have hj : es[j]? = some e := by simpa using h3
    have hjl : j < es.size := (Array.getElem?_eq_some_iff.1 hj).1
    refine ⟨.map (es.modify j fun e => { e with key := .int .u8 (k : Int), val := .bool true }) c, ?_, _, _, (MapKept.heap_set h).1, ?_⟩
    · simp [Instr.mapUpdate, run_underlying Try.underlying25, MapKept.run_getObj_map h, MapKept.run_checkKey hd hk, MapKept.run_findKey hd h1, MapKept.run_setObj_map _ h, Result.andThen, mset, hj, h4, MapKept.run_keyThatStays hk]
    · rw [ins, if_pos hn, ← h2]
      apply List.ext_getElem?
      intro i
      simp only [List.getElem?_map, Array.getElem?_toList, Array.getElem?_modify]
      by_cases hi : j = i
      · subst hi
        obtain ⟨_, _, _, hv⟩ := MB.keys h2 hm
        simp [hj, h4, hv]
      · simp [hi]
theorem mset_below {N B : Nat} {w0 w : World} (h : Below N w0 w) (hB : N ≤ B) (o : Obj) : Below N w0 (mset w B o) := by
  refine ⟨h.1, h.2, h.3, ?_, ?_⟩
  · show _ ≤ (w.heap.setIfInBounds B o).size
    rw [Array.size_setIfInBounds]; exact h.size
  · intro i hi
    show (w.heap.setIfInBounds B o)[i]? = _
    rw [Array.getElem?_setIfInBounds_ne (by omega)]
    exact h.block i hi
theorem mset_far {w : World} {B C : Nat} (o : Obj) (h : C ≠ B) : (mset w B o).heap[C]? = w.heap[C]? := by
  show (w.heap.setIfInBounds B o)[C]? = _
  rw [Array.getElem?_setIfInBounds_ne (Ne.symm h)]
theorem mset_size {w : World} {B : Nat} (o : Obj) : (mset w B o).heap.size = w.heap.size := Array.size_setIfInBounds
/-- the ways of a character -/
def wL (c : Nat) : List Nat := if c = 48 ∨ c = 49 then [c] else [48, 49]
def wB (c : Nat) : ByteArray := ⟨((wL c).map UInt8.ofNat).toArray⟩
theorem conv1 (w : World) (x : Int) : (convert 26 9 (.slice (some ⟨w.heap.size, 0, none⟩) 1 1)).run Try.prog (w.alloc (.cells #[.int .u8 x] 5)) =
    .ok (.string ⟨#[UInt8.ofNat x.toNat]⟩) (w.alloc (.cells #[.int .u8 x] 5)) := by
  have := run_convert_bytes_arg (P := Try.prog) (w.alloc (.cells #[.int .u8 x] 5)) 26 5 Try.underlying26 Try.underlying5 w.heap.size 0 1 1 [x] rfl (by
    intro i hi
    rw [World.cell?_alloc_mark]
    match i, hi with
    | 0, _ => rfl) 9 Try.underlying9
  exact this
theorem ways_walk (c : Nat) (hc : c < 256) (w : World) : Calls Try.prog 14 #[.int .u8 c] w fun e w' => e = .returned (.string (wB c)) ∧ Below w.heap.size w w' := by
  have hcv := fun x => conv1 w x
  by_cases h : c = 48 ∨ c = 49
  · have e : wB c = ⟨#[UInt8.ofNat ((c : Nat) : Int).toNat]⟩ := by unfold wB wL; rw [if_pos h]; rfl
    rw [e]
    have h48 : ((c : Int) == 48) = decide (c = 48) := by rw [Bool.eq_iff_iff]; simp; omega
    have h49 : ((c : Int) == 49) = decide (c = 49) := by rw [Bool.eq_iff_iff]; simp; omega
    have hb : Below w.heap.size w (w.alloc (.cells #[.int .u8 (c : Int)] 5)) := (Below.refl _ _).alloc (Nat.le_refl _) _
    rcases h with rfl | rfl
    · go_enter Try.func14, Try.ntmps14
      go_wp2
      go_ret
      exact ⟨rfl, hb⟩
    · go_enter Try.func14, Try.ntmps14
      go_wp2
      go_ret
      exact ⟨rfl, hb⟩
  · have e : wB c = ⟨#[48, 49]⟩ := by unfold wB wL; rw [if_neg h]; rfl
    rw [e]
    have h48 : ((c : Int) == 48) = false := by rw [Bool.eq_false_iff]; simp; omega
    have h49 : ((c : Int) == 49) = false := by rw [Bool.eq_false_iff]; simp; omega
    clear h
    go_enter Try.func14, Try.ntmps14
    go_wp2
    go_ret
    exact ⟨rfl, Below.refl _ _⟩
end Go.Proofs.Ytfaifdmjgkaphaa
