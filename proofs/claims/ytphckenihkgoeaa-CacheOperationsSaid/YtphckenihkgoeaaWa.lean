import Derived.BigQuiet
import Derived.Deep.Cut
import Derived.Deep.DrawnRows
import Derived.Deep.QuietTactic
import Derived.Deep.RegionHeld3
import Derived.DeepKeys4
import Derived.IntWalk
import Derived.Laws.AppendOwn
import Derived.Laws.IdiomStrings
import Derived.Lib.Hide
import Derived.LoopTactic
import Derived.MapKept
import Derived.OpenShut
import Derived.Outline
import Derived.ProofKit
import Derived.Test.YtphckenihkgoeaaRows
import Derived.WalkKit
import Derived.WalkLawsBesides
import Derived.WideLaws
namespace Go.Proofs.Ytphckenihkgoeaa
set_option linter.unusedSimpArgs false
set_option linter.unnecessarySimpa false
set_option linter.unusedVariables false
open Go.RowKit

theorem ret_int {k : IntKind} {a b : Int} (h : a = b) : Ending.returned (.int k a) = .returned (.int k b) := by rw [h]
theorem val_int {k : IntKind} {a b : Int} (h : a = b) : Value.int k a = .int k b := by rw [h]
theorem bstep {B : Nat} {a b c : World} (h : Below B a b) (hB : B ≤ a.heap.size) (k : Below b.heap.size b c) : Below B a c := h.trans (k.mono (Nat.le_trans hB h.size))
theorem below_drewN {B : Nat} {a w : World} (h : Below B a w) (n : Nat) : Below B a (w.drewN n) := h.trans ⟨rfl, rfl, rfl, Nat.le_refl _, fun _ _ => rfl⟩

/-- what is written lies in S -/
structure Touch (S : Nat → Prop) (w w' : World) : Prop where
  os : w'.os = w.os
  tape : w'.tape = w.tape
  output : w'.output = w.output
  size : w.heap.size ≤ w'.heap.size
  block : ∀ k, k < w.heap.size → ¬ S k → w'.heap[k]? = w.heap[k]?
/-- S and what was made -/
def grow (S : Nat → Prop) (w w' : World) (k : Nat) : Prop := S k ∨ (w.heap.size ≤ k ∧ k < w'.heap.size)
theorem Touch.refl (S : Nat → Prop) (w : World) : Touch S w w := ⟨rfl, rfl, rfl, Nat.le_refl _, fun _ _ _ => rfl⟩
theorem Touch.trans {S S' : Nat → Prop} {a b c : World} (h : Touch S a b) (k : Touch S' b c) (hS : ∀ i, i < a.heap.size → S' i → S i) : Touch S a c :=
  ⟨k.os.trans h.os, k.tape.trans h.tape, k.output.trans h.output, Nat.le_trans h.size k.size, fun i hi hn =>
    (k.block i (Nat.lt_of_lt_of_le hi h.size) (fun hs => hn (hS i hi hs))).trans (h.block i hi hn)⟩
theorem Touch.tran {S : Nat → Prop} {a b c : World} (h : Touch S a b) (k : Touch (grow S a b) b c) : Touch S a c :=
  h.trans k fun i hi hs => hs.elim id fun hs => absurd hs.1 (by omega)
theorem Touch.mono {S S' : Nat → Prop} {a b : World} (h : Touch S a b) (hS : ∀ i, S i → S' i) : Touch S' a b :=
  ⟨h.os, h.tape, h.output, h.size, fun i hi hn => h.block i hi fun hs => hn (hS i hs)⟩
theorem Touch.below {S : Nat → Prop} {a b : World} (h : Touch S a b) (B : Nat) (hB : B ≤ a.heap.size) (hS : ∀ i, S i → B ≤ i) : Below B a b :=
  ⟨h.os, h.tape, h.output, h.size, fun i hi => h.block i (by omega) fun hs => absurd (hS i hs) (by omega)⟩
theorem Touch.of_below {S : Nat → Prop} {a b : World} (h : Below a.heap.size a b) : Touch S a b := ⟨h.os, h.tape, h.output, h.size, fun i hi _ => h.block i hi⟩
theorem Touch.drew {S : Nat → Prop} {a b : World} (h : Touch S a b) : Touch S a b.drew := ⟨h.os, h.tape, h.output, h.size, h.block⟩
theorem Touch.alloc {S : Nat → Prop} {a b : World} (h : Touch S a b) (o : Obj) : Touch S a (b.alloc o) :=
  h.trans (S' := fun _ => False) (.of_below ((Below.refl _ _).alloc (Nat.le_refl _) o)) fun _ _ h => h.elim
theorem Touch.setCell {S : Nat → Prop} {a b : World} (h : Touch S a b) {p : Addr} (hp : S p.block ∨ a.heap.size ≤ p.block) (v : Value) : Touch S a (b.setCell p v) := by
  have hs : (b.setCell p v).heap.size = b.heap.size := by simp
  refine ⟨h.os, h.tape, h.output, by rw [hs]; exact h.size, fun i hi hn => ?_⟩
  have hne : i ≠ p.block := by
    rintro rfl
    exact hp.elim hn fun hp => absurd hp (by omega)
  exact (Below.heap_setCell b p v i hne).trans (h.block i hi hn)
theorem Touch.grown {S : Nat → Prop} {a b c : World} {row : Option Nat} (h : Touch S a b) (hg : b.grownBy c row) (hrow : ∀ k, row = some k → S k ∨ a.heap.size ≤ k) : Touch S a c :=
  h.trans (S' := fun k => some k = row) ⟨hg.os, hg.tape, hg.output, hg.size, fun k hk hn => hg.block k hk hn⟩ fun i hi he => (hrow i he.symm).elim id fun h => absurd h (by omega)

/-- a row lies on as long as its block does -/
theorem row_of {w w' : World} {e : TypeId} {size : Nat} {v : Value} {n : Nat} {xs : List Value} (h : w.ownsRow 0 e size v n xs) (he : ∀ g, v.ownBlock = some g → w'.heap[g]? = w.heap[g]?) : w'.ownsRow 0 e size v n xs := by
  refine ⟨h.1, ?_⟩
  rcases h.2 with h' | ⟨g, cap, cur, rfl, h0, hg, h1, h2, h3, h4⟩
  · exact .inl h'
  · exact .inr ⟨g, cap, cur, rfl, h0, (he g rfl).trans hg, h1, h2, h3, h4⟩
theorem row_block {w : World} {e : TypeId} {size : Nat} {v : Value} {n : Nat} {xs : List Value} (h : w.ownsRow 0 e size v n xs) {g : Nat} (hg : v.ownBlock = some g) : ∃ cur, w.heap[g]? = some (.cells cur e (0, 0)) := by
  rcases h.2 with ⟨rfl, _⟩ | ⟨g', cap, cur, rfl, _, hg', _⟩
  · simp [Value.ownBlock] at hg
  · simp [Value.ownBlock] at hg; subst hg; exact ⟨cur, hg'⟩

section
variable {w : World}
/-- a slice and its cap -/
theorem row_slice {e : TypeId} {size : Nat} {v : Value} {n : Nat} {xs : List Value} (h : w.ownsRow 0 e size v n xs) : ∃ a c, v = .slice a n c := by
  rcases h.2 with ⟨rfl, rfl⟩ | ⟨g, cap, cur, rfl, _⟩
  · exact ⟨_, _, rfl⟩
  · exact ⟨_, _, rfl⟩
/-- a slice that is not empty -/
theorem row_some {e : TypeId} {size : Nat} {v : Value} {n : Nat} {xs : List Value} (h : w.ownsRow 0 e size v n xs) (hn : 0 < n) : ∃ g c, v = .slice (some ⟨g, 0, none⟩) n c ∧ g < w.heap.size ∧ n ≤ c ∧ (∀ j x, xs[j]? = some x → w.cell? ⟨g, j, none⟩ = some x) ∧ (∀ i, w.frozen? ⟨g, i, none⟩ = false) := by
  rcases h.2 with ⟨rfl, rfl⟩ | ⟨g, cap, cur, rfl, _, hg, hc, _, _, ht⟩
  · omega
  · refine ⟨g, cap, rfl, (Array.getElem?_eq_some_iff.1 hg).1, hc, fun j x hx => ?_, fun i => by simp [World.frozen?, hg]⟩
    rw [cell_of_row w g j _ _ _ hg]
    rw [← ht, List.getElem?_take] at hx
    split at hx
    · simpa using hx
    · cases hx
end
/-- the keys -/
abbrev K := Int × Int × Int
def kv (k : K) : Value := .agg #[.int .i64 k.1, .int .i64 k.2.1, .int .i64 k.2.2]
def kcells (k : K) : List Value := [.int .i64 k.1, .int .i64 k.2.1, .int .i64 k.2.2]
def wfK (k : K) : Prop := (Lit.int .i64 k.1).wf = true ∧ (Lit.int .i64 k.2.1).wf = true ∧ (Lit.int .i64 k.2.2).wf = true
theorem kv_inj {k k' : K} (h : kv k = kv k') : k = k' := by
  obtain ⟨a, b, c⟩ := k
  obtain ⟨a', b', c'⟩ := k'
  simp [kv] at h
  obtain ⟨rfl, rfl, rfl⟩ := h
  rfl
theorem Try.laidOut : laidOutB Try.prog = true := by kernel_rfl
theorem law33 : WideMaps.KeyLaw Try.prog 33 := deep_law_laid Try.laidOut (m := 2) (by omega) (of_decide_eq_true (by kernel_rfl)) (by kernel_rfl) (by rw [Try.underlying33])
theorem cells33 : Try.prog.cellsOf 33 = 3 := by kernel_rfl
theorem cells3 : Try.prog.cellsOf 3 = 1 := by kernel_rfl
theorem key33 {k : K} (h : wfK k) : ∃ l, keyOf Try.prog 33 (kv k) = some l := by
  obtain ⟨h1, h2, h3⟩ := h
  have hf : (kv k).formed Try.prog 33 = true := by simp [kv, Value.formed, Try.underlying33, cells33]
  have hc : (kv k).cells.toList = kcells k := rfl
  unfold keyOf
  simp only [Try.underlying33, hf, hc]
  have e : Try.prog.keyLits (Try.prog.types.size + 1) 33 (kcells k) = some [.int .i64 k.1, .int .i64 k.2.1, .int .i64 k.2.2] := by
    show Program.keyLits Try.prog (Try.prog.types.size - 1 + 1 + 1) 33 _ = _
    simp only [Program.keyLits, Try.underlying33]
    simp [kcells, cells33, cells3, Try.underlying3, h1, h2, h3]
  have e2 : Try.prog.keyType 33 = true := by kernel_rfl
  rw [e, e2]
  exact ⟨_, rfl⟩
/-- a map from keys, by what it holds -/
def MapF (w : World) (B : Nat) (f : K → Option Value) : Prop := ∃ es clock, w.heap[B]? = some (.map es clock) ∧ (∀ x ∈ es.toList, ∃ k, wfK k ∧ x.key = kv k ∧ f k = some x.val) ∧ (∀ k v, f k = some v → ∃ x ∈ es.toList, x.key = kv k) ∧ MapKept.Stamped es clock
def upd (f : K → Option Value) (k : K) (v : Option Value) : K → Option Value := fun x => if x = k then v else f x
def mset (w : World) (B : Nat) (o : Obj) : World := { w with heap := w.heap.setIfInBounds B o }
theorem mset_touch {S : Nat → Prop} {w0 w : World} {B : Nat} (h : Touch S w0 w) (hB : S B ∨ w0.heap.size ≤ B) (o : Obj) : Touch S w0 (mset w B o) := by
  refine ⟨h.1, h.2, h.3, ?_, ?_⟩
  · show _ ≤ (w.heap.setIfInBounds B o).size
    rw [Array.size_setIfInBounds]; exact h.size
  · intro i hi hn
    have : i ≠ B := by rintro rfl; exact hB.elim hn fun h => absurd h (by omega)
    show (w.heap.setIfInBounds B o)[i]? = _
    rw [Array.getElem?_setIfInBounds_ne (Ne.symm this)]
    exact h.block i hi hn
theorem mset_below {N B : Nat} {w0 w : World} (h : Below N w0 w) (hB : N ≤ B) (o : Obj) : Below N w0 (mset w B o) := by
  refine ⟨h.1, h.2, h.3, ?_, ?_⟩
  · show _ ≤ (w.heap.setIfInBounds B o).size
    rw [Array.size_setIfInBounds]; exact h.size
  · intro i hi
    show (w.heap.setIfInBounds B o)[i]? = _
    rw [Array.getElem?_setIfInBounds_ne (by omega)]
    exact h.block i hi
theorem mset_far {w : World} {B C : Nat} (o : Obj) (h : C ≠ B) : (mset w B o).heap[C]? = w.heap[C]? := by
  show (w.heap.setIfInBounds B o)[C]? = _
  rw [Array.getElem?_setIfInBounds_ne (Ne.symm h)]
theorem mset_size {w : World} {B : Nat} (o : Obj) : (mset w B o).heap.size = w.heap.size := Array.size_setIfInBounds
theorem MapF.of_heap {w w' : World} {B f} (h : MapF w B f) (e : w'.heap[B]? = w.heap[B]?) : MapF w' B f := by
  obtain ⟨es, c, h, h2⟩ := h; exact ⟨es, c, e.trans h, h2⟩
theorem MapF.lt {w B f} (h : MapF w B f) : B < w.heap.size := by
  obtain ⟨es, c, h, _⟩ := h; exact (Array.getElem?_eq_some_iff.1 h).1
theorem mapF_new (w : World) : MapF (w.alloc (.map #[] 0)) w.heap.size (fun _ => none) := ⟨#[], 0, heap_alloc_new _ _, by simp, by simp, MapKept.stamped_empty 0⟩
theorem find33 {w : World} {es : Array MapEntry} {f : K → Option Value} (h1 : ∀ x ∈ es.toList, ∃ k, wfK k ∧ x.key = kv k ∧ f k = some x.val) (h2 : ∀ k v, f k = some v → ∃ x ∈ es.toList, x.key = kv k) {k : K} (hk : wfK k) :
    (f k = none ∧ (Instr.findKey 33 (kv k) es.toList).run Try.prog w = .ok none w ∧ ∀ e ∈ es.toList, e.key ≠ kv k) ∨ ∃ j e, f k = some e.val ∧ (Instr.findKey 33 (kv k) es.toList).run Try.prog w = .ok (some (j, e.val)) w ∧ es.toList[j]? = some e ∧ e.key = kv k := by
  obtain ⟨l, hl⟩ := key33 hk
  rcases law33.find w hl es.toList (fun e he => by obtain ⟨k', hk', e', _⟩ := h1 e he; rw [e']; exact key33 hk') with ⟨h3, h4⟩ | ⟨j, e, h3, h4, h5⟩
  · left
    refine ⟨?_, h3, h4⟩
    cases hf : f k with
    | none => rfl
    | some v => obtain ⟨x, hx, e⟩ := h2 k v hf; exact absurd e (h4 x hx)
  · right
    refine ⟨j, e, ?_, h3, h4, h5⟩
    obtain ⟨k', _, e', hf⟩ := h1 e (List.mem_of_getElem? h4)
    rw [h5] at e'
    rw [kv_inj e']; exact hf
theorem check33 (w : World) (b : Bool) {k : K} (hk : wfK k) : (Instr.checkKey b 10000 33 (kv k)).run Try.prog w = .ok () w := by
  obtain ⟨l, hl⟩ := key33 hk
  exact law33.check w b hl
theorem stays33 (w : World) {k : K} (hk : wfK k) : (Instr.keyThatStays (kv k) (kv k)).run Try.prog w = .ok (kv k) w := by
  obtain ⟨l, hl⟩ := key33 hk
  exact law33.stays w hl
theorem nodup_at {α β : Type} {g : α → β} {l : List α} (h : (l.map g).Nodup) {i j : Nat} {x y : α} (hi : l[i]? = some x) (hj : l[j]? = some y) (e : g x = g y) : i = j := by
  obtain ⟨h1, h1'⟩ := List.getElem?_eq_some_iff.1 hi
  obtain ⟨h2, h2'⟩ := List.getElem?_eq_some_iff.1 hj
  have hp := List.pairwise_iff_getElem.1 h
  rcases Nat.lt_trichotomy i j with hl | hl | hl
  · exact absurd (by rw [List.getElem_map, List.getElem_map, h1', h2']; exact e) (hp i j (by simpa using h1) (by simpa using h2) hl)
  · exact hl
  · exact absurd (by rw [List.getElem_map, List.getElem_map, h1', h2']; exact e.symm) (hp j i (by simpa using h2) (by simpa using h1) hl)
theorem erase_ne {l : List MapEntry} (h : (l.map (·.key)).Nodup) {j : Nat} {e x : MapEntry} (hj : l[j]? = some e) (hx : x ∈ l.eraseIdx j) : x.key ≠ e.key := by
  obtain ⟨i, hi, hx⟩ := List.mem_eraseIdx_iff_getElem?.1 hx
  exact fun he => hi (nodup_at h hx hj he)
theorem erase_mem {l : List MapEntry} {j : Nat} {e x : MapEntry} (hj : l[j]? = some e) (hx : x ∈ l) (hne : x.key ≠ e.key) : x ∈ l.eraseIdx j := by
  obtain ⟨i, hi⟩ := List.getElem?_of_mem hx
  refine List.mem_eraseIdx_iff_getElem?.2 ⟨i, ?_, hi⟩
  rintro rfl
  rw [hi] at hj; cases hj; exact hne rfl
section
variable {w : World} {B : Nat} {f : K → Option Value} {k : K} {t el : TypeId}
theorem mapF_look (h : MapF w B f) (hk : wfK k) (ht : Try.prog.underlying t = some (.map 33 el)) {v : Value} (hf : f k = some v) (ok : Bool) : (Instr.lookup t (.map (some B)) (kv k) ok).run Try.prog w = .ok (if ok then .tuple #[v, .bool true] else v) w := by
  obtain ⟨es, c, h, h1, h2, h3⟩ := h
  rcases find33 (w := w) h1 h2 hk with ⟨h4, _⟩ | ⟨j, e, h4, h5, _⟩
  · rw [hf] at h4; cases h4
  · rw [hf] at h4; injection h4 with h4; subst h4
    simp [Instr.lookup, run_underlying ht, MapKept.run_getObj_map h, check33 w _ hk, h5, Result.andThen]
theorem mapF_none (h : MapF w B f) (hk : wfK k) (ht : Try.prog.underlying t = some (.map 33 el)) {z : Value} (hz : (zeroValue el).run Try.prog w = .ok z w) (hf : f k = none) (ok : Bool) : (Instr.lookup t (.map (some B)) (kv k) ok).run Try.prog w = .ok (if ok then .tuple #[z, .bool false] else z) w := by
  obtain ⟨es, c, h, h1, h2, h3⟩ := h
  rcases find33 (w := w) h1 h2 hk with ⟨_, h5, _⟩ | ⟨j, e, h4, _⟩
  · simp [Instr.lookup, run_underlying ht, MapKept.run_getObj_map h, check33 w _ hk, h5, hz, Result.andThen]
  · rw [hf] at h4; cases h4
theorem mapF_del (h : MapF w B f) (hk : wfK k) (ht : Try.prog.underlying t = some (.map 33 el)) (t2 ty : TypeId) : ∃ o, (Builtin.delete_ #[t, t2] ty #[.map (some B), kv k]).run Try.prog w = .ok (.tuple #[]) (mset w B o) ∧ MapF (mset w B o) B (upd f k none) := by
  obtain ⟨es, c, h, h1, h2, h3⟩ := h
  rcases find33 (w := w) h1 h2 hk with ⟨h4, h5, h6⟩ | ⟨j, e, h4, h5, h6, h7⟩
  · refine ⟨.map es c, ?_, es, c, (MapKept.heap_set h).1, ?_, ?_, h3⟩
    · simp [Builtin.delete_, run_underlying ht, MapKept.run_getObj_map h, check33 w _ hk, h5, MapKept.run_setObj_map _ h, Result.andThen, mset]
    · intro x hx
      obtain ⟨k', a, b, d⟩ := h1 x hx
      refine ⟨k', a, b, ?_⟩
      unfold upd; rw [if_neg]; exact d
      rintro rfl; exact h6 x hx b
    · intro k' v hv
      unfold upd at hv
      split at hv
      · cases hv
      · exact h2 k' v hv
  · refine ⟨.map (es.eraseIdxIfInBounds j) c, ?_, es.eraseIdxIfInBounds j, c, (MapKept.heap_set h).1, ?_, ?_, ?_⟩
    · simp [Builtin.delete_, run_underlying ht, MapKept.run_getObj_map h, check33 w _ hk, h5, MapKept.run_setObj_map _ h, Result.andThen, mset]
    all_goals have hjl : j < es.size := by have := (List.getElem?_eq_some_iff.1 h6).1; simpa using this
    all_goals have hes : (es.eraseIdxIfInBounds j).toList = es.toList.eraseIdx j := by unfold Array.eraseIdxIfInBounds; rw [dif_pos hjl]; simp
    · intro x hx
      rw [hes] at hx
      have hx0 := (List.eraseIdx_sublist es.toList j).subset hx
      obtain ⟨k', a, b, d⟩ := h1 x hx0
      refine ⟨k', a, b, ?_⟩
      unfold upd; rw [if_neg]; exact d
      rintro rfl
      exact erase_ne h3.2.2 h6 hx (by rw [h7]; exact b)
    · intro k' v hv
      unfold upd at hv
      split at hv
      · cases hv
      · rename_i hne
        obtain ⟨x, hx, e'⟩ := h2 k' v hv
        refine ⟨x, ?_, e'⟩
        rw [hes]
        exact erase_mem h6 hx (by rw [h7, e']; exact fun h => hne (kv_inj h))
    · exact MapKept.stamped_erase h3 j
/-- a place for an entry has been made -/
def MapE (w : World) (B : Nat) (f : K → Option Value) (k : K) (st : Nat) : Prop := ∃ (es : Array MapEntry) (clock j : Nat) (e : MapEntry), w.heap[B]? = some (.map es clock) ∧ es[j]? = some e ∧ e.key = kv k ∧ e.born = st ∧ (∀ x ∈ es.toList, x.key ≠ kv k → ∃ k, wfK k ∧ x.key = kv k ∧ f k = some x.val) ∧ (∀ k v, f k = some v → ∃ x ∈ es.toList, x.key = kv k) ∧ MapKept.Stamped es clock
theorem MapE.of_heap {w w' : World} {B f k st} (h : MapE w B f k st) (e : w'.heap[B]? = w.heap[B]?) : MapE w' B f k st := by
  obtain ⟨es, c, j, x, h, h2⟩ := h; exact ⟨es, c, j, x, e.trans h, h2⟩
theorem mapE_new (h : MapF w B f) (hk : wfK k) (ht : Try.prog.underlying t = some (.map 33 el)) {z : Value} (hz : (zeroValue el).run Try.prog w = .ok z w) (hf : f k = none) : ∃ o st, (Instr.mapEntry t (.map (some B)) (kv k)).run Try.prog w = .ok (.tuple #[z, .int .i64 (st : Nat)]) (mset w B o) ∧ MapE (mset w B o) B f k st := by
  obtain ⟨es, c, h, h1, h2, h3⟩ := h
  rcases find33 (w := w) h1 h2 hk with ⟨h4, h5, h6⟩ | ⟨j, e, h4, h5, _⟩
  · refine ⟨.map (es.push { key := kv k, val := z, born := c }) (c + 1), c, ?_, es.push { key := kv k, val := z, born := c }, c + 1, es.size, { key := kv k, val := z, born := c }, (MapKept.heap_set h).1, by simp, rfl, rfl, ?_, ?_, MapKept.stamped_push h3 h6⟩
    · simp [Instr.mapEntry, run_underlying ht, MapKept.run_getObj_map h, check33 w _ hk, h5, hz, MapKept.run_setObj_map _ h, Result.andThen, mset, goInt]
    · intro x hx hne
      simp only [Array.toList_push, List.mem_append, List.mem_singleton] at hx
      rcases hx with hx | rfl
      · exact h1 x hx
      · exact absurd rfl hne
    · intro k' v hv
      obtain ⟨x, hx, e⟩ := h2 k' v hv
      exact ⟨x, by simp [hx], e⟩
  · rw [hf] at h4; cases h4
theorem findIdx_at {es : Array MapEntry} (hn : (es.toList.map (·.born)).Nodup) {j : Nat} {e : MapEntry} (hj : es[j]? = some e) : es.findIdx? (fun x => (x.born : Int) == ((e.born : Nat) : Int)) = some j := by
  obtain ⟨hl, he⟩ := Array.getElem?_eq_some_iff.1 hj
  rw [Array.findIdx?_eq_some_iff_getElem]
  refine ⟨hl, by simp [he], fun i hi => ?_⟩
  have := nodup_at hn (i := i) (j := j) (x := es[i]) (y := e) (by simp [show i < es.size by omega]) (by simpa using hj)
  simp
  omega
theorem mapE_store {st : Nat} (h : MapE w B f k st) (hk : wfK k) (v : Value) : ∃ o, (Instr.entryStore t (.map (some B)) (.int .i64 (st : Nat)) v).run Try.prog w = .ok () (mset w B o) ∧ MapF (mset w B o) B (upd f k (some v)) := by
  obtain ⟨es, c, j, e, h, h1, h2, h3, h4, h5, h6⟩ := h
  have hi := findIdx_at h6.2.1 h1
  rw [h3] at hi
  have hj : es.toList[j]? = some e := by simpa using h1
  have hm : ∀ x, x ∈ (es.modify j fun e => { e with val := v }).toList ↔ (x ∈ es.toList ∧ x.key ≠ kv k) ∨ x = { e with val := v } := by
    intro x
    simp only [Array.mem_toList_iff]
    constructor
    · intro hx
      obtain ⟨i, hx⟩ := Array.getElem?_of_mem hx
      rw [Array.getElem?_modify] at hx
      by_cases hij : j = i
      · subst hij
        rw [if_pos rfl, h1] at hx
        right; simpa using hx.symm
      · rw [if_neg hij] at hx
        left
        refine ⟨Array.mem_of_getElem? hx, fun hk' => hij ?_⟩
        exact nodup_at h6.2.2 hj (by simpa using hx) (by rw [h2, hk'])
    · rintro (⟨hx, hne⟩ | rfl)
      · obtain ⟨i, hx⟩ := Array.getElem?_of_mem hx
        refine Array.mem_of_getElem? (i := i) ?_
        rw [Array.getElem?_modify, if_neg]; exact hx
        rintro rfl
        rw [h1] at hx; cases hx; exact hne h2
      · refine Array.mem_of_getElem? (i := j) ?_
        rw [Array.getElem?_modify, if_pos rfl, h1]; rfl
  refine ⟨.map (es.modify j fun e => { e with val := v }) c, ?_, _, c, (MapKept.heap_set h).1, ?_, ?_, MapKept.stamped_modify h6 j _ (fun _ _ => rfl) (fun _ _ _ => rfl)⟩
  · simp [Instr.entryStore, MapKept.run_getObj_map h, hi, MapKept.run_setObj_map _ h, Result.andThen, mset, asInt, asIntOf]
  · intro x hx
    rcases (hm x).1 hx with ⟨hx, hne⟩ | rfl
    · obtain ⟨k', a, b, d⟩ := h4 x hx hne
      refine ⟨k', a, b, ?_⟩
      unfold upd; rw [if_neg]; exact d
      rintro rfl; exact hne b
    · exact ⟨k, hk, h2, by simp [upd]⟩
  · intro k' v' hv
    by_cases hkk : k' = k
    · subst hkk
      exact ⟨_, (hm _).2 (.inr rfl), h2⟩
    · unfold upd at hv
      rw [if_neg hkk] at hv
      obtain ⟨x, hx, e'⟩ := h5 k' v' hv
      exact ⟨x, (hm x).2 (.inl ⟨hx, by rw [e']; exact fun h => hkk (kv_inj h)⟩), e'⟩
/-- m[k] = v -/
theorem mapF_upd (h : MapF w B f) (hk : wfK k) (ht : Try.prog.underlying t = some (.map 33 el)) (v : Value) : ∃ o, (Instr.mapUpdate t (.map (some B)) (kv k) v).run Try.prog w = .ok () (mset w B o) ∧ MapF (mset w B o) B (upd f k (some v)) := by
  obtain ⟨es, c, h, h1, h2, h3⟩ := h
  rcases find33 (w := w) h1 h2 hk with ⟨h4, h5, h6⟩ | ⟨j, e, h4, h5, h6, h7⟩
  · refine ⟨.map (es.push { key := kv k, val := v, born := c }) (c + 1), ?_, _, _, (MapKept.heap_set h).1, ?_, ?_, MapKept.stamped_push h3 h6⟩
    · simp [Instr.mapUpdate, run_underlying ht, MapKept.run_getObj_map h, check33 w _ hk, h5, MapKept.run_setObj_map _ h, Result.andThen, mset]
    · intro x hx
      simp only [Array.toList_push, List.mem_append, List.mem_singleton] at hx
      rcases hx with hx | rfl
      · obtain ⟨k', a, b, d⟩ := h1 x hx
        refine ⟨k', a, b, ?_⟩
        unfold upd; rw [if_neg]; exact d
        rintro rfl; exact h6 x hx b
      · exact ⟨k, hk, rfl, by simp [upd]⟩
    · intro k' v' hv
      by_cases hkk : k' = k
      · subst hkk
        exact ⟨{ key := kv k', val := v, born := c }, by simp, rfl⟩
      · unfold upd at hv
        rw [if_neg hkk] at hv
        obtain ⟨x, hx, e'⟩ := h2 k' v' hv
        exact ⟨x, by simp [hx], e'⟩
  · have hj : es[j]? = some e := by simpa using h6
    have hE : MapE w B f k e.born := ⟨es, c, j, e, h, hj, h7, rfl, fun x hx _ => h1 x hx, h2, h3⟩
    have hi := findIdx_at h3.2.1 hj
    have hq : es.modify j (fun e => { e with key := kv k, val := v }) = es.modify j (fun e => { e with val := v }) := by
      apply Array.ext_getElem?
      intro i
      rw [Array.getElem?_modify, Array.getElem?_modify]
      by_cases hij : j = i
      · subst hij
        rw [if_pos rfl, if_pos rfl, hj]
        simp [h7]
      · rw [if_neg hij, if_neg hij]
    obtain ⟨o, hr, hF⟩ := mapE_store (t := t) hE hk v
    have ho : mset w B o = mset w B (.map (es.modify j fun e => { e with val := v }) c) := by
      simp [Instr.entryStore, MapKept.run_getObj_map h, hi, MapKept.run_setObj_map _ h, Result.andThen, asInt, asIntOf] at hr
      exact hr.symm
    rw [ho] at hF
    refine ⟨_, ?_, hF⟩
    simp [Instr.mapUpdate, run_underlying ht, MapKept.run_getObj_map h, check33 w _ hk, h5, MapKept.run_setObj_map _ h, Result.andThen, hj, h7, stays33 w hk, mset]
    exact congrArg (fun x => w.heap.setIfInBounds B (Obj.map x c)) hq
end
end Go.Proofs.Ytphckenihkgoeaa
