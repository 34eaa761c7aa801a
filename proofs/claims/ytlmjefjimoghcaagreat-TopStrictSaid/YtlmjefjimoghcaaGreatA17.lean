/- A part of the proofs of TopCounter and TopStrict: what the functions of the program do, each walked once, and plain laws about it. No condition. -/
import Derived.Test.YtlmjefjimoghcaaGreatA15
namespace Go.Proofs.YtlmjefjimoghcaaGreat
set_option linter.unusedSectionVars false
set_option linter.unusedSimpArgs false
set_option linter.unnecessarySimpa false
set_option linter.unusedVariables false
open Go.RowKit
structure KeyT {K : Type} (kt : TypeId) (d : TypeDesc) (kv : K → Value) (wf : K → Prop) : Prop where
 hd : Tryz.prog.underlying kt = some d
 is : ∀ {k}, wf k → MapKept.IsKey d (kv k)
 inj : ∀ {a b}, kv a = kv b → a = b
section
variable {K : Type} [DecidableEq K] {kt : TypeId} {d : TypeDesc} {kv : K → Value} {wf : K → Prop}
/-- a map from keys, by what it holds -/
def MapF (kv : K → Value) (wf : K → Prop) (w : World) (B : Nat) (f : K → Option Value) : Prop := ∃ es clock, w.heap[B]? = some (.map es clock) ∧ (∀ x ∈ es.toList, ∃ k, wf k ∧ x.key = kv k ∧ f k = some x.val) ∧ (∀ k v, f k = some v → ∃ x ∈ es.toList, x.key = kv k) ∧ MapKept.Stamped es clock
def upd (f : K → Option Value) (k : K) (v : Option Value) : K → Option Value := fun x => if x = k then v else f x
def mset (w : World) (B : Nat) (o : Obj) : World := { w with heap := w.heap.setIfInBounds B o }
theorem mset_below {N B : Nat} {w0 w : World} (h : Below N w0 w) (hB : N ≤ B) (o : Obj) : Below N w0 (mset w B o) := by
 refine ⟨h.1, h.2, h.3, ?_, ?_⟩
 ·show _ ≤ (w.heap.setIfInBounds B o).size
  rw [Array.size_setIfInBounds]; exact h.size
 ·intro i hi
  show (w.heap.setIfInBounds B o)[i]? = _
  rw [Array.getElem?_setIfInBounds_ne (by omega)]
  exact h.block i hi
theorem mset_far {w : World} {B C : Nat} (o : Obj) (h : C ≠ B) : (mset w B o).heap[C]? = w.heap[C]? := by
 show (w.heap.setIfInBounds B o)[C]? = _
 rw [Array.getElem?_setIfInBounds_ne (Ne.symm h)]
theorem MapF.of_heap {w w' : World} {B f} (h : MapF kv wf w B f) (e : w'.heap[B]? = w.heap[B]?) : MapF kv wf w' B f := by
 obtain ⟨es, c, h, h2⟩ := h; exact ⟨es, c, e.trans h, h2⟩
theorem MapF.lt {w B f} (h : MapF kv wf w B f) : B < w.heap.size := by
 obtain ⟨es, c, h, _⟩ := h; exact (Array.getElem?_eq_some_iff.1 h).1
theorem mapF_new (w : World) : MapF kv wf (w.alloc (.map #[] 0)) w.heap.size (fun _ => none) := ⟨#[], 0, heap_alloc_new _ _, by simp, by simp, MapKept.stamped_empty 0⟩
theorem findG (hK : KeyT kt d kv wf) {w : World} {es : Array MapEntry} {f : K → Option Value} (h1 : ∀ x ∈ es.toList, ∃ k, wf k ∧ x.key = kv k ∧ f k = some x.val) (h2 : ∀ k v, f k = some v → ∃ x ∈ es.toList, x.key = kv k) {k : K} (hk : wf k) :
  (f k = none ∧ (Instr.findKey kt (kv k) es.toList).run Tryz.prog w = .ok none w ∧ ∀ e ∈ es.toList, e.key ≠ kv k) ∨ ∃ j e, f k = some e.val ∧ (Instr.findKey kt (kv k) es.toList).run Tryz.prog w = .ok (some (j, e.val)) w ∧ es.toList[j]? = some e ∧ e.key = kv k := by
 rcases MapKept.findNow_spec (hK.is hk) es.toList 0 (fun e he => by obtain ⟨k', hk', e', _⟩ := h1 e he; rw [e']; exact hK.is hk') with ⟨h3, h4⟩ | ⟨j, e, h3, h4, h5⟩
 ·left
  refine ⟨?_, MapKept.run_findKey hK.hd h3, h4⟩
  cases hf : f k with
  | none => rfl
  | some v => obtain ⟨x, hx, e⟩ := h2 k v hf; exact absurd e (h4 x hx)
 ·right
  refine ⟨j, e, ?_, by simpa using MapKept.run_findKey (w := w) hK.hd h3, h4, h5⟩
  obtain ⟨k', _, e', hf⟩ := h1 e (List.mem_of_getElem? h4)
  rw [h5] at e'
  rw [hK.inj e']; exact hf
theorem checkG (hK : KeyT kt d kv wf) (w : World) (b : Bool) {k : K} (hk : wf k) : (Instr.checkKey b 10000 kt (kv k)).run Tryz.prog w = .ok () w := MapKept.run_checkKey hK.hd (hK.is hk) b 9999
theorem staysG (hK : KeyT kt d kv wf) (w : World) {k : K} (hk : wf k) : (Instr.keyThatStays (kv k) (kv k)).run Tryz.prog w = .ok (kv k) w := MapKept.run_keyThatStays (hK.is hk)
theorem nodup_at {α β : Type} {g : α → β} {l : List α} (h : (l.map g).Nodup) {i j : Nat} {x y : α} (hi : l[i]? = some x) (hj : l[j]? = some y) (e : g x = g y) : i = j := by
 obtain ⟨h1, h1'⟩ := List.getElem?_eq_some_iff.1 hi
 obtain ⟨h2, h2'⟩ := List.getElem?_eq_some_iff.1 hj
 have hp := List.pairwise_iff_getElem.1 h
 rcases Nat.lt_trichotomy i j with hl | hl | hl
 ·exact absurd (by rw [List.getElem_map, List.getElem_map, h1', h2']; exact e) (hp i j (by simpa using h1) (by simpa using h2) hl)
 ·exact hl
 ·exact absurd (by rw [List.getElem_map, List.getElem_map, h1', h2']; exact e.symm) (hp j i (by simpa using h2) (by simpa using h1) hl)
section
variable {w : World} {B : Nat} {f : K → Option Value} {k : K} {t el : TypeId}
set_option maxRecDepth 100000 in
theorem mapF_look (hK : KeyT kt d kv wf) (h : MapF kv wf w B f) (hk : wf k) (ht : Tryz.prog.underlying t = some (.map kt el)) {v : Value} (hf : f k = some v) (ok : Bool) : (Instr.lookup t (.map (some B)) (kv k) ok).run Tryz.prog w = .ok (if ok then .tuple #[v, .bool true] else v) w := by
 obtain ⟨es, c, h, h1, h2, h3⟩ := h
 rcases findG hK (w := w) h1 h2 hk with ⟨h4, _⟩ | ⟨j, e, h4, h5, _⟩
 ·rw [hf] at h4; cases h4
 ·rw [hf] at h4; injection h4 with h4; subst h4
  simp [Instr.lookup, run_underlying ht, MapKept.run_getObj_map h, checkG hK w _ hk, h5, Result.andThen]
theorem mapF_none (hK : KeyT kt d kv wf) (h : MapF kv wf w B f) (hk : wf k) (ht : Tryz.prog.underlying t = some (.map kt el)) {z : Value} (hz : (zeroValue el).run Tryz.prog w = .ok z w) (hf : f k = none) (ok : Bool) : (Instr.lookup t (.map (some B)) (kv k) ok).run Tryz.prog w = .ok (if ok then .tuple #[z, .bool false] else z) w := by
 obtain ⟨es, c, h, h1, h2, h3⟩ := h
 rcases findG hK (w := w) h1 h2 hk with ⟨_, h5, _⟩ | ⟨j, e, h4, _⟩
 ·simp [Instr.lookup, run_underlying ht, MapKept.run_getObj_map h, checkG hK w _ hk, h5, hz, Result.andThen]
 ·rw [hf] at h4; cases h4
/-- a place for an entry has been made -/
def MapE (kv : K → Value) (wf : K → Prop) (w : World) (B : Nat) (f : K → Option Value) (k : K) (st : Nat) : Prop := ∃ (es : Array MapEntry) (clock j : Nat) (e : MapEntry), w.heap[B]? = some (.map es clock) ∧ es[j]? = some e ∧ e.key = kv k ∧ e.born = st ∧ (∀ x ∈ es.toList, x.key ≠ kv k → ∃ k, wf k ∧ x.key = kv k ∧ f k = some x.val) ∧ (∀ k v, f k = some v → ∃ x ∈ es.toList, x.key = kv k) ∧ MapKept.Stamped es clock
theorem MapE.of_heap {w w' : World} {B f k st} (h : MapE kv wf w B f k st) (e : w'.heap[B]? = w.heap[B]?) : MapE kv wf w' B f k st := by
 obtain ⟨es, c, j, x, h, h2⟩ := h; exact ⟨es, c, j, x, e.trans h, h2⟩
theorem mapE_new (hK : KeyT kt d kv wf) (h : MapF kv wf w B f) (hk : wf k) (ht : Tryz.prog.underlying t = some (.map kt el)) {z : Value} (hz : (zeroValue el).run Tryz.prog w = .ok z w) (hf : f k = none) : ∃ o st, (Instr.mapEntry t (.map (some B)) (kv k)).run Tryz.prog w = .ok (.tuple #[z, .int .i64 (st : Nat)]) (mset w B o) ∧ MapE kv wf (mset w B o) B f k st := by
 obtain ⟨es, c, h, h1, h2, h3⟩ := h
 rcases findG hK (w := w) h1 h2 hk with ⟨h4, h5, h6⟩ | ⟨j, e, h4, h5, _⟩
 ·refine ⟨.map (es.push { key := kv k, val := z, born := c }) (c + 1), c, ?_, es.push { key := kv k, val := z, born := c }, c + 1, es.size, { key := kv k, val := z, born := c }, (MapKept.heap_set h).1, by simp, rfl, rfl, ?_, ?_, MapKept.stamped_push h3 h6⟩
  ·simp [Instr.mapEntry, run_underlying ht, MapKept.run_getObj_map h, checkG hK w _ hk, h5, hz, MapKept.run_setObj_map _ h, Result.andThen, mset, goInt]
  ·intro x hx hne
   simp only [Array.toList_push, List.mem_append, List.mem_singleton] at hx
   rcases hx with hx | rfl
   ·exact h1 x hx
   ·exact absurd rfl hne
  ·intro k' v hv
   obtain ⟨x, hx, e⟩ := h2 k' v hv
   exact ⟨x, by simp [hx], e⟩
 ·rw [hf] at h4; cases h4
theorem findIdx_at {es : Array MapEntry} (hn : (es.toList.map (·.born)).Nodup) {j : Nat} {e : MapEntry} (hj : es[j]? = some e) : es.findIdx? (fun x => (x.born : Int) == ((e.born : Nat) : Int)) = some j := by
 obtain ⟨hl, he⟩ := Array.getElem?_eq_some_iff.1 hj
 rw [Array.findIdx?_eq_some_iff_getElem]
 refine ⟨hl, by simp [he], fun i hi => ?_⟩
 have := nodup_at hn (i := i) (j := j) (x := es[i]) (y := e) (by simp [show i < es.size by omega]) (by simpa using hj)
 simp
 omega
theorem mapE_store (hK : KeyT kt d kv wf) {st : Nat} (h : MapE kv wf w B f k st) (hk : wf k) (v : Value) : ∃ o, (Instr.entryStore t (.map (some B)) (.int .i64 (st : Nat)) v).run Tryz.prog w = .ok () (mset w B o) ∧ MapF kv wf (mset w B o) B (upd f k (some v)) := by
 obtain ⟨es, c, j, e, h, h1, h2, h3, h4, h5, h6⟩ := h
 have hi := findIdx_at h6.2.1 h1
 rw [h3] at hi
 have hj : es.toList[j]? = some e := by simpa using h1
 have hm : ∀ x, x ∈ (es.modify j fun e => { e with val := v }).toList ↔ (x ∈ es.toList ∧ x.key ≠ kv k) ∨ x = { e with val := v } := by
  intro x
  simp only [Array.mem_toList_iff]
  constructor
  ·intro hx
   obtain ⟨i, hx⟩ := Array.getElem?_of_mem hx
   rw [Array.getElem?_modify] at hx
   by_cases hij : j = i
   ·subst hij
    rw [if_pos rfl, h1] at hx
    right; simpa using hx.symm
   ·rw [if_neg hij] at hx
    left
    refine ⟨Array.mem_of_getElem? hx, fun hk' => hij ?_⟩
    exact nodup_at h6.2.2 hj (by simpa using hx) (by rw [h2, hk'])
  ·rintro (⟨hx, hne⟩ | rfl)
   ·obtain ⟨i, hx⟩ := Array.getElem?_of_mem hx
    refine Array.mem_of_getElem? (i := i) ?_
    rw [Array.getElem?_modify, if_neg]; exact hx
    rintro rfl
    rw [h1] at hx; cases hx; exact hne h2
   ·refine Array.mem_of_getElem? (i := j) ?_
    rw [Array.getElem?_modify, if_pos rfl, h1]; rfl
 refine ⟨.map (es.modify j fun e => { e with val := v }) c, ?_, _, c, (MapKept.heap_set h).1, ?_, ?_, MapKept.stamped_modify h6 j _ (fun _ _ => rfl) (fun _ _ _ => rfl)⟩
 ·simp [Instr.entryStore, MapKept.run_getObj_map h, hi, MapKept.run_setObj_map _ h, Result.andThen, mset, asInt, asIntOf]
 ·intro x hx
  rcases (hm x).1 hx with ⟨hx, hne⟩ | rfl
  ·obtain ⟨k', a, b, d⟩ := h4 x hx hne
   refine ⟨k', a, b, ?_⟩
   unfold upd; rw [if_neg]; exact d
   rintro rfl; exact hne b
  ·exact ⟨k, hk, h2, by simp [upd]⟩
 ·intro k' v' hv
  by_cases hkk : k' = k
  ·subst hkk
   exact ⟨_, (hm _).2 (.inr rfl), h2⟩
  ·unfold upd at hv
   rw [if_neg hkk] at hv
   obtain ⟨x, hx, e'⟩ := h5 k' v' hv
   exact ⟨x, (hm x).2 (.inl ⟨hx, by rw [e']; exact fun h => hkk (hK.inj h)⟩), e'⟩
/-- m[k] = v -/
theorem mapF_upd (hK : KeyT kt d kv wf) (h : MapF kv wf w B f) (hk : wf k) (ht : Tryz.prog.underlying t = some (.map kt el)) (v : Value) : ∃ o, (Instr.mapUpdate t (.map (some B)) (kv k) v).run Tryz.prog w = .ok () (mset w B o) ∧ MapF kv wf (mset w B o) B (upd f k (some v)) := by
 obtain ⟨es, c, h, h1, h2, h3⟩ := h
 rcases findG hK (w := w) h1 h2 hk with ⟨h4, h5, h6⟩ | ⟨j, e, h4, h5, h6, h7⟩
 ·refine ⟨.map (es.push { key := kv k, val := v, born := c }) (c + 1), ?_, _, _, (MapKept.heap_set h).1, ?_, ?_, MapKept.stamped_push h3 h6⟩
  ·simp [Instr.mapUpdate, run_underlying ht, MapKept.run_getObj_map h, checkG hK w _ hk, h5, MapKept.run_setObj_map _ h, Result.andThen, mset]
  ·intro x hx
   simp only [Array.toList_push, List.mem_append, List.mem_singleton] at hx
   rcases hx with hx | rfl
   ·obtain ⟨k', a, b, d⟩ := h1 x hx
    refine ⟨k', a, b, ?_⟩
    unfold upd; rw [if_neg]; exact d
    rintro rfl; exact h6 x hx b
   ·exact ⟨k, hk, rfl, by simp [upd]⟩
  ·intro k' v' hv
   by_cases hkk : k' = k
   ·subst hkk
    exact ⟨{ key := kv k', val := v, born := c }, by simp, rfl⟩
   ·unfold upd at hv
    rw [if_neg hkk] at hv
    obtain ⟨x, hx, e'⟩ := h2 k' v' hv
    exact ⟨x, by simp [hx], e'⟩
 ·have hj : es[j]? = some e := by simpa using h6
  have hE : MapE kv wf w B f k e.born := ⟨es, c, j, e, h, hj, h7, rfl, fun x hx _ => h1 x hx, h2, h3⟩
  have hi := findIdx_at h3.2.1 hj
  have hq : es.modify j (fun e => { e with key := kv k, val := v }) = es.modify j (fun e => { e with val := v }) := by
   apply Array.ext_getElem?
   intro i
   rw [Array.getElem?_modify, Array.getElem?_modify]
   by_cases hij : j = i
   ·subst hij
    rw [if_pos rfl, if_pos rfl, hj]
    simp [h7]
   ·rw [if_neg hij, if_neg hij]
  obtain ⟨o, hr, hF⟩ := mapE_store hK (t := t) hE hk v
  have ho : mset w B o = mset w B (.map (es.modify j fun e => { e with val := v }) c) := by
   simp [Instr.entryStore, MapKept.run_getObj_map h, hi, MapKept.run_setObj_map _ h, Result.andThen, asInt, asIntOf] at hr
   exact hr.symm
  rw [ho] at hF
  refine ⟨_, ?_, hF⟩
  simp [Instr.mapUpdate, run_underlying ht, MapKept.run_getObj_map h, checkG hK w _ hk, h5, MapKept.run_setObj_map _ h, Result.andThen, hj, h7, staysG hK w hk, mset]
  exact congrArg (fun x => w.heap.setIfInBounds B (Obj.map x c)) hq
end
end
theorem keyStr : KeyT (K := List UInt8) 9 .string (fun k => .string (sB k)) (fun _ => True) := ⟨Tryz.underlying9, fun _ => trivial, by intro a b h; injection h with h; exact congrArg (fun x : ByteArray => x.data.toList) h⟩
theorem keyInt : KeyT (K := Int) 3 (.int .i64) (fun k => .int .i64 k) (fun _ => True) := ⟨Tryz.underlying3, fun _ => rfl, by intro a b h; injection h⟩
end Go.Proofs.YtlmjefjimoghcaaGreat
namespace Go.Proofs.YtlmjefjimoghcaaGreat
set_option linter.unusedSimpArgs false
set_option linter.unnecessarySimpa false
set_option linter.unusedVariables false
open Go.RowKit
attribute [local go_sem ↓] Go.wp_at_zero Go.wp_at_succ
abbrev Str := List UInt8
def sc (l : List Str) : List Value := l.map fun s => .string (sB s)
theorem sc_length (l : List Str) : (sc l).length = l.length := by simp [sc]
theorem sc_append (a b : List Str) : sc (a ++ b) = sc a ++ sc b := by simp [sc]
theorem sc_get {l : List Str} {k : Nat} (h : k < l.length) : (sc l)[k]? = some (.string (sB (l.getD k default))) := by simp [sc, List.getD, h]
def InS (w : World) (A : Option Addr) (l : List Str) : Prop := Flat w (fun k => k < w.heap.size) A (sc l)
theorem InS.at {w : World} {A : Option Addr} {l : List Str} (h : InS w A l) {w' : World} (hb : Below w.heap.size w w') {k : Nat} (hk : k < l.length) : ∃ a, A = some a ∧ w'.cell? (a.add k) = some (.string (sB (l.getD k default))) := by
 obtain ⟨a, h1, _, h2⟩ := (Flat.frame (w' := w') h fun k hk _ => hb.block k hk) k _ (sc_get hk)
 exact ⟨a, h1, h2⟩
theorem InS.mono {w w' : World} {A : Option Addr} {l : List Str} (h : InS w A l) (hb : Below w.heap.size w w') : InS w' A l :=
 (Flat.frame (w' := w') h fun k hk _ => hb.block k hk).mono fun k hk => Nat.lt_of_lt_of_le hk hb.size
theorem below_grown {B : Nat} {a b c : World} {row : Option Nat} (h : Below B a b) (hB : B ≤ b.heap.size) (hg : b.grownBy c row) (hrow : ∀ k, row = some k → B ≤ k) : Below B a c := by
 refine h.trans ⟨hg.os, hg.tape, hg.output, hg.size, fun k hk => hg.block k (by omega) fun e => ?_⟩
 have := hrow k e.symm; omega
/-- a row of our own: what lies in it, and that it is new -/
structure OwnR (w0 : World) (e : TypeId) (size : Nat) (v : Value) (n : Nat) (xs : List Value) (w : World) : Prop where
 row : w.ownsRow 0 e size v n xs
 new : ∀ g, v.ownBlock = some g → w0.heap.size ≤ g
theorem OwnR.nil (w0 w : World) (e : TypeId) (size : Nat) : OwnR w0 e size (.slice none 0 0) 0 [] w := ⟨⟨by simp, .inl ⟨rfl, rfl⟩⟩, fun g hg => by cases hg⟩
theorem OwnR.frame {w0 w w' : World} {e : TypeId} {size n : Nat} {v : Value} {xs : List Value} (h : OwnR w0 e size v n xs w) (hf : ∀ g, v.ownBlock = some g → w'.heap[g]? = w.heap[g]?) : OwnR w0 e size v n xs w' := ⟨row_of h.row hf, h.new⟩
theorem OwnR.lt {w0 w : World} {e : TypeId} {size n : Nat} {v : Value} {xs : List Value} (h : OwnR w0 e size v n xs w) {g : Nat} (hg : v.ownBlock = some g) : g < w.heap.size := by
 obtain ⟨cur, hc⟩ := row_block h.row hg
 exact (Array.getElem?_eq_some_iff.1 hc).1
theorem OwnR.below {w0 w w' : World} {e : TypeId} {size n : Nat} {v : Value} {xs : List Value} (h : OwnR w0 e size v n xs w) (hb : Below w.heap.size w w') : OwnR w0 e size v n xs w' := h.frame fun g hg => hb.block g (h.lt hg)
/-- one value more: the cell of the new value lies in block g -/
theorem OwnR.push {w0 w : World} {e t : TypeId} {i : TypeInfo} {z : Value} {bytes : Nat} {v : Value} {n : Nat} {xs : List Value} (h : OwnR w0 e 1 v n xs w) (ht : Tryz.prog.underlying t = some (.slice e)) (hi : Tryz.prog.info? e = some i) (hz : i.zero = some z) (hs : i.size = 1) (hby : i.bytes = bytes) (hzs : z.cells.size = 1) (hb : bytes ≤ 1000) (hn : n + 1 ≤ 1000000)
  (g : Nat) (u : Value) (hg : w.cell? ⟨g, 0, none⟩ = some u) (hu : u.oneCell' = true) (hw : w0.heap.size ≤ w.heap.size) :
  ∃ A c w', (Builtin.append_ #[t, t] t #[v, .slice (some ⟨g, 0, none⟩) 1 1]).run Tryz.prog w = .ok (.slice A (n + 1) c) w' ∧ OwnR w0 e 1 (.slice A (n + 1) c) (n + 1) (xs ++ [u]) w' ∧ w.grownBy w' v.ownBlock ∧ ((Value.slice A (n + 1) c).ownBlock = v.ownBlock ∨ ((Value.slice A (n + 1) c).ownBlock = some w.heap.size ∧ w.heap.size < w'.heap.size)) := by
 obtain ⟨v', w', h1, h2, h3, h4⟩ := append_at (P := Tryz.prog) w t t e i z 1 bytes ht hi hz hs hby hzs (by decide) v n xs h.row ⟨g, 0, none⟩ 1 1 [u] rfl (fun j x hj => by
  match j, hj with
  | 0, hj =>
   cases hj
   rw [Addr.add_lit]; exact hg) (fun x hx => by simp at hx; rw [hx]; exact hu) hn hb (by decide)
 obtain ⟨A, c, rfl⟩ := row_sl h2
 refine ⟨A, c, w', h1, ⟨h2, fun k hk => ?_⟩, h3, h4⟩
 rcases h4 with h4 | ⟨h4, _⟩
 ·exact h.new k (h4 ▸ hk)
 ·rw [h4] at hk; injection hk with hk; omega
theorem ownS_in {w0 w : World} {A : Option Addr} {n c : Nat} {l : List Str} (h : OwnR w0 9 1 (.slice A n c) n (sc l) w) : InS w A l := (row_flat h.row).mono fun _ h => h.2
def addW (ws : List Str) (s : Str) : List Str := if s ∈ ws then ws else ws ++ [s]
def words (l : List Str) : List Str := l.foldl addW []
theorem words_snoc (l : List Str) (s : Str) : words (l ++ [s]) = addW (words l) s := by simp [words]
def placeF (ws : List Str) (s : Str) : Option Value := if s ∈ ws then some (.int .i64 (ws.idxOf s : Int)) else none
theorem place_new {ws : List Str} {s : Str} (h : s ∉ ws) : upd (placeF ws) s (some (.int .i64 (ws.length : Int))) = placeF (ws ++ [s]) := by
 funext x
 unfold upd placeF
 by_cases hx : x = s
 ·subst hx
  rw [if_pos rfl, if_pos (by simp), List.idxOf_append, if_neg h]
  simp
 ·rw [if_neg hx]
  by_cases hm : x ∈ ws
  ·rw [if_pos hm, if_pos (by simp [hm]), List.idxOf_append, if_pos hm]
  ·rw [if_neg hm, if_neg (by simp [hm, hx])]
theorem words_len (l : List Str) : (words l).length ≤ l.length := by
 induction l using snoc_rec with
 | h0 => exact Nat.le_refl _
 | h1 l s ih =>
  rw [words_snoc]; unfold addW
  split
  ·simp; omega
  ·simp; omega
theorem words_mem (l : List Str) : ∀ s, s ∈ words l ↔ s ∈ l := by
 induction l using snoc_rec with
 | h0 => intro s; simp [words]
 | h1 l x ih =>
  intro s
  rw [words_snoc]; unfold addW
  split
  ·rename_i h
   rw [ih] at h
   simp only [List.mem_append, List.mem_singleton, ih]
   exact ⟨.inl, fun h' => h'.elim id fun e => e ▸ h⟩
  ·simp [ih]
abbrev kStr : Str → Value := fun k => .string (sB k)
def IdxR (w : World) (M : Nat) (l : List Str) (wv i : Value) (wr : World) : Prop := ∃ (k : Nat), i = .int .i64 (k : Int) ∧ k ≤ l.length ∧ OwnR w 9 1 wv (words (l.take k)).length (sc (words (l.take k))) wr ∧ MapF kStr (fun _ => True) wr M (placeF (words (l.take k))) ∧ Below w.heap.size w wr
def IndexP (w : World) (l : List Str) (x : Ending) (w' : World) : Prop := ∃ A c M, x = .returned (.tuple #[.slice A (words l).length c, .map (some M)]) ∧ InS w' A (words l) ∧ MapF kStr (fun _ => True) w' M (placeF (words l)) ∧ Below w.heap.size w w' ∧ w.heap.size ≤ M
theorem row_ne {w : World} {e : TypeId} {size n : Nat} {v : Value} {xs : List Value} {K : Type} [DecidableEq K] {kv : K → Value} {wf : K → Prop} {M : Nat} {f : K → Option Value} (h : w.ownsRow 0 e size v n xs) (hm : MapF kv wf w M f) {g : Nat} (hg : v.ownBlock = some g) : g ≠ M := by
 rintro rfl
 obtain ⟨cur, hc⟩ := row_block h hg
 obtain ⟨es, cl, hm, _⟩ := hm
 rw [hc] at hm; cases hm
theorem take_getDS {l : List Str} {k : Nat} (h : k < l.length) : l.take (k + 1) = l.take k ++ [l.getD k default] := by
 rw [List.take_succ_eq_append_getElem h]; simp [List.getD, h]
set_option maxRecDepth 100000 in
theorem index_walk (l : List Str) (hl : l.length ≤ 100000) (w : World) (A : Option Addr) (c : Nat) (hF : InS w A l) : Calls Tryz.prog 140 #[.slice A l.length c] w fun x w' => IndexP w l x w' := by
 have HF := Lib.hid hF
 have HL := Lib.hid hl
 have hli : (l.length : Int) ≤ 100000 := by omega
 clear hF hl
 have hmk : (Instr.makeMap 199 none).run Tryz.prog w = .ok (.map (some w.heap.size)) (w.alloc (.map #[] 0)) := by simp [Instr.makeMap, Result.andThen]
 go_enter Tryz.func140, Tryz.ntmps140
 go_wp2_with fail
 obtain ⟨W1, hW1⟩ : ∃ W, w.alloc (.map #[] 0) = W := ⟨_, rfl⟩
 obtain ⟨M, hM⟩ : ∃ M, w.heap.size = M := ⟨_, rfl⟩
 have HB1 : Hid (Below w.heap.size w W1) := Lib.hid (by rw [← hW1]; exact (Below.refl _ _).alloc (Nat.le_refl _) _)
 have HM1 : Hid (MapF kStr (fun _ => True) W1 M (fun _ => none)) := Lib.hid (by rw [← hW1, ← hM]; exact mapF_new w)
 have HMs := Lib.hid hM
 rw [hW1, hM]
 clear hW1 hM hmk
 go_loopw [4, 13] (fun wv i wr => IdxR w M l wv i wr) (fun _ i _ => ((l.length : Int) - intOf i).toNat)
 case atStart => exact ⟨0, rfl, Nat.zero_le _, .nil _ _ _ _, HM1.out, HB1.out⟩
 case round =>
  obtain ⟨k, rfl, hk, ho, hm, hb⟩ := hrel
  have HO := Lib.hid ho
  have HM := Lib.hid hm
  have HB := Lib.hid hb
  obtain ⟨A', c', rfl⟩ := row_sl ho.row
  clear ho hm hb
  by_cases hlt : k < l.length
  ·have hki : (k : Int) < l.length := by omega
   obtain ⟨s, hs⟩ : ∃ s, l.getD k default = s := ⟨_, rfl⟩
   obtain ⟨a, rfl, c0⟩ := HF.out.at HB.out hlt
   rw [hs] at c0
   have HW : Hid (words (l.take (k + 1)) = addW (words (l.take k)) s) := Lib.hid (by rw [take_getDS hlt, hs, words_snoc])
   have hwl : (words (l.take k)).length ≤ 100000 := by have := words_len (l.take k); have := HL.out; rw [List.length_take] at *; omega
   clear hs
   by_cases hmem : s ∈ words (l.take k)
   ·have hlook := mapF_look keyStr HM.out (k := s) trivial Tryz.underlying199 (v := .int .i64 ((words (l.take k)).idxOf s : Int)) (by unfold placeF; rw [if_pos hmem]) true
    have HMem := Lib.hid hmem
    clear hmem hwl
    go_wp2_with fail
    go_roundw
    case rel => exact ⟨k + 1, by go_num, by omega, by rw [HW.out]; unfold addW; rw [if_pos HMem.out]; exact HO.out, by rw [HW.out]; unfold addW; rw [if_pos HMem.out]; exact HM.out, HB.out⟩
    case measure => simp [intOf]; omega
   ·have hz : (zeroValue 3).run Tryz.prog wr = .ok (.int .i64 0) wr := by simp [zeroValue, go_sem]; rfl
    have hlook := mapF_none keyStr HM.out (k := s) trivial Tryz.underlying199 hz (by unfold placeF; rw [if_neg hmem]) true
    obtain ⟨o, hup, hm2⟩ := mapF_upd keyStr HM.out (k := s) trivial Tryz.underlying199 (.int .i64 ((words (l.take k)).length : Int))
    rw [place_new hmem] at hm2
    have HW2 : Hid (words (l.take (k + 1)) = words (l.take k) ++ [s]) := Lib.hid (by rw [HW.out]; unfold addW; rw [if_neg hmem])
    obtain ⟨W2, hW2⟩ : ∃ W, mset wr M o = W := ⟨_, rfl⟩
    have hb2 : Below w.heap.size w W2 := by rw [← hW2]; exact mset_below HB.out (by rw [HMs.out]; exact Nat.le_refl _) o
    have ho2 : OwnR w 9 1 (.slice A' (words (l.take k)).length c') (words (l.take k)).length (sc (words (l.take k))) W2 := HO.out.frame fun g hg => by
     rw [← hW2]; exact mset_far o (row_ne HO.out.row HM.out hg)
    rw [hW2] at hup hm2
    have ho3 := ho2.below ((Below.refl _ _).alloc (Nat.le_refl _) (.cells #[.string (sB s)] 9))
    obtain ⟨A4, c4, W4, hrun, ho4, hg4, hown4⟩ := ho3.push Tryz.underlying31 rfl rfl rfl rfl rfl (by decide) (by omega) W2.heap.size (.string (sB s)) (by rw [cell_of_row _ _ _ _ _ _ (heap_alloc_new W2 _)]; rfl) rfl (by rw [World.size_alloc]; have := hb2.size; omega)
    have hm4 : MapF kStr (fun _ => True) W4 M (placeF (words (l.take k) ++ [s])) := by
     refine hm2.of_heap ((hg4.block M (by have := hm2.lt; rw [World.size_alloc]; omega) fun e => row_ne ho2.row hm2 e.symm rfl).trans (Below.heap_alloc W2 _ M hm2.lt))
    have hb4 := below_grown (hb2.alloc hb2.size (.cells #[.string (sB s)] 9)) (by rw [World.size_alloc]; have := hb2.size; omega) hg4 ho2.new
    have HO4 := Lib.hid ho4
    have HM4 := Lib.hid hm4
    have HB4 := Lib.hid hb4
    have HRUN := Lib.hid hrun
    clear hmem hwl hW2 hb2 ho2 hm2 ho3 hrun ho4 hg4 hown4 hm4 hb4
    go_wp2_with (at_builtin; refine wpList_append_eq rfl _ _ _ rfl _ _ rfl rfl HRUN.out ?_)
    go_roundw
    case rel => exact ⟨k + 1, by go_num, by omega, by rw [HW2.out, List.length_append, sc_append]; exact HO4.out, by rw [HW2.out]; exact HM4.out, HB4.out⟩
    case measure => simp [intOf]; omega
  ·obtain rfl : k = l.length := by omega
   have HT : Hid (l.take l.length = l) := Lib.hid List.take_length
   go_wp2_with fail
   refine bodyPost_ret (results_tmp2 rfl _ _ _) rfl ?_
   have h := HO.out
   have hm := HM.out
   rw [HT.out] at h hm ⊢
   exact ⟨A', c', M, rfl, ownS_in h, hm, HB.out, by rw [HMs.out]; exact Nat.le_refl _⟩
end Go.Proofs.YtlmjefjimoghcaaGreat
