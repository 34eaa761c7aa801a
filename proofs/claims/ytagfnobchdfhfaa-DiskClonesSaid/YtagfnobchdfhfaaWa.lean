import Derived.Test.YtagfnobchdfhfaaRows
import Derived.WalkKit
import Derived.ProofKit
import Derived.LoopTactic
import Derived.Lib.Hide
import Derived.Outline
import Derived.OpenShut
import Derived.WalkLawsBesides
import Derived.Laws.IdiomStrings
import Derived.Laws.AppendOwn
import Derived.Deep.QuietTactic
import Derived.BigQuiet
import Derived.Deep.RegionHeld3
import Derived.Deep.DrawnRows
import Derived.IntWalk
namespace Go.Proofs.Ytagfnobchdfhfaa
set_option linter.unusedSimpArgs false
set_option linter.unnecessarySimpa false
set_option linter.unusedVariables false
open Go.RowKit

theorem ret_int {k : IntKind} {a b : Int} (h : a = b) : Ending.returned (.int k a) = .returned (.int k b) := by rw [h]
theorem val_int {k : IntKind} {a b : Int} (h : a = b) : Value.int k a = .int k b := by rw [h]
theorem bstep {B : Nat} {a b c : World} (h : Below B a b) (hB : B ≤ a.heap.size) (k : Below b.heap.size b c) : Below B a c := h.trans (k.mono (Nat.le_trans hB h.size))
theorem below_drewN {B : Nat} {a w : World} (h : Below B a w) (n : Nat) : Below B a (w.drewN n) := h.trans ⟨rfl, rfl, rfl, Nat.le_refl _, fun _ _ => rfl⟩

/-- what is written lies in S -/
structure Touch (S : Nat → Prop) (w w' : World) : Prop where
  os : w'.os = w.os
  tape : w'.tape = w.tape
  output : w'.output = w.output
  size : w.heap.size ≤ w'.heap.size
  block : ∀ k, k < w.heap.size → ¬ S k → w'.heap[k]? = w.heap[k]?
/-- S and what was made -/
def grow (S : Nat → Prop) (w w' : World) (k : Nat) : Prop := S k ∨ (w.heap.size ≤ k ∧ k < w'.heap.size)
theorem Touch.refl (S : Nat → Prop) (w : World) : Touch S w w := ⟨rfl, rfl, rfl, Nat.le_refl _, fun _ _ _ => rfl⟩
theorem Touch.trans {S S' : Nat → Prop} {a b c : World} (h : Touch S a b) (k : Touch S' b c) (hS : ∀ i, i < a.heap.size → S' i → S i) : Touch S a c :=
  ⟨k.os.trans h.os, k.tape.trans h.tape, k.output.trans h.output, Nat.le_trans h.size k.size, fun i hi hn =>
    (k.block i (Nat.lt_of_lt_of_le hi h.size) (fun hs => hn (hS i hi hs))).trans (h.block i hi hn)⟩
theorem Touch.tran {S : Nat → Prop} {a b c : World} (h : Touch S a b) (k : Touch (grow S a b) b c) : Touch S a c :=
  h.trans k fun i hi hs => hs.elim id fun hs => absurd hs.1 (by omega)
theorem Touch.mono {S S' : Nat → Prop} {a b : World} (h : Touch S a b) (hS : ∀ i, S i → S' i) : Touch S' a b :=
  ⟨h.os, h.tape, h.output, h.size, fun i hi hn => h.block i hi fun hs => hn (hS i hs)⟩
theorem Touch.below {S : Nat → Prop} {a b : World} (h : Touch S a b) (B : Nat) (hB : B ≤ a.heap.size) (hS : ∀ i, S i → B ≤ i) : Below B a b :=
  ⟨h.os, h.tape, h.output, h.size, fun i hi => h.block i (by omega) fun hs => absurd (hS i hs) (by omega)⟩
theorem Touch.of_below {S : Nat → Prop} {a b : World} (h : Below a.heap.size a b) : Touch S a b := ⟨h.os, h.tape, h.output, h.size, fun i hi _ => h.block i hi⟩
theorem Touch.drew {S : Nat → Prop} {a b : World} (h : Touch S a b) : Touch S a b.drew := ⟨h.os, h.tape, h.output, h.size, h.block⟩
theorem Touch.alloc {S : Nat → Prop} {a b : World} (h : Touch S a b) (o : Obj) : Touch S a (b.alloc o) :=
  h.trans (S' := fun _ => False) (.of_below ((Below.refl _ _).alloc (Nat.le_refl _) o)) fun _ _ h => h.elim
theorem Touch.setCell {S : Nat → Prop} {a b : World} (h : Touch S a b) {p : Addr} (hp : S p.block ∨ a.heap.size ≤ p.block) (v : Value) : Touch S a (b.setCell p v) := by
  have hs : (b.setCell p v).heap.size = b.heap.size := by simp
  refine ⟨h.os, h.tape, h.output, by rw [hs]; exact h.size, fun i hi hn => ?_⟩
  have hne : i ≠ p.block := by
    rintro rfl
    exact hp.elim hn fun hp => absurd hp (by omega)
  exact (Below.heap_setCell b p v i hne).trans (h.block i hi hn)
theorem Touch.grown {S : Nat → Prop} {a b c : World} {row : Option Nat} (h : Touch S a b) (hg : b.grownBy c row) (hrow : ∀ k, row = some k → S k ∨ a.heap.size ≤ k) : Touch S a c :=
  h.trans (S' := fun k => some k = row) ⟨hg.os, hg.tape, hg.output, hg.size, fun k hk hn => hg.block k hk hn⟩ fun i hi he => (hrow i he.symm).elim id fun h => absurd h (by omega)

/-- a row lies on as long as its block does -/
theorem row_of {w w' : World} {e : TypeId} {size : Nat} {v : Value} {n : Nat} {xs : List Value} (h : w.ownsRow 0 e size v n xs) (he : ∀ g, v.ownBlock = some g → w'.heap[g]? = w.heap[g]?) : w'.ownsRow 0 e size v n xs := by
  refine ⟨h.1, ?_⟩
  rcases h.2 with h' | ⟨g, cap, cur, rfl, h0, hg, h1, h2, h3, h4⟩
  · exact .inl h'
  · exact .inr ⟨g, cap, cur, rfl, h0, (he g rfl).trans hg, h1, h2, h3, h4⟩
theorem row_block {w : World} {e : TypeId} {size : Nat} {v : Value} {n : Nat} {xs : List Value} (h : w.ownsRow 0 e size v n xs) {g : Nat} (hg : v.ownBlock = some g) : ∃ cur, w.heap[g]? = some (.cells cur e (0, 0)) := by
  rcases h.2 with ⟨rfl, _⟩ | ⟨g', cap, cur, rfl, _, hg', _⟩
  · simp [Value.ownBlock] at hg
  · simp [Value.ownBlock] at hg; subst hg; exact ⟨cur, hg'⟩

/-- a disk -/
structure DM where
  secs : List (List UInt8)
  bad : List Bool
  pend : List (Nat × ByteArray)
  r : Int
  wn : Int
  sy : Int
  failed : Bool
  after : Int
def pcells (l : List (Nat × ByteArray)) : List Value := l.flatMap fun p => [Value.int .i64 (p.1 : Int), .string p.2]
def bcells (l : List UInt8) : List Value := l.map fun b => Value.int .u8 (b.toNat : Int)
structure DkO (S : Nat → Prop) (D : Nat) (d : DM) (w : World) (vd vb vp : Value) (dl : List Value) : Prop where
  obj : w.heap[D]? = some (.cells #[vd, vb, vp, .int .i64 d.r, .int .i64 d.wn, .int .i64 d.sy, .bool d.failed, .int .i64 d.after] 69 (0, 0))
  sD : S D
  rd : w.ownsRow 0 74 1 vd d.secs.length dl
  sd : ∀ k, vd.ownBlock = some k → S k
  rb : w.ownsRow 0 4 1 vb d.secs.length (d.bad.map Value.bool)
  sb : ∀ k, vb.ownBlock = some k → S k
  rp : w.ownsRow 0 71 2 vp d.pend.length (pcells d.pend)
  sp : ∀ k, vp.ownBlock = some k → S k
  sec : ∀ (i : Nat) (b : List UInt8), d.secs[i]? = some b → ∃ v, dl[i]? = some v ∧ w.ownsRow 0 5 1 v 64 (bcells b) ∧ (∃ g, v.ownBlock = some g ∧ S g)
  inj : ∀ (i j : Nat) (v v' : Value), dl[i]? = some v → dl[j]? = some v' → v.ownBlock = v'.ownBlock → i = j
  len : 0 < d.secs.length
  fit : ∀ p ∈ d.pend, p.1 < d.secs.length ∧ p.2.size = 64
def Dk (S : Nat → Prop) (D : Nat) (d : DM) (w : World) : Prop := ∃ vd vb vp dl, DkO S D d w vd vb vp dl
theorem DkO.frame {S : Nat → Prop} {D : Nat} {d : DM} {w w' : World} {vd vb vp : Value} {dl : List Value} (h : DkO S D d w vd vb vp dl) (hf : ∀ k, S k → k < w.heap.size → w'.heap[k]? = w.heap[k]?) : DkO S D d w' vd vb vp dl := by
  have lt : ∀ {e size v n xs}, w.ownsRow 0 e size v n xs → ∀ g, v.ownBlock = some g → g < w.heap.size := fun h g hg => (h.lt g hg).2
  exact ⟨(hf D h.sD (Array.getElem?_eq_some_iff.1 h.obj).1).trans h.obj, h.sD, row_of h.rd fun g hg => hf g (h.sd g hg) (lt h.rd g hg), h.sd, row_of h.rb fun g hg => hf g (h.sb g hg) (lt h.rb g hg), h.sb, row_of h.rp fun g hg => hf g (h.sp g hg) (lt h.rp g hg), h.sp,
    fun i b hb => by
      obtain ⟨v, h1, h2, g, h3, h4⟩ := h.sec i b hb
      exact ⟨v, h1, row_of h2 fun g' hg' => by rw [h3] at hg'; cases hg'; exact hf g h4 (lt h2 g h3), g, h3, h4⟩, h.inj, h.len, h.fit⟩
theorem DkO.mono {S S' : Nat → Prop} {D : Nat} {d : DM} {w : World} {vd vb vp : Value} {dl : List Value} (h : DkO S D d w vd vb vp dl) (hS : ∀ k, S k → S' k) : DkO S' D d w vd vb vp dl :=
  ⟨h.obj, hS _ h.sD, h.rd, fun k hk => hS k (h.sd k hk), h.rb, fun k hk => hS k (h.sb k hk), h.rp, fun k hk => hS k (h.sp k hk), fun i b hb => by
    obtain ⟨v, h1, h2, g, h3, h4⟩ := h.sec i b hb
    exact ⟨v, h1, h2, g, h3, hS g h4⟩, h.inj, h.len, h.fit⟩
/-- the disk's own cells are written anew -/
theorem DkO.obj_set {S : Nat → Prop} {D : Nat} {d d' : DM} {w w' : World} {vd vb vp : Value} {dl : List Value} (h : DkO S D d w vd vb vp dl) (hf : ∀ k, S k → k ≠ D → k < w.heap.size → w'.heap[k]? = w.heap[k]?)
    (ho : w'.heap[D]? = some (.cells #[vd, vb, vp, .int .i64 d'.r, .int .i64 d'.wn, .int .i64 d'.sy, .bool d'.failed, .int .i64 d'.after] 69 (0, 0))) (e1 : d'.secs = d.secs) (e2 : d'.bad = d.bad) (e3 : d'.pend = d.pend) : DkO S D d' w' vd vb vp dl := by
  have lt : ∀ {e size v n xs}, w.ownsRow 0 e size v n xs → ∀ g, v.ownBlock = some g → g < w.heap.size := fun h g hg => (h.lt g hg).2
  have nD : ∀ {e size v n xs}, w.ownsRow 0 e size v n xs → e ≠ 69 → ∀ g, v.ownBlock = some g → g ≠ D := fun hr he g hg hD => by
    obtain ⟨cur, hc⟩ := row_block hr hg
    rw [hD, h.obj] at hc
    injection hc with hc; injection hc with _ hc _; exact he hc.symm
  refine ⟨ho, h.sD, ?_, h.sd, ?_, h.sb, ?_, h.sp, ?_, h.inj, by rw [e1]; exact h.len, by rw [e1, e3]; exact h.fit⟩
  · rw [e1]; exact row_of h.rd fun g hg => hf g (h.sd g hg) (nD h.rd (by decide) g hg) (lt h.rd g hg)
  · rw [e1, e2]; exact row_of h.rb fun g hg => hf g (h.sb g hg) (nD h.rb (by decide) g hg) (lt h.rb g hg)
  · rw [e3]; exact row_of h.rp fun g hg => hf g (h.sp g hg) (nD h.rp (by decide) g hg) (lt h.rp g hg)
  · rw [e1]
    intro i b hb
    obtain ⟨v, h1, h2, g, h3, h4⟩ := h.sec i b hb
    exact ⟨v, h1, row_of h2 fun g' hg' => by rw [h3] at hg'; cases hg'; exact hf g h4 (nD h2 (by decide) g h3) (lt h2 g h3), g, h3, h4⟩
section
variable {S : Nat → Prop} {D : Nat} {d : DM} {w : World} {vd vb vp : Value} {dl : List Value}
theorem DkO.c0 (h : DkO S D d w vd vb vp dl) : w.cell? ⟨D, 0, none⟩ = some vd := by rw [cell_of_row w D 0 _ _ _ h.obj]; rfl
theorem DkO.c1 (h : DkO S D d w vd vb vp dl) : w.cell? ⟨D, 1, none⟩ = some vb := by rw [cell_of_row w D 1 _ _ _ h.obj]; rfl
theorem DkO.c2 (h : DkO S D d w vd vb vp dl) : w.cell? ⟨D, 2, none⟩ = some vp := by rw [cell_of_row w D 2 _ _ _ h.obj]; rfl
theorem DkO.c3 (h : DkO S D d w vd vb vp dl) : w.cell? ⟨D, 3, none⟩ = some (.int .i64 d.r) := by rw [cell_of_row w D 3 _ _ _ h.obj]; rfl
theorem DkO.c4 (h : DkO S D d w vd vb vp dl) : w.cell? ⟨D, 4, none⟩ = some (.int .i64 d.wn) := by rw [cell_of_row w D 4 _ _ _ h.obj]; rfl
theorem DkO.c5 (h : DkO S D d w vd vb vp dl) : w.cell? ⟨D, 5, none⟩ = some (.int .i64 d.sy) := by rw [cell_of_row w D 5 _ _ _ h.obj]; rfl
theorem DkO.c6 (h : DkO S D d w vd vb vp dl) : w.cell? ⟨D, 6, none⟩ = some (.bool d.failed) := by rw [cell_of_row w D 6 _ _ _ h.obj]; rfl
theorem DkO.c7 (h : DkO S D d w vd vb vp dl) : w.cell? ⟨D, 7, none⟩ = some (.int .i64 d.after) := by rw [cell_of_row w D 7 _ _ _ h.obj]; rfl
theorem DkO.fr (h : DkO S D d w vd vb vp dl) (i : Nat) : w.frozen? ⟨D, i, none⟩ = false := by
  simp [World.frozen?, h.obj]
theorem DkO.lt (h : DkO S D d w vd vb vp dl) : D < w.heap.size := (Array.getElem?_eq_some_iff.1 h.obj).1
/-- a slice and its cap -/
theorem row_slice {e : TypeId} {size : Nat} {v : Value} {n : Nat} {xs : List Value} (h : w.ownsRow 0 e size v n xs) : ∃ a c, v = .slice a n c := by
  rcases h.2 with ⟨rfl, rfl⟩ | ⟨g, cap, cur, rfl, _⟩
  · exact ⟨_, _, rfl⟩
  · exact ⟨_, _, rfl⟩
/-- a slice that is not empty -/
theorem row_some {e : TypeId} {size : Nat} {v : Value} {n : Nat} {xs : List Value} (h : w.ownsRow 0 e size v n xs) (hn : 0 < n) : ∃ g c, v = .slice (some ⟨g, 0, none⟩) n c ∧ g < w.heap.size ∧ n ≤ c ∧ (∀ j x, xs[j]? = some x → w.cell? ⟨g, j, none⟩ = some x) ∧ (∀ i, w.frozen? ⟨g, i, none⟩ = false) := by
  rcases h.2 with ⟨rfl, rfl⟩ | ⟨g, cap, cur, rfl, _, hg, hc, _, _, ht⟩
  · omega
  · refine ⟨g, cap, rfl, (Array.getElem?_eq_some_iff.1 hg).1, hc, fun j x hx => ?_, fun i => by simp [World.frozen?, hg]⟩
    rw [cell_of_row w g j _ _ _ hg]
    rw [← ht, List.getElem?_take] at hx
    split at hx
    · simpa using hx
    · cases hx
end
end Go.Proofs.Ytagfnobchdfhfaa
