import Derived.Test.YtkogechopdfleaaWa
namespace Go.Proofs.Ytkogechopdfleaa
open Go.RowKit

/-- block B is a row of bytes that begins with l, and none of these is frozen -/
def BRow (w : World) (B : Nat) (l : List UInt8) : Prop :=
  ∃ (cs : Array Value) (fr : Nat × Nat), w.heap[B]? = some (.cells cs 5 fr) ∧ (∀ i, i < l.length → (decide (fr.1 ≤ i) && decide (i < fr.2)) = false) ∧ ∀ i, i < l.length → cs[i]? = some (.int .u8 (((l.getD i 0).toNat : Nat) : Int))
theorem BRow.cell {w : World} {B : Nat} {l : List UInt8} (h : BRow w B l) (i : Nat) (hi : i < l.length) : w.cell? ⟨B, i, none⟩ = some (.int .u8 (((l.getD i 0).toNat : Nat) : Int)) := by
  obtain ⟨cs, fr, h1, h2, h3⟩ := h
  rw [cell_of_row w B i cs _ _ h1, h3 i hi]
theorem BRow.frozen {w : World} {B : Nat} {l : List UInt8} (h : BRow w B l) (i : Nat) (hi : i < l.length) : w.frozen? ⟨B, i, none⟩ = false := by
  obtain ⟨cs, fr, h1, h2, h3⟩ := h
  simp only [World.frozen?, h1]
  exact h2 i hi
theorem BRow.drewN {w : World} {B : Nat} {l : List UInt8} (h : BRow w B l) (n : Nat) : BRow (w.drewN n) B l := h
theorem BRow.drew {w : World} {B : Nat} {l : List UInt8} (h : BRow w B l) : BRow w.drew B l := h
theorem BRow.lt {w : World} {B : Nat} {l : List UInt8} (h : BRow w B l) : B < w.heap.size := by
  obtain ⟨cs, fr, h1, _⟩ := h
  exact (Array.getElem?_eq_some_iff.1 h1).1
theorem BRow.block {w w' : World} {B : Nat} {l : List UInt8} (h : BRow w B l) (e : w'.heap[B]? = w.heap[B]?) : BRow w' B l := by
  obtain ⟨cs, fr, h1, h2⟩ := h
  exact ⟨cs, fr, by rw [e]; exact h1, h2⟩
theorem heap_setCell_any (w : World) (g i : Nat) (cs : Array Value) (t : TypeId) (fz : Nat × Nat) (v : Value) (hg : w.heap[g]? = some (.cells cs t fz)) :
    (w.setCell ⟨g, i, none⟩ v).heap[g]? = some (.cells (cs.setIfInBounds i v) t fz) := by
  rw [setCell_eq_setRow w g i cs t fz v hg]
  exact setRow_heap w g cs _ t _ hg
theorem BRow.set_ {w : World} {B : Nat} {l : List UInt8} (h : BRow w B l) (k : Nat) (hk : k < l.length) (b : UInt8) (x : Int) (hx : x = b.toNat) : BRow (w.setCell ⟨B, k, none⟩ (.int .u8 x)) B (l.set k b) := by
  obtain ⟨cs, fr, h1, h2, h3⟩ := h
  subst hx
  have hcs : k < cs.size := by
    have := h3 k hk
    exact (Array.getElem?_eq_some_iff.1 this).1
  refine ⟨_, fr, heap_setCell_any w B k cs _ _ _ h1, fun i hi => h2 i (by simpa using hi), fun i hi => ?_⟩
  have hi' : i < l.length := by simpa using hi
  rw [Array.getElem?_setIfInBounds, List.getD_eq_getElem?_getD, List.getElem?_set]
  by_cases hik : k = i
  · subst hik
    rw [if_pos rfl, if_pos hcs, if_pos rfl, if_pos hk]; rfl
  · rw [if_neg hik, if_neg hik, h3 i hi', List.getD_eq_getElem?_getD]
theorem BRow.str {w : World} {B : Nat} {l : List UInt8} (h : BRow w B l) (cap n : Nat) (hn : n = l.length) : (convert 49 9 (.slice (some ⟨B, 0, none⟩) n cap)).run Try.prog w = .ok (.string ⟨l.toArray⟩) w := by
  subst hn
  exact run_convert_bytes_back (P := Try.prog) w 49 9 5 ⟨B, 0, none⟩ cap l Try.underlying49 Try.underlying5 Try.underlying9 (by
    intro j hj
    have hadd : (⟨B, 0, none⟩ : Addr).add j = ⟨B, j, none⟩ := by unfold Addr.add; split <;> simp_all
    rw [hadd, h.cell j hj]
    simp [List.getD, hj])
theorem info5 : (Try.prog.info? 5).map (fun i => (i.zero, i.size, i.bytes)) = some (some (.int .u8 0), 1, 1) := by kernel_rfl
def zrow (n : Nat) : Array Value := madeCells (Value.cells (.int .u8 0)) n
theorem make_bytes (n : Nat) (hn : n ≤ 1024) (w : World) : (Instr.makeSlice 49 (.int .i64 (n : Int)) (.int .i64 (n : Int))).run Try.prog w = .ok (.slice (some ⟨w.heap.size, 0, none⟩) n n) (w.alloc (.cells (zrow n) 5)) := by
  obtain ⟨i, hi, hz, hs, hb⟩ := info_parts info5
  have := run_make (P := Try.prog) w 49 5 i (.int .u8 0) Try.underlying49 hi hz .i64 .i64 (n : Int) (n : Int) (by omega) (by omega) (by rw [hb]; omega) (by omega)
  rw [hs, Int.toNat_natCast, Nat.mul_one] at this
  exact this
theorem BRow.zeros (w : World) (n : Nat) : BRow (w.alloc (.cells (zrow n) 5)) w.heap.size (List.replicate n 0) := by
  refine ⟨_, _, heap_alloc_new _ _, fun i _ => by simp, fun i hi => ?_⟩
  have hi' : i < n := by simpa using hi
  have hl : (zrow n).toList = List.replicate n (.int .u8 0) := toList_madeCells_one _ _
  rw [← Array.getElem?_toList, hl]
  simp [List.getElem?_replicate, hi', List.getD]

/-- the low m bytes of r, the most significant first -/
def beN (r : Nat) : Nat → List UInt8
  | 0 => []
  | m + 1 => UInt8.ofNat (r / 2 ^ (8 * m)) :: beN r m
theorem beN_length (r m : Nat) : (beN r m).length = m := by
  induction m with
  | zero => rfl
  | succ m ih => simp [beN, ih]
def first (k r : Nat) : UInt8 := UInt8.ofNat (256 - 2 ^ (8 - k) + r / 2 ^ (8 * k))
/-- the bytes of a number -/
def num (n : Nat) : List UInt8 := first (kOf n) (n - bnd (kOf n)) :: beN (n - bnd (kOf n)) (kOf n)
theorem num_length (n : Nat) : (num n).length = kOf n + 1 := by simp [num, beN_length]
theorem rest_lt (n : Nat) (hn : n < 2 ^ 63) : (n - bnd (kOf n)) / 2 ^ (8 * kOf n) < 2 ^ (7 - kOf n) := by
  obtain ⟨h1, h2⟩ := kOf_spec n
  have h3 := kOf_le n
  have h4 : bnd 8 = 72624976668147840 := by decide
  generalize kOf n = k at *
  rcases h2 with rfl | h2
  · rw [Nat.div_eq_of_lt (by omega)]; decide
  · rcases (by omega : k = 0 ∨ k = 1 ∨ k = 2 ∨ k = 3 ∨ k = 4 ∨ k = 5 ∨ k = 6 ∨ k = 7 ∨ k = 8) with rfl | rfl | rfl | rfl | rfl | rfl | rfl | rfl | rfl <;> simp [bnd] at h1 h2 ⊢ <;> omega
theorem or_first : ∀ k : Fin 9, ∀ x : Fin 128, x.val < 2 ^ (7 - k.val) → ((65280 / 2 ^ k.val % 256) ||| x.val) = 256 - 2 ^ (8 - k.val) + x.val ∧ 256 - 2 ^ (8 - k.val) + x.val < 256 := by decide +kernel
end Go.Proofs.Ytkogechopdfleaa
