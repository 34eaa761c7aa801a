import Derived.Test.YtglchdcpkjabaaaWl
import Derived.RegionTactic
import Derived.BigRegion
namespace Go.Proofs.Ytglchdcpkjabaaa
open Go.RowKit

/-- block B is a row of bytes that begins with l, and none of these is frozen -/
def BRow (w : World) (B : Nat) (l : List UInt8) : Prop :=
  ∃ (cs : Array Value) (fz : Nat), w.heap[B]? = some (.cells cs 5 (fz, fz + 1)) ∧ l.length ≤ cs.size ∧ cs.size ≤ fz ∧ ∀ i, i < l.length → cs[i]? = some (.int .u8 (((l.getD i 0).toNat : Nat) : Int))
theorem BRow.cell {w : World} {B : Nat} {l : List UInt8} (h : BRow w B l) (i : Nat) (hi : i < l.length) : w.cell? ⟨B, i, none⟩ = some (.int .u8 (((l.getD i 0).toNat : Nat) : Int)) := by
  obtain ⟨cs, fz, h1, h2, h3, h4⟩ := h
  rw [cell_of_row w B i cs _ _ h1, h4 i hi]
theorem BRow.frozen {w : World} {B : Nat} {l : List UInt8} (h : BRow w B l) (i : Nat) (hi : i < l.length) : w.frozen? ⟨B, i, none⟩ = false := by
  obtain ⟨cs, fz, h1, h2, h3, h4⟩ := h
  simp only [World.frozen?, h1]
  simp; omega
theorem BRow.drewN {w : World} {B : Nat} {l : List UInt8} (h : BRow w B l) (n : Nat) : BRow (w.drewN n) B l := h
theorem BRow.drew {w : World} {B : Nat} {l : List UInt8} (h : BRow w B l) : BRow w.drew B l := h
theorem BRow.lt {w : World} {B : Nat} {l : List UInt8} (h : BRow w B l) : B < w.heap.size := by
  obtain ⟨cs, fz, h1, _⟩ := h
  exact (Array.getElem?_eq_some_iff.1 h1).1
theorem BRow.block {w w' : World} {B : Nat} {l : List UInt8} (h : BRow w B l) (e : w'.heap[B]? = w.heap[B]?) : BRow w' B l := by
  obtain ⟨cs, fz, h1, h2⟩ := h
  exact ⟨cs, fz, by rw [e]; exact h1, h2⟩
theorem heap_setCell_any (w : World) (g i : Nat) (cs : Array Value) (t : TypeId) (fz : Nat × Nat) (v : Value) (hg : w.heap[g]? = some (.cells cs t fz)) :
    (w.setCell ⟨g, i, none⟩ v).heap[g]? = some (.cells (cs.setIfInBounds i v) t fz) := by
  rw [setCell_eq_setRow w g i cs t fz v hg]
  exact setRow_heap w g cs _ t _ hg
theorem BRow.set_ {w : World} {B : Nat} {l : List UInt8} (h : BRow w B l) (k : Nat) (hk : k < l.length) (b : UInt8) (x : Int) (hx : x = b.toNat) : BRow (w.setCell ⟨B, k, none⟩ (.int .u8 x)) B (l.set k b) := by
  obtain ⟨cs, fz, h1, h2, h3, h4⟩ := h
  subst hx
  refine ⟨_, fz, heap_setCell_any w B k cs _ _ _ h1, by simpa using h2, by simpa using h3, fun i hi => ?_⟩
  have hi' : i < l.length := by simpa using hi
  rw [Array.getElem?_setIfInBounds, List.getD_eq_getElem?_getD, List.getElem?_set]
  by_cases hik : k = i
  · subst hik
    rw [if_pos rfl, if_pos (by omega), if_pos rfl, if_pos hk]; rfl
  · rw [if_neg hik, if_neg hik, h4 i hi', List.getD_eq_getElem?_getD]
theorem BRow.str {w : World} {B : Nat} {l : List UInt8} (h : BRow w B l) (cap n : Nat) (hn : n = l.length) : (convert 35 9 (.slice (some ⟨B, 0, none⟩) n cap)).run Try.prog w = .ok (.string ⟨l.toArray⟩) w := by
  subst hn
  exact run_convert_bytes_back (P := Try.prog) w 35 9 5 ⟨B, 0, none⟩ cap l Try.underlying35 Try.underlying5 Try.underlying9 (by
    intro j hj
    have hadd : (⟨B, 0, none⟩ : Addr).add j = ⟨B, j, none⟩ := by unfold Addr.add; split <;> simp_all
    rw [hadd, h.cell j hj]
    simp [List.getD, hj])
theorem BRow.new (w : World) (s : ByteArray) (cap : Nat) (lo : Nat) (hlo : lo = (bytesRow s cap).size) : BRow (w.alloc (.cells (bytesRow s cap) 5 (lo, lo + 1))) w.heap.size s.data.toList := by
  subst hlo
  refine ⟨_, _, heap_alloc_new _ _, by simp [bytesRow], Nat.le_refl _, fun i hi => u8_row s cap i (by simpa using hi)⟩

/-- the burst, its first k bytes -/
def bl (l : List UInt8) (i c : Nat) : Nat → List UInt8
  | 0 => l
  | k + 1 => (bl l i c k).set (i + k) ((bl l i c k).getD (i + k) 0 ^^^ UInt8.ofNat (c / 2 ^ (8 * k)))
theorem bl_length (l : List UInt8) (i c k : Nat) : (bl l i c k).length = l.length := by
  induction k with
  | zero => rfl
  | succ k ih => simp [bl, ih]
theorem run_bl (l : List UInt8) (i c k : Nat) (h : i + k < l.length) : run ones (bl l i c (k + 1)) = run ones (bl l i c k) ^^^ sh (8 * (l.length - (i + k))) (UInt8.ofNat (c / 2 ^ (8 * k))).toNat := by
  have hl : i + k < (bl l i c k).length := by rw [bl_length]; exact h
  have e : (bl l i c k).getD (i + k) 0 = (bl l i c k)[i + k] := by simp [List.getD, hl]
  rw [bl, e, run_change _ _ _ _ hl, bl_length]
theorem sh_part (n m b : Nat) (h : m ≤ n) : sh n (b * 2 ^ m) = sh (n - m) b := by
  rw [show n = m + (n - m) by omega, sh_add, sh_shl]
  congr 1; omega
theorem run_burst (l : List UInt8) (i c : Nat) (h : i + 3 < l.length) (hc : c < 2 ^ 32) : run ones (bl l i c 4) = run ones l ^^^ sh (8 * (l.length - i)) c := by
  have e : c = (UInt8.ofNat c).toNat ^^^ (UInt8.ofNat (c / 2 ^ 8)).toNat * 2 ^ 8 ^^^ (UInt8.ofNat (c / 2 ^ 16)).toNat * 2 ^ 16 ^^^ (UInt8.ofNat (c / 2 ^ 24)).toNat * 2 ^ 24 := (word_le4 c hc).symm
  have e2 : sh (8 * (l.length - i)) c = sh (8 * (l.length - i)) ((UInt8.ofNat c).toNat ^^^ (UInt8.ofNat (c / 2 ^ 8)).toNat * 2 ^ 8 ^^^ (UInt8.ofNat (c / 2 ^ 16)).toNat * 2 ^ 16 ^^^ (UInt8.ofNat (c / 2 ^ 24)).toNat * 2 ^ 24) := congrArg _ e
  rw [e2, run_bl l i c 3 (by omega), run_bl l i c 2 (by omega), run_bl l i c 1 (by omega), run_bl l i c 0 (by omega)]
  rw [sh_xor, sh_xor, sh_xor, sh_part _ 8 _ (by omega), sh_part _ 16 _ (by omega), sh_part _ 24 _ (by omega)]
  rw [show 8 * (l.length - (i + 3)) = 8 * (l.length - i) - 24 by omega, show 8 * (l.length - (i + 2)) = 8 * (l.length - i) - 16 by omega, show 8 * (l.length - (i + 1)) = 8 * (l.length - i) - 8 by omega]
  simp only [Nat.mul_zero, Nat.pow_zero, Nat.div_one, Nat.mul_one, Nat.add_zero, bl]
  ac_rfl
theorem burst_noticed (l : List UInt8) (i c : Nat) (h : i + 3 < l.length) (hc : c < 2 ^ 32) (h0 : c ≠ 0) (hs : opens l = true) : opens (bl l i c 4) = false := by
  have hs' : 4 ≤ l.length ∧ syn l = 0 := by simpa [opens] using hs
  unfold opens
  apply decide_eq_false
  rintro ⟨h4, h5⟩
  rw [syn_zero h4, run_burst l i c h hc, (syn_zero hs'.1).1 hs'.2] at h5
  have h6 : C ^^^ (C ^^^ sh (8 * (l.length - i)) c) = C ^^^ C := by rw [h5]
  rw [← Nat.xor_assoc, Nat.xor_self, Nat.zero_xor] at h6
  exact h0 (sh_eq_zero _ hc h6)
theorem burst_zero (l : List UInt8) (i k : Nat) : bl l i 0 k = l := by
  induction k with
  | zero => rfl
  | succ k ih =>
    rw [bl, ih]
    simp only [Nat.zero_div, show UInt8.ofNat 0 = 0 from rfl, UInt8.xor_zero]
    by_cases h : i + k < l.length
    · have e : l.getD (i + k) 0 = l[i + k] := by simp [List.getD, h]
      rw [e, List.set_getElem_self]
    · rw [List.set_eq_of_length_le (by omega)]
end Go.Proofs.Ytglchdcpkjabaaa
