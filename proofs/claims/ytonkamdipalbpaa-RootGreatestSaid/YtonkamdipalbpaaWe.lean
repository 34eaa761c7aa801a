import Derived.Test.YtonkamdipalbpaaWc
namespace Go.Proofs.Ytonkamdipalbpaa
open Go.RowKit
attribute [local go_sem ↓] Go.wp_at_zero Go.wp_at_succ

def rowC (l : List UInt8) : Array Value := (l.map fun b => Value.int .u8 ((b.toNat : Nat) : Int)).toArray
/-- block B is just these bytes, none frozen -/
def BRow (w : World) (B : Nat) (t : TypeId) (l : List UInt8) : Prop := w.heap[B]? = some (.cells (rowC l) t (0, 0))
theorem rowC_size (l : List UInt8) : (rowC l).size = l.length := by simp [rowC]
theorem rowC_get (l : List UInt8) (i : Nat) (h : i < l.length) : (rowC l)[i]? = some (.int .u8 (((l.getD i 0).toNat : Nat) : Int)) := by
  simp [rowC, h]
theorem BRow.cell {w : World} {B t : Nat} {l : List UInt8} (h : BRow w B t l) (i : Nat) (hi : i < l.length) : w.cell? ⟨B, i, none⟩ = some (.int .u8 (((l.getD i 0).toNat : Nat) : Int)) := by
  rw [cell_of_row w B i _ _ _ h, rowC_get l i hi]
theorem BRow.frozen {w : World} {B t : Nat} {l : List UInt8} (h : BRow w B t l) (i : Nat) : w.frozen? ⟨B, i, none⟩ = false := by
  unfold BRow at h
  simp [World.frozen?, h]
theorem BRow.drewN {w : World} {B t : Nat} {l : List UInt8} (h : BRow w B t l) (n : Nat) : BRow (w.drewN n) B t l := h
theorem BRow.drew {w : World} {B t : Nat} {l : List UInt8} (h : BRow w B t l) : BRow w.drew B t l := h
theorem BRow.lt {w : World} {B t : Nat} {l : List UInt8} (h : BRow w B t l) : B < w.heap.size := (Array.getElem?_eq_some_iff.1 h).1
theorem heap_setCell_any (w : World) (g i : Nat) (cs : Array Value) (t : TypeId) (fz : Nat × Nat) (v : Value) (hg : w.heap[g]? = some (.cells cs t fz)) :
    (w.setCell ⟨g, i, none⟩ v).heap[g]? = some (.cells (cs.setIfInBounds i v) t fz) := by
  rw [setCell_eq_setRow w g i cs t fz v hg]
  exact setRow_heap w g cs _ t _ hg
theorem rowC_set (l : List UInt8) (k : Nat) (b : UInt8) : (rowC l).setIfInBounds k (.int .u8 ((b.toNat : Nat) : Int)) = rowC (l.set k b) := by
  apply Array.toList_inj.1
  simp [rowC, List.map_set]
theorem BRow.set_ {w : World} {B t : Nat} {l : List UInt8} (h : BRow w B t l) (k : Nat) (b : UInt8) (x : Int) (hx : x = b.toNat) : BRow (w.setCell ⟨B, k, none⟩ (.int .u8 x)) B t (l.set k b) := by
  subst hx
  unfold BRow
  rw [heap_setCell_any w B k _ _ _ _ h, rowC_set]
/-- nothing below B is changed -/
def Frm (B : Nat) (w w' : World) : Prop := ∀ N, N ≤ B → Below N w w'
theorem Frm.refl (B w) : Frm B w w := fun _ _ => Below.refl _ _
theorem Frm.trans {B w w1 w2} (h1 : Frm B w w1) (h2 : Frm B w1 w2) : Frm B w w2 := fun N hN => (h1 N hN).trans (h2 N hN)

/-- the bytes of n laid over M -/
def putL (A M Z : List UInt8) (n k j : Nat) : List UInt8 := A ++ ((beN n k).take j ++ (M.drop j ++ Z))
theorem putL_zero (A M Z : List UInt8) (n k : Nat) : putL A M Z n k 0 = A ++ (M ++ Z) := by simp [putL]
theorem putL_full (A M Z : List UInt8) (n k : Nat) (hk : M.length = k) : putL A M Z n k k = A ++ (beN n k ++ Z) := by
  unfold putL
  rw [List.take_of_length_le (by rw [beN_length]; exact Nat.le_refl _), List.drop_of_length_le (by omega), List.nil_append]
theorem putL_length (A M Z : List UInt8) (n k j : Nat) (hk : M.length = k) (hj : j ≤ k) : (putL A M Z n k j).length = A.length + k + Z.length := by
  simp [putL, beN_length, hk]; omega
theorem putL_step (A M Z : List UInt8) (n k j : Nat) (hk : M.length = k) (hj : j < k) : (putL A M Z n k j).set (A.length + j) (UInt8.ofNat (n / 2 ^ (8 * (k - 1 - j)))) = putL A M Z n k (j + 1) := by
  unfold putL
  have h1 : ((beN n k).take j).length = j := by simp [beN_length]; omega
  rw [List.set_append_right _ _ (by omega), List.set_append_right _ _ (by omega), h1, show A.length + j - A.length - j = 0 by omega]
  congr 1
  have h2 : M.drop j = M[j] :: M.drop (j + 1) := List.drop_eq_getElem_cons (by omega)
  have h3 : (beN n k).take (j + 1) = (beN n k).take j ++ [UInt8.ofNat (n / 2 ^ (8 * (k - 1 - j)))] := by
    rw [List.take_add_one, beN_getElem? n k j hj]; rfl
  rw [h3, List.append_assoc]
  congr 1
  rw [h2]; rfl
theorem shr_byte (n e : Nat) (hn : n < 2 ^ 63) : ((n : Int) / 2 ^ min e 64 % 256) = (((UInt8.ofNat (n / 2 ^ e)).toNat : Nat) : Int) := by
  have h1 : n / 2 ^ min e 64 = n / 2 ^ e := by
    by_cases h : e ≤ 64
    · rw [Nat.min_eq_left h]
    · rw [Nat.min_eq_right (by omega), Nat.div_eq_of_lt (by omega), Nat.div_eq_of_lt]
      exact Nat.lt_of_lt_of_le hn (Nat.pow_le_pow_right (by decide) (by omega))
  rw [UInt8.toNat_ofNat', ← h1]
  have h2 : ((n : Int) / 2 ^ min e 64) = ((n / 2 ^ min e 64 : Nat) : Int) := by simp
  rw [h2]; omega
set_option maxRecDepth 100000 in
set_option maxHeartbeats 1000000 in
theorem put_walk (B : Nat) (A M Z : List UInt8) (k n : Nat) (hk : M.length = k) (ht : A.length + k + Z.length = 64) (hn : n < 2 ^ 63) (hk8 : 1 ≤ k) (a : Int) (ha : a = A.length) (w : World) (h : BRow w B 46 (A ++ (M ++ Z))) :
    Calls Try.prog 20 #[.pointer (some ⟨B, 0, none⟩), .int .i64 a, .int .i64 k, .int .i64 n] w fun e w' => e = .returned (.tuple #[]) ∧ BRow w' B 46 (A ++ (beN n k ++ Z)) ∧ Frm B w w' := by
  have HH := Lib.hid h
  have HK := Lib.hid hk
  subst ha
  clear h hk
  obtain ⟨m, hm⟩ : ∃ m, A.length = m := ⟨_, rfl⟩
  rw [hm] at ht ⊢
  have HM := Lib.hid hm
  clear hm
  go_enter Try.func20, Try.ntmps20
  go_wp2_with fail
  go_loopw [10] (fun i wr => ∃ j : Nat, j ≤ k ∧ i = .int .i64 j ∧ BRow wr B 46 (putL A M Z n k j) ∧ Frm B w wr) (fun i _ => k - (intOf i).toNat)
  case atStart => exact ⟨0, by omega, rfl, by rw [putL_zero]; exact HH.out, Frm.refl _ _⟩
  case round =>
    obtain ⟨j, hj, rfl, hb, hf⟩ := hrel
    have HB := Lib.hid hb
    have HF := Lib.hid hf
    clear hf
    by_cases hlt : j < k
    · have hlen := putL_length A M Z n k j HK.out hj
      have hfz := hb.frozen (m + j)
      have hce := hb.cell (m + j) (by rw [hlen, HM.out]; omega)
      have hw1 : IntKind.i64.wrap ((m : Int) + (j : Int)) = (m : Int) + (j : Int) := IntWalk.i64_in _ (by omega)
      have hw2 : IntKind.i64.wrap ((k : Int) - 1) = (k : Int) - 1 := IntWalk.i64_in _ (by omega)
      have hw3 : IntKind.i64.wrap ((k : Int) - 1 - (j : Int)) = (k : Int) - 1 - (j : Int) := IntWalk.i64_in _ (by omega)
      have hw4 : IntKind.i64.wrap (8 * ((k : Int) - 1 - (j : Int))) = 8 * ((k : Int) - 1 - (j : Int)) := IntWalk.i64_in _ (by omega)
      have h5 : (0 : Int) ≤ (m : Int) + (j : Int) := by omega
      have h6 : (m : Int) + (j : Int) < 64 := by omega
      have h7 : ((m : Int) + (j : Int)).toNat = m + j := by omega
      have h8 : (0 : Int) ≤ 8 * ((k : Int) - 1 - (j : Int)) := by omega
      clear hb hlen
      go_wp2_with fail
      go_region_held3 (fun _ => True) (exact True.intro) (first | fail)
      go_wp2_with fail
      go_roundw
      case rel =>
        refine ⟨j + 1, by omega, by go_num, ?_, HF.out.trans fun N hN => ((Below.refl _ _).setCell hN _).drew⟩
        have h9 := HB.out.set_ (m + j) (UInt8.ofNat (n / 2 ^ (8 * (k - 1 - j)))) _ (shr_byte n (8 * (k - 1 - j)) hn)
        rw [← HM.out, putL_step A M Z n k j HK.out hlt, HM.out] at h9
        exact h9.drew
      case measure => simp [intOf]; omega
    · obtain rfl : j = k := by omega
      go_wp2_with fail
      go_end0
      exact ⟨rfl, by have := HB.out; rwa [putL_full _ _ _ _ _ HK.out] at this, HF.out⟩
end Go.Proofs.Ytonkamdipalbpaa
