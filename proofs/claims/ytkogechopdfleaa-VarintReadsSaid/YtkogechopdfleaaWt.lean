import Derived.Test.YtkogechopdfleaaWs
import Derived.Deep.Strs
import Derived.ChangeSlices
namespace Go.Proofs.Ytkogechopdfleaa
open Go.RowKit Go.ChangeShapes Go.WideShapes Go.ChangeAt

def bA (l : List UInt8) : ByteArray := ⟨l.toArray⟩
theorem bA_size (l : List UInt8) : (bA l).size = l.length := by
  show l.toArray.size = _
  simp
theorem bA_list (l : List UInt8) : (bA l).data.toList = l := by simp [bA]
theorem bA_app (a b : List UInt8) : bA a ++ bA b = bA (a ++ b) := by
  apply ByteArray.ext; simp [bA]
theorem bA_self (b : ByteArray) : bA b.data.toList = b := by apply ByteArray.ext; simp [bA]
def catN (l : List Int) : List UInt8 := (l.map numB).flatten
def catI (l : List Int) : List UInt8 := (l.map intB).flatten
def textL (t : ByteArray) : List UInt8 := num t.size ++ t.data.toList
def catT (l : List ByteArray) : List UInt8 := (l.map textL).flatten
theorem numB_le (n : Int) : (numB n).length ≤ 9 := by
  unfold numB; split
  · simp
  · rw [num_length]; have := kOf_le n.toNat; omega
theorem intB_le (n : Int) : (intB n).length ≤ 9 := by
  unfold intB; split
  · simp
  · split
    · simp
    · rw [num_length]; have := kOf_le (zig n); omega
theorem textL_le (t : ByteArray) : (textL t).length ≤ 9 + t.size := by
  unfold textL; rw [List.length_append, num_length]; have := kOf_le t.size; show _ + t.data.toList.length ≤ _; have : t.data.toList.length = t.size := rfl; omega
theorem flat_le {α : Type} (f : α → List UInt8) (b : Nat) : ∀ (l : List α), (∀ x ∈ l, (f x).length ≤ b) → ((l.map f).flatten).length ≤ b * l.length
  | [], _ => by simp
  | x :: l, h => by
    have h1 := h x (by simp)
    have h2 := flat_le f b l (fun y hy => h y (by simp [hy]))
    simp only [List.map_cons, List.flatten_cons, List.length_append, List.length_cons, Nat.mul_add, Nat.mul_one]
    omega
theorem take_snoc_d {α : Type} (l : List α) (k : Nat) (d : α) (h : k < l.length) : l.take (k + 1) = l.take k ++ [l.getD k d] := by
  rw [List.take_succ_eq_append_getElem h]; simp [List.getD, h]
theorem drop_cons_d {α : Type} (l : List α) (k : Nat) (d : α) (h : k < l.length) : l.drop k = l.getD k d :: l.drop (k + 1) := by
  rw [List.drop_eq_getElem_cons h]; simp [List.getD, h]
theorem flat_snoc {α : Type} (f : α → List UInt8) (l : List α) (k : Nat) (d : α) (h : k < l.length) : ((l.take (k + 1)).map f).flatten = ((l.take k).map f).flatten ++ f (l.getD k d) := by
  rw [take_snoc_d l k d h]; simp
theorem flat_cons {α : Type} (f : α → List UInt8) (l : List α) (k : Nat) (d : α) (h : k < l.length) : ((l.drop k).map f).flatten = f (l.getD k d) ++ ((l.drop (k + 1)).map f).flatten := by
  rw [drop_cons_d l k d h]; simp
/-- a slice of integers, of texts -/
def Ints (w : World) (N : Nat) (A : Option Addr) (zs : List Int) : Prop := ∀ i, i < zs.length → ∃ a, A = some a ∧ a.block < N ∧ w.cell? (a.add i) = some (.int .i64 (zs.getD i 0))
def Strs (w : World) (N : Nat) (A : Option Addr) (ss : List ByteArray) : Prop := ∀ i, i < ss.length → ∃ a, A = some a ∧ a.block < N ∧ w.cell? (a.add i) = some (.string (ss.getD i ⟨#[]⟩))
theorem add_block (a : Addr) (n : Nat) : (a.add n).block = a.block := by unfold Addr.add; split <;> rfl
theorem Ints.below {w w' : World} {N M : Nat} {A : Option Addr} {ss : List Int} (h : Ints w N A ss) (hb : Below M w w') (hN : N ≤ M) : Ints w' N A ss := fun i hi => by
  obtain ⟨a, h1, h2, h3⟩ := h i hi
  exact ⟨a, h1, h2, (hb.cell (by rw [add_block]; omega)).trans h3⟩
theorem Strs.below {w w' : World} {N M : Nat} {A : Option Addr} {ss : List ByteArray} (h : Strs w N A ss) (hb : Below M w w') (hN : N ≤ M) : Strs w' N A ss := fun i hi => by
  obtain ⟨a, h1, h2, h3⟩ := h i hi
  exact ⟨a, h1, h2, (hb.cell (by rw [add_block]; omega)).trans h3⟩
theorem num_hid (n : Int) (l : List UInt8) (H : Hid (n < 9223372036854775808 ∧ numB n = l)) (w : World) : Calls Try.prog 11 #[.int .i64 n] w fun e w' => e = .returned (.string (bA l)) ∧ Below w.heap.size w w' := num_any n H.out.1 l H.out.2 w
theorem int_hid (n : Int) (l : List UInt8) (H : Hid (intB n = l)) (w : World) : Calls Try.prog 13 #[.int .i64 n] w fun e w' => e = .returned (.string (bA l)) ∧ Below w.heap.size w w' := int_walk n l H.out w
theorem text_hid (t : ByteArray) (l : List UInt8) (H : Hid (t.size ≤ 100 ∧ textL t = l)) (w : World) : Calls Try.prog 15 #[.string t] w fun e w' => e = .returned (.string (bA l)) ∧ Below w.heap.size w w' := by
  obtain ⟨h1, rfl⟩ := H.out
  have := text_any t _ (by omega) rfl w
  rw [show (bA (textL t)) = (⟨(num t.size).toArray⟩ : ByteArray) ++ t by unfold textL; rw [← bA_app, bA_self]; rfl]
  exact this
theorem read_n (n : Int) (h0 : 0 ≤ n) (h1 : n < 9223372036854775808) (r : List UInt8) : readS decN 0 n (bA (numB n ++ r)) 0 = (bA r, 0, n) := by
  obtain ⟨m, rfl⟩ : ∃ m : Nat, n = m := ⟨n.toNat, by omega⟩
  have := readS_num decN 0 m m (by omega) (bA r) (by unfold decN; omega) (by unfold decN; omega)
  rw [show (⟨(num m).toArray⟩ : ByteArray) = bA (num m) from rfl, bA_app] at this
  rw [show numB (m : Int) = num m from numB_nat m]
  exact this
theorem read_i (n : Int) (h1 : ¬ n < -4611686018427387904) (h2 : ¬ 4611686018427387904 ≤ n) (r : List UInt8) : readS decI n n (bA (intB n ++ r)) 0 = (bA r, 0, n) := by
  have hd := decI_zig n h1 h2
  have := readS_num decI n n (zig n) (zig_lt n h1 h2) (bA r) (by rw [hd]; omega) (by rw [hd]; omega)
  rw [show (⟨(num (zig n)).toArray⟩ : ByteArray) = bA (num (zig n)) from rfl, bA_app, hd] at this
  rw [show intB n = num (zig n) by unfold intB; rw [if_neg h1, if_neg h2]]
  exact this
theorem take_t (t : ByteArray) (r : List UInt8) : takeS (t.size : Int) (t ++ bA r) 0 = (bA r, 0, t) := by
  unfold takeS
  rw [if_neg (by simp), if_neg (by omega), if_neg (by rw [ByteArray.size_append]; omega), Int.toNat_natCast]
  rw [ByteArray.extract_append_eq_right rfl ByteArray.size_append]
  have : (t ++ bA r).extract 0 t.size = t := by
    apply ByteArray.ext
    simp [ByteArray.data_extract]
  rw [this]
theorem read_t (t : ByteArray) (ht : t.size ≤ 100) (r : List UInt8) : textS (t.size : Int) (bA (textL t ++ r)) 0 = (bA r, 0, t) := by
  have h1 := readS_num decN 0 (t.size : Int) t.size (by omega) (t ++ bA r) (by unfold decN; omega) (by unfold decN; omega)
  have e : bA (textL t ++ r) = (⟨(num t.size).toArray⟩ : ByteArray) ++ (t ++ bA r) := by
    rw [← bA_app, textL, ← bA_app, bA_self, ByteArray.append_assoc]; rfl
  unfold textS
  rw [e, h1]
  simp only [show decN t.size = (t.size : Int) from rfl, take_t]
  rfl
end Go.Proofs.Ytkogechopdfleaa
