import Derived.Test.YtglchdcpkjabaaaWe
import Derived.Laws.IdiomStrings
namespace Go.Proofs.Ytglchdcpkjabaaa
open Go.RowKit

theorem flip1_walk (m x n cap Bs Bi Bb k : Nat) (bit : Nat) (hk : bit / 8 = k) (hkn : k < n) (w : World) (h1 : w.cell? ⟨Bs, 0, none⟩ = some (.slice (some ⟨Bb, 0, none⟩) n cap))
    (h2 : w.cell? ⟨Bi, 0, none⟩ = some (.int .i64 bit)) (h3 : w.cell? ⟨Bb, k, none⟩ = some (.int .u8 x)) (h4 : w.frozen? ⟨Bb, k, none⟩ = false) (hx : x < 256) (hm : m < 256) (hbit : bit < 9223372036854775808) :
    Calls Try.prog 26 #[.int .u8 m, .pointer (some ⟨Bs, 0, none⟩), .pointer (some ⟨Bi, 0, none⟩)] w fun e w' => e = .returned (.tuple #[]) ∧ w' = w.setCell ⟨Bb, k, none⟩ (.int .u8 ((x ^^^ m : Nat) : Int)) := by
  subst hk
  have hx' : (x : Int) < 256 := by omega
  have hm' : (m : Int) < 256 := by omega
  have h0 : (bit : Int) / 8 < n := by omega
  go_enter Try.func26, Try.ntmps26
  go_wp2_with fail
  go_end0
  exact ⟨rfl, by rw [u8_xor_nat _ _ hx hm]⟩

theorem three_0 (w : World) (A B D : Obj) : (((w.alloc A).alloc B).alloc D).drew.heap[w.heap.size]? = some A := by
  show (((w.heap.push A).push B).push D)[w.heap.size]? = _
  simp only [Array.getElem?_push, Array.size_push]
  rw [if_neg (by omega), if_neg (by omega), if_pos trivial]
theorem three_1 (w : World) (A B D : Obj) : (((w.alloc A).alloc B).alloc D).drew.heap[w.heap.size + 1]? = some B := by
  show (((w.heap.push A).push B).push D)[w.heap.size + 1]? = _
  simp only [Array.getElem?_push, Array.size_push]
  rw [if_neg (by omega), if_pos trivial]
theorem three_2 (w : World) (A B D : Obj) : (((w.alloc A).alloc B).alloc D).drew.heap[w.heap.size + 1 + 1]? = some D := by
  show (((w.heap.push A).push B).push D)[w.heap.size + 1 + 1]? = _
  simp only [Array.getElem?_push, Array.size_push]
  rw [if_pos trivial]
theorem three_below (w : World) (A B D : Obj) : Below w.heap.size w (((w.alloc A).alloc B).alloc D).drew :=
  ((((Below.refl _ _).alloc (Nat.le_refl _) _).alloc (by simp) _).alloc (by simp; omega) _).drew
theorem u8_row (s : ByteArray) (cap j : Nat) (hj : j < s.size) : (bytesRow s cap)[j]? = some (.int .u8 ((s.data.toList.getD j 0).toNat : Int)) := by
  rw [bytesRow_at s cap j hj, ← getD_at s j hj]; rfl
theorem row_size (s : ByteArray) (cap : Nat) : s.size ≤ (bytesRow s cap).size := by simp [bytesRow]
theorem mask_form (bit : Nat) : (128 / 2 ^ (bit % 8) : Int) = ((2 ^ (7 - bit % 8) : Nat) : Int) := by
  have : bit % 8 < 8 := Nat.mod_lt _ (by omega)
  rcases (by omega : bit % 8 = 0 ∨ bit % 8 = 1 ∨ bit % 8 = 2 ∨ bit % 8 = 3 ∨ bit % 8 = 4 ∨ bit % 8 = 5 ∨ bit % 8 = 6 ∨ bit % 8 = 7) with h | h | h | h | h | h | h | h <;> rw [h] <;> decide
theorem mask_lt (bit : Nat) : 2 ^ (7 - bit % 8) < 256 := Nat.lt_of_le_of_lt (Nat.pow_le_pow_right (by decide) (show 7 - bit % 8 ≤ 7 by omega)) (by decide)
theorem flip_get (l : List UInt8) (bit j : Nat) (hb : bit / 8 < l.length) (hj : j < l.length) :
    ((flip l bit)[j]'(by rw [flip_length]; exact hj)).toNat = if j = bit / 8 then (l.getD (bit / 8) 0).toNat ^^^ 2 ^ (7 - bit % 8) else (l.getD j 0).toNat := by
  unfold flip
  simp only [dif_pos hb, List.getElem_set]
  by_cases h : j = bit / 8
  · subst h
    rw [if_pos rfl, if_pos rfl, UInt8.toNat_xor, mask_toNat]
    simp [List.getD, hb]
  · rw [if_neg (fun e => h e.symm), if_neg h]
    simp [List.getD, hj]
def flipB (s : ByteArray) (n : Nat) : ByteArray := ⟨(flip s.data.toList n).toArray⟩
theorem flip_yes (s : ByteArray) (bit : Nat) (hs : s.size ≤ 1048576) (h : bit < 8 * s.size) (w : World) :
    Calls Try.prog 13 #[.string s, .int .i64 bit] w fun e w' => e = .returned (.tuple #[.string (flipB s bit), .bool true]) ∧ Below w.heap.size w w' := by
  have hcv := fun W => run_bytes_of_string (P := Try.prog) W 9 35 5 s Try.underlying9 Try.underlying35 Try.underlying5
  have h' : (bit : Int) < 8 * s.size := by omega
  go_enter Try.func13, Try.ntmps13
  go_wp2_with fail
  generalize grownCap (w.alloc (Obj.cells #[Value.int IntKind.i64 ↑bit] 3)) s.size 0 5 = cap
  rw [mask_form]
  have hlt : bit / 8 < s.size := by omega
  have hx := UInt8.toNat_lt (s.data.toList.getD (bit / 8) 0)
  refine (flip1_walk _ _ s.size cap _ _ _ (bit / 8) bit rfl hlt _ (cell_of_row _ _ 0 _ _ _ (three_2 ..)) (cell_of_row _ _ 0 _ _ _ (three_0 ..)) ((cell_of_row _ _ (bit / 8) _ _ _ (three_1 ..)).trans (u8_row s cap _ hlt))
    (by simp only [World.frozen?, three_1]; have := row_size s cap; simp; omega) hx (mask_lt bit) (by omega)).mono ?_
  rintro e w4 ⟨rfl, hw4⟩
  have hbel : Below w.heap.size w w4 := by rw [hw4]; exact (three_below ..).setCell (by simp) _
  have hcell : w4.cell? ⟨w.heap.size + 1 + 1, 0, none⟩ = some (.slice (some ⟨w.heap.size + 1, 0, none⟩) s.size cap) := by
    rw [hw4, World.cell?_of_block (heap_setCell_other _ _ _ _ (by simp))]; exact cell_of_row _ _ 0 _ _ _ (three_2 ..)
  have hback : (convert 35 9 (.slice (some ⟨w.heap.size + 1, 0, none⟩) s.size cap)).run Try.prog w4 = .ok (.string (flipB s bit)) w4 := by
    have hl : (flip s.data.toList bit).length = s.size := by rw [flip_length]; simp
    have := run_convert_bytes_back (P := Try.prog) w4 35 9 5 ⟨w.heap.size + 1, 0, none⟩ cap (flip s.data.toList bit) Try.underlying35 Try.underlying5 Try.underlying9 (by
      intro j hj
      rw [hl] at hj
      have hadd : (⟨w.heap.size + 1, 0, none⟩ : Addr).add j = ⟨w.heap.size + 1, j, none⟩ := by unfold Addr.add; split <;> simp_all
      rw [hadd, flip_get _ _ _ (by simpa using hlt) (by simpa using hj), hw4]
      by_cases hjk : j = bit / 8
      · subst hjk
        rw [if_pos rfl]
        exact World.cell?_setCell_same _ _ _ ((cell_of_row _ _ (bit / 8) _ _ _ (three_1 ..)).trans (u8_row s cap _ hlt))
      · rw [if_neg hjk]
        refine (World.cell?_setCell_other _ _ _ _ (by simp <;> omega)).trans ?_
        exact (cell_of_row _ _ j _ _ _ (three_1 ..)).trans (u8_row s cap _ hj))
    rw [hl] at this
    exact this
  clear hw4
  go_wp2
  go_ret2
  exact ⟨rfl, hbel⟩
theorem flip_low (s : ByteArray) (bit : Int) (hs : s.size ≤ 1048576) (h : bit < 0) (w : World) :
    Calls Try.prog 13 #[.string s, .int .i64 bit] w fun e w' => e = .returned (.tuple #[.string ⟨#[]⟩, .bool false]) ∧ Below w.heap.size w w' := by
  go_enter Try.func13, Try.ntmps13
  go_wp2_with fail
  go_ret2
  exact ⟨rfl, (Below.refl _ _).alloc (Nat.le_refl _) _⟩
theorem flip_high (s : ByteArray) (bit : Int) (hs : s.size ≤ 1048576) (h0 : 0 ≤ bit) (h : 8 * (s.size : Int) ≤ bit) (w : World) :
    Calls Try.prog 13 #[.string s, .int .i64 bit] w fun e w' => e = .returned (.tuple #[.string ⟨#[]⟩, .bool false]) ∧ Below w.heap.size w w' := by
  go_enter Try.func13, Try.ntmps13
  go_wp2_with fail
  go_ret2
  exact ⟨rfl, (Below.refl _ _).alloc (Nat.le_refl _) _⟩
end Go.Proofs.Ytglchdcpkjabaaa
