import Derived.Test.YtkogechopdfleaaWi
namespace Go.Proofs.Ytkogechopdfleaa
open Go.RowKit

/-- the number that stands for an integer -/
def zig (n : Int) : Nat := if n < 0 then (-2 * n - 1).toNat else (2 * n).toNat
/-- the bytes of an integer -/
def intB (n : Int) : List UInt8 := if n < -4611686018427387904 then [] else if 4611686018427387904 ≤ n then [] else num (zig n)
theorem number_eq (n : Nat) (m : Int) (h : m = n) (hn : n < 2 ^ 63) (w : World) : Calls Try.prog 11 #[.int .i64 m] w fun e w' => e = .returned (.string ⟨(num n).toArray⟩) ∧ Below w.heap.size w w' := by
  subst h; exact number_walk n hn w
theorem rnumber_eq (n : Nat) (m : Int) (h : m = n) (hn : n < 2 ^ 63) (w : World) : Calls Try.prog 12 #[.int .i64 m] w fun e w' => e = .returned (.string ⟨(num n).toArray⟩) ∧ Below w.heap.size w w' := by
  subst h; exact rnumber_walk n hn w
theorem int_walk (n : Int) (l) (hl : intB n = l) (w : World) : Calls Try.prog 13 #[.int .i64 n] w fun e w' => e = .returned (.string ⟨l.toArray⟩) ∧ Below w.heap.size w w' := by
  by_cases h1 : n < -4611686018427387904
  · have E : intB n = [] := by unfold intB; rw [if_pos h1]
    rw [E] at hl; subst hl
    clear E
    go_enter Try.func13, Try.ntmps13
    go_wp2_with fail
    go_ret
    exact ⟨rfl, Below.refl _ _⟩
  · by_cases h2 : 4611686018427387904 ≤ n
    · have E : intB n = [] := by unfold intB; rw [if_neg h1, if_pos h2]
      rw [E] at hl; subst hl
      clear E
      go_enter Try.func13, Try.ntmps13
      go_wp2_with fail
      go_ret
      exact ⟨rfl, Below.refl _ _⟩
    · have E : intB n = num (zig n) := by unfold intB; rw [if_neg h1, if_neg h2]
      rw [E] at hl; subst hl
      clear E
      by_cases h3 : n < 0
      · have hz : -2 * n - 1 = (zig n : Int) := by unfold zig; rw [if_pos h3]; omega
        have hzl : zig n < 2 ^ 63 := by omega
        have HZ := Lib.hid hz
        have HL := Lib.hid hzl
        clear hz hzl
        go_enter Try.func13, Try.ntmps13
        go_wp2_with fail
        refine (number_eq (zig n) _ (by have := HZ.out; first | exact this | omega | (unfold wrap64; omega)) HL.out _).mono ?_; rintro e w2 ⟨rfl, hb⟩
        have HB := Lib.hid hb
        clear hb
        go_wp2_with fail
        go_ret
        exact ⟨rfl, HB.out⟩
      · have hz : 2 * n = (zig n : Int) := by unfold zig; rw [if_neg h3]; omega
        have hzl : zig n < 2 ^ 63 := by omega
        have HZ := Lib.hid hz
        have HL := Lib.hid hzl
        clear hz hzl
        go_enter Try.func13, Try.ntmps13
        go_wp2_with fail
        refine (number_eq (zig n) _ (by have := HZ.out; first | exact this | omega | (unfold wrap64; omega)) HL.out _).mono ?_; rintro e w2 ⟨rfl, hb⟩
        have HB := Lib.hid hb
        clear hb
        go_wp2_with fail
        go_ret
        exact ⟨rfl, HB.out⟩
theorem rint_form (n : Int) (l) (hl : intB n = l) (w : World) : Calls Try.prog 14 #[.int .i64 n] w fun e w' => e = .returned (.string ⟨l.toArray⟩) ∧ Below w.heap.size w w' := by
  by_cases h2 : 4611686018427387903 < n
  · have h1 : ¬ n < -4611686018427387904 := by omega
    have E : intB n = [] := by unfold intB; rw [if_neg h1, if_pos (by omega)]
    rw [E] at hl; subst hl
    clear E
    go_enter Try.func14, Try.ntmps14
    go_wp2_with fail
    go_ret
    exact ⟨rfl, Below.refl _ _⟩
  · by_cases h1 : n < -4611686018427387904
    · have E : intB n = [] := by unfold intB; rw [if_pos h1]
      rw [E] at hl; subst hl
      clear E
      go_enter Try.func14, Try.ntmps14
      go_wp2_with fail
      go_ret
      exact ⟨rfl, Below.refl _ _⟩
    · have E : intB n = num (zig n) := by unfold intB; rw [if_neg h1, if_neg (by omega)]
      rw [E] at hl; subst hl
      clear E
      by_cases h3 : n < 0
      · have hz : -2 * n - 1 = (zig n : Int) := by unfold zig; rw [if_pos h3]; omega
        have hzl : zig n < 2 ^ 63 := by omega
        have HZ := Lib.hid hz
        have HL := Lib.hid hzl
        clear hz hzl
        go_enter Try.func14, Try.ntmps14
        go_wp2_with fail
        refine (rnumber_eq (zig n) _ (by have := HZ.out; first | exact this | omega | (unfold wrap64; omega)) HL.out _).mono ?_; rintro e w2 ⟨rfl, hb⟩
        have HB := Lib.hid hb
        clear hb
        go_wp2_with fail
        go_ret
        exact ⟨rfl, HB.out⟩
      · have hz : 2 * n = (zig n : Int) := by unfold zig; rw [if_neg h3]; omega
        have hzl : zig n < 2 ^ 63 := by omega
        have HZ := Lib.hid hz
        have HL := Lib.hid hzl
        clear hz hzl
        go_enter Try.func14, Try.ntmps14
        go_wp2_with fail
        refine (rnumber_eq (zig n) _ (by have := HZ.out; first | exact this | omega | (unfold wrap64; omega)) HL.out _).mono ?_; rintro e w2 ⟨rfl, hb⟩
        have HB := Lib.hid hb
        clear hb
        go_wp2_with fail
        go_ret
        exact ⟨rfl, HB.out⟩
theorem textF_walk (s : ByteArray) (hs : s.size < 2 ^ 62) (w : World) : Calls Try.prog 15 #[.string s] w fun e w' => e = .returned (.string ((⟨(num s.size).toArray⟩ : ByteArray) ++ s)) ∧ Below w.heap.size w w' := by
  have hsum : ¬ 9223372036854775807 < (num s.size).length + s.size := by
    have := kOf_le s.size
    rw [num_length]; omega
  go_enter Try.func15, Try.ntmps15
  go_wp2_with fail
  refine (number_eq s.size _ rfl (by omega) _).mono ?_; rintro e w2 ⟨rfl, hb⟩
  have HB := Lib.hid hb
  clear hb
  go_wp2_with fail
  go_ret
  exact ⟨rfl, HB.out⟩
theorem rtextF_walk (s : ByteArray) (hs : s.size < 2 ^ 62) (w : World) : Calls Try.prog 16 #[.string s] w fun e w' => e = .returned (.string ((⟨(num s.size).toArray⟩ : ByteArray) ++ s)) ∧ Below w.heap.size w w' := by
  have hsum : ¬ 9223372036854775807 < (num s.size).length + s.size := by
    have := kOf_le s.size
    rw [num_length]; omega
  go_enter Try.func16, Try.ntmps16
  go_wp2_with fail
  refine (rnumber_eq s.size _ rfl (by omega) _).mono ?_; rintro e w2 ⟨rfl, hb⟩
  have HB := Lib.hid hb
  clear hb
  go_wp2_with fail
  go_ret
  exact ⟨rfl, HB.out⟩
end Go.Proofs.Ytkogechopdfleaa
