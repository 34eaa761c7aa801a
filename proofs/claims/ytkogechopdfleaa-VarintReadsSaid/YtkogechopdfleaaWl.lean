import Derived.Test.YtkogechopdfleaaWk
import Derived.ProofKit
namespace Go.Proofs.Ytkogechopdfleaa
open Go.RowKit

def numB (n : Int) : List UInt8 := if n < 0 then [] else num n.toNat
def sizeN (n : Int) : Int := if n < 0 then 0 else (kOf n.toNat : Int) + 1
theorem num_any (n : Int) (hn : n < 9223372036854775808) (l) (hl : numB n = l) (w : World) : Calls Try.prog 11 #[.int .i64 n] w fun e w' => e = .returned (.string ⟨l.toArray⟩) ∧ Below w.heap.size w w' := by
  subst hl; unfold numB
  split
  · exact number_neg n (by assumption) w
  · exact number_eq n.toNat n (by omega) (by omega) w
theorem rnum_any (n : Int) (hn : n < 9223372036854775808) (l) (hl : numB n = l) (w : World) : Calls Try.prog 12 #[.int .i64 n] w fun e w' => e = .returned (.string ⟨l.toArray⟩) ∧ Below w.heap.size w w' := by
  subst hl; unfold numB
  split
  · exact rnumber_neg n (by assumption) w
  · exact rnumber_eq n.toNat n (by omega) (by omega) w
theorem size_any (n : Int) (hn : n < 9223372036854775808) (k) (hk : sizeN n = k) (w : World) : Calls Try.prog 17 #[.int .i64 n] w fun e w' => e = .returned (.int .i64 k) ∧ w = w' := by
  subst hk; unfold sizeN
  split
  · exact size_neg n (by assumption) w
  · obtain ⟨m, rfl⟩ : ∃ m : Nat, n = m := ⟨n.toNat, by omega⟩
    exact size_at m _ (by omega) rfl w
theorem rsize_any (n : Int) (hn : n < 9223372036854775808) (k) (hk : sizeN n = k) (w : World) : Calls Try.prog 18 #[.int .i64 n] w fun e w' => e = .returned (.int .i64 k) ∧ w = w' := by
  subst hk; unfold sizeN
  split
  · exact rsize_neg n (by assumption) w
  · obtain ⟨m, rfl⟩ : ∃ m : Nat, n = m := ⟨n.toNat, by omega⟩
    exact rsize_at m _ (by omega) rfl w
theorem text_any (s c : ByteArray) (hs : s.size < 2 ^ 62) (ha : (⟨(num s.size).toArray⟩ : ByteArray) ++ s = c) (w : World) : Calls Try.prog 15 #[.string s] w fun e w' => e = .returned (.string c) ∧ Below w.heap.size w w' := text_lit s c hs ha w
theorem rtext_any (s c : ByteArray) (hs : s.size < 2 ^ 62) (ha : (⟨(num s.size).toArray⟩ : ByteArray) ++ s = c) (w : World) : Calls Try.prog 16 #[.string s] w fun e w' => e = .returned (.string c) ∧ Below w.heap.size w w' := by
  subst ha; exact rtextF_walk s hs w

set_option maxRecDepth 10000 in
set_option maxHeartbeats 400000 in
theorem forms_law (n : Int) (hn : n < 9223372036854775808) (s : ByteArray) (w : World) : Calls Try.prog 3 #[.int .i64 n, .string s] w fun e w' => e = .returned (.bool true) ∧ Below w.heap.size w w' := by
  have HN := Lib.hid hn
  by_cases hs : 300 < s.size
  · have hs' : (300 : Int) < s.size := by omega
    go_enter Try.func3, Try.ntmps3
    go_wp2_with fail
    refine (awake_walk _).mono ?_; rintro e w0 ⟨rfl, hb0⟩
    have HB0 := Lib.hid hb0
    clear hb0
    go_wp2_with fail
    go_ret
    exact ⟨rfl, HB0.out⟩
  · have hs' : ¬ (300 : Int) < s.size := by omega
    have HS := Lib.hid (show s.size < 2 ^ 62 by omega)
    obtain ⟨a, ha⟩ : ∃ a, numB n = a := ⟨_, rfl⟩
    obtain ⟨i, hi⟩ : ∃ i, intB n = i := ⟨_, rfl⟩
    obtain ⟨c, hc⟩ : ∃ c, (⟨(num s.size).toArray⟩ : ByteArray) ++ s = c := ⟨_, rfl⟩
    obtain ⟨k, hk⟩ : ∃ k, sizeN n = k := ⟨_, rfl⟩
    have HA := Lib.hid ha
    have HI := Lib.hid hi
    have HC := Lib.hid hc
    have HK := Lib.hid hk
    clear ha hi hc hk hs hn
    go_enter Try.func3, Try.ntmps3
    go_wp2_with fail
    refine (awake_walk _).mono ?_; rintro e w0 ⟨rfl, hb0⟩
    have HB0 := Lib.hid hb0
    clear hb0
    go_wp2_with fail
    refine (num_any n HN.out a (by exact HA.out) _).mono ?_; rintro e w1 ⟨rfl, hb⟩
    have HB1 := Lib.hid (step_b HB0.out hb)
    clear hb
    go_wp2_with fail
    refine (rnum_any n HN.out a (by exact HA.out) _).mono ?_; rintro e w2 ⟨rfl, hb⟩
    have HB2 := Lib.hid (step_b HB1.out hb)
    clear hb
    go_wp2_with fail
    refine (int_walk n i (by exact HI.out) _).mono ?_; rintro e w3 ⟨rfl, hb⟩
    have HB3 := Lib.hid (step_b HB2.out hb)
    clear hb
    go_wp2_with fail
    refine (rint_form n i (by exact HI.out) _).mono ?_; rintro e w4 ⟨rfl, hb⟩
    have HB4 := Lib.hid (step_b HB3.out hb)
    clear hb
    go_wp2_with fail
    refine (text_any s c HS.out (by exact HC.out) _).mono ?_; rintro e w5 ⟨rfl, hb⟩
    have HB5 := Lib.hid (step_b HB4.out hb)
    clear hb
    go_wp2_with fail
    refine (rtext_any s c HS.out (by exact HC.out) _).mono ?_; rintro e w6 ⟨rfl, hb⟩
    have HB6 := Lib.hid (step_b HB5.out hb)
    clear hb
    go_wp2_with fail
    refine (size_any n HN.out k (by exact HK.out) _).mono ?_; rintro e _ ⟨rfl, rfl⟩
    go_wp2_with fail
    refine (rsize_any n HN.out k (by exact HK.out) _).mono ?_; rintro e _ ⟨rfl, rfl⟩
    go_wp2_with fail
    go_ret
    exact ⟨rfl, HB6.out⟩
theorem forms_in (n : Int) (wn : (Lit.int .i64 n).wf = true) (s : ByteArray) (_ : s.size ≤ maxLen) (w : World) : Calls Try.prog 3 #[.int .i64 n, .string s] w fun e w' => e = .returned (.bool true) ∧ Below w.heap.size w w' := by
  have := bounds_i64 wn
  exact forms_law n (by omega) s w
end Go.Proofs.Ytkogechopdfleaa
