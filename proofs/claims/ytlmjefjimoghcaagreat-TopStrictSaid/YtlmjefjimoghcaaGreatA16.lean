/- A part of the proofs of TopCounter and TopStrict: what the functions of the program do, each walked once, and plain laws about it. No condition. -/
import Derived.Test.YtlmjefjimoghcaaGreatA15
import Derived.Test.YtlmjefjimoghcaaGreatA11
namespace Go.Proofs.YtlmjefjimoghcaaGreat
set_option linter.unusedSimpArgs false
set_option linter.unnecessarySimpa false
set_option linter.unusedVariables false
open Go.RowKit
attribute [local go_sem ↓] Go.wp_at_zero Go.wp_at_succ
def negN (v : Int) : Bool := decide (v < 0)
def decNumF (data : List UInt8) (most : Int) : List Int × Int := if (decNumS data most).1.any negN then ([], 12) else decNumS data most
theorem any_step {f : Int → Bool} {l : List Int} {k : Nat} (hk : k < l.length) : (l.take (k + 1)).any f = ((l.take k).any f || f (l.getD k default)) := by
 rw [take_getD hk]; simp
theorem decNumS_len (data : List UInt8) (most : Int) : (decNumS data most).1.length ≤ 4096 := by
 unfold decNumS
 split
 ·simp
 ·split
  ·simp
  ·split
   ·simp
   ·split
    ·simp
    ·simp only
     split
     ·rw [decNs_len]; omega
     ·simp
theorem decNumF_len (data : List UInt8) (most : Int) : (decNumF data most).1.length ≤ 4096 := by
 unfold decNumF; split
 ·simp
 ·exact decNumS_len data most
set_option maxRecDepth 100000 in
theorem decNums_walk (data : List UInt8) (hd : data.length ≤ 1000000) (most : Int) (w : World) : Calls Tryz.prog 16 #[.string (sB data), .int .i64 most] w fun x w' => RetI w (decNumF data most).1 (decNumF data most).2 x w' := by
 obtain ⟨r, hr⟩ : ∃ r, decNumS data most = r := ⟨_, rfl⟩
 have hlen := decNumS_len data most
 rw [hr] at hlen
 have HE : Hid (decNumF data most = if r.1.any negN then ([], 12) else r) := Lib.hid (by unfold decNumF; rw [hr])
 have HW := Lib.hid fun w B G hb hi hBG => decN_walk data hd most w B G hb hi hBG
 rw [hr] at HW
 obtain ⟨l, e⟩ := r
 have hlen' : l.length ≤ 4096 := hlen
 have hli : (l.length : Int) ≤ 4096 := by omega
 clear hr hlen hlen'
 go_enter Tryz.func16, Tryz.ntmps16
 go_wp2_with fail
 refine (newNumbers_walk _).mono ?_
 rintro x w1 ⟨G, B, rfl, hG, hB, hBG, hb, hi, hn⟩
 have HWa := Lib.hid (HW.out w1 B G hn hi hBG)
 have HX := Lib.hid (And.intro hG (And.intro hB hb))
 clear hG hB hBG hb hi hn HW
 go_wp2_with fail
 refine (HWa.out).mono ?_
 rintro x w2 ⟨ht, A, c, rfl, hin⟩
 have HB2 : Hid (Below w.heap.size w w2) := Lib.hid (by
  obtain ⟨h1, h2, h3⟩ := HX.out
  exact h3.trans (ht.below _ h3.size fun i hi => hi.elim (fun h => h ▸ h1) (fun h => h ▸ h2)))
 have HIn := Lib.hid hin
 clear ht hin HWa
 go_wp2_with fail
 go_loopw [20] (fun i wr => ∃ k : Nat, i = .int .i64 (k : Int) ∧ k ≤ l.length ∧ (l.take k).any negN = false ∧ w2 = wr) (fun i _ => ((l.length : Int) - intOf i).toNat)
 case atStart => exact ⟨0, rfl, Nat.zero_le _, rfl, rfl⟩
 case round =>
  obtain ⟨k, rfl, hk, hv, rfl⟩ := hrel
  have HVa := Lib.hid hv
  clear hv
  by_cases hlt : k < l.length
  ·have hkl : (k : Int) < l.length := by omega
   obtain ⟨a, rfl, c0⟩ := HIn.out.1.at (.refl _ _) hlt
   have HSt := Lib.hid (any_step (f := negN) hlt)
   have hmem := List.mem_of_getElem? (get_default hlt)
   obtain ⟨v, hv⟩ : ∃ v, l.getD k default = v := ⟨_, rfl⟩
   rw [hv] at c0 HSt hmem
   have HMem := Lib.hid hmem
   clear hv hmem
   by_cases h0 : v < 0
   ·have HE' : Hid (decNumF data most = ([], 12)) := Lib.hid (by
     rw [HE.out, if_pos]
     exact List.any_eq_true.2 ⟨v, HMem.out, by unfold negN; exact decide_eq_true h0⟩)
    go_wp2_with fail
    refine bodyPost_ret (results_tmp2 rfl _ _ _) rfl ?_
    rw [HE'.out]
    exact retI_nil HB2.out
   ·have HT : Hid ((l.take (k + 1)).any negN = false) := Lib.hid (by rw [HSt.out, HVa.out]; unfold negN; rw [decide_eq_false h0]; rfl)
    go_wp2_with fail
    go_roundw
    case rel => exact ⟨k + 1, by go_num, by omega, HT.out, trivial⟩
    case measure => simp [intOf]; omega
  ·obtain rfl : k = l.length := by omega
   have ha : l.any negN = false := by have := HVa.out; rwa [List.take_length] at this
   have HE' : Hid (decNumF data most = (l, e)) := Lib.hid (by rw [HE.out, if_neg (by simp [ha])])
   clear ha
   go_wp2_with fail
   refine bodyPost_ret (results_tmp2 rfl _ _ _) rfl ?_
   rw [HE'.out]
   exact ⟨HB2.out, A, c, rfl, HIn.out.1, fun a ha => ⟨Nat.le_trans HX.out.2.2.size (HIn.out.2 a ha).1, (HIn.out.2 a ha).2⟩⟩
theorem byE_ok {e : Enc} (h : EOk e) (L : List Int) (l c : Nat) : EOk (byE L l c e).2 ∧ (byE L l c e).2.out.length ≤ e.out.length + 16 ∧ (byE L l c e).1.length = L.length := by
 obtain ⟨h1, h2⟩ := trE_ok 8 (l / 32 * 256) c 1 L e h
 exact ⟨h1, h2, trE_len 8 (l / 32 * 256) c 1 L e⟩
set_option maxRecDepth 100000 in
theorem byD_keep (L : List Int) (l : Nat) (d : Dec) (h : 2 ^ 24 ≤ d.size) (h1 : d.size < 2 ^ 32) : 2 ^ 24 ≤ (byD L l d).2.2.size ∧ (byD L l d).2.1.length = L.length ∧ (byD L l d).1 < 256 := by
 refine ⟨(trD_size 8 (l / 32 * 256) 1 L d h h1).1, trD_len 8 (l / 32 * 256) 1 L d, ?_⟩
 obtain ⟨r, hr, h⟩ := trD_range 8 (l / 32 * 256) 1 L d
 show (trD 8 (l / 32 * 256) 1 L d).1 - 2 ^ 8 < 256
 rw [h]; omega
end Go.Proofs.YtlmjefjimoghcaaGreat
