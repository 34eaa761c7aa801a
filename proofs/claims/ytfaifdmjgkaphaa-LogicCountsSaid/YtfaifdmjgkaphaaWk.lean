import Derived.Test.YtfaifdmjgkaphaaWj
import Derived.Deep.QuietTactic
import Derived.BigQuiet
import Derived.Laws.IdiomStrings
namespace Go.Proofs.Ytfaifdmjgkaphaa
open Go.RowKit
attribute [local go_sem ↓] Go.wp_at_zero Go.wp_at_succ

def iB (b : UInt8) : UInt8 := UInt8.ofNat (rInv b.toNat)
def tl (l : List UInt8) : List UInt8 := (l.filter fun b => rValid b.toNat).map iB
theorem rInv_lt (c : Nat) (h : c < 256) : rInv c < 256 := by unfold rInv rNot; (repeat' split) <;> omega
theorem iB_toNat (b : UInt8) : (iB b).toNat = rInv b.toNat := by
  unfold iB; rw [UInt8.toNat_ofNat']; exact Nat.mod_eq_of_lt (rInv_lt _ b.toNat_lt)
theorem inv_inv (c : Nat) (h : rValid c = true) : rInv (rInv c) = c := by
  have h' : c = 48 ∨ c = 49 ∨ c = 120 ∨ c = 122 := by simpa [rValid] using h
  rcases h' with rfl | rfl | rfl | rfl <;> rfl
theorem cnt_cons (b : UInt8) (l : List UInt8) (i : Int) : cnt (b :: l) i = (if code b.toNat = i then 1 else 0) + cnt l i := by
  unfold cnt
  by_cases h : code b.toNat = i <;> simp [List.filter_cons, h] <;> omega
theorem tl_cons (b : UInt8) (l : List UInt8) : tl (b :: l) = (if rValid b.toNat = true then [iB b] else []) ++ tl l := by
  unfold tl
  by_cases h : rValid b.toNat = true <;> simp [List.filter_cons, h]
theorem tl_snoc (l : List UInt8) (b : UInt8) : tl (l ++ [b]) = tl l ++ (if rValid b.toNat = true then [iB b] else []) := by
  unfold tl
  rw [List.filter_append, List.map_append]
  by_cases h : rValid b.toNat = true <;> simp [List.filter_cons, h]
theorem codes_of (c : Nat) : (rValid c = false ∧ code c = -1) ∨ (rValid c = true ∧ ((c = 48 ∧ code c = 0) ∨ (c = 49 ∧ code c = 1) ∨ (c = 120 ∧ code c = 2) ∨ (c = 122 ∧ code c = 3))) := by
  by_cases h : rValid c = true
  · right; refine ⟨h, ?_⟩
    have h' : c = 48 ∨ c = 49 ∨ c = 120 ∨ c = 122 := by simpa [rValid] using h
    rcases h' with rfl | rfl | rfl | rfl <;> decide
  · left; refine ⟨by simpa using h, ?_⟩
    have h' : ¬ (c = 48 ∨ c = 49 ∨ c = 120 ∨ c = 122) := by simpa [rValid] using h
    unfold code; (repeat' split) <;> omega
theorem cnt_tl : ∀ l : List UInt8, cnt (tl l) 0 = cnt l 1 ∧ cnt (tl l) 1 = cnt l 0 ∧ cnt (tl l) 2 = cnt l 2 ∧ cnt (tl l) 3 = cnt l 3
  | [] => ⟨rfl, rfl, rfl, rfl⟩
  | b :: l => by
    obtain ⟨h0, h1, h2, h3⟩ := cnt_tl l
    rw [tl_cons]
    rcases codes_of b.toNat with ⟨hv, hc⟩ | ⟨hv, ⟨hb, hc⟩ | ⟨hb, hc⟩ | ⟨hb, hc⟩ | ⟨hb, hc⟩⟩
    · simp only [hv]
      rw [cnt_cons, cnt_cons, cnt_cons, cnt_cons, hc]
      simp [h0, h1, h2, h3]
    all_goals
      simp only [hv, if_true, List.singleton_append]
      rw [cnt_cons, cnt_cons, cnt_cons, cnt_cons, cnt_cons, cnt_cons, cnt_cons, cnt_cons, iB_toNat, hb, h0, h1, h2, h3, ← hb, hc, hb]
      refine ⟨?_, ?_, ?_, ?_⟩ <;> simp [rInv, rNot, code]
def nv (l : List UInt8) : Nat := cnt l 0 + cnt l 1 + cnt l 2 + cnt l 3
end Go.Proofs.Ytfaifdmjgkaphaa
