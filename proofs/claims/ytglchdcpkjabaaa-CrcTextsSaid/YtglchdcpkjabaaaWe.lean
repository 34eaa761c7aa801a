import Derived.Test.YtglchdcpkjabaaaWd
namespace Go.Proofs.Ytglchdcpkjabaaa
open Go.RowKit

theorem add_xor (x y m : Nat) (h : x < 2 ^ m) : x ^^^ (y * 2 ^ m) = x + y * 2 ^ m := by
  rw [← or_eq_xor x y m h, Nat.or_comm, Nat.mul_comm, ← Nat.two_pow_add_eq_or_of_lt h, Nat.add_comm]
theorem word_add (a b c d : UInt8) : word a b c d = a.toNat + b.toNat * 256 + c.toNat * 65536 + d.toNat * 16777216 := by
  have ha := a.toNat_lt; have hb := b.toNat_lt; have hc := c.toNat_lt; have hd := d.toNat_lt
  unfold word
  rw [add_xor _ _ 8 (by omega), add_xor _ _ 16 (by omega), add_xor _ _ 24 (by omega)]
theorem le4_word (a b c d : UInt8) : le4 (word a b c d) = [a, b, c, d] := by
  have ha := a.toNat_lt; have hb := b.toNat_lt; have hc := c.toNat_lt; have hd := d.toNat_lt
  unfold le4
  rw [word_add]
  congr 1
  · apply UInt8.toNat_inj.1; rw [UInt8.toNat_ofNat']; omega
  congr 1
  · apply UInt8.toNat_inj.1; rw [UInt8.toNat_ofNat']; omega
  congr 1
  · apply UInt8.toNat_inj.1; rw [UInt8.toNat_ofNat']; omega
  congr 1
  · apply UInt8.toNat_inj.1; rw [UInt8.toNat_ofNat']; omega
theorem word_le4 (n : Nat) (hn : n < 2 ^ 32) : word (UInt8.ofNat n) (UInt8.ofNat (n / 256)) (UInt8.ofNat (n / 65536)) (UInt8.ofNat (n / 16777216)) = n := by
  rw [word_add]
  simp only [UInt8.toNat_ofNat']
  omega
def sealL (l : List UInt8) : List UInt8 := l ++ le4 (sum l)
theorem sealL_length (l : List UInt8) : (sealL l).length = l.length + 4 := by simp [sealL, le4]
theorem sealB_list (s : ByteArray) : (sealB s).data.toList = sealL s.data.toList := by
  simp [sealB, sealL]
theorem take_seal (l : List UInt8) : (sealL l).take ((sealL l).length - 4) = l := by
  rw [sealL_length]; simp [sealL]
theorem getD_app (d : List UInt8) (a b c e : UInt8) (k : Nat) : (d ++ [a, b, c, e]).getD (d.length + k) 0 = [a, b, c, e].getD k 0 := by
  rw [List.getD_eq_getElem?_getD, List.getD_eq_getElem?_getD, List.getElem?_append_right (by omega), show d.length + k - d.length = k by omega]
theorem last4_app (d : List UInt8) (a b c e : UInt8) : last4 (d ++ [a, b, c, e]) = word a b c e := by
  have hl : (d ++ [a, b, c, e]).length = d.length + 4 := by simp
  unfold last4
  rw [hl, show d.length + 4 - 4 = d.length + 0 by omega, show d.length + 4 - 3 = d.length + 1 by omega, show d.length + 4 - 2 = d.length + 2 by omega, show d.length + 4 - 1 = d.length + 3 by omega,
    getD_app, getD_app, getD_app, getD_app]
  rfl
theorem syn_seal (l : List UInt8) : syn (sealL l) = 0 := by
  unfold syn
  rw [take_seal]
  have : last4 (sealL l) = sum l := by
    rw [sealL, le4, last4_app, word_le4 _ (sum_lt l)]
  rw [this, Nat.xor_self]
theorem seal_of_syn {l : List UInt8} (h4 : 4 ≤ l.length) (h : syn l = 0) : sealL (l.take (l.length - 4)) = l := by
  have e := split4 h4
  have hw : sum (l.take (l.length - 4)) = last4 l := xor_eq_zero.1 h
  unfold sealL
  rw [hw, last4, le4_word]
  exact e.symm
theorem opens_seal (l : List UInt8) : opens (sealL l) = true := by
  unfold opens
  exact decide_eq_true ⟨by rw [sealL_length]; omega, syn_seal l⟩
theorem opens_iff (l : List UInt8) (h4 : 4 ≤ l.length) : opens l = true ↔ sealL (l.take (l.length - 4)) = l := by
  constructor
  · intro h
    have h' : 4 ≤ l.length ∧ syn l = 0 := by simpa [opens] using h
    exact seal_of_syn h4 h'.2
  · intro h
    rw [← h]; exact opens_seal _
theorem ext_list {a b : ByteArray} (h : a.data.toList = b.data.toList) : a = b := by
  cases a; cases b; simp at h; simp [h]
theorem opens_sealB (s : ByteArray) (h4 : 4 ≤ s.size) : opens s.data.toList = true ↔ sealB (s.extract 0 (s.size - 4)) = s := by
  rw [opens_iff _ (by simpa using h4)]
  constructor
  · intro h
    apply ext_list
    rw [sealB_list, extract_take _ _ (by omega)]
    simpa using h
  · intro h
    have := congrArg (fun b : ByteArray => b.data.toList) h
    simp only [sealB_list] at this
    rw [extract_take _ _ (by omega)] at this
    simpa using this
theorem beq_str {a b : ByteArray} : (a.toList == b.toList) = true ↔ a = b := by
  rw [beq_iff_eq, ByteArray.toList_eq, ByteArray.toList_eq]
  exact ⟨fun h => ByteArray.ext (Array.toList_inj.mp h), fun h => by rw [h]⟩

theorem ropen_yes (s : ByteArray) (hs : s.size ≤ 1048576) (h : opens s.data.toList = true) (w : World) : Calls Try.prog 12 #[.string s] w fun e w' => e = .returned (.tuple #[.string (s.extract 0 (s.size - 4)), .int .i64 0]) ∧ Below w.heap.size w w' := by
  have h4 : 4 ≤ s.size := by have h' : 4 ≤ s.size ∧ syn s.data.toList = 0 := by simpa [opens] using h
                             exact h'.1
  have hb : ((sealB (s.extract 0 (s.size - 4))).toList == s.toList) = true := beq_str.2 ((opens_sealB s h4).1 h)
  have h4' : (4 : Int) ≤ s.size := by omega
  clear h
  go_enter Try.func12, Try.ntmps12
  go_wp2_with (go_at_call 18; refine (rseal_walk (s.extract 0 (s.size - 4)) (by simp; omega) _).mono ?_; rintro e w1 ⟨rfl, hb1⟩)
  go_ret2
  exact ⟨rfl, hb1⟩
theorem ropen_no (s : ByteArray) (hs : s.size ≤ 1048576) (h : opens s.data.toList = false) (w : World) : Calls Try.prog 12 #[.string s] w fun e w' => e = .returned (.tuple #[.string ⟨#[]⟩, .int .i64 12]) ∧ Below w.heap.size w w' := by
  by_cases h4 : 4 ≤ s.size
  · have hb : ((sealB (s.extract 0 (s.size - 4))).toList == s.toList) = false := by
      rw [Bool.eq_false_iff]; intro h'
      rw [(opens_sealB s h4).2 (beq_str.1 h')] at h
      cases h
    have h4' : (4 : Int) ≤ s.size := by omega
    clear h
    go_enter Try.func12, Try.ntmps12
    go_wp2_with (go_at_call 18; refine (rseal_walk (s.extract 0 (s.size - 4)) (by simp; omega) _).mono ?_; rintro e w1 ⟨rfl, hb1⟩)
    go_ret2
    exact ⟨rfl, hb1⟩
  · clear h
    go_enter Try.func12, Try.ntmps12
    go_wp2_with fail
    go_ret2
    exact ⟨rfl, Below.refl _ _⟩
end Go.Proofs.Ytglchdcpkjabaaa
