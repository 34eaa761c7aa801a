import Derived.Test.YtfaifdmjgkaphaaWd
namespace Go.Proofs.Ytfaifdmjgkaphaa
open Go.RowKit

def resAll (l : List UInt8) : Nat := l.foldl (fun o c => pOp 3 o c.toNat) 122
theorem tv_lt (n i j : Nat) : tv n i j < 256 := by
  unfold tv
  have h : ∀ x ∈ tab n, x < 256 := by unfold tab; (repeat' split) <;> decide
  rw [List.getD_eq_getElem?_getD]
  by_cases hk : i * 4 + j < (tab n).length
  · rw [List.getElem?_eq_getElem hk]; exact h _ (List.getElem_mem hk)
  · rw [List.getElem?_eq_none (by omega)]; decide
theorem pOp_lt (n a b : Nat) : pOp n a b < 256 := tv_lt ..
theorem take_snoc (s : ByteArray) (k : Nat) (h : k < s.size) : s.data.toList.take (k + 1) = s.data.toList.take k ++ [s[k]] := by
  rw [List.take_succ_eq_append_getElem (by simpa using h)]; rfl
theorem resAll_snoc (l : List UInt8) (c : UInt8) : resAll (l ++ [c]) = pOp 3 (resAll l) c.toNat := by simp [resAll]
theorem resAll_lt (l : List UInt8) : resAll l < 256 := by
  rcases List.eq_nil_or_concat l with rfl | ⟨m, c, rfl⟩
  · decide
  · rw [List.concat_eq_append, resAll_snoc]; exact pOp_lt ..
theorem drewN_heap (w : World) (n : Nat) : (w.drewN n).heap = w.heap := rfl
theorem resAll_walk (s : ByteArray) (hs : s.size ≤ maxLen) (w : World) : Calls Try.prog 16 #[.string s] w fun e w' => e = .returned (.int .u8 (resAll s.data.toList)) ∧ Below w.heap.size w w' := by
  unfold maxLen at hs
  go_enter Try.func16, Try.ntmps16
  go_wp2_with (go_at_call 35; refine (tab_use 3 (by omega) _).mono ?_; rintro e w1 ⟨B, hB, rfl, hb1, hT⟩)
  have HB := Lib.hid hb1
  have HT := Lib.hid hT
  clear hb1 hT hB
  go_loopw [4, 9] (fun o i wr => ∃ k : Nat, k ≤ s.size ∧ i = .int .i64 k ∧ o = .int .u8 (resAll (s.data.toList.take k)) ∧ ∃ m, wr = w1.drewN m) (fun _ i _ => s.size - (intOf i).toNat)
  case atStart => exact ⟨0, Nat.zero_le _, rfl, rfl, 0, rfl⟩
  case round =>
    obtain ⟨k, hk, rfl, rfl, m, rfl⟩ := hrel
    by_cases hlt : k < s.size
    · have HS := Lib.hid (take_snoc s k hlt)
      go_wp2_with (go_at_call 40; refine (tab_apply 3 _ _ B (resAll_lt _) (UInt8.toNat_lt _) _ (by exact HT.out)).mono ?_; rintro e w2 ⟨rfl, m2, rfl⟩)
      go_roundw
      case rel => exact ⟨k + 1, by omega, by go_num, by rw [HS.out, resAll_snoc]; rfl, m + m2, rfl⟩
      case measure => simp [intOf]; omega
    · go_wp2
      go_ret
      exact ⟨ret_int (by rw [List.take_of_length_le (by simp; omega)]), below_drewN HB.out m⟩
end Go.Proofs.Ytfaifdmjgkaphaa
