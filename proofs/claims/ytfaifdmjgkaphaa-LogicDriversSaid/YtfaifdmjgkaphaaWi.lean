import Derived.Test.YtfaifdmjgkaphaaWg
namespace Go.Proofs.Ytfaifdmjgkaphaa
open Go.RowKit

theorem fin_comm3 : ∀ i j : Fin 4, tv 3 i j = tv 3 j i := by decide
theorem fin_assoc3 : ∀ i j l : Fin 4, tv 3 (kn (tv 3 i j)) l = tv 3 i (kn (tv 3 j l)) := by decide
theorem res_comm (a b : Nat) : pOp 3 b a = pOp 3 a b := fin_comm3 ⟨kn b, kn_lt b⟩ ⟨kn a, kn_lt a⟩
theorem res_assoc (a b c : Nat) : pOp 3 (pOp 3 a b) c = pOp 3 a (pOp 3 b c) := fin_assoc3 ⟨kn a, kn_lt a⟩ ⟨kn b, kn_lt b⟩ ⟨kn c, kn_lt c⟩
/-- a driver put in front -/
theorem resAll_cons (c : UInt8) (l : List UInt8) : resAll (c :: l) = pOp 3 (resAll l) c.toNat := by
  have h : ∀ (l : List UInt8) (z : Nat), List.foldl (fun o (c : UInt8) => pOp 3 o c.toNat) (pOp 3 z c.toNat) l = pOp 3 (List.foldl (fun o (c : UInt8) => pOp 3 o c.toNat) z l) c.toNat := by
    intro l
    induction l with
    | nil => intro z; rfl
    | cons d l ih =>
      intro z
      simp only [List.foldl_cons]
      rw [← ih, res_assoc, res_comm d.toNat c.toNat, ← res_assoc]
  exact h l 122
theorem tv_valid (n i j : Nat) (hn : n < 4) (hi : i < 4) (hj : j < 4) : rVal (tv n i j) = tv n i j := by
  have : ∀ n i j : Fin 4, rVal (tv n i j) = tv n i j := by decide
  exact this ⟨n, hn⟩ ⟨i, hi⟩ ⟨j, hj⟩
theorem resAll_val (l : List UInt8) : rVal (resAll l) = resAll l := by
  rcases List.eq_nil_or_concat l with rfl | ⟨m, c, rfl⟩
  · decide
  · rw [List.concat_eq_append, resAll_snoc]; exact tv_valid 3 _ _ (by decide) (kn_lt _) (kn_lt _)
theorem res_step (W c : Nat) (hW : rVal W = W) : pOp 3 W c = if rVal c = 122 then W else if rVal c = W then W else if W = 122 then rVal c else 120 := by
  rw [pRes_eq, rRes, hW]
  (repeat' split) <;> simp_all
theorem rVal_v (c : Nat) (h : rValid c = true) : rVal c = c := by
  unfold rValid at h; rw [decide_eq_true_eq] at h
  unfold rVal; rw [if_pos h]
theorem rVal_n (c : Nat) (h : rValid c = false) : rVal c = 120 := by
  unfold rValid at h; rw [decide_eq_false_iff_not] at h
  unfold rVal; rw [if_neg h]
theorem conv1 (w : World) (x : Int) : (convert 26 9 (.slice (some ⟨w.heap.size, 0, none⟩) 1 1)).run Try.prog (w.alloc (.cells #[.int .u8 x] 5)) =
    .ok (.string ⟨#[UInt8.ofNat x.toNat]⟩) (w.alloc (.cells #[.int .u8 x] 5)) := by
  have := run_convert_bytes_arg (P := Try.prog) (w.alloc (.cells #[.int .u8 x] 5)) 26 5 Try.underlying26 Try.underlying5 w.heap.size 0 1 1 [x] rfl (by
    intro i hi
    rw [World.cell?_alloc_mark]
    match i, hi with
    | 0, _ => rfl) 9 Try.underlying9
  exact this
/-- the relation of the loop -/
def DRel (s : ByteArray) (k : Nat) (want back i : Value) : Prop :=
  k ≤ s.size ∧ i = .int .i64 k ∧ want = .int .u8 (resAll (s.data.toList.take k)) ∧ ∃ b : ByteArray, back = .string b ∧ b.size = k ∧ resAll b.data.toList = resAll (s.data.toList.take k)
theorem drel_step (s b : ByteArray) (k W : Nat) (c : UInt8) (nw : Int) (hk : k < s.size) (hs : s.data.toList.take (k + 1) = s.data.toList.take k ++ [c]) (hb : b.size = k) (hR : resAll b.data.toList = resAll (s.data.toList.take k))
    (hW : resAll (s.data.toList.take k) = W) (hnw : nw = pOp 3 W c.toNat) : DRel s (k + 1) (.int .u8 nw) (.string (⟨#[c]⟩ ++ b)) (.int .i64 ((k : Int) + 1)) := by
  refine ⟨by omega, rfl, by rw [hnw, hs, resAll_snoc, hW], _, rfl, ?_, ?_⟩
  · rw [ByteArray.size_append, hb]; show 1 + k = k + 1; omega
  · have : (⟨#[c]⟩ ++ b : ByteArray).data.toList = c :: b.data.toList := by simp
    rw [this, resAll_cons, hR, hs, resAll_snoc]
theorem drel_end (s : ByteArray) (k : Nat) (hk : k = s.size) : s.data.toList.take k = s.data.toList := by
  subst hk; exact List.take_of_length_le (by simp)

set_option maxHeartbeats 1000000 in
theorem drivers_law (s : ByteArray) (w : World) : Calls Try.prog 4 #[.string s] w fun e w' => e = .returned (.bool true) ∧ Below w.heap.size w w' := by
  by_cases h1 : 100 < s.size
  · have h1' : (100 : Int) < s.size := by omega
    go_enter Try.func4, Try.ntmps4
    go_wp2_with (go_at_call 10; refine (awake_walk _).mono ?_; rintro e w0 ⟨rfl, hb0⟩)
    go_ret
    exact ⟨rfl, hb0⟩
  · go_enter Try.func4, Try.ntmps4
    go_wp2_with (go_at_call 10; refine (awake_walk _).mono ?_; rintro e w0 ⟨rfl, hb0⟩)
    have HB0 := Lib.hid hb0
    clear hb0
    go_loopw [3, 4, 5] (fun x y i wr => ∃ k : Nat, DRel s k x y i ∧ Below w.heap.size w wr) (fun _ _ i _ => s.size - (intOf i).toNat)
    case atStart => exact ⟨0, ⟨by omega, rfl, rfl, _, rfl, rfl, rfl⟩, HB0.out⟩
    case round =>
      obtain ⟨k, ⟨hk, rfl, rfl, b, rfl, hbs, hR⟩, hb1⟩ := hrel
      obtain ⟨W, hW⟩ : ∃ W, resAll (s.data.toList.take k) = W := ⟨_, rfl⟩
      have hWv : rVal W = W := by rw [← hW]; exact resAll_val _
      have hWlt : W < 256 := by rw [← hW]; exact resAll_lt _
      have HB1 := Lib.hid hb1
      have HR := Lib.hid hR
      have HBS := Lib.hid hbs
      have hbs' : b.size ≤ 100 := by omega
      by_cases hlt : k < s.size
      · have HS := Lib.hid (take_snoc s k hlt)
        obtain ⟨c, hc⟩ : ∃ c : UInt8, c = s[k] := ⟨_, rfl⟩
        have hst := res_step W c.toNat hWv
        have hcv := fun x => conv1 wr x
        have hclt : c.toNat < 256 := c.toNat_lt
        rw [hW]
        rw [hW] at HR
        have HWW := Lib.hid hW
        by_cases hv : rValid c.toNat = true
        · have hval := rVal_v _ hv
          have HV := Lib.hid hv
          rw [hval] at hst
          clear hv hval
          by_cases h122 : c.toNat = 122
          · rw [if_pos h122] at hst
            have n1 : ((c.toNat : Int) == 122) = true := bt (k := 122) h122
            clear h122
            have HC := Lib.hid hc
            have HST := Lib.hid hst
            clear hc hst hW hR hbs hb1 hWv
            go_wp2_with fail
            rw [← HC.out]
            refine (valid_at c.toNat true hclt HV.out _).mono ?_; rintro e _ ⟨rfl, rfl⟩
            go_wp2_with fail
            go_roundw
            case rel => exact ⟨k + 1, drel_step s b k W c _ hlt (by rw [HC.out]; exact HS.out) HBS.out (HR.out.trans HWW.out.symm) HWW.out (by rw [HST.out]), HB1.out.alloc HB1.out.size _⟩
            case measure => simp [intOf]; omega
          · rw [if_neg h122] at hst
            have n1 : ((c.toNat : Int) == 122) = false := bf (k := 122) h122
            by_cases hcW : c.toNat = W
            · rw [if_pos hcW] at hst
              have n2 : ((c.toNat : Int) == (W : Int)) = true := bt hcW
              clear h122 hcW
              have HC := Lib.hid hc
              have HST := Lib.hid hst
              clear hc hst hW hR hbs hb1 hWv
              go_wp2_with fail
              rw [← HC.out]
              refine (valid_at c.toNat true hclt HV.out _).mono ?_; rintro e _ ⟨rfl, rfl⟩
              go_wp2_with fail
              go_roundw
              case rel => exact ⟨k + 1, drel_step s b k W c _ hlt (by rw [HC.out]; exact HS.out) HBS.out (HR.out.trans HWW.out.symm) HWW.out (by rw [HST.out]), HB1.out.alloc HB1.out.size _⟩
              case measure => simp [intOf]; omega
            · rw [if_neg hcW] at hst
              have n2 : ((c.toNat : Int) == (W : Int)) = false := bf hcW
              by_cases hWz : W = 122
              · rw [if_pos hWz] at hst
                have n3 : ((W : Int) == 122) = true := bt (k := 122) hWz
                clear h122 hcW hWz
                have HC := Lib.hid hc
                have HST := Lib.hid hst
                clear hc hst hW hR hbs hb1 hWv
                go_wp2_with fail
                rw [← HC.out]
                refine (valid_at c.toNat true hclt HV.out _).mono ?_; rintro e _ ⟨rfl, rfl⟩
                go_wp2_with fail
                go_roundw
                case rel => exact ⟨k + 1, drel_step s b k W c _ hlt (by rw [HC.out]; exact HS.out) HBS.out (HR.out.trans HWW.out.symm) HWW.out (by rw [HST.out]), HB1.out.alloc HB1.out.size _⟩
                case measure => simp [intOf]; omega
              · rw [if_neg hWz] at hst
                have n3 : ((W : Int) == 122) = false := bf (k := 122) hWz
                clear h122 hcW hWz
                have HC := Lib.hid hc
                have HST := Lib.hid hst
                clear hc hst hW hR hbs hb1 hWv
                go_wp2_with fail
                rw [← HC.out]
                refine (valid_at c.toNat true hclt HV.out _).mono ?_; rintro e _ ⟨rfl, rfl⟩
                go_wp2_with fail
                go_roundw
                case rel => exact ⟨k + 1, drel_step s b k W c _ hlt (by rw [HC.out]; exact HS.out) HBS.out (HR.out.trans HWW.out.symm) HWW.out (by rw [HST.out]; decide), HB1.out.alloc HB1.out.size _⟩
                case measure => simp [intOf]; omega
        · have hv' : rValid c.toNat = false := by simpa using hv
          have hval := rVal_n _ hv'
          have HV := Lib.hid hv'
          rw [hval, if_neg (by decide)] at hst
          clear hv hv' hval
          by_cases hcW : 120 = W
          · rw [if_pos hcW] at hst
            have n2 : ((120 : Int) == (W : Int)) = true := by rw [← hcW]; rfl
            clear hcW
            have HC := Lib.hid hc
            have HST := Lib.hid hst
            clear hc hst hW hR hbs hb1 hWv
            go_wp2_with fail
            rw [← HC.out]
            refine (valid_at c.toNat false hclt HV.out _).mono ?_; rintro e _ ⟨rfl, rfl⟩
            go_wp2_with fail
            go_roundw
            case rel => exact ⟨k + 1, drel_step s b k W c _ hlt (by rw [HC.out]; exact HS.out) HBS.out (HR.out.trans HWW.out.symm) HWW.out (by rw [HST.out]), HB1.out.alloc HB1.out.size _⟩
            case measure => simp [intOf]; omega
          · rw [if_neg hcW] at hst
            have n2 : ((120 : Int) == (W : Int)) = false := by simp; omega
            by_cases hWz : W = 122
            · rw [if_pos hWz] at hst
              have n3 : ((W : Int) == 122) = true := bt (k := 122) hWz
              clear hcW hWz
              have HC := Lib.hid hc
              have HST := Lib.hid hst
              clear hc hst hW hR hbs hb1 hWv
              go_wp2_with fail
              rw [← HC.out]
              refine (valid_at c.toNat false hclt HV.out _).mono ?_; rintro e _ ⟨rfl, rfl⟩
              go_wp2_with fail
              go_roundw
              case rel => exact ⟨k + 1, drel_step s b k W c _ hlt (by rw [HC.out]; exact HS.out) HBS.out (HR.out.trans HWW.out.symm) HWW.out (by rw [HST.out]; decide), HB1.out.alloc HB1.out.size _⟩
              case measure => simp [intOf]; omega
            · rw [if_neg hWz] at hst
              have n3 : ((W : Int) == 122) = false := bf (k := 122) hWz
              clear hcW hWz
              have HC := Lib.hid hc
              have HST := Lib.hid hst
              clear hc hst hW hR hbs hb1 hWv
              go_wp2_with fail
              rw [← HC.out]
              refine (valid_at c.toNat false hclt HV.out _).mono ?_; rintro e _ ⟨rfl, rfl⟩
              go_wp2_with fail
              go_roundw
              case rel => exact ⟨k + 1, drel_step s b k W c _ hlt (by rw [HC.out]; exact HS.out) HBS.out (HR.out.trans HWW.out.symm) HWW.out (by rw [HST.out]; decide), HB1.out.alloc HB1.out.size _⟩
              case measure => simp [intOf]; omega
      · have hE : resAll s.data.toList = W := by rw [← hW, drel_end s k (by omega)]
        have hE2 : resAll b.data.toList = W := by rw [hR, hW]
        have HE := Lib.hid hE
        have HE2 := Lib.hid hE2
        rw [hW]
        clear hE hE2 hW hR hbs hb1 hWv
        go_wp2_with fail
        refine (resAll_at s W (by unfold maxLen; omega) HE.out _).mono ?_; rintro e w1 ⟨rfl, hb1⟩
        go_wp2_with fail
        refine (resAll_at b W (by unfold maxLen; omega) HE2.out _).mono ?_; rintro e w2 ⟨rfl, hb2⟩
        go_wp2_with fail
        go_ret
        exact ⟨rfl, bstep (bstep HB1.out (Nat.le_refl _) hb1) (Nat.le_refl _) hb2⟩
theorem drivers_in (s : ByteArray) (_ : s.size ≤ maxLen) (w : World) : Calls Try.prog 4 #[.string s] w fun e w' => e = .returned (.bool true) ∧ Below w.heap.size w w' := drivers_law s w
end Go.Proofs.Ytfaifdmjgkaphaa
