/- A part of the proofs of TopCounter and TopStrict: what the functions of the program do, each walked once, and plain laws about it. No condition. -/
import Derived.Test.YtlmjefjimoghcaaGreatA25
namespace Go.Proofs.YtlmjefjimoghcaaGreat
set_option linter.unusedSimpArgs false
set_option linter.unnecessarySimpa false
set_option linter.unusedVariables false
open Go.RowKit
attribute [local go_sem ↓] Go.wp_at_zero Go.wp_at_succ
def missK (all l : List Int) : Nat → List Int
 | 0 => []
 | k + 1 => if l.contains (all.getD k 0) then missK all l k else missK all l k ++ [(k : Int)]
def addK (all l : List Int) : List Int := l.filter fun t => !all.contains t
theorem missK_len (all l : List Int) : ∀ k, (missK all l k).length ≤ k
 | 0 => Nat.le_refl _
 | k + 1 => by
  have := missK_len all l k
  unfold missK; split
  ·omega
  ·simp; omega
theorem timesL_get (c : Clk) : ∀ (n i : Nat), i < n → (timesL c n).getD i default = atF c (i : Int)
 | n + 1, i, h => by
  unfold timesL
  by_cases hi : i < n
  ·rw [List.getD_eq_getElem?_getD, List.getElem?_append_left (by rw [timesL_len]; exact hi), ← List.getD_eq_getElem?_getD]
   exact timesL_get c n i hi
  ·obtain rfl : i = n := by omega
   rw [List.getD_eq_getElem?_getD, List.getElem?_append_right (by rw [timesL_len]; exact Nat.le_refl _), timesL_len, Nat.sub_self]; rfl
theorem atF_step (c : Clk) (i : Nat) (hf : 1 ≤ c.f) (hg : 1 ≤ c.g) : atF c (i : Int) < atF c ((i + 1 : Nat) : Int) := by
 unfold atF
 rcases (by omega : i % 2 = 0 ∨ i % 2 = 1) with h | h
 ·have e1 : (((i + 1 : Nat) : Int) + 1) / 2 = ((i : Int) + 1) / 2 + 1 := by omega
  have e2 : ((i + 1 : Nat) : Int) / 2 = (i : Int) / 2 := by omega
  rw [e1, e2, Int.add_mul]; omega
 ·have e1 : (((i + 1 : Nat) : Int) + 1) / 2 = ((i : Int) + 1) / 2 := by omega
  have e2 : ((i + 1 : Nat) : Int) / 2 = (i : Int) / 2 + 1 := by omega
  rw [e1, e2, Int.add_mul]; omega
theorem atF_lt (c : Clk) (hf : 1 ≤ c.f) (hg : 1 ≤ c.g) (i j : Nat) (h : i < j) : atF c (i : Int) < atF c (j : Int) := by
 induction j with
 | zero => omega
 | succ j ih =>
  have h1 := atF_step c j hf hg
  rcases (by omega : i < j ∨ i = j) with h2 | rfl
  ·have := ih h2; omega
  ·exact h1
theorem timesL_sorted (c : Clk) (hf : 1 ≤ c.f) (hg : 1 ≤ c.g) (n : Nat) : (timesL c n).Pairwise (· ≤ ·) := by
 rw [List.pairwise_iff_getElem]
 intro i j hi hj hij
 rw [timesL_len] at hi hj
 have e1 := timesL_get c n i hi
 have e2 := timesL_get c n j hj
 rw [List.getD_eq_getElem?_getD, List.getElem?_eq_getElem (by rw [timesL_len]; exact hi)] at e1
 rw [List.getD_eq_getElem?_getD, List.getElem?_eq_getElem (by rw [timesL_len]; exact hj)] at e2
 have := atF_lt c hf hg i j hij
 simp only [Option.getD_some] at e1 e2
 omega
theorem validT_sorted {l : List Int} (h : validT l = true) : l.Pairwise (· ≤ ·) := by
 rw [List.pairwise_iff_getElem]
 intro i j hi hj hij
 have := ((validT_b h).2 i hi).2 j hij hj
 rw [List.getD_eq_getElem?_getD, List.getElem?_eq_getElem hi, List.getD_eq_getElem?_getD, List.getElem?_eq_getElem hj] at this
 simp only [Option.getD_some] at this
 omega
/-- a number is looked up in a sorted list -/
theorem search_walk (l : List Int) (hl : l.length ≤ 4096) (hs : l.Pairwise (· ≤ ·)) (x : Int) (w : World) (A : Option Addr) (c : Nat) (hF : InI w A l) (hp : PlainA A) : Calls Tryz.prog 121 #[.slice A l.length c, .int .i64 x] w fun e w' => ∃ p : Int, e = .returned (.tuple #[.int .i64 p, .bool (l.contains x)]) ∧ ∃ q, w' = w.drewN q := by
 by_cases hz : l.length = 0
 ·have hz' : l = [] := List.length_eq_zero_iff.1 hz
  subst hz'
  refine (Tryz.slices_BinarySearch_int_empty A c x w).mono ?_
  rintro e w' ⟨rfl, rfl⟩
  exact ⟨0, rfl, 0, rfl⟩
 ·obtain ⟨a, rfl, _⟩ := hF.at (.refl _ _) (show 0 < l.length by omega)
  obtain ⟨b, o, rfl⟩ := hp a rfl
  have h := Tryz.slices_BinarySearch_int b o l.length c l x w (Nat.le_refl _) (by omega) (fun j hj => by
   obtain ⟨a', ha', c0⟩ := hF.at (.refl _ _) hj
   injection ha' with ha'
   subst ha'
   rw [Addr.add_lit] at c0
   exact c0) (by rw [List.take_length]; exact hs)
  rw [List.take_length] at h
  refine h.mono ?_
  rintro e w' ⟨rfl, q, rfl⟩
  exact ⟨_, rfl, q, rfl⟩
def ExR1 (w : World) (all l : List Int) (v i : Value) (wr : World) : Prop := ∃ k : Nat, i = .int .i64 (k : Int) ∧ k ≤ all.length ∧ OwnR w 3 1 v (missK all l k).length (ic (missK all l k)) wr ∧ Below w.heap.size w wr
def ExR2 (w : World) (all l : List Int) (v i : Value) (wr : World) : Prop := ∃ k : Nat, i = .int .i64 (k : Int) ∧ k ≤ l.length ∧ OwnR w 3 1 v (addK all (l.take k)).length (ic (addK all (l.take k))) wr ∧ Below w.heap.size w wr
def ExcP (w : World) (m a : List Int) (x : Ending) (w' : World) : Prop := Below w.heap.size w w' ∧ ∃ A1 c1 A2 c2, x = .returned (.tuple #[.slice A1 m.length c1, .slice A2 a.length c2, .int .i64 0]) ∧ InI w' A1 m ∧ InI w' A2 a
theorem addK_snoc (all l : List Int) (t : Int) : addK all (l ++ [t]) = if all.contains t then addK all l else addK all l ++ [t] := by
 unfold addK
 rw [List.filter_append]
 have e : List.filter (fun t => !all.contains t) [t] = if all.contains t then [] else [t] := by
  rw [List.filter_cons, List.filter_nil]
  cases all.contains t <;> rfl
 rw [e]
 cases all.contains t
 ·rfl
 ·simp
set_option maxRecDepth 100000 in
theorem push_int {w0 w : World} {v : Value} {n : Nat} {xs : List Int} (h : OwnR w0 3 1 v n (ic xs) w) (hb : Below w0.heap.size w0 w) (hn : n + 1 ≤ 1000000) (x : Int) : ∃ A c w', (Builtin.append_ #[27, 27] 27 #[v, .slice (some ⟨w.heap.size, 0, none⟩) 1 1]).run Tryz.prog (w.alloc (.cells #[.int .i64 x] 3)) = .ok (.slice A (n + 1) c) w' ∧ OwnR w0 3 1 (.slice A (n + 1) c) (n + 1) (ic (xs ++ [x])) w' ∧ Below w0.heap.size w0 w' ∧ (w.alloc (.cells #[.int .i64 x] 3)).grownBy w' v.ownBlock := by
 have h2 := h.below ((Below.refl _ _).alloc (Nat.le_refl _) (.cells #[.int .i64 x] 3))
 have hsz : w0.heap.size ≤ (w.alloc (.cells #[.int .i64 x] 3)).heap.size := by rw [World.size_alloc]; have := hb.size; omega
 obtain ⟨A, c, w', hr, ho, hg, _⟩ := h2.push Tryz.underlying27 rfl rfl rfl rfl rfl (by decide) hn w.heap.size (.int .i64 x) (by rw [cell_of_row _ _ _ _ _ _ (heap_alloc_new w _)]; rfl) rfl hsz
 refine ⟨A, c, w', hr, ?_, below_grown (hb.alloc hb.size _) hsz hg h.new, hg⟩
 have e : ic (xs ++ [x]) = ic xs ++ [.int .i64 x] := by simp [ic]
 rw [e]; exact ho
set_option maxRecDepth 100000 in
set_option maxHeartbeats 1000000 in
theorem exc_walk (c : Clk) (hc : clkOk c = true) (l : List Int) (hv : validT l = true) (w : World) (A : Option Addr) (cp : Nat) (hF : InI w A l) (hp : PlainA A) : Calls Tryz.prog 81 #[c.val, .slice A l.length cp] w fun x w' => ExcP w (missK (timesL c c.n.toNat) l c.n.toNat) (addK (timesL c c.n.toNat) l) x w' := by
 obtain ⟨hl4, _⟩ := validT_b hv
 obtain ⟨hcn, hcb, hf1, hg1, _⟩ := clkOk_b hc
 obtain ⟨n, hn⟩ : ∃ n, c.n.toNat = n := ⟨_, rfl⟩
 have hn4 : n ≤ 4096 := by omega
 obtain ⟨all, hall⟩ : ∃ all, timesL c n = all := ⟨_, rfl⟩
 have hal : all.length = n := by rw [← hall]; exact timesL_len c n
 have hsa : all.Pairwise (· ≤ ·) := by rw [← hall]; exact timesL_sorted c hf1 hg1 n
 have hTF : timesF c = (all, 0) := by unfold timesF; rw [hc, hn, hall]; rfl
 have hT := fun w => times_walk c w
 rw [hTF] at hT
 have HT := Lib.hid hT
 have HSa := Lib.hid fun x w A c (h : InI w A all) (hp : PlainA A) => search_walk all (by omega) hsa x w A c h hp
 have HSl := Lib.hid fun x w A c (h : InI w A l) (hp : PlainA A) => search_walk l hl4 (validT_sorted hv) x w A c h hp
 have HV := Lib.hid fun w A c (h : InI w A l) => validT_walk l (by omega) w A c h true hv
 have HF := Lib.hid hF
 have HP := Lib.hid hp
 have HAl : Hid (all.length = n ∧ n ≤ 4096 ∧ l.length ≤ 4096) := Lib.hid ⟨hal, hn4, hl4⟩
 rw [hn, hall]
 obtain ⟨s, f, g, cn⟩ := c
 have e : Clk.val ⟨s, f, g, cn⟩ = .agg #[.int .i64 s, .int .i64 f, .int .i64 g, .int .i64 cn] := rfl
 rw [e] at HT ⊢
 have hli : (l.length : Int) ≤ 4096 := by omega
 have hai : (all.length : Int) ≤ 4096 := by omega
 clear hc hv hF hp hcn hcb hf1 hg1 hn hn4 hall hal hsa hTF hT e hl4
 go_enter Tryz.func81, Tryz.ntmps81
 go_wp2_with fail
 refine (HT.out _).mono ?_
 rintro x w1 ⟨hb1, A1, c1, rfl, hin1, hfr1⟩
 have hb0 := (Below.refl w.heap.size w).alloc (Nat.le_refl _) (.cells #[.int .i64 s, .int .i64 f, .int .i64 g, .int .i64 cn] 23)
 have HB1 := Lib.hid (bstep hb0 (Nat.le_refl _) hb1)
 have HI1 := Lib.hid hin1
 have HPa : Hid (PlainA A1) := Lib.hid hfr1.plain
 have HVa := Lib.hid (HV.out w1 A cp (HF.out.mono HB1.out))
 have HF1 := Lib.hid (HF.out.mono HB1.out)
 clear hb1 hin1 hfr1 hb0
 go_wp2_with fail
 refine (HVa.out).mono ?_
 rintro x _ ⟨rfl, rfl⟩
 go_wp2_with fail
 go_loopw [9, 33] (fun v i wr => ExR1 w1 all l v i wr) (fun _ i _ => ((all.length : Int) - intOf i).toNat)
 case atStart => exact ⟨0, rfl, Nat.zero_le _, .nil _ _ _ _, .refl _ _⟩
 case round =>
  obtain ⟨k, rfl, hk, ho, hb⟩ := hrel
  have HO := Lib.hid ho
  have HB := Lib.hid hb
  obtain ⟨A', c', rfl⟩ := row_sl ho.row
  by_cases hlt : k < all.length
  ·have hki : (k : Int) < all.length := by omega
   obtain ⟨t, ht⟩ : ∃ t, all.getD k default = t := ⟨_, rfl⟩
   obtain ⟨a, rfl, c0⟩ := HI1.out.at hb hlt
   rw [ht] at c0
   have HS := Lib.hid (HSl.out t wr A cp (HF1.out.mono hb) HP.out)
   have hml := missK_len all l k
   have hal := HAl.out
   have ht0 : all.getD k 0 = t := ht
   cases hct : l.contains t with
   | true =>
    have HM : Hid (missK all l (k + 1) = missK all l k) := Lib.hid (by
     show (if l.contains (all.getD k 0) then _ else _) = _
     rw [ht0, hct]; rfl)
    rw [hct] at HS
    clear ho hb ht ht0 hct hml hal
    go_wp2_with fail
    refine (HS.out).mono ?_
    rintro x w2 ⟨p, rfl, q, rfl⟩
    go_wp2_with fail
    go_roundw
    case rel => exact ⟨k + 1, by go_num, by omega, by rw [HM.out]; exact HO.out.frame fun _ _ => rfl, below_drewN HB.out _⟩
    case measure => simp [intOf]; omega
   | false =>
    have HM : Hid (missK all l (k + 1) = missK all l k ++ [(k : Int)]) := Lib.hid (by
     show (if l.contains (all.getD k 0) then _ else _) = _
     rw [ht0, hct]; rfl)
    rw [hct] at HS
    clear ht ht0 hct
    go_wp2_with fail
    refine (HS.out).mono ?_
    rintro x w2 ⟨p, rfl, q, rfl⟩
    obtain ⟨A5, c5, W5, hrun, ho5, hb5, _⟩ := push_int (w := wr.drewN q) (ho.frame fun _ _ => rfl) (below_drewN hb q) (by omega) (k : Int)
    have HO5 := Lib.hid ho5
    have HB5 := Lib.hid hb5
    have HRUN := Lib.hid hrun
    clear ho hb hml hal hrun ho5 hb5
    go_wp2_with (at_builtin; refine wpList_append_eq rfl _ _ _ rfl _ _ rfl rfl HRUN.out ?_)
    go_roundw
    case rel => exact ⟨k + 1, by go_num, by omega, by rw [HM.out, List.length_append]; exact HO5.out, HB5.out⟩
    case measure => simp [intOf]; omega
  ·obtain rfl : k = all.length := by omega
   have HO1 := HO
   have HB2 := Lib.hid (bstep HB1.out (Nat.le_refl _) hb)
   have HI2 : Hid (InI wr A1 all) := Lib.hid (HI1.out.mono hb)
   have HF2 : Hid (InI wr A l) := Lib.hid (HF1.out.mono hb)
   obtain ⟨W0, hW0⟩ : ∃ W, wr = W := ⟨_, rfl⟩
   rw [hW0] at HI2 HF2 HO1 HB2 ⊢
   have HN0 : Hid (n = all.length) := Lib.hid HAl.out.1.symm
   clear ho hb hW0
   go_wp2_with fail
   go_loopw [10, 53] (fun v i wr => ExR2 W0 all l v i wr) (fun _ i _ => ((l.length : Int) - intOf i).toNat)
   case atStart => exact ⟨0, rfl, Nat.zero_le _, .nil _ _ _ _, .refl _ _⟩
   case round =>
    obtain ⟨k, rfl, hk, ho, hb⟩ := hrel
    have HO := Lib.hid ho
    have HB := Lib.hid hb
    obtain ⟨A2', c2', rfl⟩ := row_sl ho.row
    by_cases hlt : k < l.length
    ·have hki : (k : Int) < l.length := by omega
     obtain ⟨t, ht⟩ : ∃ t, l.getD k default = t := ⟨_, rfl⟩
     obtain ⟨a, rfl, c0⟩ := HF2.out.at hb hlt
     rw [ht] at c0
     have HS := Lib.hid (HSa.out t wr A1 c1 (HI2.out.mono hb) HPa.out)
     have hml : (addK all (l.take k)).length ≤ 4096 := by
      have h1 := List.length_filter_le (fun t => !all.contains t) (l.take k)
      have h2 := HAl.out.2.2
      rw [List.length_take] at h1
      unfold addK; omega
     have HSn : Hid (addK all (l.take (k + 1)) = if all.contains t then addK all (l.take k) else addK all (l.take k) ++ [t]) := Lib.hid (by rw [take_getD hlt, ht, addK_snoc])
     cases hct : all.contains t with
     | true =>
      have HM : Hid (addK all (l.take (k + 1)) = addK all (l.take k)) := Lib.hid (by rw [HSn.out, if_pos hct])
      rw [hct] at HS
      clear ho hb ht hct hml
      go_wp2_with fail
      refine (HS.out).mono ?_
      rintro x w2 ⟨p, rfl, q, rfl⟩
      go_wp2_with fail
      go_roundw
      case rel => exact ⟨k + 1, by go_num, by omega, by rw [HM.out]; exact HO.out.frame fun _ _ => rfl, below_drewN HB.out _⟩
      case measure => simp [intOf]; omega
     | false =>
      have HM : Hid (addK all (l.take (k + 1)) = addK all (l.take k) ++ [t]) := Lib.hid (by rw [HSn.out, hct]; rfl)
      rw [hct] at HS
      clear ht hct
      go_wp2_with fail
      refine (HS.out).mono ?_
      rintro x w2 ⟨p, rfl, q, rfl⟩
      obtain ⟨A5, c5, W5, hrun, ho5, hb5, _⟩ := push_int (w := wr.drewN q) (ho.frame fun _ _ => rfl) (below_drewN hb q) (by omega) t
      have HO5 := Lib.hid ho5
      have HB5 := Lib.hid hb5
      have HRUN := Lib.hid hrun
      clear ho hb hml hrun ho5 hb5
      go_wp2_with (at_builtin; refine wpList_append_eq rfl _ _ _ rfl _ _ rfl rfl HRUN.out ?_)
      go_roundw
      case rel => exact ⟨k + 1, by go_num, by omega, by rw [HM.out, List.length_append]; exact HO5.out, HB5.out⟩
      case measure => simp [intOf]; omega
    ·obtain rfl : k = l.length := by omega
     have HT : Hid (l.take l.length = l) := Lib.hid List.take_length
     clear ho hb
     go_wp2_with fail
     refine bodyPost_ret (results_tmp3 rfl _ _ _) rfl ?_
     have h2 := HO.out
     have h1 := HO1.out.below HB.out
     rw [HT.out] at h2 ⊢
     rw [HN0.out]
     exact ⟨bstep HB2.out (Nat.le_refl _) HB.out, A', c', A2', c2', rfl, ownI_in h1, ownI_in h2⟩
def numsF (l : List Int) : List UInt8 := (encNumF l).1
theorem cod1_walk (l : List Int) (hl : l.length ≤ 1000000) (w : World) (A : Option Addr) (c : Nat) (hF : InI w A l) : Calls Tryz.prog 76 #[.slice A l.length c] w fun e w' => e = .returned (.string (sB (numsF l))) ∧ Below w.heap.size w w' := by
 have HW := Lib.hid (encNums_walk l hl w A c hF)
 have HE : Hid ((encNumF l).1 = numsF l) := Lib.hid rfl
 rw [HE.out] at HW
 clear hl hF
 go_enter Tryz.func76, Tryz.ntmps76
 go_wp2_with fail
 refine (HW.out).mono ?_
 rintro x w1 ⟨rfl, hb1⟩
 have HB1 := Lib.hid hb1
 clear hb1
 go_wp2_with fail
 go_ret
 exact ⟨rfl, HB1.out⟩
/-- the two captured variables of the codings -/
structure BoxT (w : World) (Tb Nb : Nat) (A : Option Addr) (c : Nat) (l : List Int) : Prop where
 tb : w.heap[Tb]? = some (.cells #[.slice A l.length c] 27 (0, 0))
 nb : w.heap[Nb]? = some (.cells #[.func (.func 76) #[] #[]] 121 (0, 0))
 inn : InI w A l
theorem BoxT.mono {w w' : World} {Tb Nb : Nat} {A : Option Addr} {c : Nat} {l : List Int} (h : BoxT w Tb Nb A c l) (hb : Below w.heap.size w w') : BoxT w' Tb Nb A c l :=
 ⟨(hb.block Tb (Array.getElem?_eq_some_iff.1 h.tb).1).trans h.tb, (hb.block Nb (Array.getElem?_eq_some_iff.1 h.nb).1).trans h.nb, h.inn.mono hb⟩
theorem BoxT.ct {w : World} {Tb Nb : Nat} {A : Option Addr} {c : Nat} {l : List Int} (h : BoxT w Tb Nb A c l) : w.cell? ⟨Tb, 0, none⟩ = some (.slice A l.length c) := by rw [cell_of_row w Tb 0 _ _ _ h.tb]; rfl
theorem BoxT.cn {w : World} {Tb Nb : Nat} {A : Option Addr} {c : Nat} {l : List Int} (h : BoxT w Tb Nb A c l) : w.cell? ⟨Nb, 0, none⟩ = some (.func (.func 76) #[] #[]) := by rw [cell_of_row w Nb 0 _ _ _ h.nb]; rfl
set_option maxRecDepth 100000 in
set_option maxHeartbeats 1000000 in
theorem cod2_walk (l : List Int) (hl : l.length ≤ 4096) (hb : ∀ t ∈ l, -1 ≤ t ∧ t ≤ 1099511627776) (w : World) (Tb Nb : Nat) (A : Option Addr) (c : Nat) (hx : BoxT w Tb Nb A c l) : Calls Tryz.prog 77 #[.pointer (some ⟨Nb, 0, none⟩), .pointer (some ⟨Tb, 0, none⟩)] w fun e w' => e = .returned (.string (sB (V.num 0 ++ numsF (gapsT l)))) ∧ Below w.heap.size w w' := by
 have HXd : Hid (BoxT w.drew Tb Nb A c l) := Lib.hid ⟨hx.tb, hx.nb, hx.inn⟩
 have HG := Lib.hid fun w A c h => gaps_walk l hl hb w A c h
 have HN0 : Hid (∀ w : World, Calls Tryz.prog 53 #[.int .i64 0] w fun e w' => e = .returned (.string (sB (V.num 0))) ∧ Below w.heap.size w w') := Lib.hid fun w => num_at 0 (by decide) w
 have hgl : (gapsT l).length = l.length := gapsF_len l (-1)
 have HC1 := Lib.hid fun w A c h => cod1_walk (gapsT l) (by omega) w A c h
 rw [hgl] at HC1
 have z1 : (sB (V.num 0)).size ≤ 9 := by rw [sB_size]; exact num_len _
 have z2 : (sB (numsF (gapsT l))).size ≤ 600000 := by rw [sB_size]; exact encNumF_len _
 have zs : ¬ 9223372036854775807 < (sB (V.num 0)).size + (sB (numsF (gapsT l))).size := by omega
 have hct := hx.ct
 have hcn := hx.cn
 clear hx hl hb hgl
 go_enter Tryz.func77, Tryz.ntmps77
 go_upto_region 1 with (fail)
 refine wp_region_noPanic ?_
 refine wp_region_D 7 (fun w' => w'.cell? ⟨Tb, 0, none⟩ = some (.slice A l.length c) ∧ w'.cell? ⟨Nb, 0, none⟩ = some (.func (.func 76) #[] #[])) (by kernel_rfl) ⟨hct, hcn⟩ (fun hU => ?_)
 have hC : (fun w' : World => w'.cell? ⟨Tb, 0, none⟩ = some (.slice A l.length c) ∧ w'.cell? ⟨Nb, 0, none⟩ = some (.func (.func 76) #[] #[])) w.drew := ⟨hct, hcn⟩
 clear hU
 refine tl 1 4 6 rfl rfl (.inr hC) ?_
 simp only [Act.put, zA, zB, zC]
 refine tl 2 5 5 rfl rfl (.inr hC) ?_
 simp only [Act.put, zA, zB, zC]
 refine ry 4 [0] ?_
 refine rn rfl (fun K hK => ?_) ?_
 ·go_simp
  go_at_call 53
  with_reducible refine (HN0.out _).mono ?_
  rintro x w1 ⟨rfl, hb1⟩
  have HB1 : Hid (Below w.heap.size w w1) := Lib.hid ((Below.refl w.heap.size w).drew.trans hb1)
  have HX1 := Lib.hid (HXd.out.mono hb1)
  clear hb1
  go_wp2_with fail
  refine shut_C hK ?_ (fun hC => ?_)
  ·first
   | exact ⟨HX3.out.ct, HX3.out.cn⟩
   | exact ⟨HX2.out.ct, HX2.out.cn⟩
   | exact ⟨HX1.out.ct, HX1.out.cn⟩
  clear hK K
  try simp only [Act.put, zA, zB, zC]
  refine ry 3 [3] ?_
  refine rn rfl (fun K hK => ?_) ?_
  ·go_simp
   go_at_call 78
   with_reducible refine (HG.out _ _ _ HX1.out.inn).mono ?_
   rintro x w2 ⟨hb2, A2, c2, rfl, hin2⟩
   have HB2 := Lib.hid (bstep HB1.out (Nat.le_refl _) hb2)
   have HX2 := Lib.hid (HX1.out.mono hb2)
   have HI2 := Lib.hid hin2
   clear hb2 hin2
   go_wp2_with fail
   refine shut_C hK ?_ (fun hC => ?_)
   ·first
    | exact ⟨HX3.out.ct, HX3.out.cn⟩
    | exact ⟨HX2.out.ct, HX2.out.cn⟩
    | exact ⟨HX1.out.ct, HX1.out.cn⟩
   clear hK K
   try simp only [Act.put, zA, zB, zC]
   refine ry 2 [4] ?_
   refine rn rfl (fun K hK => ?_) ?_
   ·go_simp
    go_at_call 76
    with_reducible refine (HC1.out _ _ _ HI2.out).mono ?_
    rintro x w3 ⟨rfl, hb3⟩
    have HB3 := Lib.hid (bstep HB2.out (Nat.le_refl _) hb3)
    have HX3 := Lib.hid (HX2.out.mono hb3)
    clear hb3
    go_wp2_with fail
    refine shut_C hK ?_ (fun hC => ?_)
    ·first
     | exact ⟨HX3.out.ct, HX3.out.cn⟩
     | exact ⟨HX2.out.ct, HX2.out.cn⟩
     | exact ⟨HX1.out.ct, HX1.out.cn⟩
    clear hK K
    try simp only [Act.put, zA, zB, zC]
    refine tk 5 8 1 rfl rfl (.inr hC) ?_
    simp only [Act.put, zA, zB, zC]
    refine tk 6 2 0 rfl rfl (.inr hC) ?_
    simp only [Act.put, zA, zB, zC]
    refine wpAnyD_done (by kernel_rfl) ?_ _
    refine NoPanic.normal ?_
    go_wp2_with fail
    go_ret
    rw [sB_app]
    exact ⟨rfl, HB3.out⟩
   exact rz
  exact rz
 exact rz
end Go.Proofs.YtlmjefjimoghcaaGreat
