/- A part of the proofs of TopCounter and TopStrict: what the functions of the program do, each walked once, and plain laws about it. No condition. -/
import Derived.Sort.OwnSortedInts
import Derived.Test.YtlmjefjimoghcaaGreatA27
namespace Go.Proofs.YtlmjefjimoghcaaGreat
set_option linter.unusedSimpArgs false
set_option linter.unnecessarySimpa false
set_option linter.unusedVariables false
open Go.RowKit
attribute [local go_sem ↓] Go.wp_at_zero Go.wp_at_succ
theorem joinS_p : ∀ (l : List Int) (last : Int) (o : List Int), joinS last l = some o → o.Pairwise (· ≤ ·) ∧ ∀ t ∈ o, last < t
 | [], last, o, h => by
  simp [joinS] at h; subst h; simp
 | v :: r, last, o, h => by
  unfold joinS at h
  split at h
  ·cases h
  ·split at h
   ·cases h
   ·split at h
    ·cases h
    ·cases h2 : joinS (last + (v + 1)) r with
     | none => rw [h2] at h; cases h
     | some o2 =>
      rw [h2] at h
      injection h with h
      subst h
      obtain ⟨i1, i2⟩ := joinS_p r _ o2 h2
      refine ⟨List.pairwise_cons.2 ⟨fun t ht => ?_, i1⟩, fun t ht => ?_⟩
      ·have := i2 t ht; omega
      ·rcases List.mem_cons.1 ht with rfl | ht
       ·omega
       ·have := i2 t ht; omega
theorem joinF_p (l : List Int) : (joinF l).1.length ≤ l.length ∧ (joinF l).1.Pairwise (· ≤ ·) := by
 unfold joinF
 cases h : joinS (-1) l with
 | none => simp
 | some o =>
  have := joinS_p l (-1) o h
  exact ⟨Nat.le_of_eq (joinS_len l _ o h), this.1⟩
theorem OwnR.fresh {w0 w : World} {e : TypeId} {size n c : Nat} {A : Option Addr} {xs : List Value} (h : OwnR w0 e size (.slice A n c) n xs w) : Fresh w0 A := by
 rcases h.row.2 with ⟨h1, _⟩ | ⟨g, cap, cur, hv, _, hg, h1, h2, h3, h4⟩
 ·injection h1 with h1; subst h1; exact .nil _
 ·injection hv with hA _ hc
  subst hA
  exact .mk' (h.new g rfl)
theorem append_zero {P : Program} (w : World) (t ty e : TypeId) (i : TypeInfo) (ht : P.underlying t = some (.slice e)) (hi : P.info? e = some i)
  (v : Value) (n : Nat) (xs : List Value) (size : Nat) (hown : w.ownsRow 0 e size v n xs) (A : Option Addr) (c : Nat) : (Builtin.append_ #[t, t] ty #[v, .slice A 0 c]).run P w = .ok v w := by
 rcases hown.2 with ⟨rfl, rfl⟩ | ⟨g, cap, cur, rfl, _, _, hnc, _⟩
 ·cases A <;> simp [Builtin.append_, run_underlying ht, sizeOf, typeInfo, hi, Builtin.lenOf, Builtin.firstCells, loadCells, loadCellsFrom]
 ·cases A <;> simp [Builtin.append_, run_underlying ht, sizeOf, typeInfo, hi, Builtin.lenOf, Builtin.firstCells, hnc, storeCells, loadCells, loadCellsFrom]
set_option maxRecDepth 100000 in
theorem app_ints {w0 w : World} {v : Value} {n : Nat} {xs ys : List Int} (h : OwnR w0 3 1 v n (ic xs) w) (hb : Below w0.heap.size w0 w) {A : Option Addr} {c : Nat} (hy : InI w A ys) (hn : n + ys.length ≤ 1000000) : ∃ A' c' w', (Builtin.append_ #[27, 27] 27 #[v, .slice A ys.length c]).run Tryz.prog w = .ok (.slice A' (n + ys.length) c') w' ∧ OwnR w0 3 1 (.slice A' (n + ys.length) c') (n + ys.length) (ic (xs ++ ys)) w' ∧ Below w0.heap.size w0 w' := by
 have e : ic (xs ++ ys) = ic xs ++ ic ys := by simp [ic]
 rcases Nat.eq_zero_or_pos ys.length with h0 | h0
 ·have hz : ys = [] := List.length_eq_zero_iff.1 h0
  subst hz
  obtain ⟨A', c', rfl⟩ := row_sl h.row
  exact ⟨A', c', w, append_zero w 27 27 3 _ Tryz.underlying27 rfl _ n (ic xs) 1 h.row A c, by simpa using h, hb⟩
 ·obtain ⟨a, rfl, _⟩ := hy.at (.refl _ _) h0
  obtain ⟨v', w', hr, hrow, hg, hbl⟩ := append_at (P := Tryz.prog) w 27 27 (e := 3) _ _ 1 _ Tryz.underlying27 rfl rfl rfl rfl rfl (by decide) v n (ic xs) h.row a ys.length c (ic ys) (by simp [ic]) (fun j u hj => by
   obtain ⟨a', ha', _, h2⟩ := hy j u hj
   injection ha' with ha'
   rw [ha']; exact h2) (fun u hu => by
    simp only [ic, List.mem_map] at hu
    obtain ⟨x, _, rfl⟩ := hu
    rfl) hn (by decide) h0
  obtain ⟨A', c', rfl⟩ := row_sl hrow
  refine ⟨A', c', w', hr, ⟨by rw [e]; exact hrow, fun g hg2 => ?_⟩, below_grown hb hb.size hg fun g hg2 => ?_⟩
  ·rcases hbl with hbl | ⟨hbl, _⟩
   ·exact h.new g (hbl ▸ hg2)
   ·rw [hbl] at hg2; injection hg2 with hg2; have := hb.size; omega
  ·exact h.new g hg2
/-- an own row of numbers, sorted by the library -/
theorem sort_own {w0 w : World} {A : Option Addr} {n c : Nat} {xs : List Int} (hn : xs.length = n) (hl : n ≤ 1000000) (h : OwnR w0 3 1 (.slice A n c) n (ic xs) w) (hb : Below w0.heap.size w0 w) : Calls Tryz.prog 143 #[.slice A n c] w fun e w' => e = .returned (.tuple #[]) ∧ Below w0.heap.size w0 w' ∧ ∃ ys, ys.length = n ∧ InI w' A ys ∧ Fresh w0 A := by
 rcases Nat.eq_zero_or_pos n with h0 | h0
 ·subst h0
  refine (Tryz.slices_Sort_int_none A c w).mono ?_
  rintro e w' ⟨rfl, rfl⟩
  exact ⟨rfl, hb, [], rfl, flat_nil _ _ _, h.fresh⟩
 ·rcases h.row.2 with ⟨h1, _⟩ | ⟨g, cap, cur, hv, _, hg, h1, h2, h3, h4⟩
  ·omega
  ·injection hv with hA _ hc
   subst hA hc
   subst hn
   have hH : Sort.Holds (Value.int .i64) w g 0 xs.toArray := holds_of_blockI hg (by rw [Nat.mul_one] at h4; exact h4)
   have hgl : g < w.heap.size := (Array.getElem?_eq_some_iff.1 hg).1
   refine (Tryz.slices_Sort_int g 0 c xs w hH hgl (by omega)).mono ?_
   rintro e w' ⟨rfl, n', os, rfl⟩
   have hlen : (xs.mergeSort fun x y => decide (x ≤ y)).length = xs.length := List.length_mergeSort _
   obtain ⟨ys, hys⟩ : ∃ ys, (xs.mergeSort fun x y => decide (x ≤ y)) = ys := ⟨_, rfl⟩
   rw [hys] at hlen ⊢
   have hg2 : w0.heap.size ≤ g := h.new g rfl
   have hgr := grownBy_sortedI (w := w) (g := g) (n := n') (os := os) ys.toArray
   have hro := ownsRow_sortedI (w := w) (base := 0) (n := n') (os := os) hlen (Nat.zero_le _) hg h1 h2 h3
   refine ⟨rfl, below_grown hb hb.size hgr (fun g' e => by injection e with e; omega), ys, hlen, (row_flat (A := some ⟨g, 0, none⟩) hro).mono fun _ h => h.2, Fresh.mk' hg2⟩
/-- a list of numbers, of what kind soever, and whether it was read -/
def RetK (w0 : World) (x : Ending) (w' : World) : Prop := Below w0.heap.size w0 w' ∧ ∃ (l : List Int) (ok : Bool) (A : Option Addr) (c : Nat), x = .returned (.tuple #[.slice A l.length c, .bool ok]) ∧ InI w' A l ∧ Fresh w0 A ∧ l.length ≤ 9000
theorem retK_nil {w w' : World} (h : Below w.heap.size w w') : RetK w (.returned (.tuple #[.slice none 0 0, .bool false])) w' := ⟨h, [], false, none, 0, rfl, flat_nil _ _ _, .nil _, by simp⟩
theorem timesF_len (c : Clk) : (timesF c).1.length ≤ 4096 := by
 unfold timesF
 cases h : clkOk c with
 | false => simp
 | true =>
  have := (clkOk_b h).1
  show (timesL c c.n.toNat).length ≤ 4096
  rw [timesL_len]; omega
def KeR (w1 : World) (n : Nat) (v i : Value) (wr : World) : Prop := ∃ (k : Nat) (l : List Int), i = .int .i64 (k : Int) ∧ k ≤ n ∧ l.length ≤ k ∧ OwnR w1 3 1 v l.length (ic l) wr ∧ Below w1.heap.size w1 wr
set_option maxRecDepth 100000 in
set_option maxHeartbeats 2000000 in
theorem readClock_walk {m R : Nat} (hm : m ≤ 100000) (w0 w : World) (hb : Below w0.heap.size w0 w) (hR : w0.heap.size ≤ R) (hr : RdS w R m) : Calls Tryz.prog 110 #[.pointer (some ⟨R, 0, none⟩)] w fun x w' => RetK w0 x w' := by
 have HB0 := Lib.hid hb
 have HR := Lib.hid hR
 have HM := Lib.hid hm
 have HC := Lib.hid (rdsN hr 1099511627776 (by decide))
 clear hb hR hm hr
 go_enter Tryz.func110, Tryz.ntmps110
 go_wp2_with fail
 refine (HC.out).mono ?_
 rintro x w1 ⟨a1, rfl, h1, hr1, ht1⟩
 have HB1 := Lib.hid (below_step HB0.out ht1 HR.out)
 have HC1 := Lib.hid (rdsN hr1 1099511627776 (by decide))
 clear hr1 ht1 HC
 go_wp2_with fail
 refine (HC1.out).mono ?_
 rintro x w2 ⟨a2, rfl, h2, hr2, ht2⟩
 have HB2 := Lib.hid (below_step HB1.out ht2 HR.out)
 have HC2 := Lib.hid (rdsN hr2 1099511627776 (by decide))
 clear hr2 ht2 HC1
 go_wp2_with fail
 refine (HC2.out).mono ?_
 rintro x w3 ⟨a3, rfl, h3, hr3, ht3⟩
 have HB3 := Lib.hid (below_step HB2.out ht3 HR.out)
 have HC3 := Lib.hid (rdsN hr3 4096 (by decide))
 clear hr3 ht3 HC2
 go_wp2_with fail
 refine (HC3.out).mono ?_
 rintro x w4 ⟨a4, rfl, h4, hr4, ht4⟩
 have HB4 := Lib.hid ((below_step HB3.out ht4 HR.out).alloc (below_step HB3.out ht4 HR.out).size (.cells #[.int .i64 a1, .int .i64 a2, .int .i64 a3, .int .i64 a4] 23))
 have hbk := heap_alloc_new w4 (.cells #[.int .i64 a1, .int .i64 a2, .int .i64 a3, .int .i64 a4] 23)
 have hr5 : RdS (w4.alloc (.cells #[.int .i64 a1, .int .i64 a2, .int .i64 a3, .int .i64 a4] 23)) R m := hr4.frame (Below.heap_alloc w4 _ R hr4.lt)
 have hRl := hr4.lt
 have HRd := Lib.hid hr5
 have HL := Lib.hid (rdsL hr5)
 have HBk := Lib.hid hbk
 obtain ⟨w5, hw5⟩ : ∃ w5, w4.alloc (.cells #[.int .i64 a1, .int .i64 a2, .int .i64 a3, .int .i64 a4] 23) = w5 := ⟨_, rfl⟩
 obtain ⟨D, hD⟩ : ∃ D, w4.heap.size = D := ⟨_, rfl⟩
 have HRD : Hid (R < D) := Lib.hid (by omega)
 rw [hw5] at HRd HL HBk HB4
 rw [hD] at HBk
 clear hr4 ht4 HC3 hbk hr5 hRl
 go_wp2_with fail
 clear hw5 hD
 refine (HL.out).mono ?_
 rintro x _ ⟨n5, rfl, hn5, rfl⟩
 have hm := HM.out
 have HC := Lib.hid (rdsX HRd.out (n5 : Int) (by omega))
 clear HL hm
 go_wp2_with fail
 refine (HC.out).mono ?_
 rintro x w6 ⟨s1, rfl, _, hs1, hr6, ht6⟩
 have HB6 := Lib.hid (below_step HB4.out ht6 HR.out)
 have HRd6 := Lib.hid hr6
 have HBk6 := Lib.hid ((ht6.block D (Array.getElem?_eq_some_iff.1 HBk.out).1 (by have := HRD.out; omega)).trans HBk.out)
 have hm := HM.out
 have HD1 := Lib.hid fun w => decNums_walk s1 (by omega) 4096 w
 have HE := Lib.hid (rdsR hr6)
 clear hs1 hr6 ht6 HC HBk HRd HB4 hm
 go_wp2_with fail
 refine (HE.out).mono ?_
 rintro x _ ⟨er, rfl, rfl⟩
 by_cases her : er = 0
 rotate_left
 ·have hen := errne her
  go_wp2_with fail
  refine bodyPost_ret (results_tmp2 rfl _ _ _) rfl ?_
  exact retK_nil HB6.out
 subst her
 obtain ⟨c0, c1, c2, c3⟩ : w6.cell? ⟨D, 0, none⟩ = some (.int .i64 a1) ∧ w6.cell? ⟨D, 1, none⟩ = some (.int .i64 a2) ∧ w6.cell? ⟨D, 2, none⟩ = some (.int .i64 a3) ∧ w6.cell? ⟨D, 3, none⟩ = some (.int .i64 a4) :=
  ⟨by rw [cell_of_row w6 D 0 _ _ _ HBk6.out]; rfl, by rw [cell_of_row w6 D 1 _ _ _ HBk6.out]; rfl, by rw [cell_of_row w6 D 2 _ _ _ HBk6.out]; rfl, by rw [cell_of_row w6 D 3 _ _ _ HBk6.out]; rfl⟩
 have HT := Lib.hid (times_walk ⟨a1, a2, a3, a4⟩ w6)
 have hTl := timesF_len ⟨a1, a2, a3, a4⟩
 obtain ⟨all, hall⟩ : ∃ l, (timesF ⟨a1, a2, a3, a4⟩).1 = l := ⟨_, rfl⟩
 obtain ⟨e1, he1⟩ : ∃ l, (timesF ⟨a1, a2, a3, a4⟩).2 = l := ⟨_, rfl⟩
 rw [hall, he1] at HT
 rw [hall] at hTl
 have HTl := Lib.hid hTl
 clear hall he1 hTl HE
 go_wp2_with fail
 refine (HT.out).mono ?_
 rintro x w7 ⟨hb7, A1, cp1, rfl, hin1, hfr1⟩
 have HB7 := Lib.hid (bstep HB6.out (Nat.le_refl _) hb7)
 have HI7 := Lib.hid hin1
 have HF7 := Lib.hid hfr1
 have HRd7 := Lib.hid (HRd6.out.frame (hb7.block R HRd6.out.lt))
 have HDw := Lib.hid (HD1.out w7)
 have hm2 := decNumF_len s1 4096
 have hm3 := decNumF_lt s1 4096
 obtain ⟨ms, hms⟩ : ∃ l, (decNumF s1 4096).1 = l := ⟨_, rfl⟩
 obtain ⟨e2, he2⟩ : ∃ l, (decNumF s1 4096).2 = l := ⟨_, rfl⟩
 rw [hms, he2] at HDw
 rw [hms] at hm2 hm3
 have hm4 : ∀ t ∈ ms, -4611686018427387904 ≤ t ∧ t < 4611686018427387904 := fun t ht => by
  have h := hm3 t ht
  have e : (2 : Int) ^ 62 = 4611686018427387904 := by decide
  rw [e] at h; omega
 have HJ1 := Lib.hid fun w A c h => join_walk ms hm2 hm4 w A c h
 have hp1 := joinF_p ms
 have hRs : R < w6.heap.size := HRd6.out.lt
 have HRs := Lib.hid hRs
 clear hb7 hin1 hfr1 HD1 hms he2 hm3 hm4 HT HBk6 HRd6 c0 c1 c2 c3 hRs
 go_wp2_with fail
 refine (HDw.out).mono ?_
 rintro x w8 ⟨hb8, A2, cp2, rfl, hin2, hfr2⟩
 have HB8 := Lib.hid (bstep HB7.out (Nat.le_refl _) hb8)
 have HI8 := Lib.hid (HI7.out.mono hb8)
 have HM8 := Lib.hid hin2
 have HMf := Lib.hid hfr2
 have hr8 := HRd7.out.frame (hb8.block R HRd7.out.lt)
 have HRd8 := Lib.hid hr8
 have HL := Lib.hid (rdsL hr8)
 have HRs7 : Hid (R < w7.heap.size) := Lib.hid HRd7.out.lt
 clear hb8 hin2 hfr2 hr8 HDw HI7 HRd7
 go_wp2_with fail
 refine (HL.out).mono ?_
 rintro x _ ⟨n8, rfl, hn8, rfl⟩
 have HC := Lib.hid (rdsT HRd8.out (n8 : Int))
 clear HL HRd8
 go_wp2_with fail
 refine (HC.out).mono ?_
 rintro x w9 ⟨s2, rfl, hs2, hr9, ht9⟩
 have HB9 := Lib.hid (below_step HB8.out ht9 HR.out)
 have HI9 := Lib.hid (HI8.out.far HF7.out HRs.out ht9)
 have HM9 := Lib.hid (HM8.out.far HMf.out HRs7.out ht9)
 have hmm := HM.out
 have HDw := Lib.hid (decNums_walk s2 (by omega) 4096 w9)
 have hx2 := decNumF_len s2 4096
 have hx3 := decNumF_lt s2 4096
 obtain ⟨xs, hxs⟩ : ∃ l, (decNumF s2 4096).1 = l := ⟨_, rfl⟩
 obtain ⟨e3, he3⟩ : ∃ l, (decNumF s2 4096).2 = l := ⟨_, rfl⟩
 rw [hxs, he3] at HDw
 rw [hxs] at hx2 hx3
 have hx4 : ∀ t ∈ xs, -4611686018427387904 ≤ t ∧ t < 4611686018427387904 := fun t ht => by
  have h := hx3 t ht
  have e : (2 : Int) ^ 62 = 4611686018427387904 := by decide
  rw [e] at h; omega
 have HJ2 := Lib.hid fun w A c h => join_walk xs hx2 hx4 w A c h
 have hp2 := joinF_p xs
 clear hs2 hr9 ht9 hmm hxs he3 hx3 hx4 HC HI8 HM8 HMf HF7 HRs HRs7
 go_wp2_with fail
 refine (HDw.out).mono ?_
 rintro x w10 ⟨hb10, A3, cp3, rfl, hin3, hfr3⟩
 have HB10 := Lib.hid (bstep HB9.out (Nat.le_refl _) hb10)
 have HI10 := Lib.hid (HI9.out.mono hb10)
 have HM10 := Lib.hid (HM9.out.mono hb10)
 have HX10 := Lib.hid hin3
 clear hb10 hin3 hfr3 HI9 HM9 HDw
 by_cases h1 : e1 = 0
 rotate_left
 ·have hen := errne h1
  go_wp2_with fail
  refine bodyPost_ret (results_tmp2 rfl _ _ _) rfl ?_
  exact retK_nil HB10.out
 by_cases h2 : e2 = 0
 rotate_left
 ·have hen := errne h2
  subst h1
  go_wp2_with fail
  refine bodyPost_ret (results_tmp2 rfl _ _ _) rfl ?_
  exact retK_nil HB10.out
 by_cases h3 : e3 = 0
 rotate_left
 ·have hen := errne h3
  subst h1 h2
  go_wp2_with fail
  refine bodyPost_ret (results_tmp2 rfl _ _ _) rfl ?_
  exact retK_nil HB10.out
 subst h1 h2 h3
 have HJa := Lib.hid (HJ1.out w10 A2 cp2 HM10.out)
 obtain ⟨j1, hj1⟩ : ∃ l, (joinF ms).1 = l := ⟨_, rfl⟩
 obtain ⟨ok1, hok1⟩ : ∃ l, (joinF ms).2 = l := ⟨_, rfl⟩
 rw [hj1, hok1] at HJa
 rw [hj1] at hp1
 have HP1 : Hid (j1.length ≤ 4096 ∧ j1.Pairwise (· ≤ ·)) := Lib.hid ⟨by omega, hp1.2⟩
 clear hj1 hok1 hp1 hm2 HJ1
 go_wp2_with fail
 refine (HJa.out).mono ?_
 rintro x w11 ⟨hb11, A4, cp4, rfl, hin4, hfr4⟩
 have HB11 := Lib.hid (bstep HB10.out (Nat.le_refl _) hb11)
 have HI11 := Lib.hid (HI10.out.mono hb11)
 have HX11 := Lib.hid (HX10.out.mono hb11)
 have HJ11 := Lib.hid hin4
 have HPj : Hid (PlainA A4) := Lib.hid hfr4.plain
 have HJb := Lib.hid (HJ2.out w11 A3 cp3 HX11.out)
 obtain ⟨j2, hj2⟩ : ∃ l, (joinF xs).1 = l := ⟨_, rfl⟩
 obtain ⟨ok2, hok2⟩ : ∃ l, (joinF xs).2 = l := ⟨_, rfl⟩
 rw [hj2, hok2] at HJb
 rw [hj2] at hp2
 have HP2 : Hid (j2.length ≤ 4096) := Lib.hid (by omega)
 clear hb11 hin4 hfr4 HI10 HX10 HM10 HJa hj2 hok2 hp2 hx2 HJ2
 go_wp2_with fail
 refine (HJb.out).mono ?_
 rintro x w12 ⟨hb12, A5, cp5, rfl, hin5, hfr5⟩
 have HB12 := Lib.hid (bstep HB11.out (Nat.le_refl _) hb12)
 have HI12 := Lib.hid (HI11.out.mono hb12)
 have HJ12 := Lib.hid (HJ11.out.mono hb12)
 have HX12 := Lib.hid hin5
 have hai : (all.length : Int) ≤ 4096 := by have := HTl.out; omega
 clear hb12 hin5 hfr5 HI11 HX11 HJ11 HJb
 cases ok1 with
 | false =>
  go_wp2_with fail
  refine bodyPost_ret (results_tmp2 rfl _ _ _) rfl ?_
  exact retK_nil HB12.out
 | true => cases ok2 with
 | false =>
  go_wp2_with fail
  refine bodyPost_ret (results_tmp2 rfl _ _ _) rfl ?_
  exact retK_nil HB12.out
 | true =>
  go_wp2_with fail
  go_loopw [16, 83] (fun v i wr => KeR w12 all.length v i wr) (fun _ i _ => ((all.length : Int) - intOf i).toNat)
  case atStart => exact ⟨0, [], rfl, Nat.zero_le _, Nat.le_refl _, .nil _ _ _ _, .refl _ _⟩
  case round =>
   obtain ⟨k, l, rfl, hk, hlk, ho, hb⟩ := hrel
   have HO := Lib.hid ho
   have HB := Lib.hid hb
   obtain ⟨A', c', rfl⟩ := row_sl ho.row
   by_cases hlt : k < all.length
   ·have hki : (k : Int) < all.length := by omega
    obtain ⟨t, ht⟩ : ∃ t, all.getD k default = t := ⟨_, rfl⟩
    obtain ⟨a, rfl, c0⟩ := HI12.out.at hb hlt
    rw [ht] at c0
    have HS := Lib.hid (search_walk j1 HP1.out.1 HP1.out.2 (k : Int) wr A4 cp4 (HJ12.out.mono hb) HPj.out)
    cases hct : j1.contains (k : Int) with
    | true =>
     rw [hct] at HS
     clear ho hb ht hct
     go_wp2_with fail
     refine (HS.out).mono ?_
     rintro x w2 ⟨p, rfl, q, rfl⟩
     go_wp2_with fail
     go_roundw
     case rel => exact ⟨k + 1, l, by go_num, by omega, by omega, HO.out.frame fun _ _ => rfl, below_drewN HB.out _⟩
     case measure => simp [intOf]; omega
    | false =>
     rw [hct] at HS
     clear ht hct
     go_wp2_with fail
     refine (HS.out).mono ?_
     rintro x w2 ⟨p, rfl, q, rfl⟩
     obtain ⟨A5, c5, W5, hrun, ho5, hb5, _⟩ := push_int (w := wr.drewN q) (ho.frame fun _ _ => rfl) (below_drewN hb q) (by omega) t
     have HO5 := Lib.hid ho5
     have HB5 := Lib.hid hb5
     have HRUN := Lib.hid hrun
     clear ho hb hrun ho5 hb5
     go_wp2_with (at_builtin; refine wpList_append_eq rfl _ _ _ rfl _ _ rfl rfl HRUN.out ?_)
     go_roundw
     case rel => exact ⟨k + 1, l ++ [t], by go_num, by omega, by rw [List.length_append]; simp; omega, by rw [List.length_append]; exact HO5.out, HB5.out⟩
     case measure => simp [intOf]; omega
   ·obtain rfl : k = all.length := by omega
    have hal := HTl.out
    have h2l := HP2.out
    obtain ⟨A6, c6, W6, hrun, ho6, hb6⟩ := app_ints ho hb (HX12.out.mono hb) (A := A5) (c := cp5) (by omega)
    have HRUN := Lib.hid hrun
    have HS := Lib.hid (sort_own (by simp) (by omega) ho6 hb6)
    have HLe : Hid (l.length + j2.length ≤ 9000) := Lib.hid (by omega)
    clear ho hb hal h2l hrun ho6 hb6
    go_wp2_with (at_builtin; refine wpList_append_eq rfl _ _ _ rfl _ _ rfl rfl HRUN.out ?_)
    refine (HS.out).mono ?_
    rintro x w9 ⟨rfl, hb9, ys, hyl, hin, hfr⟩
    have HBz : Hid (Below w0.heap.size w0 w9) := Lib.hid (bstep HB12.out (Nat.le_refl _) hb9)
    have HIn := Lib.hid hin
    have HFr : Hid (Fresh w0 A6) := Lib.hid fun a ha => ⟨Nat.le_trans HB12.out.size (hfr a ha).1, (hfr a ha).2⟩
    clear hb9 hin hfr
    go_wp2_with fail
    refine bodyPost_ret (results_tmp2 rfl _ _ _) rfl ?_
    exact ⟨HBz.out, ys, true, A6, c6, by rw [hyl]; rfl, HIn.out, HFr.out, by rw [hyl]; exact HLe.out⟩
/-- what Decode reads of the first coding -/
def readF (data : List UInt8) : List Int × Bool :=
 let r := (rdN 2 data 0).1
 let d := decNumF (rdT (r.length : Int) r 0).2.2 4096
 if d.2 = 0 then joinF d.1 else ([], false)
def cod0 (data : List UInt8) : Prop := (rdN 2 data 0).2.1 = 0 ∧ (rdN 2 data 0).2.2 = 0
def RetT (data : List UInt8) (w0 : World) (x : Ending) (w' : World) : Prop := Below w0.heap.size w0 w' ∧ ∃ (l : List Int) (ok : Bool) (A : Option Addr) (c : Nat), x = .returned (.tuple #[.slice A l.length c, .bool ok]) ∧ InI w' A l ∧ Fresh w0 A ∧ l.length ≤ 9000 ∧ (cod0 data → (l, ok) = readF data)
theorem retT_nil {data : List UInt8} {w w' : World} (h : Below w.heap.size w w') (hc : cod0 data → readF data = ([], false)) : RetT data w (.returned (.tuple #[.slice none 0 0, .bool false])) w' := ⟨h, [], false, none, 0, rfl, flat_nil _ _ _, .nil _, by simp, fun h => (hc h).symm⟩
def RgR (w5 : World) (n : Nat) (v i : Value) (wr : World) : Prop := ∃ (k : Nat) (l : List Int), i = .int .i64 (k : Int) ∧ k ≤ n ∧ l.length = k ∧ (∀ t ∈ l, -4611686018427387904 ≤ t ∧ t < 4611686018427387904) ∧ OwnR w5 3 1 v k (ic l) wr ∧ Below w5.heap.size w5 wr
set_option maxRecDepth 100000 in
set_option maxHeartbeats 2000000 in
theorem tread_walk (data : List UInt8) (hd : data.length ≤ 100000) (w : World) : Calls Tryz.prog 63 #[.string (sB data)] w fun x w' => RetT data w x w' := by
 have HN := Lib.hid (new_rd data w)
 have HD := Lib.hid hd
 obtain ⟨R, hR⟩ : ∃ R, w.heap.size = R := ⟨_, rfl⟩
 have HR : Hid (w.heap.size ≤ R) := Lib.hid (by omega)
 have HRe := Lib.hid hR
 rw [hR] at HN
 clear hd hR
 go_enter Tryz.func63, Tryz.ntmps63
 go_wp2_with fail
 refine (HN.out).mono ?_
 rintro x w1 ⟨rfl, hr1, hb1⟩
 have hb1' : Below w.heap.size w w1 := by rw [HRe.out]; exact hb1
 have HB1 := Lib.hid hb1'
 have HC := Lib.hid (rdN_walk hr1 2)
 have hv := rdN_val 2 data 0 (by decide)
 have hl := rdN_len 2 data 0
 obtain ⟨r, hrr⟩ : ∃ r, (rdN 2 data 0).1 = r := ⟨_, rfl⟩
 obtain ⟨er, her⟩ : ∃ r, (rdN 2 data 0).2.1 = r := ⟨_, rfl⟩
 obtain ⟨v, hvv⟩ : ∃ r, (rdN 2 data 0).2.2 = r := ⟨_, rfl⟩
 have HE : Hid ((cod0 data ↔ er = 0 ∧ v = 0) ∧ readF data = (if (decNumF (rdT (r.length : Int) r 0).2.2 4096).2 = 0 then joinF (decNumF (rdT (r.length : Int) r 0).2.2 4096).1 else ([], false))) := Lib.hid ⟨by unfold cod0; rw [her, hvv], by unfold readF; simp only [hrr]⟩
 rw [hrr] at hl HC
 rw [her] at HC
 rw [hvv] at hv HC
 have HRl : Hid (r.length ≤ 100000) := Lib.hid (by have := HD.out; omega)
 clear hb1 hb1' hr1 hl hrr her hvv HN
 go_wp2_with fail
 refine (HC.out).mono ?_
 rintro x w2 ⟨rfl, hr2, ht2⟩
 have HB2 := Lib.hid (below_step HB1.out ht2 HR.out)
 have HR2 := Lib.hid hr2
 have HE2 := Lib.hid (rdR_walk hr2)
 clear hr2 ht2 HC
 go_wp2_with fail
 refine (HE2.out).mono ?_
 rintro x _ ⟨rfl, rfl⟩
 clear HE2
 by_cases h0 : er = 0
 rotate_left
 ·have hen := errne h0
  go_wp2_with fail
  refine bodyPost_ret (results_tmp2 rfl _ _ _) rfl ?_
  exact retT_nil HB2.out fun h => absurd (HE.out.1.1 h).1 h0
 subst h0
 rcases (by omega : v = 0 ∨ v = 1 ∨ v = 2) with rfl | rfl | rfl
 ·have HL := Lib.hid (rdL_walk HR2.out)
  have HT := Lib.hid (rdT_walk HR2.out (r.length : Int))
  have hsl := rdT_len (r.length : Int) r 0
  obtain ⟨s, hs⟩ : ∃ s, (rdT (r.length : Int) r 0).2.2 = s := ⟨_, rfl⟩
  have hsl2 : s.length ≤ 100000 := by have := HRl.out; rw [← hs]; omega
  have HF : Hid (readF data = (if (decNumF s 4096).2 = 0 then joinF (decNumF s 4096).1 else ([], false))) := Lib.hid (by rw [HE.out.2, hs])
  rw [hs] at HT
  have HDw := Lib.hid fun w => decNums_walk s (by omega) 4096 w
  have hm2 := decNumF_len s 4096
  have hm3 := decNumF_lt s 4096
  obtain ⟨ms, hms⟩ : ∃ l, (decNumF s 4096).1 = l := ⟨_, rfl⟩
  obtain ⟨e2, he2⟩ : ∃ l, (decNumF s 4096).2 = l := ⟨_, rfl⟩
  rw [hms, he2] at HDw HF
  rw [hms] at hm2 hm3
  have hm4 : ∀ t ∈ ms, -4611686018427387904 ≤ t ∧ t < 4611686018427387904 := fun t ht => by
   have h := hm3 t ht
   have e : (2 : Int) ^ 62 = 4611686018427387904 := by decide
   rw [e] at h; omega
  have HJ1 := Lib.hid fun w A c h => join_walk ms hm2 hm4 w A c h
  have hp1 := joinF_p ms
  clear hsl hs hsl2 hms he2 hm3 hm4 HR2 HE hv
  go_wp2_with fail
  refine (HL.out).mono ?_
  rintro x _ ⟨rfl, rfl⟩
  go_wp2_with fail
  refine (HT.out).mono ?_
  rintro x w3 ⟨rfl, _, ht3⟩
  have HB3 := Lib.hid (below_step HB2.out ht3 HR.out)
  clear ht3 HL HT
  go_wp2_with fail
  refine (HDw.out _).mono ?_
  rintro x w4 ⟨hb4, A2, cp2, rfl, hin2, hfr2⟩
  have HB4 := Lib.hid (bstep HB3.out (Nat.le_refl _) hb4)
  have HI4 := Lib.hid hin2
  clear hb4 hin2 hfr2 HDw
  by_cases h2 : e2 = 0
  ·subst h2
   have HJa := Lib.hid (HJ1.out w4 A2 cp2 HI4.out)
   obtain ⟨j1, hj1⟩ : ∃ l, (joinF ms).1 = l := ⟨_, rfl⟩
   obtain ⟨ok1, hok1⟩ : ∃ l, (joinF ms).2 = l := ⟨_, rfl⟩
   rw [hj1, hok1] at HJa
   rw [hj1] at hp1
   have HF2 : Hid (readF data = (j1, ok1)) := Lib.hid (by rw [HF.out, if_pos rfl, ← hj1, ← hok1])
   have HP1 : Hid (j1.length ≤ 9000) := Lib.hid (by omega)
   clear hj1 hok1 hp1 hm2 HJ1
   go_wp2_with fail
   refine (HJa.out).mono ?_
   rintro x w5 ⟨hb5, A4, cp4, rfl, hin4, hfr4⟩
   have HB5 := Lib.hid (bstep HB4.out (Nat.le_refl _) hb5)
   have HI5 := Lib.hid hin4
   have HFr : Hid (Fresh w A4) := Lib.hid fun a ha => ⟨Nat.le_trans HB4.out.size (hfr4 a ha).1, (hfr4 a ha).2⟩
   clear hb5 hin4 hfr4 HJa
   go_wp2_with fail
   refine bodyPost_ret (results_tmp2 rfl _ _ _) rfl ?_
   exact ⟨HB5.out, j1, ok1, A4, cp4, rfl, HI5.out, HFr.out, HP1.out, fun _ => HF2.out.symm⟩
  ·have hen := errne h2
   go_wp2_with fail
   refine bodyPost_ret (results_tmp2 rfl _ _ _) rfl ?_
   exact retT_nil HB4.out fun _ => by rw [HF.out, if_neg h2]
 ·have HC := Lib.hid (readClock_walk HRl.out w w2 HB2.out HR.out ⟨r, 0, HR2.out, Nat.le_refl _⟩)
  clear HR2 hv
  go_wp2_with fail
  refine (HC.out).mono ?_
  rintro x w3 ⟨hb3, l, ok, A, c, rfl, hin, hfr, hl⟩
  have HB3 := Lib.hid hb3
  have HI3 := Lib.hid hin
  have HF3 := Lib.hid hfr
  have HL3 := Lib.hid hl
  clear hb3 hin hfr hl HC
  go_wp2_with fail
  refine bodyPost_ret (results_tmp2 rfl _ _ _) rfl ?_
  exact ⟨HB3.out, l, ok, A, c, rfl, HI3.out, HF3.out, HL3.out, fun h => absurd (HE.out.1.1 h).2 (by decide)⟩
 ·have HS : Hid (RdS w2 R 100000) := Lib.hid ⟨r, 0, HR2.out, HRl.out⟩
  have HNc : Hid (¬ cod0 data) := Lib.hid fun h => absurd (HE.out.1.1 h).2 (by decide)
  have HL := Lib.hid (rdsL HS.out)
  clear HR2 hv HE
  go_wp2_with fail
  refine (HL.out).mono ?_
  rintro x _ ⟨n2, rfl, hn2, rfl⟩
  have HT := Lib.hid (rdsT HS.out (n2 : Int))
  clear HL HS
  go_wp2_with fail
  refine (HT.out).mono ?_
  rintro x w3 ⟨s, rfl, hs, _, ht3⟩
  have HB3 := Lib.hid (below_step HB2.out ht3 HR.out)
  have HDw := Lib.hid (rldec_walk s hs 4096 w3)
  clear ht3 hs HT
  go_wp2_with fail
  refine (HDw.out).mono ?_
  rintro x w4 ⟨hb4, ss, e2, A2, cp2, rfl, hin2, hl2, hm2, _⟩
  have HB4 := Lib.hid (bstep HB3.out (Nat.le_refl _) hb4)
  have HI4 := Lib.hid hin2
  have HL4 := Lib.hid hl2
  have HM4 := Lib.hid hm2
  have hli : (ss.length : Int) ≤ 4096 := by omega
  clear hb4 hin2 hl2 hm2 HDw
  by_cases h2 : e2 = 0
  rotate_left
  ·have hen := errne h2
   go_wp2_with fail
   refine bodyPost_ret (results_tmp2 rfl _ _ _) rfl ?_
   exact retT_nil HB4.out fun h => absurd h HNc.out
  subst h2
  go_wp2_with fail
  go_loopw [6, 55] (fun v i wr => RgR w4 ss.length v i wr) (fun _ i _ => ((ss.length : Int) - intOf i).toNat)
  case atStart => exact ⟨0, [], rfl, Nat.zero_le _, rfl, by simp, .nil _ _ _ _, .refl _ _⟩
  case round =>
   obtain ⟨k, l, rfl, hk, hlk, hlb, ho, hb⟩ := hrel
   have HO := Lib.hid ho
   have HB := Lib.hid hb
   obtain ⟨A', c', rfl⟩ := row_sl ho.row
   by_cases hlt : k < ss.length
   ·have hki : (k : Int) < ss.length := by omega
    obtain ⟨t, ht⟩ : ∃ t, ss.getD k default = t := ⟨_, rfl⟩
    obtain ⟨a, rfl, c0⟩ := HI4.out.at hb hlt
    rw [ht] at c0
    have htb := HM4.out t (by rw [← ht]; exact List.mem_of_getElem? (get_default hlt))
    have HNr := Lib.hid (new_rds t wr)
    have HLb := Lib.hid hlb
    have HLk := Lib.hid hlk
    have hk4 := HL4.out
    have HK4 : Hid (k + 1 ≤ 1000000) := Lib.hid (by omega)
    obtain ⟨R2, hR2⟩ : ∃ R2, wr.heap.size = R2 := ⟨_, rfl⟩
    have HR2 : Hid (wr.heap.size ≤ R2 ∧ w4.heap.size ≤ R2) := Lib.hid ⟨by omega, by have := hb.size; omega⟩
    have HRe2 := Lib.hid hR2
    rw [hR2] at HNr
    clear ho hb ht hlb hlk hk4 hR2
    go_wp2_with fail
    refine (HNr.out).mono ?_
    rintro x w5 ⟨rfl, hr5, hb5⟩
    have hb5' : Below wr.heap.size wr w5 := by rw [HRe2.out]; exact hb5
    have HO5 := Lib.hid (HO.out.below hb5')
    have HB5 := Lib.hid (bstep HB.out (Nat.le_refl _) hb5')
    have HC := Lib.hid (rdsN hr5 1099511627776 (by decide))
    clear hr5 hb5 hb5' HNr htb
    go_wp2_with fail
    refine (HC.out).mono ?_
    rintro x w6 ⟨n6, rfl, h6, hr6, ht6⟩
    have hne : (Value.slice A' k c').ownBlock ≠ some R2 := hr6.ne (HO5.out.frame (w' := w6) fun g hg => ht6.block g (HO5.out.lt hg) fun e => by have := HO.out.lt hg; have := HR2.out.1; omega).row (by decide)
    have ho6 := HO5.out.frame (w' := w6) fun g hg => ht6.block g (HO5.out.lt hg) fun e => hne (e ▸ hg)
    have hb6 := below_step HB5.out ht6 HR2.out.2
    obtain ⟨A7, c7, W7, hrun, ho7, hb7, hg7⟩ := push_int ho6 hb6 HK4.out (n6 : Int)
    have hr7 : RdS W7 R2 t.length := hr6.frame ((hg7.block R2 (by rw [World.size_alloc]; have := hr6.lt; omega) fun e => hne e.symm).trans (Below.heap_alloc w6 _ R2 hr6.lt))
    have HO7 := Lib.hid ho7
    have HB7 := Lib.hid hb7
    have HRUN := Lib.hid hrun
    have HE := Lib.hid (rdsE hr7)
    have HNE : Hid ((Value.slice A7 (k + 1) c7).ownBlock ≠ some R2) := Lib.hid (hr7.ne ho7.row (by decide))
    have HLb2 : Hid (∀ t ∈ l ++ [(n6 : Int)], -4611686018427387904 ≤ t ∧ t < 4611686018427387904) := Lib.hid fun t ht => by
     rw [List.mem_append, List.mem_singleton] at ht
     rcases ht with ht | rfl
     ·exact HLb.out t ht
     ·omega
    clear hr6 ht6 hne ho6 hb6 hrun ho7 hb7 hg7 hr7 HC h6
    go_wp2_with (at_builtin; refine wpList_append_eq rfl _ _ _ rfl _ _ rfl rfl HRUN.out ?_)
    refine (HE.out).mono ?_
    rintro x w8 ⟨er, rfl, _, ht8⟩
    have HO8 := Lib.hid (HO7.out.frame (w' := w8) fun g hg => ht8.block g (HO7.out.lt hg) fun e => HNE.out (e ▸ hg))
    have HB8 := Lib.hid (below_step HB7.out ht8 HR2.out.2)
    clear ht8 HE HRUN
    by_cases her : er = 0
    ·subst her
     go_wp2_with fail
     go_roundw
     case rel => exact ⟨k + 1, l ++ [(n6 : Int)], by go_num, by omega, by rw [List.length_append, HLk.out]; rfl, HLb2.out, HO8.out, HB8.out⟩
     case measure => simp [intOf]; omega
    ·have hen := errne her
     go_wp2_with fail
     refine bodyPost_ret (results_tmp2 rfl _ _ _) rfl ?_
     exact retT_nil (bstep HB4.out (Nat.le_refl _) HB8.out) fun h => absurd h HNc.out
   ·obtain rfl : k = ss.length := by omega
    have hal := HL4.out
    have hj := join_walk l (by omega) hlb wr A' c' (by have := ownI_in ho; exact this)
    have hp1 := joinF_p l
    rw [hlk] at hj
    obtain ⟨j1, hj1⟩ : ∃ l1, (joinF l).1 = l1 := ⟨_, rfl⟩
    obtain ⟨ok1, hok1⟩ : ∃ l1, (joinF l).2 = l1 := ⟨_, rfl⟩
    rw [hj1, hok1] at hj
    rw [hj1] at hp1
    have HP1 : Hid (j1.length ≤ 9000) := Lib.hid (by omega)
    have HJa := Lib.hid hj
    clear ho hb hal hj hp1 hj1 hok1 hlb hlk
    go_wp2_with fail
    refine (HJa.out).mono ?_
    rintro x w5 ⟨hb5, A4, cp4, rfl, hin4, hfr4⟩
    have HB5 := Lib.hid (bstep (bstep HB4.out (Nat.le_refl _) HB.out) (Nat.le_refl _) hb5)
    have HI5 := Lib.hid hin4
    have HFr : Hid (Fresh w A4) := Lib.hid fun a ha => ⟨by have := HB4.out.size; have := HB.out.size; have := (hfr4 a ha).1; omega, (hfr4 a ha).2⟩
    clear hb5 hin4 hfr4 HJa
    go_wp2_with fail
    refine bodyPost_ret (results_tmp2 rfl _ _ _) rfl ?_
    exact ⟨HB5.out, j1, ok1, A4, cp4, rfl, HI5.out, HFr.out, HP1.out, fun h => absurd h HNc.out⟩
def RetV (enc : List Int → List UInt8 × Int) (data : List UInt8) (full : List Int → Prop) (w : World) (x : Ending) (w' : World) : Prop := Below w.heap.size w w' ∧ ∃ (l : List Int) (e : Int) (A : Option Addr) (c : Nat), x = .returned (.tuple #[.slice A l.length c, .int .i64 e]) ∧ InI w' A l ∧ Fresh w A ∧ l.length ≤ 9000 ∧ (e = 0 → enc l = (data, 0)) ∧ (∀ y, full y → e = 0 ∧ l = y)
theorem retV_nil {enc : List Int → List UInt8 × Int} {data : List UInt8} {full : List Int → Prop} {w w' : World} {e : Int} (h : Below w.heap.size w w') (he : e ≠ 0) (hf : ∀ y, ¬ full y) : RetV enc data full w (.returned (.tuple #[.slice none 0 0, .int .i64 e])) w' := ⟨h, [], e, none, 0, rfl, flat_nil _ _ _, .nil _, by simp, fun h => absurd h he, fun y h => absurd h (hf y)⟩
/-- the first coding, in full: y comes back -/
def tcFull (data : List UInt8) (most : Int) (y : List Int) : Prop := cod0 data ∧ readF data = (y, true) ∧ tcE y = (data, 0) ∧ (y.length : Int) ≤ most
set_option maxRecDepth 100000 in
set_option maxHeartbeats 1000000 in
theorem tcD_walk (data : List UInt8) (hd : data.length ≤ 100000) (most : Int) (w : World) : Calls Tryz.prog 22 #[.string (sB data), .int .i64 most] w fun x w' => RetV tcE data (tcFull data most) w x w' := by
 have HR := Lib.hid (tread_walk data hd w)
 clear hd
 go_enter Tryz.func22, Tryz.ntmps22
 go_wp2_with fail
 refine (HR.out).mono ?_
 rintro x w1 ⟨hb1, l, ok, A, c, rfl, hin, hfr, hl, hc⟩
 have HB1 := Lib.hid hb1
 have HIn := Lib.hid hin
 have HFr := Lib.hid hfr
 have HL := Lib.hid hl
 have HY : Hid (∀ y, tcFull data most y → ok = true ∧ l = y ∧ tcE y = (data, 0) ∧ (y.length : Int) ≤ most) := Lib.hid fun y hy => by
  have h := (hc hy.1).trans hy.2.1
  injection h with h1 h2
  exact ⟨h2, h1, hy.2.2⟩
 have hE := tcE_walk l (by omega) w1 A c hin hfr.plain
 obtain ⟨t, ht⟩ : ∃ t, (tcE l).1 = t := ⟨_, rfl⟩
 obtain ⟨e, he⟩ : ∃ e, (tcE l).2 = e := ⟨_, rfl⟩
 rw [ht, he] at hE
 have HEq : Hid (tcE l = (t, e)) := Lib.hid (by rw [← ht, ← he])
 have HE := Lib.hid hE
 have hli : (l.length : Int) ≤ 9000 := by omega
 clear hb1 hin hl hE ht he HR hfr hc
 cases ok with
 | false =>
  go_wp2_with fail
  refine bodyPost_ret (results_tmp2 rfl _ _ _) rfl ?_
  exact retV_nil HB1.out (by decide) fun y h => absurd (HY.out y h).1 (by decide)
 | true =>
  go_wp2_with fail
  refine (HE.out).mono ?_
  rintro x w2 ⟨rfl, hb2⟩
  have HB2 := Lib.hid (bstep HB1.out (Nat.le_refl _) hb2)
  have HI2 := Lib.hid (HIn.out.mono hb2)
  clear hb2 HE
  by_cases h0 : e = 0
  ·subst h0
   by_cases hq : t = data
   ·have hse := str_eq t data
    have hsn := str_ne t data
    rw [decide_eq_true hq] at hse hsn
    have HQ : Hid (tcE l = (data, 0)) := Lib.hid (by rw [HEq.out, hq])
    clear hq
    by_cases hm : most < (l.length : Int)
    ·have HN : Hid (∀ y, ¬ tcFull data most y) := Lib.hid fun y h => by
      obtain ⟨_, h1, _, h2⟩ := HY.out y h
      subst h1; omega
     go_wp2_with fail
     refine bodyPost_ret (results_tmp2 rfl _ _ _) rfl ?_
     exact retV_nil HB2.out (by decide) HN.out
    ·go_wp2_with fail
     refine bodyPost_ret (results_tmp2 rfl _ _ _) rfl ?_
     exact ⟨HB2.out, l, 0, A, c, rfl, HI2.out, HFr.out, HL.out, fun _ => HQ.out, fun y h => ⟨rfl, (HY.out y h).2.1⟩⟩
   ·have hse := str_eq t data
    have hsn := str_ne t data
    rw [decide_eq_false hq] at hse hsn
    have HN : Hid (∀ y, ¬ tcFull data most y) := Lib.hid fun y h => by
     obtain ⟨_, h1, h2, _⟩ := HY.out y h
     subst h1
     rw [HEq.out] at h2
     injection h2 with h2
     exact hq h2
    clear hq
    go_wp2_with fail
    refine bodyPost_ret (results_tmp2 rfl _ _ _) rfl ?_
    exact retV_nil HB2.out (by decide) HN.out
  ·have hen := errne h0
   have HN : Hid (∀ y, ¬ tcFull data most y) := Lib.hid fun y h => by
    obtain ⟨_, h1, h2, _⟩ := HY.out y h
    subst h1
    rw [HEq.out] at h2
    injection h2 with _ h2
    exact h0 h2
   go_wp2_with fail
   refine bodyPost_ret (results_tmp2 rfl _ _ _) rfl ?_
   exact retV_nil HB2.out (by decide) HN.out
end Go.Proofs.YtlmjefjimoghcaaGreat
