/- A part of the proofs of TopCounter and TopStrict: what the functions of the program do, each walked once, and plain laws about it. No condition. -/
import Derived.Test.YtlmjefjimoghcaaGreatA22
namespace Go.Proofs.YtlmjefjimoghcaaGreat
set_option linter.unusedSimpArgs false
set_option linter.unnecessarySimpa false
set_option linter.unusedVariables false
open Go.RowKit
attribute [local go_sem ↓] Go.wp_at_zero Go.wp_at_succ
def MX : Int := 1099511627776
def incB : Int → List Int → Bool
 | _, [] => true
 | last, t :: r => !decide (t ≤ last) && !decide (MX < t) && incB t r
def validT (l : List Int) : Bool := incB (-1) l && decide (l.length ≤ 4096)
def gapsF : Int → List Int → List Int
 | _, [] => []
 | last, t :: r => (t - last - 1) :: gapsF t r
def gapsT (l : List Int) : List Int := gapsF (-1) l
theorem gapsF_len : ∀ (l : List Int) (last : Int), (gapsF last l).length = l.length
 | [], _ => rfl
 | t :: r, _ => by simp [gapsF, gapsF_len r]
def joinS : Int → List Int → Option (List Int)
 | _, [] => some []
 | last, g :: r => if g < 0 then none else if MX < g then none else if MX < last + (g + 1) then none else (joinS (last + (g + 1)) r).map fun o => (last + (g + 1)) :: o
def joinF (l : List Int) : List Int × Bool := match joinS (-1) l with
 | none => ([], false)
 | some o => (o, decide (l.length ≤ 4096))
theorem drop_getD {l : List Int} {k : Nat} (h : k < l.length) : l.drop k = l.getD k default :: l.drop (k + 1) := by
 rw [List.drop_eq_getElem_cons h]; simp [List.getD, h]
theorem joinS_len : ∀ (l : List Int) (last : Int) (o : List Int), joinS last l = some o → o.length = l.length
 | [], _, o, h => by simp [joinS] at h; subst h; rfl
 | g :: r, last, o, h => by
  unfold joinS at h
  split at h
  ·cases h
  ·split at h
   ·cases h
   ·split at h
    ·cases h
    ·rw [Option.map_eq_some_iff] at h
     obtain ⟨o', h1, h2⟩ := h
     rw [← h2, List.length_cons, joinS_len r _ o' h1]; rfl
theorem validT_walk (l : List Int) (hl : l.length ≤ 1000000) (w : World) (A : Option Addr) (c : Nat) (hF : InI w A l) (r : Bool) (hr : validT l = r) : Calls Tryz.prog 35 #[.slice A l.length c] w fun e w' => e = .returned (.bool r) ∧ w = w' := by
 have HF := Lib.hid hF
 have HR := Lib.hid hr
 have hli : (l.length : Int) ≤ 1000000 := by omega
 clear hF hr hl
 go_enter Tryz.func35, Tryz.ntmps35
 go_wp2_with fail
 go_loopw [3, 8] (fun lv i wr => ∃ (k : Nat) (last : Int), i = .int .i64 (k : Int) ∧ k ≤ l.length ∧ lv = .int .i64 last ∧ incB (-1) l = incB last (l.drop k) ∧ w = wr) (fun _ i _ => ((l.length : Int) - intOf i).toNat)
 case atStart => exact ⟨0, -1, rfl, Nat.zero_le _, rfl, rfl, rfl⟩
 case round =>
  obtain ⟨k, last, rfl, hk, rfl, hb, rfl⟩ := hrel
  have HB := Lib.hid hb
  clear hb
  by_cases hlt : k < l.length
  ·have hkl : (k : Int) < l.length := by omega
   obtain ⟨a, rfl, c0⟩ := HF.out.at (.refl _ _) hlt
   obtain ⟨t, ht⟩ : ∃ t, l.getD k default = t := ⟨_, rfl⟩
   rw [ht] at c0
   have HD : Hid (incB last (l.drop k) = (!decide (t ≤ last) && !decide (MX < t) && incB t (l.drop (k + 1)))) := Lib.hid (by rw [drop_getD hlt, ht]; rfl)
   clear ht
   by_cases h1 : t ≤ last
   ·have HE : Hid (r = false) := Lib.hid (by rw [← HR.out]; unfold validT; rw [HB.out, HD.out, decide_eq_true h1]; rfl)
    go_wp2_with fail
    go_ret
    rw [HE.out]
    exact ⟨rfl, rfl⟩
   ·by_cases h2 : 1099511627776 < t
    ·have HE : Hid (r = false) := Lib.hid (by rw [← HR.out]; unfold validT; rw [HB.out, HD.out, decide_eq_true (p := MX < t) h2]; simp)
     go_wp2_with fail
     go_ret
     rw [HE.out]
     exact ⟨rfl, rfl⟩
    ·have HT : Hid (incB (-1) l = incB t (l.drop (k + 1))) := Lib.hid (by rw [HB.out, HD.out, decide_eq_false h1, decide_eq_false (p := MX < t) h2]; rfl)
     go_wp2_with fail
     go_roundw
     case rel => exact ⟨k + 1, t, by go_num, by omega, rfl, HT.out, trivial⟩
     case measure => simp [intOf]; omega
  ·obtain rfl : k = l.length := by omega
   have HE : Hid (r = decide ((l.length : Int) ≤ 4096)) := Lib.hid (by
    rw [← HR.out]; unfold validT
    rw [HB.out, List.drop_length]
    show (true && _) = _
    rw [Bool.true_and, Bool.eq_iff_iff, decide_eq_true_iff, decide_eq_true_iff]; omega)
   go_wp2_with fail
   go_ret
   exact ⟨ret_bool HE.out.symm, rfl⟩
theorem gaps_walk (l : List Int) (hl : l.length ≤ 4096) (hb : ∀ t ∈ l, -1 ≤ t ∧ t ≤ 1099511627776) (w : World) (A : Option Addr) (c : Nat) (hF : InI w A l) : Calls Tryz.prog 78 #[.slice A l.length c] w fun x w' => Below w.heap.size w w' ∧ ∃ A1 c1, x = .returned (.slice A1 l.length c1) ∧ InI w' A1 (gapsT l) := by
 obtain ⟨W, hrun, hrow, hbw, hz⟩ := made_row w l.length hl
 have HF := Lib.hid hF
 have HBd := Lib.hid hb
 have HR0 := Lib.hid hrow
 have HB0 := Lib.hid hbw
 have HGl := Lib.hid (gapsF_len l (-1))
 have hli : (l.length : Int) ≤ 4096 := by omega
 clear hF hl hb hrow hbw hz
 go_enter Tryz.func78, Tryz.ntmps78
 go_wp2_with fail
 clear hrun
 go_loopw [3, 12] (fun lv i wr => ∃ (k : Nat) (last : Int), i = .int .i64 (k : Int) ∧ k ≤ l.length ∧ lv = .int .i64 last ∧ (-1 ≤ last ∧ last ≤ 1099511627776) ∧ (gapsT l).drop k = gapsF last (l.drop k) ∧ IRow wr w.heap.size ((gapsT l).take k ++ List.replicate (l.length - k) 0) ∧ Below w.heap.size w wr) (fun _ i _ => ((l.length : Int) - intOf i).toNat)
 case atStart => exact ⟨0, -1, rfl, Nat.zero_le _, rfl, ⟨by decide, by decide⟩, rfl, HR0.out, HB0.out⟩
 case round =>
  obtain ⟨k, last, rfl, hk, rfl, hla, hg, hr, hbl⟩ := hrel
  have HG := Lib.hid hg
  have HBl := Lib.hid hbl
  by_cases hlt : k < l.length
  ·have hkl : (k : Int) < l.length := by omega
   obtain ⟨a, rfl, c0⟩ := HF.out.at hbl hlt
   obtain ⟨t, ht⟩ : ∃ t, l.getD k default = t := ⟨_, rfl⟩
   rw [ht] at c0
   have htb := HBd.out t (by rw [← ht]; exact List.mem_of_getElem? (get_default hlt))
   have hgl : (gapsT l).length = l.length := HGl.out
   have hgk : k < (gapsT l).length := by omega
   have hdr : (gapsT l).drop k = (t - last - 1) :: gapsF t (l.drop (k + 1)) := by rw [hg, drop_getD hlt, ht]; rfl
   have hgd : (gapsT l).getD k default = t - last - 1 ∧ (gapsT l).drop (k + 1) = gapsF t (l.drop (k + 1)) := by
    rw [drop_getD hgk] at hdr
    injection hdr with h1 h2
    exact ⟨h1, h2⟩
   have hlen : ((gapsT l).take k).length = k := by rw [List.length_take]; omega
   have g0 := hr.cell (i := k) (by rw [List.length_append, hlen, List.length_replicate]; omega)
   have gf := hr.fr k
   have hset := hr.set k (t - last - 1)
   rw [put_row hlen hlt, ← hgd.1, ← take_getD hgk, hgd.1] at hset
   have HSet := Lib.hid hset
   have HD := Lib.hid hgd.2
   clear hg hr hbl ht hgl hgk hdr hgd hlen hset
   go_wp2_with fail
   go_roundw
   case rel => exact ⟨k + 1, t, by go_num, by omega, rfl, htb, HD.out, HSet.out, HBl.out.setCell (p := ⟨w.heap.size, k, none⟩) (Nat.le_refl _) _⟩
   case measure => simp [intOf]; omega
  ·obtain rfl : k = l.length := by omega
   have hg2 : (gapsT l).length = l.length := HGl.out
   rw [Nat.sub_self, List.replicate_zero, List.append_nil, ← hg2, List.take_length] at hr
   have HRr := Lib.hid hr
   clear hg hr hbl hg2
   go_wp2_with fail
   go_ret
   exact ⟨HBl.out, some ⟨w.heap.size, 0, none⟩, l.length, rfl, irow_in HRr.out⟩
def RetJ (w : World) (l : List Int) (ok : Bool) (x : Ending) (w' : World) : Prop := Below w.heap.size w w' ∧ ∃ A c, x = .returned (.tuple #[.slice A l.length c, .bool ok]) ∧ InI w' A l ∧ Fresh w A
theorem retJ_nil {w w' : World} (h : Below w.heap.size w w') : RetJ w [] false (.returned (.tuple #[.slice none 0 0, .bool false])) w' := ⟨h, none, 0, rfl, flat_nil _ _ _, .nil _⟩
structure JoI (w : World) (l : List Int) (k : Nat) (last : Int) (wr : World) : Prop where
 ex : ∃ o1 : List Int, o1.length = k ∧ joinS (-1) l = (joinS last (l.drop k)).map (fun o => o1 ++ o) ∧ IRow wr w.heap.size (o1 ++ List.replicate (l.length - k) 0)
 la : -1 ≤ last ∧ last ≤ 1099511627776
 below : Below w.heap.size w wr
def JoR (w : World) (l : List Int) (lv i : Value) (wr : World) : Prop := ∃ (k : Nat) (last : Int), i = .int .i64 (k : Int) ∧ k ≤ l.length ∧ lv = .int .i64 last ∧ JoI w l k last wr
set_option maxRecDepth 100000 in
theorem join_walk (l : List Int) (hl : l.length ≤ 4096) (hb : ∀ t ∈ l, -4611686018427387904 ≤ t ∧ t < 4611686018427387904) (w : World) (A : Option Addr) (c : Nat) (hF : InI w A l) : Calls Tryz.prog 111 #[.slice A l.length c] w fun x w' => RetJ w (joinF l).1 (joinF l).2 x w' := by
 obtain ⟨W, hrun, hrow, hbw, hz⟩ := made_row w l.length hl
 have HF := Lib.hid hF
 have HR0 := Lib.hid hrow
 have HB0 := Lib.hid hbw
 have HJ : Hid (joinF l = match joinS (-1) l with | none => ([], false) | some o => (o, true)) := Lib.hid (by
  unfold joinF; cases joinS (-1) l with
  | none => rfl
  | some o => show (o, _) = _; rw [decide_eq_true hl])
 have HBd := Lib.hid hb
 have hli : (l.length : Int) ≤ 4096 := by omega
 clear hF hl hb hrow hbw hz
 go_enter Tryz.func111, Tryz.ntmps111
 go_wp2_with fail
 clear hrun
 go_loopw [4, 13] (fun lv i wr => JoR w l lv i wr) (fun _ i _ => ((l.length : Int) - intOf i).toNat)
 case atStart => exact ⟨0, -1, rfl, Nat.zero_le _, rfl, ⟨[], rfl, by simp, HR0.out⟩, ⟨by decide, by decide⟩, HB0.out⟩
 case round =>
  obtain ⟨k, last, rfl, hk, rfl, hI⟩ := hrel
  have HI := Lib.hid hI
  have hla := hI.la
  by_cases hlt : k < l.length
  ·have hkl : (k : Int) < l.length := by omega
   obtain ⟨a, rfl, c0⟩ := HF.out.at hI.below hlt
   obtain ⟨t, ht⟩ : ∃ t, l.getD k default = t := ⟨_, rfl⟩
   rw [ht] at c0
   have htb := HBd.out t (by rw [← ht]; exact List.mem_of_getElem? (get_default hlt))
   obtain ⟨o1, ho1, hjs, hrw⟩ := hI.ex
   have hst : joinS last (l.drop k) = if t < 0 then none else if MX < t then none else if MX < last + (t + 1) then none else (joinS (last + (t + 1)) (l.drop (k + 1))).map fun o => (last + (t + 1)) :: o := by rw [drop_getD hlt, ht]; rfl
   rw [hst] at hjs
   clear hst ht
   by_cases h1 : t < 0
   ·have HE : Hid (joinF l = ([], false)) := Lib.hid (by rw [HJ.out, hjs, if_pos h1]; rfl)
    clear hI hjs hrw ho1
    go_wp2_with fail
    refine bodyPost_ret (results_tmp2 rfl _ _ _) rfl ?_
    rw [HE.out]
    exact retJ_nil HI.out.below
   ·rw [if_neg h1] at hjs
    by_cases h2 : 1099511627776 < t
    ·have HE : Hid (joinF l = ([], false)) := Lib.hid (by rw [HJ.out, hjs, if_pos (show MX < t from h2)]; rfl)
     clear hI hjs hrw ho1
     go_wp2_with fail
     refine bodyPost_ret (results_tmp2 rfl _ _ _) rfl ?_
     rw [HE.out]
     exact retJ_nil HI.out.below
    ·rw [if_neg (show ¬ MX < t from h2)] at hjs
     have hlen : (o1 ++ List.replicate (l.length - k) 0).length = l.length := by rw [List.length_append, ho1, List.length_replicate]; omega
     have g0 := hrw.cell (i := k) (by rw [hlen]; exact hlt)
     have gf := hrw.fr k
     have hset := hrw.set k (last + (t + 1))
     rw [put_row ho1 hlt] at hset
     have HSet := Lib.hid hset
     have HO1 := Lib.hid ho1
     by_cases h3 : 1099511627776 < last + (t + 1)
     ·have HE : Hid (joinF l = ([], false)) := Lib.hid (by rw [HJ.out, hjs, if_pos (show MX < _ from h3)]; rfl)
      clear hI hjs hrw ho1 hlen hset
      go_wp2_with fail
      refine bodyPost_ret (results_tmp2 rfl _ _ _) rfl ?_
      rw [HE.out]
      exact retJ_nil (HI.out.below.setCell (p := ⟨w.heap.size, k, none⟩) (Nat.le_refl _) _)
     ·rw [if_neg (show ¬ MX < _ from h3)] at hjs
      have HJs : Hid (joinS (-1) l = (joinS (last + (t + 1)) (l.drop (k + 1))).map (fun o => (o1 ++ [last + (t + 1)]) ++ o)) := Lib.hid (by
       rw [hjs, Option.map_map]; congr 1; funext o; simp)
      clear hI hjs hrw ho1 hlen hset
      go_wp2_with fail
      go_roundw
      case rel => exact ⟨k + 1, last + (t + 1), by go_num, by omega, rfl, ⟨o1 ++ [last + (t + 1)], by simp [HO1.out], HJs.out, HSet.out⟩, ⟨by omega, by omega⟩, HI.out.below.setCell (p := ⟨w.heap.size, k, none⟩) (Nat.le_refl _) _⟩
      case measure => simp [intOf]; omega
  ·obtain rfl : k = l.length := by omega
   obtain ⟨o1, ho1, hjs, hrw⟩ := hI.ex
   rw [List.drop_length] at hjs
   rw [Nat.sub_self, List.replicate_zero, List.append_nil] at hrw
   have HE : Hid (joinF l = (o1, true)) := Lib.hid (by rw [HJ.out, hjs]; simp [joinS])
   have HRw := Lib.hid hrw
   have HO1 := Lib.hid ho1
   clear hI hjs hrw ho1
   go_wp2_with fail
   refine bodyPost_ret (results_tmp2 rfl _ _ _) rfl ?_
   rw [HE.out]
   exact ⟨HI.out.below, some ⟨w.heap.size, 0, none⟩, l.length, by rw [HO1.out]; rfl, irow_in HRw.out, Fresh.mk' (Nat.le_refl _)⟩
structure Clk where
 s : Int
 f : Int
 g : Int
 n : Int
def Clk.val (c : Clk) : Value := .agg #[.int .i64 c.s, .int .i64 c.f, .int .i64 c.g, .int .i64 c.n]
def atF (c : Clk) (i : Int) : Int := c.s + (i + 1) / 2 * c.f + i / 2 * c.g
def insideB (n a b : Int) : Bool := decide (a ≤ n) && decide (n ≤ b)
def clkOk (c : Clk) : Bool := insideB c.n 1 4096 && insideB c.s 0 MX && insideB c.f 1 MX && insideB c.g 1 MX && decide (atF c (c.n - 1) ≤ MX)
/-- the fields of a clock lie where nothing overflows -/
structure ClkB (c : Clk) : Prop where
 s : 0 ≤ c.s ∧ c.s ≤ 1099511627776
 f : 0 ≤ c.f ∧ c.f ≤ 1099511627776
 g : 0 ≤ c.g ∧ c.g ≤ 1099511627776
theorem at_walk (c : Clk) (hc : ClkB c) (i : Int) (h0 : 0 ≤ i) (h1 : i ≤ 4096) (w : World) : Calls Tryz.prog 32 #[c.val, .int .i64 i] w fun e w' => e = .returned (.int .i64 (atF c i)) ∧ Below w.heap.size w w' := by
 obtain ⟨s, f, g, n⟩ := c
 have hs := hc.s
 have hf := hc.f
 have hg := hc.g
 simp only at hs hf hg
 obtain ⟨p, hp⟩ : ∃ p, (i + 1) / 2 = p := ⟨_, rfl⟩
 obtain ⟨q, hq⟩ : ∃ q, i / 2 = q := ⟨_, rfl⟩
 have hp0 : 0 ≤ p ∧ p ≤ 2048 := by omega
 have hq0 : 0 ≤ q ∧ q ≤ 2048 := by omega
 have h2 : 0 ≤ p * f ∧ p * f ≤ 2251799813685248 := by
  constructor
  ·exact Int.mul_nonneg hp0.1 hf.1
  ·have := Int.mul_le_mul hp0.2 hf.2 hf.1 (by omega : (0 : Int) ≤ 2048)
   omega
 have h3 : 0 ≤ q * g ∧ q * g ≤ 2251799813685248 := by
  constructor
  ·exact Int.mul_nonneg hq0.1 hg.1
  ·have := Int.mul_le_mul hq0.2 hg.2 hg.1 (by omega : (0 : Int) ≤ 2048)
   omega
 obtain ⟨pf, hpf⟩ : ∃ pf, p * f = pf := ⟨_, rfl⟩
 obtain ⟨qg, hqg⟩ : ∃ qg, q * g = qg := ⟨_, rfl⟩
 rw [hpf] at h2
 rw [hqg] at h3
 have HE : Hid (atF ⟨s, f, g, n⟩ i = s + pf + qg) := Lib.hid (by unfold atF; simp only [hp, hq, hpf, hqg])
 have e : Clk.val ⟨s, f, g, n⟩ = .agg #[.int .i64 s, .int .i64 f, .int .i64 g, .int .i64 n] := rfl
 rw [e]
 clear hc e
 go_enter Tryz.func32, Tryz.ntmps32
 go_wp2_with fail
 go_ret
 rw [HE.out]
 exact ⟨rfl, (Below.refl _ _).alloc (Nat.le_refl _) _⟩
theorem inside_walk (n a b : Int) (r : Bool) (hr : insideB n a b = r) (w : World) : Calls Tryz.prog 73 #[.int .i64 n, .int .i64 a, .int .i64 b] w fun e w' => e = .returned (.bool r) ∧ w = w' := by
 by_cases h1 : a ≤ n
 ·by_cases h2 : n ≤ b
  ·have e : r = true := by rw [← hr]; unfold insideB; rw [decide_eq_true h1, decide_eq_true h2]; rfl
   subst e
   clear hr
   go_enter Tryz.func73, Tryz.ntmps73
   go_wp2_with fail
   go_ret
   exact ⟨rfl, rfl⟩
  ·have e : r = false := by rw [← hr]; unfold insideB; rw [decide_eq_false h2]; simp
   subst e
   clear hr
   go_enter Tryz.func73, Tryz.ntmps73
   go_wp2_with fail
   go_ret
   exact ⟨rfl, rfl⟩
 ·have e : r = false := by rw [← hr]; unfold insideB; rw [decide_eq_false h1]; rfl
  subst e
  clear hr
  go_enter Tryz.func73, Tryz.ntmps73
  go_wp2_with fail
  go_ret
  exact ⟨rfl, rfl⟩
theorem inside_b {n a b : Int} (h : insideB n a b = true) : a ≤ n ∧ n ≤ b := by
 unfold insideB at h; simpa using h
set_option maxHeartbeats 2000000 in
theorem validClock_walk (c : Clk) (r : Bool) (hr : clkOk c = r) (w : World) : Calls Tryz.prog 31 #[c.val] w fun e w' => e = .returned (.bool r) ∧ Below w.heap.size w w' := by
 obtain ⟨s, f, g, n⟩ := c
 have e : Clk.val ⟨s, f, g, n⟩ = .agg #[.int .i64 s, .int .i64 f, .int .i64 g, .int .i64 n] := rfl
 have er : r = (insideB n 1 4096 && insideB s 0 1099511627776 && insideB f 1 1099511627776 && insideB g 1 1099511627776 && decide (atF ⟨s, f, g, n⟩ (n - 1) ≤ 1099511627776)) := by rw [← hr]; rfl
 clear hr
 cases hn : insideB n 1 4096 with
 | false =>
  rw [hn] at er
  simp only [Bool.false_and] at er
  subst er
  have HN := Lib.hid fun w => inside_walk n 1 4096 false hn w
  rw [e]
  clear e hn
  go_enter Tryz.func31, Tryz.ntmps31
  go_wp2_with fail
  refine (HN.out _).mono ?_
  rintro x _ ⟨rfl, rfl⟩
  go_wp2_with fail
  go_ret
  exact ⟨rfl, (Below.refl _ _).alloc (Nat.le_refl _) _⟩
 | true =>
  have HN := Lib.hid fun w => inside_walk n 1 4096 true hn w
  cases hs : insideB s 0 1099511627776 with
  | false =>
   rw [hs] at er
   simp only [Bool.false_and, Bool.and_false] at er
   subst er
   have HS := Lib.hid fun w => inside_walk s 0 1099511627776 false hs w
   rw [e]
   clear e hn hs
   go_enter Tryz.func31, Tryz.ntmps31
   go_wp2_with fail
   refine (HN.out _).mono ?_
   rintro x _ ⟨rfl, rfl⟩
   go_wp2_with fail
   refine (HS.out _).mono ?_
   rintro x _ ⟨rfl, rfl⟩
   go_wp2_with fail
   go_ret
   exact ⟨rfl, (Below.refl _ _).alloc (Nat.le_refl _) _⟩
  | true =>
   have HS := Lib.hid fun w => inside_walk s 0 1099511627776 true hs w
   cases hf : insideB f 1 1099511627776 with
   | false =>
    rw [hf] at er
    simp only [Bool.false_and, Bool.and_false] at er
    subst er
    have HF := Lib.hid fun w => inside_walk f 1 1099511627776 false hf w
    rw [e]
    clear e hn hs hf
    go_enter Tryz.func31, Tryz.ntmps31
    go_wp2_with fail
    refine (HN.out _).mono ?_
    rintro x _ ⟨rfl, rfl⟩
    go_wp2_with fail
    refine (HS.out _).mono ?_
    rintro x _ ⟨rfl, rfl⟩
    go_wp2_with fail
    refine (HF.out _).mono ?_
    rintro x _ ⟨rfl, rfl⟩
    go_wp2_with fail
    go_ret
    exact ⟨rfl, (Below.refl _ _).alloc (Nat.le_refl _) _⟩
   | true =>
    have HF := Lib.hid fun w => inside_walk f 1 1099511627776 true hf w
    cases hg : insideB g 1 1099511627776 with
    | false =>
     rw [hg] at er
     simp only [Bool.false_and, Bool.and_false] at er
     subst er
     have HG := Lib.hid fun w => inside_walk g 1 1099511627776 false hg w
     rw [e]
     clear e hn hs hf hg
     go_enter Tryz.func31, Tryz.ntmps31
     go_wp2_with fail
     refine (HN.out _).mono ?_
     rintro x _ ⟨rfl, rfl⟩
     go_wp2_with fail
     refine (HS.out _).mono ?_
     rintro x _ ⟨rfl, rfl⟩
     go_wp2_with fail
     refine (HF.out _).mono ?_
     rintro x _ ⟨rfl, rfl⟩
     go_wp2_with fail
     refine (HG.out _).mono ?_
     rintro x _ ⟨rfl, rfl⟩
     go_wp2_with fail
     go_ret
     exact ⟨rfl, (Below.refl _ _).alloc (Nat.le_refl _) _⟩
    | true =>
     have HG := Lib.hid fun w => inside_walk g 1 1099511627776 true hg w
     have bn := inside_b hn
     have bs := inside_b hs
     have bf := inside_b hf
     have bg := inside_b hg
     obtain ⟨t, ht⟩ : ∃ t, atF ⟨s, f, g, n⟩ (n - 1) = t := ⟨_, rfl⟩
     have hat := fun w => at_walk ⟨s, f, g, n⟩ ⟨⟨by show 0 ≤ s; omega, by show s ≤ _; omega⟩, ⟨by show 0 ≤ f; omega, by show f ≤ _; omega⟩, ⟨by show 0 ≤ g; omega, by show g ≤ _; omega⟩⟩ (n - 1) (by omega) (by omega) w
     rw [ht, e] at hat
     have HA := Lib.hid hat
     have HR : Hid (r = decide (t ≤ 1099511627776)) := Lib.hid (by rw [er, hn, hs, hf, hg, ht]; rfl)
     rw [e]
     clear e hn hs hf hg ht hat er bs bf bg
     go_enter Tryz.func31, Tryz.ntmps31
     go_wp2_with fail
     refine (HN.out _).mono ?_
     rintro x _ ⟨rfl, rfl⟩
     go_wp2_with fail
     refine (HS.out _).mono ?_
     rintro x _ ⟨rfl, rfl⟩
     go_wp2_with fail
     refine (HF.out _).mono ?_
     rintro x _ ⟨rfl, rfl⟩
     go_wp2_with fail
     refine (HG.out _).mono ?_
     rintro x _ ⟨rfl, rfl⟩
     go_wp2_with fail
     refine (HA.out _).mono ?_
     rintro x w1 ⟨rfl, hb1⟩
     have HB1 := Lib.hid (bstep ((Below.refl w.heap.size w).alloc (Nat.le_refl _) (.cells #[.int .i64 s, .int .i64 f, .int .i64 g, .int .i64 n] 23)) (Nat.le_refl _) hb1)
     clear hb1
     go_wp2_with fail
     go_ret
     exact ⟨ret_bool HR.out.symm, HB1.out⟩
def timesL (c : Clk) : Nat → List Int
 | 0 => []
 | k + 1 => timesL c k ++ [atF c (k : Int)]
theorem timesL_len (c : Clk) : ∀ k, (timesL c k).length = k
 | 0 => rfl
 | k + 1 => by simp [timesL, timesL_len c k]
def timesF (c : Clk) : List Int × Int := if clkOk c then (timesL c c.n.toNat, 0) else ([], 1)
theorem clkOk_b {c : Clk} (h : clkOk c = true) : (1 ≤ c.n ∧ c.n ≤ 4096) ∧ ClkB c ∧ 1 ≤ c.f ∧ 1 ≤ c.g ∧ atF c (c.n - 1) ≤ MX := by
 unfold clkOk at h
 simp only [Bool.and_eq_true] at h
 obtain ⟨⟨⟨⟨h1, h2⟩, h3⟩, h4⟩, h5⟩ := h
 have b1 := inside_b h1
 have b2 := inside_b h2
 have b3 := inside_b h3
 have b4 := inside_b h4
 have e : MX = 1099511627776 := rfl
 rw [e] at b2 b3 b4
 exact ⟨b1, ⟨b2, ⟨by omega, b3.2⟩, ⟨by omega, b4.2⟩⟩, b3.1, b4.1, of_decide_eq_true h5⟩
structure TmI (w : World) (c : Clk) (D Q m k : Nat) (wr : World) : Prop where
 blk : wr.heap[D]? = some (.cells #[.int .i64 c.s, .int .i64 c.f, .int .i64 c.g, .int .i64 c.n] 23 (0, 0))
 row : IRow wr Q (timesL c k ++ List.replicate (m - k) 0)
 below : Below w.heap.size w wr
def TmR (w : World) (c : Clk) (D Q m : Nat) (i : Value) (wr : World) : Prop := ∃ k : Nat, i = .int .i64 (k : Int) ∧ k ≤ m ∧ TmI w c D Q m k wr
set_option maxRecDepth 100000 in
set_option maxHeartbeats 1000000 in
theorem times_walk (c : Clk) (w : World) : Calls Tryz.prog 8 #[c.val] w fun x w' => RetI w (timesF c).1 (timesF c).2 x w' := by
 cases hok : clkOk c with
 | false =>
  have HE : Hid (timesF c = ([], 1)) := Lib.hid (by unfold timesF; rw [hok]; rfl)
  have HV := Lib.hid fun w => validClock_walk c false hok w
  obtain ⟨s, f, g, n⟩ := c
  have e : Clk.val ⟨s, f, g, n⟩ = .agg #[.int .i64 s, .int .i64 f, .int .i64 g, .int .i64 n] := rfl
  rw [e] at HV ⊢
  clear e hok
  go_enter Tryz.func8, Tryz.ntmps8
  go_wp2_with fail
  refine (HV.out _).mono ?_
  rintro x w1 ⟨rfl, hb1⟩
  have HB1 := Lib.hid (bstep ((Below.refl w.heap.size w).alloc (Nat.le_refl _) (.cells #[.int .i64 s, .int .i64 f, .int .i64 g, .int .i64 n] 23)) (Nat.le_refl _) hb1)
  clear hb1
  go_wp2_with fail
  refine bodyPost_ret (results_tmp2 rfl _ _ _) rfl ?_
  rw [HE.out]
  exact retI_nil HB1.out
 | true =>
  have HE : Hid (timesF c = (timesL c c.n.toNat, 0)) := Lib.hid (by unfold timesF; rw [hok]; rfl)
  have HV := Lib.hid fun w => validClock_walk c true hok w
  have hcb := clkOk_b hok
  have HAt := Lib.hid fun i h0 h1 w => at_walk c hcb.2.1 i h0 h1 w
  obtain ⟨m, hm⟩ : ∃ m : Nat, c.n = (m : Int) := ⟨c.n.toNat, by omega⟩
  have hm4 : m ≤ 4096 := by omega
  have HC0 := Lib.hid (show timesF c = (timesL c m, 0) by rw [HE.out, hm, Int.toNat_natCast])
  obtain ⟨c', hc'⟩ : ∃ c', c = c' := ⟨_, rfl⟩
  have HCc := Lib.hid hc'
  rw [hc'] at HC0
  obtain ⟨s, f, g, n⟩ := c
  have e : Clk.val ⟨s, f, g, n⟩ = .agg #[.int .i64 s, .int .i64 f, .int .i64 g, .int .i64 n] := rfl
  have hm' : n = (m : Int) := hm
  subst hm'
  rw [e] at HV HAt
  rw [e, hc']
  clear e hok hcb hm hc' HE
  have hmi : (m : Int) ≤ 4096 := by omega
  go_enter Tryz.func8, Tryz.ntmps8
  go_wp2_with fail
  refine (HV.out _).mono ?_
  rintro x w1 ⟨rfl, hb1⟩
  obtain ⟨hc, hf⟩ := bcell hb1
  obtain ⟨W3, hmk, hrow, hb3, hz3⟩ := made_row w1 m hm4
  have hb1' := hb1
  have HB0 := Lib.hid ((Below.refl w.heap.size w).alloc (Nat.le_refl _) (.cells #[.int .i64 s, .int .i64 f, .int .i64 g, .int .i64 (m : Int)] 23))
  have HB1 := Lib.hid (bstep HB0.out (Nat.le_refl _) hb1)
  have HB3 := Lib.hid (bstep HB1.out (Nat.le_refl _) hb3)
  have hblk1 : w1.heap[w.heap.size]? = some (.cells #[.int .i64 s, .int .i64 f, .int .i64 g, .int .i64 (m : Int)] 23 (0, 0)) := (hb1.block _ (by simp)).trans (heap_alloc_new _ _)
  have hblk3 : W3.heap[w.heap.size]? = some (.cells #[.int .i64 s, .int .i64 f, .int .i64 g, .int .i64 (m : Int)] 23 (0, 0)) := (hb3.block _ (Array.getElem?_eq_some_iff.1 hblk1).1).trans hblk1
  have hDl := (Array.getElem?_eq_some_iff.1 hblk1).1
  have HK3 := Lib.hid hblk3
  have HR3 := Lib.hid hrow
  obtain ⟨Q, hQ⟩ : ∃ Q, w1.heap.size = Q := ⟨_, rfl⟩
  have HQ : Hid (w.heap.size < Q) := Lib.hid (by rw [← hQ]; exact hDl)
  rw [hQ] at HR3 hmk
  clear hb1 hb1' hb3 hz3 hblk1 hblk3 hrow hDl
  obtain ⟨D, hD⟩ : ∃ D, w.heap.size = D := ⟨_, rfl⟩
  have HD := Lib.hid hD
  rw [hD] at HK3 HQ
  have d3 : W3.cell? ⟨w.heap.size, 3, none⟩ = some (.int .i64 (m : Int)) := by rw [hD, cell_of_row W3 D 3 _ _ _ HK3.out]; rfl
  have hcn : c'.n = (m : Int) := by rw [← HCc.out]
  have HT3 : Hid (TmI w c' D Q m 0 W3) := Lib.hid ⟨by rw [← HCc.out]; exact HK3.out, by simpa [timesL] using HR3.out, HB3.out⟩
  have hcs : c'.s = s ∧ c'.f = f ∧ c'.g = g := by rw [← HCc.out]; exact ⟨rfl, rfl, rfl⟩
  have HCf := Lib.hid (And.intro hcn hcs)
  have HAt2 := Lib.hid (show ∀ (i : Int), 0 ≤ i → i ≤ 4096 → ∀ w : World, Calls Tryz.prog 32 #[.agg #[.int .i64 s, .int .i64 f, .int .i64 g, .int .i64 (m : Int)], .int .i64 i] w fun e w' => e = .returned (.int .i64 (atF c' i)) ∧ Below w.heap.size w w' by rw [← HCc.out]; exact HAt.out)
  clear hcn hcs HAt hD
  go_wp2_with fail
  rw [HD.out]
  clear d3 hmk
  go_loopw [14] (fun i wr => TmR w c' D Q m i wr) (fun i _ => ((m : Int) - intOf i).toNat)
  case atStart => exact ⟨0, rfl, Nat.zero_le _, HT3.out⟩
  case round =>
   obtain ⟨k, rfl, hk, hI⟩ := hrel
   have HI := Lib.hid hI
   by_cases hlt : k < m
   ·have hki : (k : Int) < m := by omega
    have hb := hI.blk
    rw [HCf.out.1, HCf.out.2.1, HCf.out.2.2.1, HCf.out.2.2.2] at hb
    have q0 : wr.cell? ⟨D, 0, none⟩ = some (.int .i64 s) := by rw [cell_of_row wr D 0 _ _ _ hb]; rfl
    have q1 : wr.cell? ⟨D, 1, none⟩ = some (.int .i64 f) := by rw [cell_of_row wr D 1 _ _ _ hb]; rfl
    have q2 : wr.cell? ⟨D, 2, none⟩ = some (.int .i64 g) := by rw [cell_of_row wr D 2 _ _ _ hb]; rfl
    have q3 : wr.cell? ⟨D, 3, none⟩ = some (.int .i64 (m : Int)) := by rw [cell_of_row wr D 3 _ _ _ hb]; rfl
    have HC := Lib.hid fun w => HAt2.out (k : Int) (by omega) (by omega) w
    clear hI hb
    go_wp2_with fail
    refine (HC.out _).mono ?_
    rintro x w4 ⟨rfl, hb4⟩
    have hr4 : IRow w4 Q (timesL c' k ++ List.replicate (m - k) 0) := (hb4.block Q (Array.getElem?_eq_some_iff.1 HI.out.row.to).1).trans HI.out.row.to
    have hlen : (timesL c' k).length = k := timesL_len c' k
    have g0 := hr4.cell (i := k) (by rw [List.length_append, hlen, List.length_replicate]; omega)
    have gf := hr4.fr k
    have hset := hr4.set k (atF c' (k : Int))
    rw [put_row hlen hlt] at hset
    have hq := HQ.out
    have hd := HD.out
    have HI4 : Hid (TmI w c' D Q m (k + 1) (w4.setCell ⟨Q, k, none⟩ (.int .i64 (atF c' (k : Int))))) := Lib.hid ⟨(Below.heap_setCell w4 ⟨Q, k, none⟩ _ D (by show D ≠ Q; omega)).trans ((hb4.block D (Array.getElem?_eq_some_iff.1 HI.out.blk).1).trans HI.out.blk), hset, (bstep HI.out.below (Nat.le_refl _) hb4).setCell (p := ⟨Q, k, none⟩) (by show _ ≤ Q; omega) _⟩
    clear hb4 hr4 hlen hset hq hd HC q0 q1 q2 q3
    go_wp2_with fail
    go_roundw
    case rel => exact ⟨k + 1, by go_num, by omega, HI4.out⟩
    case measure => simp [intOf]; omega
   ·obtain rfl : k = m := by omega
    have hr := hI.row
    rw [Nat.sub_self, List.replicate_zero, List.append_nil] at hr
    have HR := Lib.hid hr
    have HTl := Lib.hid (timesL_len c' k)
    clear hI hr
    go_wp2_with fail
    refine bodyPost_ret (results_tmp2 rfl _ _ _) rfl ?_
    rw [HC0.out]
    exact ⟨HI.out.below, some ⟨Q, 0, none⟩, k, by rw [HTl.out]; rfl, irow_in HR.out, Fresh.mk' (by have := HQ.out; have := HD.out; omega)⟩
end Go.Proofs.YtlmjefjimoghcaaGreat
