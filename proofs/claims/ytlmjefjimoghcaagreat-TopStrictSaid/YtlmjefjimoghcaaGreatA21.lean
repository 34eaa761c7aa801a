/- A part of the proofs of TopCounter and TopStrict: what the functions of the program do, each walked once, and plain laws about it. No condition. -/
import Derived.Test.YtlmjefjimoghcaaGreatA20
import Derived.Test.YtlmjefjimoghcaaGreatA16
namespace Go.Proofs.YtlmjefjimoghcaaGreat
set_option linter.unusedSimpArgs false
set_option linter.unnecessarySimpa false
set_option linter.unusedVariables false
open Go.RowKit
attribute [local go_sem ↓] Go.wp_at_zero Go.wp_at_succ
theorem encAsF_len (cd : Nat) (l : List Str) : (encAsF cd l).1.length ≤ 2000000 := by
 unfold encAsF
 split
 ·simp
 ·rename_i h
  simp only [Bool.or_eq_true, not_or, decide_eq_true_eq, Bool.not_eq_true] at h
  simp only [List.length_append]
  have h1 := num_len cd
  have h2 := num_len (words l).length
  have h3 := hdrF_len (words l) (fun s hs => by
   have h1 := List.any_eq_false.1 h.2 s ((words_mem l s).1 hs)
   unfold longS at h1; simpa using h1)
  have h4 := words_len l
  have h5 := textF_len (encNumF (if cd = 1 then (eachF frontG (rlIx l)).1 else rlIx l)).1
  have h6 := encNumF_len (if cd = 1 then (eachF frontG (rlIx l)).1 else rlIx l)
  have h7 := encNumF_len (rlCt l)
  omega
theorem encAsF_err (cd : Nat) (l : List Str) : (encAsF cd l).2 = 0 ∨ (encAsF cd l).2 = 9 := by
 unfold encAsF; split
 ·exact .inr rfl
 ·exact .inl rfl
theorem encRL_walk (l : List Str) (hl : l.length ≤ 100000) (w : World) (A : Option Addr) (c : Nat) (hF : InS w A l) : Calls Tryz.prog 21 #[.slice A l.length c] w fun e w' => e = .returned (.tuple #[.string (sB (encRL l).1), .int .i64 (encRL l).2]) ∧ Below w.heap.size w w' := by
 have HF := Lib.hid hF
 have HW := Lib.hid (encAs0_walk l hl w A c hF)
 have ha := encAsF_err 0 l
 have hla := encAsF_len 0 l
 have hlb := encAsF_len 1 l
 have HE : Hid (encRL l = if (encAsF 0 l).2 ≠ 0 then ([], (encAsF 0 l).2) else if (encAsF 1 l).1.length < (encAsF 0 l).1.length then ((encAsF 1 l).1, 0) else ((encAsF 0 l).1, 0)) := Lib.hid rfl
 have HWb := Lib.hid fun w1 h => encAs1_walk l hl w1 A c h
 obtain ⟨a, e, hae⟩ : ∃ a e, encAsF 0 l = (a, e) := ⟨_, _, rfl⟩
 obtain ⟨b, f, hbf⟩ : ∃ b f, encAsF 1 l = (b, f) := ⟨_, _, rfl⟩
 rw [hae] at HW ha hla HE
 rw [hbf] at HWb hlb HE
 clear hae hbf hF hl
 simp only at ha hla hlb
 have sza := sB_size a
 have szb := sB_size b
 have hlai : (a.length : Int) ≤ 2000000 := by omega
 have hlbi : (b.length : Int) ≤ 2000000 := by omega
 rcases ha with rfl | rfl
 ·by_cases hlt : b.length < a.length
  ·have HE' : Hid (encRL l = (b, 0)) := Lib.hid (by rw [HE.out]; simp [hlt])
   have hlti : (b.length : Int) < a.length := by omega
   go_enter Tryz.func21, Tryz.ntmps21
   go_wp2_with fail
   refine (HW.out).mono ?_
   rintro x w1 ⟨rfl, hb1⟩
   have HB1 := Lib.hid hb1
   have HW2 := Lib.hid (HWb.out w1 (HF.out.mono hb1))
   clear hb1
   go_wp2_with fail
   refine (HW2.out).mono ?_
   rintro x w2 ⟨rfl, hb2⟩
   have HB2 := Lib.hid (bstep HB1.out (Nat.le_refl _) hb2)
   clear hb2
   go_wp2_with fail
   go_ret2
   rw [HE'.out]
   exact ⟨rfl, HB2.out⟩
  ·have HE' : Hid (encRL l = (a, 0)) := Lib.hid (by rw [HE.out]; simp [hlt])
   have hlti : ¬ (b.length : Int) < a.length := by omega
   go_enter Tryz.func21, Tryz.ntmps21
   go_wp2_with fail
   refine (HW.out).mono ?_
   rintro x w1 ⟨rfl, hb1⟩
   have HB1 := Lib.hid hb1
   have HW2 := Lib.hid (HWb.out w1 (HF.out.mono hb1))
   clear hb1
   go_wp2_with fail
   refine (HW2.out).mono ?_
   rintro x w2 ⟨rfl, hb2⟩
   have HB2 := Lib.hid (bstep HB1.out (Nat.le_refl _) hb2)
   clear hb2
   go_wp2_with fail
   go_ret2
   rw [HE'.out]
   exact ⟨rfl, HB2.out⟩
 ·have HE' : Hid (encRL l = ([], 9)) := Lib.hid (by rw [HE.out]; rfl)
  go_enter Tryz.func21, Tryz.ntmps21
  go_wp2_with fail
  refine (HW.out).mono ?_
  rintro x w1 ⟨rfl, hb1⟩
  have HB1 := Lib.hid hb1
  clear hb1
  go_wp2_with fail
  go_ret2
  rw [HE'.out]
  exact ⟨rfl, HB1.out⟩
theorem encRL_len (l : List Str) : (encRL l).1.length ≤ 2000000 := by
 unfold encRL
 split
 ·simp
 ·split
  ·exact encAsF_len 1 l
  ·exact encAsF_len 0 l
def pcells (l : List (Int × Int)) : List Value := l.flatMap fun r => [.int .i64 r.1, .int .i64 r.2]
theorem pcells_length (l : List (Int × Int)) : (pcells l).length = l.length * 2 := by
 induction l with
 | nil => rfl
 | cons r l ih => show (_ :: _ :: pcells l).length = _; simp [ih]; omega
theorem pcells_append (a b : List (Int × Int)) : pcells (a ++ b) = pcells a ++ pcells b := by simp [pcells]
theorem pp_get {l : List (Int × Int)} {k : Nat} (hk : k < l.length) : (pcells l)[k * 2]? = some (.int .i64 (l.getD k default).1) ∧ (pcells l)[k * 2 + 1]? = some (.int .i64 (l.getD k default).2) := by
 have h : l = l.take k ++ (l.getD k default :: l.drop (k + 1)) := by
  have h1 : l.getD k default = l[k] := by simp [List.getD, hk]
  rw [h1, ← List.drop_eq_getElem_cons hk, List.take_append_drop]
 obtain ⟨r, hr⟩ : ∃ r, l.getD k default = r := ⟨_, rfl⟩
 rw [hr] at h ⊢
 have hl : (l.take k).length = k := by rw [List.length_take]; omega
 rw [h, pcells_append]
 have e : pcells (r :: l.drop (k + 1)) = .int .i64 r.1 :: .int .i64 r.2 :: pcells (l.drop (k + 1)) := rfl
 rw [e]
 constructor
 ·rw [List.getElem?_append_right (by rw [pcells_length, hl]; omega), pcells_length, hl, Nat.sub_self]; rfl
 ·rw [List.getElem?_append_right (by rw [pcells_length, hl]; omega), pcells_length, hl, show k * 2 + 1 - k * 2 = 1 by omega]; rfl
def InP (w : World) (A : Option Addr) (l : List (Int × Int)) : Prop := Flat w (fun k => k < w.heap.size) A (pcells l)
theorem inp_at {w : World} {A : Option Addr} {l : List (Int × Int)} (h : InP w A l) {w' : World} (hb : Below w.heap.size w w') {k : Nat} (hk : k < l.length) : ∃ a, A = some a ∧ w'.cell? (a.add (k * 2)) = some (.int .i64 (l.getD k default).1) ∧ w'.cell? ⟨(a.add (k * 2)).block, (a.add (k * 2)).off + 1, none⟩ = some (.int .i64 (l.getD k default).2) := by
 obtain ⟨h1, h2⟩ := pp_get hk
 obtain ⟨a, e1, _, c1⟩ := (Flat.frame (w' := w') h fun k hk _ => hb.block k hk) _ _ h1
 obtain ⟨a2, e2, _, c2⟩ := (Flat.frame (w' := w') h fun k hk _ => hb.block k hk) _ _ h2
 rw [e1] at e2; injection e2 with e2
 refine ⟨a, e1, c1, ?_⟩
 rw [add_succ a (k * 2) 1 (by decide), e2]
 exact c2
/-- some list of texts of a dictionary is returned, and an error -/
def RetD (w : World) (d : List Str) (x : Ending) (w' : World) : Prop := Below w.heap.size w w' ∧ ∃ (l : List Str) (e : Int) (A : Option Addr) (c : Nat), x = .returned (.tuple #[.slice A l.length c, .int .i64 e]) ∧ InS w' A l ∧ l.length ≤ 4096 ∧ ∀ s ∈ l, s ∈ d
theorem retD_nil {w w' : World} {d : List Str} {e : Int} (h : Below w.heap.size w w') : RetD w d (.returned (.tuple #[.slice none 0 0, .int .i64 e])) w' := ⟨h, [], e, none, 0, rfl, flat_nil _ _ _, by simp, fun s hs => by simp at hs⟩
structure ExpI (w : World) (d : List Str) (v : Value) (n : Nat) (wr : World) : Prop where
 ex : ∃ l : List Str, l.length = n ∧ OwnR w 9 1 v n (sc l) wr ∧ ∀ s ∈ l, s ∈ d
 below : Below w.heap.size w wr
def ExpR (w : World) (d : List Str) (rs : List (Int × Int)) (v i : Value) (wr : World) : Prop := ∃ k n : Nat, i = .int .i64 (k : Int) ∧ k ≤ rs.length ∧ n ≤ 4096 ∧ ExpI w d v n wr
def ExpR2 (w : World) (d : List Str) (D : Nat) (x1 x2 : Int) (n0 : Nat) (v i : Value) (wr : World) : Prop := ∃ j n : Nat, i = .int .i64 (j : Int) ∧ (j : Int) ≤ x2 ∧ n = n0 + j ∧ wr.heap[D]? = some (.cells #[.int .i64 x1, .int .i64 x2] 165 (0, 0)) ∧ ExpI w d v n wr
set_option maxRecDepth 100000 in
theorem expand_walk (d : List Str) (hd : d.length ≤ 100000) (rs : List (Int × Int)) (hrl : rs.length ≤ 100000) (hr : ∀ r ∈ rs, r.2 ≤ 1000000) (w : World) (A1 A2 : Option Addr) (c1 c2 : Nat) (hD : InS w A1 d) (hR : InP w A2 rs) :
  Calls Tryz.prog 104 #[.slice A1 d.length c1, .slice A2 rs.length c2] w fun x w' => RetD w d x w' := by
 have HD := Lib.hid hD
 have HR := Lib.hid hR
 have HRb := Lib.hid hr
 have hdi : (d.length : Int) ≤ 100000 := by omega
 have hri : (rs.length : Int) ≤ 100000 := by omega
 clear hD hR hr hd hrl
 go_enter Tryz.func104, Tryz.ntmps104
 go_wp2_with fail
 go_loopw [6, 11] (fun v i wr => ExpR w d rs v i wr) (fun _ i _ => ((rs.length : Int) - intOf i).toNat)
 case atStart => exact ⟨0, 0, rfl, Nat.zero_le _, Nat.zero_le _, ⟨[], rfl, .nil _ _ _ _, fun s hs => by simp at hs⟩, .refl _ _⟩
 case round =>
  obtain ⟨k, n, rfl, hk, hn, hI⟩ := hrel
  have HI := Lib.hid hI
  obtain ⟨l0, hl0, ho0, hm0⟩ := hI.ex
  obtain ⟨A', c', rfl⟩ := row_sl ho0.row
  have hni : (n : Int) ≤ 4096 := by omega
  by_cases hlt : k < rs.length
  ·have hki : (k : Int) < rs.length := by omega
   obtain ⟨r, hrr⟩ : ∃ r, rs.getD k default = r := ⟨_, rfl⟩
   obtain ⟨a, rfl, q0, q1⟩ := inp_at HR.out hI.below hlt
   rw [hrr] at q0 q1
   have hx2m := HRb.out r (by rw [← hrr]; exact List.mem_of_getElem? (by rw [List.getD_eq_getElem?_getD, List.getElem?_eq_getElem hlt]; rfl))
   obtain ⟨x1, x2⟩ := r
   simp only at q0 q1 hx2m
   have hba := hI.below.alloc hI.below.size (.cells #[.int .i64 x1, .int .i64 x2] 165)
   have HBa := Lib.hid hba
   have hoa := (ho0.below ((Below.refl wr.heap.size wr).alloc (Nat.le_refl _) (.cells #[.int .i64 x1, .int .i64 x2] 165)))
   have HI2 : Hid (ExpI w d (.slice A' n c') n (wr.alloc (.cells #[.int .i64 x1, .int .i64 x2] 165))) := Lib.hid ⟨⟨l0, hl0, hoa, hm0⟩, hba⟩
   have HBl : Hid ((wr.alloc (.cells #[.int .i64 x1, .int .i64 x2] 165)).heap[wr.heap.size]? = some (.cells #[.int .i64 x1, .int .i64 x2] 165 (0, 0))) := Lib.hid (heap_alloc_new _ _)
   have HLe : Hid (w.heap.size ≤ wr.heap.size) := Lib.hid hI.below.size
   clear hI hrr hba hoa hl0 ho0 hm0
   by_cases h0 : x1 < 0
   ·go_wp2_with fail
    refine bodyPost_ret (results_tmp2 rfl _ _ _) rfl ?_
    exact retD_nil HBa.out
   ·by_cases h1 : (d.length : Int) ≤ x1
    ·go_wp2_with fail
     refine bodyPost_ret (results_tmp2 rfl _ _ _) rfl ?_
     exact retD_nil HBa.out
    ·by_cases h2 : x2 < 1
     ·go_wp2_with fail
      refine bodyPost_ret (results_tmp2 rfl _ _ _) rfl ?_
      exact retD_nil HBa.out
     ·by_cases h3 : 4096 - (n : Int) < x2
      ·go_wp2_with fail
       refine bodyPost_ret (results_tmp2 rfl _ _ _) rfl ?_
       exact retD_nil HBa.out
      ·obtain ⟨D, hDD⟩ : ∃ D, wr.heap.size = D := ⟨_, rfl⟩
       obtain ⟨p, rfl⟩ : ∃ p : Nat, x1 = (p : Int) := ⟨x1.toNat, by omega⟩
       have hpl : p < d.length := by omega
       have hpi : (p : Int) < d.length := by omega
       rw [hDD] at HBl HLe
       go_upto_region 9 with (fail)
       obtain ⟨W, hW⟩ : ∃ W, wr.alloc (.cells #[.int .i64 (p : Int), .int .i64 x2] 165) = W := ⟨_, rfl⟩
       rw [hW] at HI2 HBl ⊢
       have q1 : W.cell? ⟨D, 1, none⟩ = some (.int .i64 x2) := by rw [cell_of_row W D 1 _ _ _ HBl.out]; rfl
       clear hW hDD q0
       clear HBa
       go_wp2_with fail
       go_loopw [6, 38] (fun v i wr2 => ExpR2 w d D (p : Int) x2 n v i wr2) (fun _ i _ => (x2 - intOf i).toNat)
       case atStart => exact ⟨0, n, rfl, by omega, rfl, HBl.out, HI2.out⟩
       case round =>
        obtain ⟨j, m, rfl, hj, rfl, hb, hI2⟩ := hrel
        have HBk := Lib.hid hb
        have HI3 := Lib.hid hI2
        have q0 : wr.cell? ⟨D, 0, none⟩ = some (.int .i64 (p : Int)) := by rw [cell_of_row wr D 0 _ _ _ hb]; rfl
        obtain ⟨l3, hl3, ho3, hm3⟩ := hI2.ex
        obtain ⟨A3, c3, rfl⟩ := row_sl ho3.row
        by_cases hjx : (j : Int) < x2
        ·obtain ⟨a1, rfl, q2⟩ := HD.out.at hI2.below hpl
         obtain ⟨s, hs⟩ : ∃ s, d.getD p default = s := ⟨_, rfl⟩
         rw [hs] at q2
         have hmem : s ∈ d := by rw [← hs]; exact List.mem_of_getElem? (dflt_get hpl)
         have ho4 := ho3.below ((Below.refl _ _).alloc (Nat.le_refl _) (.cells #[.string (sB s)] 9))
         have hsz : w.heap.size ≤ (wr.alloc (.cells #[.string (sB s)] 9)).heap.size := by rw [World.size_alloc]; have := hI2.below.size; omega
         have hn6 : n + j + 1 ≤ 1000000 := by omega
         obtain ⟨A5, c5, W5, hrun, ho5, hg5, _⟩ := ho4.push Tryz.underlying31 rfl rfl rfl rfl rfl (by decide) hn6 wr.heap.size (.string (sB s)) (by rw [cell_of_row _ _ _ _ _ _ (heap_alloc_new wr _)]; rfl) rfl hsz
         have hb5 := below_grown (hI2.below.alloc hI2.below.size (.cells #[.string (sB s)] 9)) hsz hg5 ho3.new
         have hDl := (Array.getElem?_eq_some_iff.1 hb).1
         have hk5 : W5.heap[D]? = some (.cells #[.int .i64 (p : Int), .int .i64 x2] 165 (0, 0)) := by
          refine ((hg5.block D (by rw [World.size_alloc]; omega) fun e => ?_).trans (Below.heap_alloc wr _ D hDl)).trans hb
          obtain ⟨cur, hc⟩ := row_block ho3.row e.symm
          rw [hb] at hc; injection hc with hc; injection hc with _ hc _; exact absurd hc (by decide)
         have HI5 : Hid (ExpI w d (.slice A5 (n + j + 1) c5) (n + j + 1) W5) := Lib.hid ⟨⟨l3 ++ [s], by simp [hl3], by rw [sc_append]; exact ho5, fun x hx => by
          rw [List.mem_append, List.mem_singleton] at hx
          rcases hx with hx | rfl
          ·exact hm3 x hx
          ·exact hmem⟩, hb5⟩
         have HK5 := Lib.hid hk5
         have HRUN := Lib.hid hrun
         clear hb hI2 hl3 ho3 hm3 hs hmem ho4 hsz hn6 hrun ho5 hg5 hb5 hDl hk5
         go_wp2_with (at_builtin; refine wpList_append_eq rfl _ _ _ rfl _ _ rfl rfl HRUN.out ?_)
         go_roundw
         case rel => exact ⟨j + 1, n + j + 1, by go_num, by omega, by omega, HK5.out, HI5.out⟩
         case measure => simp [intOf]; omega
        ·have hjj : (j : Int) = x2 := by omega
         have HNj : Hid (n + j ≤ 4096) := Lib.hid (by omega)
         clear hb hI2 hl3 ho3 hm3 hjj
         go_wp2_with fail
         go_roundw
         case rel => exact ⟨k + 1, n + j, by go_num, by omega, HNj.out, HI3.out⟩
         case measure => simp [intOf]; omega
  ·obtain rfl : k = rs.length := by omega
   clear hI
   have HO := Lib.hid ho0
   have HL0 := Lib.hid hl0
   have HM0 := Lib.hid hm0
   clear ho0 hl0 hm0
   go_wp2_with fail
   refine bodyPost_ret (results_tmp2 rfl _ _ _) rfl ?_
   exact ⟨HI.out.below, l0, 0, A', c', by rw [HL0.out]; rfl, ownS_in HO.out, by rw [HL0.out]; omega, HM0.out⟩
/-- a block of pairs -/
def PRow (w : World) (G : Nat) (l : List (Int × Int)) : Prop := w.heap[G]? = some (.cells (pcells l).toArray 165 (0, 0))
theorem PRow.to {w : World} {G : Nat} {l : List (Int × Int)} (h : PRow w G l) : w.heap[G]? = some (.cells (pcells l).toArray 165 (0, 0)) := h
theorem pcells_zero (n : Nat) : pcells (List.replicate n (0, 0)) = List.replicate (n * 2) (.int .i64 0) := by
 induction n with
 | zero => rfl
 | succ n ih =>
  show Value.int .i64 0 :: Value.int .i64 0 :: pcells (List.replicate n (0, 0)) = _
  rw [ih, show (n + 1) * 2 = n * 2 + 1 + 1 by omega, List.replicate_succ, List.replicate_succ]
theorem made_two (n : Nat) : (madeCells #[Value.int .i64 0, Value.int .i64 0] (n * 2)).toList = pcells (List.replicate n (0, 0)) := by
 rw [pcells_zero]
 unfold madeCells
 rw [Array.toList_map, Array.toList_range]
 apply List.ext_getElem?
 intro i
 rw [List.getElem?_map, List.getElem?_replicate]
 by_cases h : i < n * 2
 ·rw [List.getElem?_range h, if_pos h]
  rcases (by omega : i % 2 = 0 ∨ i % 2 = 1) with e | e <;> simp [e]
 ·rw [List.getElem?_eq_none (by simpa using h), if_neg h]; rfl
set_option maxRecDepth 100000 in
theorem made_prow (W : World) (n : Nat) (hn : n ≤ 4096) : ∃ W', (Instr.makeSlice 163 (.int .i64 (n : Int)) (.int .i64 (n : Int))).run Tryz.prog W = .ok (.slice (some ⟨W.heap.size, 0, none⟩) n n) W' ∧ PRow W' W.heap.size (List.replicate n (0, 0)) ∧ Below W.heap.size W W' ∧ W'.heap.size = W.heap.size + 1 := by
 obtain ⟨cur, hcur⟩ : ∃ cur, madeCells (Value.agg #[.int .i64 0, .int .i64 0]).cells (n * 2) = cur := ⟨_, rfl⟩
 have hmk := run_makeSlice (P := Tryz.prog) W 163 165 _ (.agg #[.int .i64 0, .int .i64 0]) Tryz.underlying163 rfl rfl .i64 .i64 (n : Int) (n : Int) (by omega) (Int.le_refl _) (by show (n : Int).toNat * 2 ≤ _; omega) (by show (16 : Int) * n ≤ _; omega) (by omega)
 rw [Int.toNat_natCast] at hmk
 have hmk' : (Instr.makeSlice 163 (.int .i64 (n : Int)) (.int .i64 (n : Int))).run Tryz.prog W = .ok (.slice (some ⟨W.heap.size, 0, none⟩) n n) (W.alloc (.cells cur 165)) := by rw [← hcur]; exact hmk
 refine ⟨_, hmk', ?_, (Below.refl _ _).alloc (Nat.le_refl _) _, World.size_alloc ..⟩
 have hc1 : cur.toList = pcells (List.replicate n (0, 0)) := by rw [← hcur]; exact made_two n
 have := heap_alloc_new W (.cells cur 165)
 rw [show cur = (pcells (List.replicate n (0, 0))).toArray by rw [← hc1]] at this ⊢
 exact this
theorem prow_in {w : World} {Q : Nat} {l : List (Int × Int)} (h : PRow w Q l) : InP w (some ⟨Q, 0, none⟩) l := fun j x hj => by
 refine ⟨_, rfl, (Array.getElem?_eq_some_iff.1 h.to).1, ?_⟩
 rw [Addr.add_lit, Nat.zero_add, cell_of_row _ Q j _ _ _ h.to, List.getElem?_toArray]
 exact hj
theorem pcells_set {l : List (Int × Int)} {k : Nat} (hk : k < l.length) (a b : Int) : ((pcells l).set (k * 2) (.int .i64 a)).set (k * 2 + 1) (.int .i64 b) = pcells (l.set k (a, b)) := by
 have h : l = l.take k ++ (l[k] :: l.drop (k + 1)) := by rw [← List.drop_eq_getElem_cons hk, List.take_append_drop]
 have hl : (l.take k).length = k := by rw [List.length_take]; omega
 have hs : l.set k (a, b) = l.take k ++ ((a, b) :: l.drop (k + 1)) := by
  conv => lhs; rw [h]
  rw [List.set_append_right _ _ (by omega), hl, Nat.sub_self, List.set_cons_zero]
 rw [hs]
 conv => lhs; rw [h]
 rw [pcells_append, pcells_append]
 have e : ∀ (r : Int × Int) t, pcells (r :: t) = .int .i64 r.1 :: .int .i64 r.2 :: pcells t := fun _ _ => rfl
 rw [e, e]
 have hp : (pcells (l.take k)).length = k * 2 := by rw [pcells_length, hl]
 rw [List.set_append_right _ _ (by omega), hp, Nat.sub_self, List.set_cons_zero, List.set_append_right _ _ (by omega), hp, show k * 2 + 1 - k * 2 = 1 by omega, List.set_cons_succ, List.set_cons_zero]
theorem PRow.set {w : World} {G : Nat} {l : List (Int × Int)} (h : PRow w G l) {k : Nat} (hk : k < l.length) (a b : Int) : PRow ((w.setCell ⟨G, k * 2, none⟩ (.int .i64 a)).setCell ⟨G, k * 2 + 1, none⟩ (.int .i64 b)) G (l.set k (a, b)) := by
 have h1 := heap_setCell_any w G (k * 2) _ _ _ (.int .i64 a) h.to
 have h2 := heap_setCell_any _ G (k * 2 + 1) _ _ _ (.int .i64 b) h1
 show _ = _
 rw [h2, ← pcells_set hk]
 simp
theorem PRow.cells {w : World} {G : Nat} {l : List (Int × Int)} (h : PRow w G l) {k : Nat} (hk : k < l.length) : w.cell? ⟨G, k * 2, none⟩ = some (.int .i64 (l.getD k default).1) ∧ w.cell? ⟨G, k * 2 + 1, none⟩ = some (.int .i64 (l.getD k default).2) ∧ ∀ i, w.frozen? ⟨G, i, none⟩ = false := by
 obtain ⟨h1, h2⟩ := pp_get hk
 exact ⟨by rw [cell_of_row w G _ _ _ _ h.to, List.getElem?_toArray]; exact h1, by rw [cell_of_row w G _ _ _ _ h.to, List.getElem?_toArray]; exact h2, fun i => by simp [World.frozen?, h.to]⟩
theorem rdX_val (hi : Int) (l : List UInt8) (er : Int) (h0 : 0 ≤ hi) : ((rdX hi l er).2.2.length : Int) ≤ hi := by
 unfold rdX
 simp only
 split
 ·simpa using h0
 ·unfold rdT
  split
  ·simpa using h0
  ·split
   ·simpa using h0
   ·split
    ·simpa using h0
    ·have := (rdN_val hi l er h0).2
     simp only [List.length_take]
     omega
/-- a reader with at most m bytes left -/
def RdS (w : World) (B : Nat) (m : Nat) : Prop := ∃ (l : List UInt8) (er : Int), Rd w B l er ∧ l.length ≤ m
section
variable {w : World} {B m : Nat}
theorem rdsN (h : RdS w B m) (hi : Int) (h0 : 0 ≤ hi) : Calls Tryz.prog 47 #[.pointer (some ⟨B, 0, none⟩), .int .i64 hi] w fun e w' => ∃ n : Nat, e = .returned (.int .i64 (n : Int)) ∧ (n : Int) ≤ hi ∧ RdS w' B m ∧ Touch (fun k => k = B) w w' := by
 obtain ⟨l, er, hr, hl⟩ := h
 refine (rdN_walk hr hi).mono ?_
 rintro x w' ⟨rfl, h1, h2⟩
 have hv := rdN_val hi l er h0
 exact ⟨(rdN hi l er).2.2.toNat, by rw [Int.toNat_of_nonneg hv.1], by omega, ⟨_, _, h1, Nat.le_trans (rdN_len hi l er) hl⟩, h2⟩
theorem rdsX (h : RdS w B m) (hi : Int) (h0 : 0 ≤ hi) : Calls Tryz.prog 102 #[.pointer (some ⟨B, 0, none⟩), .int .i64 hi] w fun e w' => ∃ s : Str, e = .returned (.string (sB s)) ∧ (s.length : Int) ≤ hi ∧ s.length ≤ m ∧ RdS w' B m ∧ Touch (fun k => k = B) w w' := by
 obtain ⟨l, er, hr, hl⟩ := h
 refine (rdX_walk hr hi).mono ?_
 rintro x w' ⟨rfl, h1, h2⟩
 have h3 := rdX_len hi l er
 exact ⟨_, rfl, rdX_val hi l er h0, by omega, ⟨_, _, h1, by omega⟩, h2⟩
theorem rdsT (h : RdS w B m) (n : Int) : Calls Tryz.prog 50 #[.pointer (some ⟨B, 0, none⟩), .int .i64 n] w fun e w' => ∃ s : Str, e = .returned (.string (sB s)) ∧ s.length ≤ m ∧ RdS w' B m ∧ Touch (fun k => k = B) w w' := by
 obtain ⟨l, er, hr, hl⟩ := h
 refine (rdT_walk hr n).mono ?_
 rintro x w' ⟨rfl, h1, h2⟩
 have h3 := rdT_len n l er
 exact ⟨_, rfl, by omega, ⟨_, _, h1, by omega⟩, h2⟩
theorem rdsL (h : RdS w B m) : Calls Tryz.prog 51 #[.pointer (some ⟨B, 0, none⟩)] w fun e w' => ∃ n : Nat, e = .returned (.int .i64 (n : Int)) ∧ n ≤ m ∧ w = w' := by
 obtain ⟨l, er, hr, hl⟩ := h
 refine (rdL_walk hr).mono ?_
 rintro x w' ⟨rfl, rfl⟩
 exact ⟨_, rfl, hl, rfl⟩
theorem rdsR (h : RdS w B m) : Calls Tryz.prog 48 #[.pointer (some ⟨B, 0, none⟩)] w fun e w' => ∃ er : Int, e = .returned (.int .i64 er) ∧ w = w' := by
 obtain ⟨l, er, hr, hl⟩ := h
 refine (rdR_walk hr).mono ?_
 rintro x w' ⟨rfl, rfl⟩
 exact ⟨_, rfl, rfl⟩
theorem rdsE (h : RdS w B m) : Calls Tryz.prog 87 #[.pointer (some ⟨B, 0, none⟩)] w fun e w' => ∃ er : Int, e = .returned (.int .i64 er) ∧ RdS w' B m ∧ Touch (fun k => k = B) w w' := by
 obtain ⟨l, er, hr, hl⟩ := h
 refine (rdE_walk hr).mono ?_
 rintro x w' ⟨rfl, h1, h2⟩
 exact ⟨_, rfl, ⟨_, _, h1, hl⟩, h2⟩
theorem RdS.frame {w' : World} (h : RdS w B m) (e : w'.heap[B]? = w.heap[B]?) : RdS w' B m := by
 obtain ⟨l, er, hr, hl⟩ := h
 exact ⟨l, er, hr.frame e, hl⟩
theorem RdS.lt (h : RdS w B m) : B < w.heap.size := by
 obtain ⟨l, er, hr, hl⟩ := h
 exact (Array.getElem?_eq_some_iff.1 hr.to).1
theorem RdS.ne {v : Value} {e : TypeId} {size n : Nat} {xs : List Value} (h : RdS w B m) (hr : w.ownsRow 0 e size v n xs) (he : e ≠ 147) : v.ownBlock ≠ some B := fun hb => by
 obtain ⟨cur, hc⟩ := row_block hr hb
 obtain ⟨l, er, h, _⟩ := h
 rw [h.to] at hc; injection hc with hc; injection hc with _ hc _; exact he hc.symm
end
theorem new_rds (l : List UInt8) (w : World) : Calls Tryz.prog 46 #[.string (sB l)] w fun e w' => e = .returned (.pointer (some ⟨w.heap.size, 0, none⟩)) ∧ RdS w' w.heap.size l.length ∧ Below w.heap.size w w' :=
 (new_rd l w).mono fun _ _ h => ⟨h.1, ⟨_, _, h.2.1, Nat.le_refl _⟩, h.2.2⟩
end Go.Proofs.YtlmjefjimoghcaaGreat
