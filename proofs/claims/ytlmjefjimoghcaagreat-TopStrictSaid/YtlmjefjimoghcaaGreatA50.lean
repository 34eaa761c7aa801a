/- A part of the proofs of TopCounter and TopStrict: what the functions of the program do, each walked once, and plain laws about it. No condition. -/
import Derived.Test.YtlmjefjimoghcaaGreatA49
namespace Go.Proofs.YtlmjefjimoghcaaGreat
set_option linter.unusedSimpArgs false
set_option linter.unnecessarySimpa false
set_option linter.unusedVariables false
open Go.RowKit
attribute [local go_sem ↓] Go.wp_at_zero Go.wp_at_succ
def UnwP (data : List UInt8) (w : World) (x : Ending) (w' : World) : Prop := Below w.heap.size w w' ∧ ∃ (k : Int) (c : List UInt8) (n e : Int), x = .returned (.tuple #[.agg #[.int .i64 k, .string (sB c)], .int .i64 n, .int .i64 e]) ∧ (e = 0 → 0 < n ∧ n ≤ data.length ∧ c.length ≤ 4096 ∧ wrapF k c = (data.take n.toNat, 0)) ∧ (e = 0 ∨ e = 12) ∧ ∀ k' c' n', PfF data k' c' n' → e = 0 ∧ k = (k' : Int) ∧ c = c' ∧ n = (n' : Int)
set_option maxRecDepth 100000 in
set_option maxHeartbeats 1000000 in
theorem unwrap_walk (data : List UInt8) (hd : data.length ≤ 100000) (w : World) : Calls Tryz.prog 65 #[.string (sB data)] w fun x w' => UnwP data w x w' := by
 obtain ⟨W0, hW0⟩ : ∃ W, w.alloc (.cells #[.int .i64 0, .string ⟨#[]⟩] 39) = W := ⟨_, rfl⟩
 have hb0 : Below w.heap.size w W0 := by rw [← hW0]; exact (Below.refl _ _).alloc (Nat.le_refl _) _
 obtain ⟨R, hR⟩ : ∃ R, w.heap.size = R := ⟨_, rfl⟩
 have hr0 : W0.heap[R]? = some (.cells #[.int .i64 0, .string ⟨#[]⟩] 39 (0, 0)) := by rw [← hW0, ← hR]; exact heap_alloc_new _ _
 have HR0 := Lib.hid hr0
 have HB0 := Lib.hid hb0
 have HW0 := Lib.hid hW0
 have HRq := Lib.hid hR
 have HRe : Hid (w.heap.size ≤ R) := Lib.hid (Nat.le_of_eq hR)
 have HP := Lib.hid (parse_f_walk data hd W0)
 clear hb0 hr0 hW0 hR hd
 go_enter Tryz.func65, Tryz.ntmps65
 go_upto_region 1 with (fail)
 rw [HW0.out, HRq.out]
 go_wp2_with fail
 refine (HP.out).mono ?_
 rintro x w1 ⟨hb1, k, c, n, sm, ok, rfl, h1, h2⟩
 have H1 := Lib.hid h1
 have H2 := Lib.hid h2
 obtain ⟨W2, hW2⟩ : ∃ W, w1.alloc (.cells #[.int .i64 k, .string (sB c)] 39) = W := ⟨_, rfl⟩
 obtain ⟨F, hF⟩ : ∃ F, w1.heap.size = F := ⟨_, rfl⟩
 have hbn : Below W0.heap.size W0 W2 := by rw [← hW2]; exact hb1.alloc hb1.size _
 have hf : W2.heap[F]? = some (.cells #[.int .i64 k, .string (sB c)] 39 (0, 0)) := by rw [← hW2, ← hF]; exact heap_alloc_new _ _
 have hr2 := (hbn.block R (Array.getElem?_eq_some_iff.1 HR0.out).1).trans HR0.out
 have HR2 := Lib.hid hr2
 have HBn := Lib.hid (bstep HB0.out (Nat.le_refl _) hbn)
 obtain ⟨d0, d1⟩ := fr2 hr2
 obtain ⟨f0, f1⟩ := fr2 hf
 have hfr := fr_of hr2
 have HW2 := Lib.hid hW2
 have HF2 := Lib.hid hF
 clear hb1 h1 h2 hbn hf hr2 hW2 hF HP
 go_upto_region 2 with (fail)
 rw [HW2.out, HF2.out]
 cases ok with
 | false =>
  go_wp2_with fail
  clear d0 d1 hfr f0 f1
  obtain ⟨WF, hWF⟩ : ∃ W, (W2.setCell ⟨R, 0, none⟩ (.int .i64 0)).setCell ⟨R, 1, none⟩ (.string ⟨#[]⟩) = W := ⟨_, rfl⟩
  have hrF : WF.heap[R]? = some (.cells #[.int .i64 0, .string ⟨#[]⟩] 39 (0, 0)) := by rw [← hWF]; exact set2 HR2.out _ _
  obtain ⟨d0, d1⟩ := fr2 hrF
  have hbF : Below w.heap.size w WF := by rw [← hWF]; exact (HBn.out.setCell (p := ⟨R, 0, none⟩) HRe.out _).setCell (p := ⟨R, 1, none⟩) HRe.out _
  rw [hWF]
  refine bodyPost_ret (v := .tuple #[.agg #[.int .i64 0, .string ⟨#[]⟩], .int .i64 0, .int .i64 12]) ?_ rfl ⟨hbF, 0, [], 0, 12, rfl, (fun h => absurd h (by decide)), .inr rfl, fun k' c' n' h => absurd (H2.out k' c' n' h).1 (by decide)⟩
  have hres : Tryz.f65.results = #[.cell 2 39, .tmp 3, .tmp 4] := rfl
  simp [results, hres, d0, d1, go_sem]
 | true =>
  go_wp2_with fail
  clear d0 d1 hfr f0 f1
  obtain ⟨WF, hWF⟩ : ∃ W, (W2.setCell ⟨R, 0, none⟩ (.int .i64 k)).setCell ⟨R, 1, none⟩ (.string (sB c)) = W := ⟨_, rfl⟩
  have hrF : WF.heap[R]? = some (.cells #[.int .i64 k, .string (sB c)] 39 (0, 0)) := by rw [← hWF]; exact set2 HR2.out _ _
  obtain ⟨d0, d1⟩ := fr2 hrF
  have hbF : Below w.heap.size w WF := by rw [← hWF]; exact (HBn.out.setCell (p := ⟨R, 0, none⟩) HRe.out _).setCell (p := ⟨R, 1, none⟩) HRe.out _
  rw [hWF]
  refine bodyPost_ret (v := .tuple #[.agg #[.int .i64 k, .string (sB c)], .int .i64 n, .int .i64 0]) ?_ rfl ⟨hbF, k, c, n, 0, rfl, (fun _ => H1.out (by first | rfl | trivial)), .inl rfl, fun k' c' n' h => ⟨rfl, (H2.out k' c' n' h).2⟩⟩
  have hres : Tryz.f65.results = #[.cell 2 39, .tmp 3, .tmp 4] := rfl
  simp [results, hres, d0, d1, go_sem]
/-- data are frames that are not compressed -/
def PfL : List UInt8 → List Frm → Prop
 | data, [] => data = []
 | data, f :: r => ∃ (k n : Nat), f.1 = (k : Int) ∧ PfF data k f.2 n ∧ PfL (data.drop n) r
theorem encFr_snoc : ∀ (l : List Frm) (f : Frm) (p s : List UInt8), encFr l = (p, 0) → wrapF f.1 f.2 = (s, 0) → encFr (l ++ [f]) = (p ++ s, 0)
 | [], f, p, s, h1, h2 => by
  injection h1 with h1
  subst h1
  show (if (wrapF f.1 f.2).2 = 0 then _ else _) = _
  rw [h2]
  show ((s ++ (encFr []).1, 0) : List UInt8 × Int) = _
  show ((s ++ [], 0) : List UInt8 × Int) = _
  simp
 | g :: l, f, p, s, h1, h2 => by
  have e : encFr (g :: l) = if (wrapF g.1 g.2).2 = 0 then (if (encFr l).2 = 0 then ((wrapF g.1 g.2).1 ++ (encFr l).1, 0) else ([], (encFr l).2)) else ([], (wrapF g.1 g.2).2) := rfl
  rw [e] at h1
  by_cases q1 : (wrapF g.1 g.2).2 = 0
  ·rw [if_pos q1] at h1
   by_cases q2 : (encFr l).2 = 0
   ·rw [if_pos q2] at h1
    injection h1 with h1
    have ih := encFr_snoc l f (encFr l).1 s (by rw [← q2]) h2
    show (if (wrapF g.1 g.2).2 = 0 then (if (encFr (l ++ [f])).2 = 0 then ((wrapF g.1 g.2).1 ++ (encFr (l ++ [f])).1, 0) else ([], (encFr (l ++ [f])).2)) else ([], (wrapF g.1 g.2).2)) = _
    rw [if_pos q1, ih, if_pos rfl, ← h1, List.append_assoc]
   ·rw [if_neg q2] at h1
    injection h1 with _ h1
    exact absurd h1 q2
  ·rw [if_neg q1] at h1
   injection h1 with _ h1
   exact absurd h1 q1
def RetFr (data : List UInt8) (w : World) (x : Ending) (w' : World) : Prop := Below w.heap.size w w' ∧ ∃ (l : List Frm) (e : Int) (A : Option Addr) (c : Nat), x = .returned (.tuple #[.slice A l.length c, .int .i64 e]) ∧ InFr w' A l ∧ l.length ≤ data.length ∧ (∀ f ∈ l, f.2.length ≤ 4096) ∧ (e = 0 → encFr l = (data, 0)) ∧ ∀ y, PfL data y → e = 0 ∧ l = y
def FdR (w : World) (data : List UInt8) (u v : Value) (wr : World) : Prop := ∃ (rest pre : List UInt8) (out : List Frm), u = .string (sB rest) ∧ data = pre ++ rest ∧ encFr out = (pre, 0) ∧ out.length ≤ pre.length ∧ (∀ f ∈ out, f.2.length ≤ 4096) ∧ (∀ y, PfL data y → ∃ y2, y = out ++ y2 ∧ PfL rest y2) ∧ OwnR w 39 2 v out.length (frs out) wr ∧ Below w.heap.size w wr
set_option maxRecDepth 100000 in
theorem push_fr {w0 w : World} {v : Value} {n : Nat} {xs : List Frm} (h : OwnR w0 39 2 v n (frs xs) w) (hb : Below w0.heap.size w0 w) (hn : n + 1 ≤ 1000000) (x : Frm) : ∃ A c w', (Builtin.append_ #[49, 49] 49 #[v, .slice (some ⟨w.heap.size, 0, none⟩) 1 1]).run Tryz.prog (w.alloc (.cells #[.int .i64 x.1, .string (sB x.2)] 39)) = .ok (.slice A (n + 1) c) w' ∧ OwnR w0 39 2 (.slice A (n + 1) c) (n + 1) (frs (xs ++ [x])) w' ∧ Below w0.heap.size w0 w' := by
 have h2 := h.below ((Below.refl _ _).alloc (Nat.le_refl _) (.cells #[.int .i64 x.1, .string (sB x.2)] 39))
 have hsz : w0.heap.size ≤ (w.alloc (.cells #[.int .i64 x.1, .string (sB x.2)] 39)).heap.size := by rw [World.size_alloc]; have := hb.size; omega
 obtain ⟨A, c, w', hr, ho, hg, _⟩ := h2.push2 Tryz.underlying49 rfl rfl rfl rfl rfl (by decide) hn w.heap.size (.int .i64 x.1) (.string (sB x.2)) (by rw [cell_of_row _ _ _ _ _ _ (heap_alloc_new w _)]; rfl) (by rw [cell_of_row _ _ _ _ _ _ (heap_alloc_new w _)]; rfl) rfl rfl hsz
 refine ⟨A, c, w', hr, ?_, below_grown (hb.alloc hb.size _) hsz hg h.new⟩
 have e : frs (xs ++ [x]) = frs xs ++ [.int .i64 x.1, .string (sB x.2)] := by rw [frs_append]; simp [frs, frc]
 rw [e]; exact ho
set_option maxRecDepth 100000 in
set_option maxHeartbeats 1000000 in
theorem fdec_walk (data : List UInt8) (hd : data.length ≤ 100000) (w : World) : Calls Tryz.prog 24 #[.string (sB data)] w fun x w' => RetFr data w x w' := by
 have HD := Lib.hid hd
 clear hd
 go_enter Tryz.func24, Tryz.ntmps24
 go_wp2_with fail
 go_loopw [0, 4] (fun u v wr => FdR w data u v wr) (fun u _ _ => strLen u)
 case atStart => exact ⟨data, [], [], rfl, rfl, rfl, Nat.le_refl _, (fun f hf => by cases hf), fun y hy => ⟨y, rfl, hy⟩, .nil _ _ _ _, .refl _ _⟩
 case round =>
  obtain ⟨rest, pre, out, rfl, hpr, henc, hol, hoc, hfull, ho, hb⟩ := hrel
  have HPr := Lib.hid hpr
  have HEn := Lib.hid henc
  have HOl := Lib.hid hol
  have HOc := Lib.hid hoc
  have HFu := Lib.hid hfull
  have HO := Lib.hid ho
  have HB := Lib.hid hb
  have hlen := congrArg List.length hpr
  rw [List.length_append] at hlen
  have hdl := HD.out
  obtain ⟨A', c', rfl⟩ := row_sl ho.row
  by_cases h0 : rest = []
  ·subst h0
   have hz : sB [] = ⟨#[]⟩ := rfl
   rw [hz]
   clear hpr henc hol hoc hfull ho hb hlen hz
   go_wp2_with fail
   refine bodyPost_ret (results_tmp2 rfl _ _ _) rfl ?_
   have hpe : data = pre := by have := HPr.out; rw [List.append_nil] at this; exact this
   refine ⟨HB.out, out, 0, A', c', rfl, (row_flat HO.out.row).mono fun _ h => h.2, by rw [hpe]; exact HOl.out, HOc.out, fun _ => by rw [hpe]; exact HEn.out, fun y hy => ⟨rfl, ?_⟩⟩
   obtain ⟨y2, h1, h2⟩ := HFu.out y hy
   cases y2 with
   | nil => rw [h1, List.append_nil]
   | cons f r =>
    obtain ⟨k, n, -, h3, -⟩ := h2
    have := h3.l2
    exact absurd this (by decide)
  ·have hse : ((sB rest).toList == ([] : List UInt8)) = false := by
    rw [sB_toList]; simpa using h0
   have hsn : ((sB rest).toList != ([] : List UInt8)) = true := by rw [bne, hse]; rfl
   have HU := Lib.hid fun w => unwrap_walk rest (by omega) w
   have hrs := sB_size rest
   have hri : (rest.length : Int) ≤ 100000 := by omega
   have H0 := Lib.hid h0
   have hon : out.length + 1 ≤ 1000000 := by omega
   have HOn := Lib.hid hon
   clear hpr henc hol hoc hfull ho hb hlen hdl h0 hon
   go_wp2_with fail
   refine (HU.out _).mono ?_
   rintro x w1 ⟨hb1, k, c, n, e, rfl, h1, h2, h3⟩
   have HB1 := Lib.hid (bstep HB.out (Nat.le_refl _) hb1)
   have HO1 := Lib.hid (HO.out.below hb1)
   have H3 := Lib.hid h3
   rcases h2 with rfl | rfl
   ·obtain ⟨q1, q2, q3, q4⟩ := h1 rfl
    obtain ⟨m, rfl⟩ : ∃ m : Nat, n = (m : Int) := ⟨n.toNat, by omega⟩
    rw [Int.toNat_natCast] at q4
    have hba := HB1.out.alloc HB1.out.size (.cells #[.int .i64 k, .string (sB c)] 39)
    have hoa := HO1.out.below ((Below.refl _ _).alloc (Nat.le_refl _) (.cells #[.int .i64 k, .string (sB c)] 39))
    obtain ⟨A4, c4, W4, hrun, ho4, hb4⟩ := push_fr hoa hba HOn.out (k, c)
    have hx : (sB rest).extract m rest.length = sB (rest.drop m) := by rw [sB_ext, List.take_length]
    have HO4 := Lib.hid ho4
    have HB4 := Lib.hid hb4
    have hmr : m ≤ rest.length := by omega
    have HQ := Lib.hid (And.intro q1 (And.intro q2 (And.intro q3 q4)))
    have hrun2 : (Builtin.append_ #[49, 49] 49 #[.slice A' out.length c', .slice (some ⟨(w1.alloc (.cells #[.int .i64 k, .string (sB c)] 39)).heap.size, 0, none⟩) 1 1]).run Tryz.prog ((w1.alloc (.cells #[.int .i64 k, .string (sB c)] 39)).alloc (.cells #[.int .i64 k, .string (sB c)] 39)) = .ok (.slice A4 (out.length + 1) c4) W4 := hrun
    rw [World.size_alloc] at hrun2
    have HRUN := Lib.hid hrun2
    clear hb1 h1 h3 hba hoa hrun ho4 hb4 hrun2 q1 q3 q4 HU
    go_wp2_with (at_builtin; refine wpList_append_eq rfl _ _ _ rfl _ _ rfl rfl HRUN.out ?_)
    go_roundw
    case rel =>
     refine ⟨rest.drop m, pre ++ rest.take m, out ++ [(k, c)], rfl, ?_, ?_, ?_, ?_, ?_, ?_, HB4.out⟩
     ·rw [List.append_assoc, List.take_append_drop]; exact HPr.out
     ·exact encFr_snoc out (k, c) pre _ HEn.out HQ.out.2.2.2
     ·rw [List.length_append, List.length_append, List.length_take]
      have := HOl.out
      have := HQ.out.1
      simp only [List.length_cons, List.length_nil]
      omega
     ·intro f hf
      rw [List.mem_append, List.mem_singleton] at hf
      rcases hf with hf | rfl
      ·exact HOc.out f hf
      ·exact HQ.out.2.2.1
     ·intro y hy
      obtain ⟨y2, h1, h2⟩ := HFu.out y hy
      cases y2 with
      | nil => exact absurd h2 H0.out
      | cons f r =>
       obtain ⟨k', n', h3, h4, h5⟩ := h2
       obtain ⟨-, e1, e2, e3⟩ := H3.out k' f.2 n' h4
       have e4 : m = n' := by omega
       refine ⟨r, ?_, by rw [e4]; exact h5⟩
       rw [h1, List.append_assoc]
       have : f = (k, c) := by rw [e1, e2, ← h3]
       rw [this]; rfl
     ·rw [List.length_append]; exact HO4.out
    case measure =>
     have := HQ.out.1
     simp only [strLen, sB_size, List.length_drop]
     omega
   ·have HN : Hid (∀ y, ¬ PfL data y) := Lib.hid fun y hy => by
     obtain ⟨y2, h1, h2⟩ := HFu.out y hy
     cases y2 with
     | nil => exact H0.out h2
     | cons f r =>
      obtain ⟨k', n', -, h4, -⟩ := h2
      exact absurd (H3.out k' f.2 n' h4).1 (by decide)
    clear hb1 h1 h3 HU
    go_wp2_with fail
    refine bodyPost_ret (results_tmp2 rfl _ _ _) rfl ?_
    exact ⟨HB1.out.alloc HB1.out.size _, [], 12, none, 0, rfl, flat_nil _ _ _, Nat.zero_le _, (fun f hf => by cases hf), (fun h => absurd h (by decide)), fun y hy => absurd hy (HN.out y)⟩
end Go.Proofs.YtlmjefjimoghcaaGreat
