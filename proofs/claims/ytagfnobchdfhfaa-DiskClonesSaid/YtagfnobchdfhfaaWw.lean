import Derived.Test.YtagfnobchdfhfaaWv
namespace Go.Proofs.Ytagfnobchdfhfaa
set_option linter.unusedSimpArgs false
set_option linter.unnecessarySimpa false
set_option linter.unusedVariables false
open Go.RowKit Go.ChangeShapes Go.WideShapes Go.ChangeAt
attribute [local go_sem ↓] Go.wp_at_zero Go.wp_at_succ

set_option maxRecDepth 100000 in
set_option maxHeartbeats 1000000 in
theorem torn_law (w : World) (A : Option Addr) (c : Nat) (l : List ByteArray) (B : Option Addr) (cb : Nat) (sv : List Int) (hA : Ones Value.string w w.heap.size A l) (hAl : ∀ i, i < l.length → (l.getD i default).size ≤ maxLen) (hB : Ones (Value.int .i64) w w.heap.size B sv) (h6 : l.length ≤ 6) (h40 : sv.length ≤ 40) :
    Calls Try.prog 4 #[.slice A l.length c, .slice B sv.length cb] w fun e w' => e = .returned (.bool true) ∧ Below w.heap.size w w' := by
  obtain ⟨old, hold⟩ : ∃ s, fullB ⟨#[111, 108, 100, 32, 99, 111, 110, 116, 101, 110, 116]⟩ = s := ⟨_, rfl⟩
  have ho64 : old.size = 64 := by rw [← hold]; exact fullB_size _
  have HO := Lib.hid hold
  have HA := Lib.hid hA
  have HB := Lib.hid hB
  have HL := Lib.hid hAl
  have h6' : (l.length : Int) ≤ 6 := by omega
  have h40' : (sv.length : Int) ≤ 40 := by omega
  have hw0 : WI (List.replicate 6 (List.replicate 64 0)) (diag (fun _ => old) 0) (dm0 6) := ⟨rfl, rfl, rfl, rfl, rfl, rfl⟩
  have HW0 := Lib.hid hw0
  have HO64 := Lib.hid ho64
  clear hold hA hB hAl hw0
  go_enter Try.func4, Try.ntmps4
  go_wp2_with fail
  refine (awake_walk _).mono ?_; rintro e w1 ⟨rfl, hb1⟩
  have B1 := Lib.hid hb1
  clear hb1
  go_wp2_with fail
  refine (st_begin 5 6 (by decide) (by decide) w w1 B1.out).mono ?_; rintro e w2 ⟨D, ad, ab, ap, cd, cb', cp, rfl, g2⟩
  have G2 := Lib.hid (g2.alloc (.cells #[.slice ad 6 cd, .slice ab 6 cb', .slice ap 0 cp, .int .i64 (-1), .bool false, .int .i64 0, .int .i64 0, .int .i64 0] 33))
  clear g2
  go_wp2_with fail
  refine (full_ref _ _ (by decide)).mono ?_; rintro e _ ⟨rfl, rfl⟩
  rw [HO.out]
  go_wp2_with fail
  go_loopw [35] (fun i wr => ∃ (j : Nat) (d : DM), j ≤ 6 ∧ i = .int .i64 (j : Int) ∧ St w D d wr ∧ WI (List.replicate 6 (List.replicate 64 0)) (diag (fun _ => old) j) d) (fun i _ => 6 - (intOf i).toNat)
  case atStart => exact ⟨0, _, by omega, rfl, G2.out, HW0.out⟩
  case round =>
    obtain ⟨j, d, hj, rfl, hst, hwi⟩ := hrel
    have HT := Lib.hid hst
    have HW := Lib.hid hwi
    have PL : Hid (d.pend.length ≤ 1000) := Lib.hid (by rw [hwi.pend_, diag_len]; omega)
    have AF : Hid (d.after ≤ 9223372036854775807) := Lib.hid (by rw [hwi.af]; decide)
    clear hst hwi
    by_cases hlt : j < 6
    · have hjl : (j : Int) < 6 := by omega
      obtain ⟨d', ew, hw'⟩ := HW.out.write j hlt old ho64
      rw [diag_snoc (fun _ => old) j] at hw'
      have EW := Lib.hid ew
      have HW' := Lib.hid hw'
      clear ew hw'
      go_wp2_with fail
      refine (st_write _ _ HT.out AF.out PL.out _ _ EW.out).mono ?_; rintro e w6 ⟨rfl, g6⟩
      have G6 := Lib.hid g6
      clear g6
      go_wp2_with fail
      go_roundw
      case rel => exact ⟨j + 1, _, by omega, by go_num, G6.out, HW'.out⟩
      case measure => simp [intOf]; omega
    · obtain rfl : j = 6 := by omega
      obtain ⟨d2, es, hs2⟩ := HW.out.sync
      rw [diag_len] at hs2
      have ES := Lib.hid es
      have HS2 := Lib.hid hs2
      clear es hs2
      go_wp2_with fail
      refine (st_sync HT.out AF.out PL.out _ _ ES.out).mono ?_; rintro e w6 ⟨rfl, g6⟩
      have G6 := Lib.hid g6
      clear g6
      go_wp2_with fail
      go_loopw [49] (fun i wr => ∃ (j : Nat) (d : DM), j ≤ l.length ∧ i = .int .i64 (j : Int) ∧ St w D d wr ∧ WI (endN (fun _ => 64) (List.replicate 6 (List.replicate 64 0)) (diag (fun _ => old) 6) 6) (diag (fun i => fullB (l.getD i default)) j) d) (fun i _ => l.length - (intOf i).toNat)
      case atStart => exact ⟨0, _, by omega, rfl, G6.out, HS2.out⟩
      case round =>
        clear HT HW PL AF HS2 G6 ES
        obtain ⟨j, d, hj, rfl, hst, hwi⟩ := hrel
        have HT := Lib.hid hst
        have HW := Lib.hid hwi
        have PL : Hid (d.pend.length ≤ 1000) := Lib.hid (by rw [hwi.pend_, diag_len]; omega)
        have AF : Hid (d.after ≤ 9223372036854775807) := Lib.hid (by rw [hwi.af]; decide)
        clear hst hwi
        by_cases hlt : j < l.length
        · have hjl : (j : Int) < l.length := by omega
          obtain ⟨a, rfl, _, hcell⟩ := (HA.out.below HT.out.below (Nat.le_refl _)) j hlt
          obtain ⟨d', ew, hw'⟩ := HW.out.write j (by omega) (fullB (l.getD j default)) (fullB_size _)
          rw [diag_snoc (fun i => fullB (l.getD i default)) j] at hw'
          have hsm := HL.out j hlt
          obtain ⟨s, hs⟩ : ∃ s, l.getD j default = s := ⟨_, rfl⟩
          rw [hs] at hcell ew hsm
          have EW := Lib.hid ew
          have HW' := Lib.hid hw'
          clear ew hw' hs
          go_wp2_with fail
          refine (full_ref _ _ hsm).mono ?_; rintro e _ ⟨rfl, rfl⟩
          go_wp2_with fail
          refine (st_write _ _ HT.out AF.out PL.out _ _ EW.out).mono ?_; rintro e w6 ⟨rfl, g6⟩
          have G6 := Lib.hid g6
          clear g6
          go_wp2_with fail
          go_roundw
          case rel => exact ⟨j + 1, _, by omega, by go_num, G6.out, HW'.out⟩
          case measure => simp [intOf]; omega
        · obtain rfl : j = l.length := by omega
          have hc := HW.out.crash sv
          rw [diag_len] at hc
          have HC := Lib.hid hc
          clear hc
          go_wp2_with fail
          refine (st_crash sv B cb HT.out PL.out HB.out).mono ?_; rintro e w6 ⟨rfl, g6⟩
          have G6 := Lib.hid g6
          clear g6 HT HW PL AF
          go_wp2_with fail
          go_loopw [64] (fun i wr => ∃ (j : Nat) (d : DM), j ≤ 6 ∧ i = .int .i64 (j : Int) ∧ St w D d wr ∧ WI (endN (fun j => clampN (sv.getD j 0)) (endN (fun _ => 64) (List.replicate 6 (List.replicate 64 0)) (diag (fun _ => old) 6) 6) (diag (fun i => fullB (l.getD i default)) l.length) l.length) [] d) (fun i _ => 6 - (intOf i).toNat)
          case atStart => exact ⟨0, _, by omega, rfl, G6.out, HC.out⟩
          case round =>
            clear G6 HC
            obtain ⟨j, d, hj, rfl, hst, hwi⟩ := hrel
            have HT := Lib.hid hst
            have HW := Lib.hid hwi
            have PL : Hid (d.pend.length ≤ 1000) := Lib.hid (by rw [hwi.pend_]; decide)
            clear hst hwi
            by_cases hlt : j < 6
            · have hjl : (j : Int) < 6 := by omega
              have hget := torn_secs old HO64.out (fun i => fullB (l.getD i default)) (fun i => fullB_size _) l.length h6 sv j hlt
              by_cases h1 : j < l.length
              · have h1' : (j : Int) < l.length := by omega
                rw [if_pos h1] at hget
                obtain ⟨a, rfl, _, hcell⟩ := (HA.out.below HT.out.below (Nat.le_refl _)) j h1
                have hsm := HL.out j h1
                obtain ⟨s, hs⟩ : ∃ s, l.getD j default = s := ⟨_, rfl⟩
                rw [hs] at hcell hsm hget
                clear hs
                by_cases h2 : j < sv.length
                · have h2' : (j : Int) < sv.length := by omega
                  obtain ⟨b, rfl, _, hcellb⟩ := (HB.out.below HT.out.below (Nat.le_refl _)) j h2
                  obtain ⟨x, hx⟩ : ∃ x, sv.getD j default = x := ⟨_, rfl⟩
                  have hx' : sv.getD j 0 = x := hx
                  rw [hx] at hcellb
                  rw [hx'] at hget
                  clear hx hx'
                  rcases (by omega : x < 0 ∨ x = 0 ∨ (0 < x ∧ x ≤ 64) ∨ 64 < x) with hx0 | rfl | hx0 | hx0
                  · have hck : clampN x = 0 := by unfold clampN; omega
                    have q2 : x < 64 := by omega
                    have hk1 : (0 : Int) ≤ 0 := by omega
                    have hk2 : (0 : Int) ≤ 64 := by omega
                    have hsd : sB (torn old.data.toList (fullB s).data.toList 0) = (fullB s).extract 0 0 ++ old.extract 0 64 := torn_str old (fullB s) 0 ho64
                    obtain ⟨d', er, hw'⟩ := HW.out.read j hlt _ hget
                    rw [hck, hsd] at er
                    obtain ⟨fs, hfs⟩ : ∃ x, fullB s = x := ⟨_, rfl⟩
                    have hfs64 : fs.size = 64 := by rw [← hfs]; exact fullB_size _
                    rw [hfs] at er
                    rw [show fs.extract 0 0 ++ old.extract 0 64 = old.extract 0 64 by first | rfl | simp] at er
                    have hadd := fun wx => run_string_add_sum (P := Try.prog) wx (fs.extract 0 0) (old.extract 0 64) (by rw [ByteArray.size_extract, ByteArray.size_extract]; omega)
                    have HFS := Lib.hid hfs
                    have ER := Lib.hid er
                    have HW' := Lib.hid hw'
                    clear hfs er hw' hsd hget hck
                    go_wp2_with fail
                    go_region_held3 (fun w' => w'.cell? (a.add j) = some (.string s)) (exact hcell) (first | (go_at_call 13; (with_reducible refine (full_ref _ _ hsm).mono ?_); rintro e _ ⟨rfl, rfl⟩; rw [HFS.out]))
                    have HTd : Hid (St w D d wr.drew) := Lib.hid (HT.out.same (below_drewN (Below.refl _ _) 1))
                    go_wp2_with fail
                    refine (st_read _ HTd.out PL.out _ ER.out).mono ?_; rintro e w7 ⟨rfl, g7⟩
                    have G7 := Lib.hid g7
                    clear g7
                    clear hadd
                    go_wp2_with fail
                    go_roundw
                    case rel => exact ⟨j + 1, _, by omega, by go_num, G7.out, HW'.out⟩
                    case measure => simp [intOf]; omega
                  · have hck : clampN 0 = 0 := rfl
                    have hk1 : (0 : Int) ≤ 0 := by omega
                    have hk2 : (0 : Int) ≤ 64 := by omega
                    have hsd : sB (torn old.data.toList (fullB s).data.toList 0) = (fullB s).extract 0 0 ++ old.extract 0 64 := torn_str old (fullB s) 0 ho64
                    obtain ⟨d', er, hw'⟩ := HW.out.read j hlt _ hget
                    rw [hck, hsd] at er
                    obtain ⟨fs, hfs⟩ : ∃ x, fullB s = x := ⟨_, rfl⟩
                    have hfs64 : fs.size = 64 := by rw [← hfs]; exact fullB_size _
                    rw [hfs] at er
                    rw [show fs.extract 0 0 ++ old.extract 0 64 = old.extract 0 64 by first | rfl | simp] at er
                    have hadd := fun wx => run_string_add_sum (P := Try.prog) wx (fs.extract 0 0) (old.extract 0 64) (by rw [ByteArray.size_extract, ByteArray.size_extract]; omega)
                    have HFS := Lib.hid hfs
                    have ER := Lib.hid er
                    have HW' := Lib.hid hw'
                    clear hfs er hw' hsd hget hck
                    go_wp2_with fail
                    go_region_held3 (fun w' => w'.cell? (a.add j) = some (.string s)) (exact hcell) (first | (go_at_call 13; (with_reducible refine (full_ref _ _ hsm).mono ?_); rintro e _ ⟨rfl, rfl⟩; rw [HFS.out]))
                    have HTd : Hid (St w D d wr.drew) := Lib.hid (HT.out.same (below_drewN (Below.refl _ _) 1))
                    go_wp2_with fail
                    refine (st_read _ HTd.out PL.out _ ER.out).mono ?_; rintro e w7 ⟨rfl, g7⟩
                    have G7 := Lib.hid g7
                    clear g7
                    clear hadd
                    go_wp2_with fail
                    go_roundw
                    case rel => exact ⟨j + 1, _, by omega, by go_num, G7.out, HW'.out⟩
                    case measure => simp [intOf]; omega
                  · obtain ⟨m, rfl⟩ : ∃ m : Nat, x = m := ⟨x.toNat, by omega⟩
                    have hx1 : (m : Int) ≤ 64 := hx0.2
                    have hx3 : 0 < m := by omega
                    have hx2 : (0 : Int) < m := hx0.1
                    clear hx0
                    have hck : clampN (m : Int) = m := by unfold clampN; omega
                    have hm64 : m ≤ 64 := by omega
                    have hk1 : (0 : Int) ≤ (m : Int) := by omega
                    have hk2 : ((m : Int) : Int) ≤ 64 := by omega
                    have hsd : sB (torn old.data.toList (fullB s).data.toList m) = (fullB s).extract 0 m ++ old.extract m 64 := torn_str old (fullB s) m ho64
                    obtain ⟨d', er, hw'⟩ := HW.out.read j hlt _ hget
                    rw [hck, hsd] at er
                    obtain ⟨fs, hfs⟩ : ∃ x, fullB s = x := ⟨_, rfl⟩
                    have hfs64 : fs.size = 64 := by rw [← hfs]; exact fullB_size _
                    rw [hfs] at er
                    rw [show fs.extract 0 m ++ old.extract m 64 = fs.extract 0 m ++ old.extract m 64 by first | rfl | simp] at er
                    have hadd := fun wx => run_string_add_sum (P := Try.prog) wx (fs.extract 0 m) (old.extract m 64) (by rw [ByteArray.size_extract, ByteArray.size_extract]; omega)
                    have HFS := Lib.hid hfs
                    have ER := Lib.hid er
                    have HW' := Lib.hid hw'
                    clear hfs er hw' hsd hget hck
                    go_wp2_with fail
                    go_region_held3 (fun w' => w'.cell? (a.add j) = some (.string s)) (exact hcell) (first | (go_at_call 13; (with_reducible refine (full_ref _ _ hsm).mono ?_); rintro e _ ⟨rfl, rfl⟩; rw [HFS.out]))
                    have HTd : Hid (St w D d wr.drew) := Lib.hid (HT.out.same (below_drewN (Below.refl _ _) 1))
                    go_wp2_with fail
                    refine (st_read _ HTd.out PL.out _ ER.out).mono ?_; rintro e w7 ⟨rfl, g7⟩
                    have G7 := Lib.hid g7
                    clear g7
                    clear hadd
                    go_wp2_with fail
                    go_roundw
                    case rel => exact ⟨j + 1, _, by omega, by go_num, G7.out, HW'.out⟩
                    case measure => simp [intOf]; omega
                  · have hck : clampN x = 64 := by unfold clampN; omega
                    have hk1 : (0 : Int) ≤ 64 := by omega
                    have hk2 : (64 : Int) ≤ 64 := by omega
                    have hsd : sB (torn old.data.toList (fullB s).data.toList 64) = (fullB s).extract 0 64 ++ old.extract 64 64 := torn_str old (fullB s) 64 ho64
                    obtain ⟨d', er, hw'⟩ := HW.out.read j hlt _ hget
                    rw [hck, hsd] at er
                    obtain ⟨fs, hfs⟩ : ∃ x, fullB s = x := ⟨_, rfl⟩
                    have hfs64 : fs.size = 64 := by rw [← hfs]; exact fullB_size _
                    rw [hfs] at er
                    rw [show fs.extract 0 64 ++ old.extract 64 64 = fs.extract 0 64 ++ old.extract 64 64 by first | rfl | simp] at er
                    have hadd := fun wx => run_string_add_sum (P := Try.prog) wx (fs.extract 0 64) (old.extract 64 64) (by rw [ByteArray.size_extract, ByteArray.size_extract]; omega)
                    have HFS := Lib.hid hfs
                    have ER := Lib.hid er
                    have HW' := Lib.hid hw'
                    clear hfs er hw' hsd hget hck
                    go_wp2_with fail
                    go_region_held3 (fun w' => w'.cell? (a.add j) = some (.string s)) (exact hcell) (first | (go_at_call 13; (with_reducible refine (full_ref _ _ hsm).mono ?_); rintro e _ ⟨rfl, rfl⟩; rw [HFS.out]))
                    have HTd : Hid (St w D d wr.drew) := Lib.hid (HT.out.same (below_drewN (Below.refl _ _) 1))
                    go_wp2_with fail
                    refine (st_read _ HTd.out PL.out _ ER.out).mono ?_; rintro e w7 ⟨rfl, g7⟩
                    have G7 := Lib.hid g7
                    clear g7
                    clear hadd
                    go_wp2_with fail
                    go_roundw
                    case rel => exact ⟨j + 1, _, by omega, by go_num, G7.out, HW'.out⟩
                    case measure => simp [intOf]; omega
                · have h2' : ¬ (j : Int) < sv.length := by omega
                  have hz : sv.getD j 0 = 0 := by rw [List.getD_eq_getElem?_getD, List.getElem?_eq_none (by omega)]; rfl
                  have ht0 : ∀ o b : List UInt8, torn o b (clampN 0) = o := fun o b => by show List.take 0 b ++ List.drop 0 o = o; simp
                  rw [hz, ht0] at hget
                  clear hz ht0
                  have eo : sB old.data.toList = old := rfl
                  obtain ⟨d', er, hw'⟩ := HW.out.read j hlt _ hget
                  rw [eo] at er
                  have ER := Lib.hid er
                  have HW' := Lib.hid hw'
                  clear er hw' hget eo
                  go_wp2_with fail
                  refine (st_read _ HT.out PL.out _ ER.out).mono ?_; rintro e w7 ⟨rfl, g7⟩
                  have G7 := Lib.hid g7
                  clear g7
                  go_wp2_with fail
                  go_roundw
                  case rel => exact ⟨j + 1, _, by omega, by go_num, G7.out, HW'.out⟩
                  case measure => simp [intOf]; omega
              · have h1' : ¬ (j : Int) < l.length := by omega
                rw [if_neg h1] at hget
                have eo : sB old.data.toList = old := rfl
                obtain ⟨d', er, hw'⟩ := HW.out.read j hlt _ hget
                rw [eo] at er
                have ER := Lib.hid er
                have HW' := Lib.hid hw'
                clear er hw' hget eo
                go_wp2_with fail
                refine (st_read _ HT.out PL.out _ ER.out).mono ?_; rintro e w7 ⟨rfl, g7⟩
                have G7 := Lib.hid g7
                clear g7
                go_wp2_with fail
                go_roundw
                case rel => exact ⟨j + 1, _, by omega, by go_num, G7.out, HW'.out⟩
                case measure => simp [intOf]; omega
            · obtain rfl : j = 6 := by omega
              go_wp2_with fail
              go_ret
              exact ⟨rfl, HT.out.below⟩
theorem torn_many (w : World) (A : Option Addr) (c n : Nat) (B : Option Addr) (cb nb : Nat) (h : 6 < n ∨ 40 < nb) :
    Calls Try.prog 4 #[.slice A n c, .slice B nb cb] w fun e w' => e = .returned (.bool true) ∧ Below w.heap.size w w' := by
  by_cases h1 : 6 < n
  · have h1' : (6 : Int) < n := by omega
    clear h
    go_enter Try.func4, Try.ntmps4
    go_wp2_with fail
    refine (awake_walk _).mono ?_; rintro e w1 ⟨rfl, hb1⟩
    have B1 := Lib.hid hb1
    clear hb1
    go_wp2_with fail
    go_ret
    exact ⟨rfl, B1.out⟩
  · have h1' : ¬ (6 : Int) < n := by omega
    have h2' : (40 : Int) < nb := by omega
    clear h
    go_enter Try.func4, Try.ntmps4
    go_wp2_with fail
    refine (awake_walk _).mono ?_; rintro e w1 ⟨rfl, hb1⟩
    have B1 := Lib.hid hb1
    clear hb1
    go_wp2_with fail
    go_ret
    exact ⟨rfl, B1.out⟩
section
variable {H : Type} {enc : TypeId × Value → H} {w : World} {base b0 : Nat} {held : Bool}
theorem torn_in {d1 : DataW H} {p1 : List MemPlace} (v1 : Value) (h1 : DataW.Trod enc Try.prog w base (fun _ => true) held 27 v1 d1 p1) (hv1 : Value.okWide Try.prog w .any b0 27 v1)
    {d2 : DataW H} {p2 : List MemPlace} (v2 : Value) (h2 : DataW.Trod enc Try.prog w base (fun _ => true) held 23 v2 d2 p2) (hv2 : Value.okWide Try.prog w .any b0 23 v2) :
    Calls Try.prog 4 #[v1, v2] w fun e w' => e = .returned (.bool true) ∧ Below w.heap.size w w' := by
  obtain ⟨A, n, c, l, rfl, rfl, hA, hAl⟩ := open_str27 hv1 h1
  obtain ⟨B, nb, cb, sv, rfl, rfl, hB⟩ := open_int23 hv2 h2
  by_cases h : 6 < l.length ∨ 40 < sv.length
  · exact torn_many w A c _ B cb _ h
  · exact torn_law w A c l B cb sv hA hAl hB (by omega) (by omega)
end
end Go.Proofs.Ytagfnobchdfhfaa
