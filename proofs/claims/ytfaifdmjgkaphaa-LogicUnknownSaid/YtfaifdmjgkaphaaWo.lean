import Derived.Test.YtfaifdmjgkaphaaWn
import Derived.Deep.DrawnRows
import Derived.WideMake
namespace Go.Proofs.Ytfaifdmjgkaphaa
open Go.RowKit
attribute [local go_sem ↓] Go.wp_at_zero Go.wp_at_succ

set_option maxRecDepth 100000 in
set_option maxHeartbeats 2000000 in
theorem unknown_law (a b : Nat) (ha : a < 256) (hb : b < 256) (w : World) : Calls Try.prog 3 #[.int .u8 a, .int .u8 b] w fun e w' => e = .returned (.bool true) ∧ Below w.heap.size w w' := by
  have hla := wL_len a
  have hlb := wL_len b
  have hsa := wB_size a
  have hsb := wB_size b
  have hcva := fun wx => run_bytes_of_string (P := Try.prog) wx 9 26 5 (wB a) Try.underlying9 Try.underlying26 Try.underlying5
  have hcvb := fun wx => run_bytes_of_string (P := Try.prog) wx 9 26 5 (wB b) Try.underlying9 Try.underlying26 Try.underlying5
  obtain ⟨la, hla'⟩ : ∃ l, (wL a).length = l := ⟨_, rfl⟩
  obtain ⟨lb, hlb'⟩ : ∃ l, (wL b).length = l := ⟨_, rfl⟩
  rw [hla'] at hla hsa
  rw [hlb'] at hlb hsb
  have HLA := Lib.hid hla'
  have HLB := Lib.hid hlb'
  simp only [hsa] at hcva
  simp only [hsb] at hcvb
  clear hla' hlb' hsa hsb
  go_enter Try.func3, Try.ntmps3
  go_wp2_with (go_at_call 10; refine (awake_walk _).mono ?_; rintro e w0 ⟨rfl, hb0⟩)
  have HB0 := Lib.hid hb0
  clear hb0
  go_loopw [17] (fun i wr => ∃ g : Nat, g ≤ 3 ∧ i = .int .i64 g ∧ FB wr w0.heap.size ∧ Below w.heap.size w wr) (fun i _ => 3 - (intOf i).toNat)
  case atStart => exact ⟨0, by omega, rfl, heap_alloc_new _ _, HB0.out.alloc HB0.out.size _⟩
  case round =>
    obtain ⟨g, hg, rfl, hF, hB⟩ := hrel
    have HF := Lib.hid hF
    have HB := Lib.hid hB
    clear hF hB
    rcases (by omega : g = 0 ∨ g = 1 ∨ g = 2 ∨ g = 3) with rfl | rfl | rfl | rfl
    · have hc := (HF.out).c0
      obtain ⟨w1, rfl⟩ : ∃ x, x = wr := ⟨_, rfl⟩
      have hmk := run_makeMap_plain (P := Try.prog) w1 25
      go_wp2_with (go_at_call 14; refine (ways_walk a ha _).mono ?_; rintro e w2 ⟨rfl, hb2⟩)
      have HS0 : Hid (∀ cap fz, St w w0.heap.size w1.heap.size w2.heap.size a (outr 0 [] (wL b) []) (w2.drew.alloc (.cells (bytesRow (wB a) cap) 5 fz))) := Lib.hid fun cap fz => by
        have hsz := hb2.size
        have hB1 := HB.out.size
        have hF1 := HF.out.lt
        have hsz' : w1.heap.size + 1 ≤ w2.heap.size := by simpa using hsz
        have hF2 : FB w2 w0.heap.size := (hb2.block _ (by simp; omega)).trans ((Below.heap_alloc _ _ _ hF1).trans HF.out)
        have hM2 : MB w2 w1.heap.size [] := (mb_new w1).below hb2 (by simp)
        have hB2 : Below w.heap.size w w2 := bstep (HB.out.alloc hB1 _) (Nat.le_refl _) hb2
        have hBl : ∀ o, Below w2.heap.size w2 (w2.drew.alloc o) := fun o => (Below.refl _ _).drew.alloc (Nat.le_refl _) o
        exact ⟨hF2.below (hBl _) hF2.lt, hM2.below (hBl _) hM2.lt, yb_new _ _ _ _, bstep hB2 (Nat.le_refl _) (hBl _), by simp, by omega, by omega, hB1⟩
      clear hb2 hc
      go_loopw [26] (fun i wr => ∃ j : Nat, j ≤ la ∧ i = .int .i64 j ∧ St w w0.heap.size w1.heap.size w2.heap.size a (outr 0 ((wL a).take j) (wL b) []) wr) (fun i _ => la - (intOf i).toNat)
      case atStart => exact ⟨0, by omega, rfl, HS0.out _ _⟩
      case round =>
        obtain ⟨j, hj, rfl, hS⟩ := hrel
        have HS := Lib.hid hS
        clear hS
        obtain ⟨w3, rfl⟩ : ∃ x, x = wr := ⟨_, rfl⟩
        by_cases hlt : j < la
        · have hjl : j < (wL a).length := by rw [HLA.out]; exact hlt
          obtain ⟨x, hx⟩ : ∃ x, (wL a)[j] = x := ⟨_, rfl⟩
          have hx256 : x < 256 := by rw [← hx]; exact wL_lt a j hjl
          have hc := HS.out.yb j hjl
          rw [hx] at hc
          have HSN : Hid ((wL a).take (j + 1) = (wL a).take j ++ [x]) := Lib.hid (by rw [wL_snoc a j hjl, hx])
          clear hx hjl
          go_wp2_with (go_at_call 14; refine (ways_walk b hb _).mono ?_; rintro e w4 ⟨rfl, hb4⟩)
          have HS1 : Hid (∀ o, St w w0.heap.size w1.heap.size w2.heap.size a (outr 0 ((wL a).take j) (wL b) []) (w4.drew.alloc o)) := Lib.hid fun o => (HS.out.below hb4).drew.alloc o
          have HS4 : Hid (w1.heap.size < w4.heap.size) := Lib.hid (by have := HS.out.mb.lt; have := hb4.size; omega)
          clear hb4 hc
          go_loopw [34] (fun i wr => ∃ k : Nat, k ≤ lb ∧ i = .int .i64 k ∧ YB wr w4.heap.size b ∧ w4.heap.size < wr.heap.size ∧ St w w0.heap.size w1.heap.size w2.heap.size a (inn 0 x ((wL b).take k) (outr 0 ((wL a).take j) (wL b) [])) wr) (fun i _ => lb - (intOf i).toNat)
          case atStart => exact ⟨0, by omega, rfl, yb_new _ _ _ _, by simp, HS1.out _⟩
          case round =>
            obtain ⟨k, hk, rfl, hY, hYl, hS5⟩ := hrel
            have HY := Lib.hid hY
            have HYL := Lib.hid hYl
            have HS5 := Lib.hid hS5
            clear hY hYl hS5
            obtain ⟨w5, rfl⟩ : ∃ x, x = wr := ⟨_, rfl⟩
            by_cases hltk : k < lb
            · have hkl : k < (wL b).length := by rw [HLB.out]; exact hltk
              obtain ⟨y, hy⟩ : ∃ y, (wL b)[k] = y := ⟨_, rfl⟩
              have hy256 : y < 256 := by rw [← hy]; exact wL_lt b k hkl
              have hc := HY.out k hkl
              rw [hy] at hc
              have HSM : Hid ((wL b).take (k + 1) = (wL b).take k ++ [y]) := Lib.hid (by rw [wL_snoc b k hkl, hy])
              clear hy hkl
              go_wp2_with fail
              refine (and_at x y (pOp 0 x y) hx256 hy256 rfl _).mono ?_; rintro e w6 ⟨rfl, hb6⟩
              obtain ⟨o, hmu, hS6⟩ := (HS5.out.below hb6).upd (pOp 0 x y)
              have HS6 := Lib.hid hS6
              have HY6 : Hid (YB (mset w6 w1.heap.size o) w4.heap.size b) := Lib.hid ((HY.out.below hb6 HYL.out).mset o (by have := HS5.out.mb.lt; have := HS4.out; omega))
              have HYL6 : Hid (w4.heap.size < (mset w6 w1.heap.size o).heap.size) := Lib.hid (by rw [mset_size]; have := HYL.out; have := hb6.size; omega)
              clear hb6 hS6 hc
              go_wp2_with fail
              go_roundw
              case rel => exact ⟨k + 1, by omega, by go_num, HY6.out, HYL6.out, by rw [HSM.out, inn_snoc]; exact HS6.out⟩
              case measure => simp [intOf]; omega
            · obtain rfl : lb = k := by omega
              have HTB : Hid ((wL b).take lb = wL b) := Lib.hid (List.take_of_length_le (by rw [HLB.out]; exact Nat.le_refl _))
              go_wp2_with fail
              go_roundw
              case rel => exact ⟨j + 1, by omega, by go_num, by have h := HS5.out; rw [HTB.out] at h; rw [HSN.out, outr_snoc]; exact h⟩
              case measure => simp [intOf]; omega
        · obtain rfl : la = j := by omega
          have HTA : Hid ((wL a).take la = wL a) := Lib.hid (List.take_of_length_le (by rw [HLA.out]; exact Nat.le_refl _))
          obtain ⟨W, ks, hW, hks, h4, n120, n122, h5⟩ := asked 0 a b (by decide)
          have HS3 : Hid (St w w0.heap.size w1.heap.size w2.heap.size a ks w3) := Lib.hid (by rw [← hks, ← HTA.out]; exact HS.out)
          clear hks h4
          have HW := Lib.hid hW
          clear hW
          rcases h5 with ⟨h6 | h6, h7, h8⟩ | ⟨h6, h7⟩
          · subst h6
            go_wp2_with fail
            refine (and_at a b 48 ha hb HW.out _).mono ?_; rintro e w6 ⟨rfl, hb6⟩
            have hS6 := HS3.out.below hb6
            have HS6 := Lib.hid hS6
            have hlen := hS6.len
            rw [h7] at hlen
            have lW : (Instr.lookup 25 (.map (some w1.heap.size)) (.int .u8 48) false).run Try.prog w6 = .ok (.bool true) w6 := by
              have := hS6.look 48; rw [decide_eq_true h8] at this; exact this
            have l120 : (Instr.lookup 25 (.map (some w1.heap.size)) (.int .u8 120) false).run Try.prog w6 = .ok (.bool false) w6 := by
              have := hS6.look 120; rw [decide_eq_false n120] at this; exact this
            have l122 : (Instr.lookup 25 (.map (some w1.heap.size)) (.int .u8 122) false).run Try.prog w6 = .ok (.bool false) w6 := by
              have := hS6.look 122; rw [decide_eq_false n122] at this; exact this
            clear hS6 hb6 h7 h8 n120 n122
            go_wp2_with fail
            go_roundw
            case rel => exact ⟨0 + 1, by omega, rfl, HS6.out.fb, HS6.out.bl⟩
            case measure => simp [intOf]
          · subst h6
            go_wp2_with fail
            refine (and_at a b 49 ha hb HW.out _).mono ?_; rintro e w6 ⟨rfl, hb6⟩
            have hS6 := HS3.out.below hb6
            have HS6 := Lib.hid hS6
            have hlen := hS6.len
            rw [h7] at hlen
            have lW : (Instr.lookup 25 (.map (some w1.heap.size)) (.int .u8 49) false).run Try.prog w6 = .ok (.bool true) w6 := by
              have := hS6.look 49; rw [decide_eq_true h8] at this; exact this
            have l120 : (Instr.lookup 25 (.map (some w1.heap.size)) (.int .u8 120) false).run Try.prog w6 = .ok (.bool false) w6 := by
              have := hS6.look 120; rw [decide_eq_false n120] at this; exact this
            have l122 : (Instr.lookup 25 (.map (some w1.heap.size)) (.int .u8 122) false).run Try.prog w6 = .ok (.bool false) w6 := by
              have := hS6.look 122; rw [decide_eq_false n122] at this; exact this
            clear hS6 hb6 h7 h8 n120 n122
            go_wp2_with fail
            go_roundw
            case rel => exact ⟨0 + 1, by omega, rfl, HS6.out.fb, HS6.out.bl⟩
            case measure => simp [intOf]
          · subst h6
            obtain ⟨n, hn⟩ : ∃ n, ks.length = n := ⟨_, rfl⟩
            rw [hn] at h7
            have hn1 : ((n : Int) == 1) = false := by rw [Bool.eq_false_iff]; simp; omega
            go_wp2_with fail
            refine (and_at a b 120 ha hb HW.out _).mono ?_; rintro e w6 ⟨rfl, hb6⟩
            have hS6 := HS3.out.below hb6
            have HS6 := Lib.hid hS6
            have hlen := hS6.len
            rw [hn] at hlen
            have l120 : (Instr.lookup 25 (.map (some w1.heap.size)) (.int .u8 120) false).run Try.prog w6 = .ok (.bool false) w6 := by
              have := hS6.look 120; rw [decide_eq_false n120] at this; exact this
            have l122 : (Instr.lookup 25 (.map (some w1.heap.size)) (.int .u8 122) false).run Try.prog w6 = .ok (.bool false) w6 := by
              have := hS6.look 122; rw [decide_eq_false n122] at this; exact this
            clear hS6 hb6 hn h7 n120 n122
            go_wp2_with fail
            go_roundw
            case rel => exact ⟨0 + 1, by omega, rfl, HS6.out.fb, HS6.out.bl⟩
            case measure => simp [intOf]
    · have hc := (HF.out).c1
      obtain ⟨w1, rfl⟩ : ∃ x, x = wr := ⟨_, rfl⟩
      have hmk := run_makeMap_plain (P := Try.prog) w1 25
      go_wp2_with (go_at_call 14; refine (ways_walk a ha _).mono ?_; rintro e w2 ⟨rfl, hb2⟩)
      have HS0 : Hid (∀ cap fz, St w w0.heap.size w1.heap.size w2.heap.size a (outr 1 [] (wL b) []) (w2.drew.alloc (.cells (bytesRow (wB a) cap) 5 fz))) := Lib.hid fun cap fz => by
        have hsz := hb2.size
        have hB1 := HB.out.size
        have hF1 := HF.out.lt
        have hsz' : w1.heap.size + 1 ≤ w2.heap.size := by simpa using hsz
        have hF2 : FB w2 w0.heap.size := (hb2.block _ (by simp; omega)).trans ((Below.heap_alloc _ _ _ hF1).trans HF.out)
        have hM2 : MB w2 w1.heap.size [] := (mb_new w1).below hb2 (by simp)
        have hB2 : Below w.heap.size w w2 := bstep (HB.out.alloc hB1 _) (Nat.le_refl _) hb2
        have hBl : ∀ o, Below w2.heap.size w2 (w2.drew.alloc o) := fun o => (Below.refl _ _).drew.alloc (Nat.le_refl _) o
        exact ⟨hF2.below (hBl _) hF2.lt, hM2.below (hBl _) hM2.lt, yb_new _ _ _ _, bstep hB2 (Nat.le_refl _) (hBl _), by simp, by omega, by omega, hB1⟩
      clear hb2 hc
      go_loopw [26] (fun i wr => ∃ j : Nat, j ≤ la ∧ i = .int .i64 j ∧ St w w0.heap.size w1.heap.size w2.heap.size a (outr 1 ((wL a).take j) (wL b) []) wr) (fun i _ => la - (intOf i).toNat)
      case atStart => exact ⟨0, by omega, rfl, HS0.out _ _⟩
      case round =>
        obtain ⟨j, hj, rfl, hS⟩ := hrel
        have HS := Lib.hid hS
        clear hS
        obtain ⟨w3, rfl⟩ : ∃ x, x = wr := ⟨_, rfl⟩
        by_cases hlt : j < la
        · have hjl : j < (wL a).length := by rw [HLA.out]; exact hlt
          obtain ⟨x, hx⟩ : ∃ x, (wL a)[j] = x := ⟨_, rfl⟩
          have hx256 : x < 256 := by rw [← hx]; exact wL_lt a j hjl
          have hc := HS.out.yb j hjl
          rw [hx] at hc
          have HSN : Hid ((wL a).take (j + 1) = (wL a).take j ++ [x]) := Lib.hid (by rw [wL_snoc a j hjl, hx])
          clear hx hjl
          go_wp2_with (go_at_call 14; refine (ways_walk b hb _).mono ?_; rintro e w4 ⟨rfl, hb4⟩)
          have HS1 : Hid (∀ o, St w w0.heap.size w1.heap.size w2.heap.size a (outr 1 ((wL a).take j) (wL b) []) (w4.drew.alloc o)) := Lib.hid fun o => (HS.out.below hb4).drew.alloc o
          have HS4 : Hid (w1.heap.size < w4.heap.size) := Lib.hid (by have := HS.out.mb.lt; have := hb4.size; omega)
          clear hb4 hc
          go_loopw [34] (fun i wr => ∃ k : Nat, k ≤ lb ∧ i = .int .i64 k ∧ YB wr w4.heap.size b ∧ w4.heap.size < wr.heap.size ∧ St w w0.heap.size w1.heap.size w2.heap.size a (inn 1 x ((wL b).take k) (outr 1 ((wL a).take j) (wL b) [])) wr) (fun i _ => lb - (intOf i).toNat)
          case atStart => exact ⟨0, by omega, rfl, yb_new _ _ _ _, by simp, HS1.out _⟩
          case round =>
            obtain ⟨k, hk, rfl, hY, hYl, hS5⟩ := hrel
            have HY := Lib.hid hY
            have HYL := Lib.hid hYl
            have HS5 := Lib.hid hS5
            clear hY hYl hS5
            obtain ⟨w5, rfl⟩ : ∃ x, x = wr := ⟨_, rfl⟩
            by_cases hltk : k < lb
            · have hkl : k < (wL b).length := by rw [HLB.out]; exact hltk
              obtain ⟨y, hy⟩ : ∃ y, (wL b)[k] = y := ⟨_, rfl⟩
              have hy256 : y < 256 := by rw [← hy]; exact wL_lt b k hkl
              have hc := HY.out k hkl
              rw [hy] at hc
              have HSM : Hid ((wL b).take (k + 1) = (wL b).take k ++ [y]) := Lib.hid (by rw [wL_snoc b k hkl, hy])
              clear hy hkl
              go_wp2_with fail
              refine (or_at x y (pOp 1 x y) hx256 hy256 rfl _).mono ?_; rintro e w6 ⟨rfl, hb6⟩
              obtain ⟨o, hmu, hS6⟩ := (HS5.out.below hb6).upd (pOp 1 x y)
              have HS6 := Lib.hid hS6
              have HY6 : Hid (YB (mset w6 w1.heap.size o) w4.heap.size b) := Lib.hid ((HY.out.below hb6 HYL.out).mset o (by have := HS5.out.mb.lt; have := HS4.out; omega))
              have HYL6 : Hid (w4.heap.size < (mset w6 w1.heap.size o).heap.size) := Lib.hid (by rw [mset_size]; have := HYL.out; have := hb6.size; omega)
              clear hb6 hS6 hc
              go_wp2_with fail
              go_roundw
              case rel => exact ⟨k + 1, by omega, by go_num, HY6.out, HYL6.out, by rw [HSM.out, inn_snoc]; exact HS6.out⟩
              case measure => simp [intOf]; omega
            · obtain rfl : lb = k := by omega
              have HTB : Hid ((wL b).take lb = wL b) := Lib.hid (List.take_of_length_le (by rw [HLB.out]; exact Nat.le_refl _))
              go_wp2_with fail
              go_roundw
              case rel => exact ⟨j + 1, by omega, by go_num, by have h := HS5.out; rw [HTB.out] at h; rw [HSN.out, outr_snoc]; exact h⟩
              case measure => simp [intOf]; omega
        · obtain rfl : la = j := by omega
          have HTA : Hid ((wL a).take la = wL a) := Lib.hid (List.take_of_length_le (by rw [HLA.out]; exact Nat.le_refl _))
          obtain ⟨W, ks, hW, hks, h4, n120, n122, h5⟩ := asked 1 a b (by decide)
          have HS3 : Hid (St w w0.heap.size w1.heap.size w2.heap.size a ks w3) := Lib.hid (by rw [← hks, ← HTA.out]; exact HS.out)
          clear hks h4
          have HW := Lib.hid hW
          clear hW
          rcases h5 with ⟨h6 | h6, h7, h8⟩ | ⟨h6, h7⟩
          · subst h6
            go_wp2_with fail
            refine (or_at a b 48 ha hb HW.out _).mono ?_; rintro e w6 ⟨rfl, hb6⟩
            have hS6 := HS3.out.below hb6
            have HS6 := Lib.hid hS6
            have hlen := hS6.len
            rw [h7] at hlen
            have lW : (Instr.lookup 25 (.map (some w1.heap.size)) (.int .u8 48) false).run Try.prog w6 = .ok (.bool true) w6 := by
              have := hS6.look 48; rw [decide_eq_true h8] at this; exact this
            have l120 : (Instr.lookup 25 (.map (some w1.heap.size)) (.int .u8 120) false).run Try.prog w6 = .ok (.bool false) w6 := by
              have := hS6.look 120; rw [decide_eq_false n120] at this; exact this
            have l122 : (Instr.lookup 25 (.map (some w1.heap.size)) (.int .u8 122) false).run Try.prog w6 = .ok (.bool false) w6 := by
              have := hS6.look 122; rw [decide_eq_false n122] at this; exact this
            clear hS6 hb6 h7 h8 n120 n122
            go_wp2_with fail
            go_roundw
            case rel => exact ⟨1 + 1, by omega, rfl, HS6.out.fb, HS6.out.bl⟩
            case measure => simp [intOf]
          · subst h6
            go_wp2_with fail
            refine (or_at a b 49 ha hb HW.out _).mono ?_; rintro e w6 ⟨rfl, hb6⟩
            have hS6 := HS3.out.below hb6
            have HS6 := Lib.hid hS6
            have hlen := hS6.len
            rw [h7] at hlen
            have lW : (Instr.lookup 25 (.map (some w1.heap.size)) (.int .u8 49) false).run Try.prog w6 = .ok (.bool true) w6 := by
              have := hS6.look 49; rw [decide_eq_true h8] at this; exact this
            have l120 : (Instr.lookup 25 (.map (some w1.heap.size)) (.int .u8 120) false).run Try.prog w6 = .ok (.bool false) w6 := by
              have := hS6.look 120; rw [decide_eq_false n120] at this; exact this
            have l122 : (Instr.lookup 25 (.map (some w1.heap.size)) (.int .u8 122) false).run Try.prog w6 = .ok (.bool false) w6 := by
              have := hS6.look 122; rw [decide_eq_false n122] at this; exact this
            clear hS6 hb6 h7 h8 n120 n122
            go_wp2_with fail
            go_roundw
            case rel => exact ⟨1 + 1, by omega, rfl, HS6.out.fb, HS6.out.bl⟩
            case measure => simp [intOf]
          · subst h6
            obtain ⟨n, hn⟩ : ∃ n, ks.length = n := ⟨_, rfl⟩
            rw [hn] at h7
            have hn1 : ((n : Int) == 1) = false := by rw [Bool.eq_false_iff]; simp; omega
            go_wp2_with fail
            refine (or_at a b 120 ha hb HW.out _).mono ?_; rintro e w6 ⟨rfl, hb6⟩
            have hS6 := HS3.out.below hb6
            have HS6 := Lib.hid hS6
            have hlen := hS6.len
            rw [hn] at hlen
            have l120 : (Instr.lookup 25 (.map (some w1.heap.size)) (.int .u8 120) false).run Try.prog w6 = .ok (.bool false) w6 := by
              have := hS6.look 120; rw [decide_eq_false n120] at this; exact this
            have l122 : (Instr.lookup 25 (.map (some w1.heap.size)) (.int .u8 122) false).run Try.prog w6 = .ok (.bool false) w6 := by
              have := hS6.look 122; rw [decide_eq_false n122] at this; exact this
            clear hS6 hb6 hn h7 n120 n122
            go_wp2_with fail
            go_roundw
            case rel => exact ⟨1 + 1, by omega, rfl, HS6.out.fb, HS6.out.bl⟩
            case measure => simp [intOf]
    · have hc := (HF.out).c2
      obtain ⟨w1, rfl⟩ : ∃ x, x = wr := ⟨_, rfl⟩
      have hmk := run_makeMap_plain (P := Try.prog) w1 25
      go_wp2_with (go_at_call 14; refine (ways_walk a ha _).mono ?_; rintro e w2 ⟨rfl, hb2⟩)
      have HS0 : Hid (∀ cap fz, St w w0.heap.size w1.heap.size w2.heap.size a (outr 2 [] (wL b) []) (w2.drew.alloc (.cells (bytesRow (wB a) cap) 5 fz))) := Lib.hid fun cap fz => by
        have hsz := hb2.size
        have hB1 := HB.out.size
        have hF1 := HF.out.lt
        have hsz' : w1.heap.size + 1 ≤ w2.heap.size := by simpa using hsz
        have hF2 : FB w2 w0.heap.size := (hb2.block _ (by simp; omega)).trans ((Below.heap_alloc _ _ _ hF1).trans HF.out)
        have hM2 : MB w2 w1.heap.size [] := (mb_new w1).below hb2 (by simp)
        have hB2 : Below w.heap.size w w2 := bstep (HB.out.alloc hB1 _) (Nat.le_refl _) hb2
        have hBl : ∀ o, Below w2.heap.size w2 (w2.drew.alloc o) := fun o => (Below.refl _ _).drew.alloc (Nat.le_refl _) o
        exact ⟨hF2.below (hBl _) hF2.lt, hM2.below (hBl _) hM2.lt, yb_new _ _ _ _, bstep hB2 (Nat.le_refl _) (hBl _), by simp, by omega, by omega, hB1⟩
      clear hb2 hc
      go_loopw [26] (fun i wr => ∃ j : Nat, j ≤ la ∧ i = .int .i64 j ∧ St w w0.heap.size w1.heap.size w2.heap.size a (outr 2 ((wL a).take j) (wL b) []) wr) (fun i _ => la - (intOf i).toNat)
      case atStart => exact ⟨0, by omega, rfl, HS0.out _ _⟩
      case round =>
        obtain ⟨j, hj, rfl, hS⟩ := hrel
        have HS := Lib.hid hS
        clear hS
        obtain ⟨w3, rfl⟩ : ∃ x, x = wr := ⟨_, rfl⟩
        by_cases hlt : j < la
        · have hjl : j < (wL a).length := by rw [HLA.out]; exact hlt
          obtain ⟨x, hx⟩ : ∃ x, (wL a)[j] = x := ⟨_, rfl⟩
          have hx256 : x < 256 := by rw [← hx]; exact wL_lt a j hjl
          have hc := HS.out.yb j hjl
          rw [hx] at hc
          have HSN : Hid ((wL a).take (j + 1) = (wL a).take j ++ [x]) := Lib.hid (by rw [wL_snoc a j hjl, hx])
          clear hx hjl
          go_wp2_with (go_at_call 14; refine (ways_walk b hb _).mono ?_; rintro e w4 ⟨rfl, hb4⟩)
          have HS1 : Hid (∀ o, St w w0.heap.size w1.heap.size w2.heap.size a (outr 2 ((wL a).take j) (wL b) []) (w4.drew.alloc o)) := Lib.hid fun o => (HS.out.below hb4).drew.alloc o
          have HS4 : Hid (w1.heap.size < w4.heap.size) := Lib.hid (by have := HS.out.mb.lt; have := hb4.size; omega)
          clear hb4 hc
          go_loopw [34] (fun i wr => ∃ k : Nat, k ≤ lb ∧ i = .int .i64 k ∧ YB wr w4.heap.size b ∧ w4.heap.size < wr.heap.size ∧ St w w0.heap.size w1.heap.size w2.heap.size a (inn 2 x ((wL b).take k) (outr 2 ((wL a).take j) (wL b) [])) wr) (fun i _ => lb - (intOf i).toNat)
          case atStart => exact ⟨0, by omega, rfl, yb_new _ _ _ _, by simp, HS1.out _⟩
          case round =>
            obtain ⟨k, hk, rfl, hY, hYl, hS5⟩ := hrel
            have HY := Lib.hid hY
            have HYL := Lib.hid hYl
            have HS5 := Lib.hid hS5
            clear hY hYl hS5
            obtain ⟨w5, rfl⟩ : ∃ x, x = wr := ⟨_, rfl⟩
            by_cases hltk : k < lb
            · have hkl : k < (wL b).length := by rw [HLB.out]; exact hltk
              obtain ⟨y, hy⟩ : ∃ y, (wL b)[k] = y := ⟨_, rfl⟩
              have hy256 : y < 256 := by rw [← hy]; exact wL_lt b k hkl
              have hc := HY.out k hkl
              rw [hy] at hc
              have HSM : Hid ((wL b).take (k + 1) = (wL b).take k ++ [y]) := Lib.hid (by rw [wL_snoc b k hkl, hy])
              clear hy hkl
              go_wp2_with fail
              refine (xor_at x y (pOp 2 x y) hx256 hy256 rfl _).mono ?_; rintro e w6 ⟨rfl, hb6⟩
              obtain ⟨o, hmu, hS6⟩ := (HS5.out.below hb6).upd (pOp 2 x y)
              have HS6 := Lib.hid hS6
              have HY6 : Hid (YB (mset w6 w1.heap.size o) w4.heap.size b) := Lib.hid ((HY.out.below hb6 HYL.out).mset o (by have := HS5.out.mb.lt; have := HS4.out; omega))
              have HYL6 : Hid (w4.heap.size < (mset w6 w1.heap.size o).heap.size) := Lib.hid (by rw [mset_size]; have := HYL.out; have := hb6.size; omega)
              clear hb6 hS6 hc
              go_wp2_with fail
              go_roundw
              case rel => exact ⟨k + 1, by omega, by go_num, HY6.out, HYL6.out, by rw [HSM.out, inn_snoc]; exact HS6.out⟩
              case measure => simp [intOf]; omega
            · obtain rfl : lb = k := by omega
              have HTB : Hid ((wL b).take lb = wL b) := Lib.hid (List.take_of_length_le (by rw [HLB.out]; exact Nat.le_refl _))
              go_wp2_with fail
              go_roundw
              case rel => exact ⟨j + 1, by omega, by go_num, by have h := HS5.out; rw [HTB.out] at h; rw [HSN.out, outr_snoc]; exact h⟩
              case measure => simp [intOf]; omega
        · obtain rfl : la = j := by omega
          have HTA : Hid ((wL a).take la = wL a) := Lib.hid (List.take_of_length_le (by rw [HLA.out]; exact Nat.le_refl _))
          obtain ⟨W, ks, hW, hks, h4, n120, n122, h5⟩ := asked 2 a b (by decide)
          have HS3 : Hid (St w w0.heap.size w1.heap.size w2.heap.size a ks w3) := Lib.hid (by rw [← hks, ← HTA.out]; exact HS.out)
          clear hks h4
          have HW := Lib.hid hW
          clear hW
          rcases h5 with ⟨h6 | h6, h7, h8⟩ | ⟨h6, h7⟩
          · subst h6
            go_wp2_with fail
            refine (xor_at a b 48 ha hb HW.out _).mono ?_; rintro e w6 ⟨rfl, hb6⟩
            have hS6 := HS3.out.below hb6
            have HS6 := Lib.hid hS6
            have hlen := hS6.len
            rw [h7] at hlen
            have lW : (Instr.lookup 25 (.map (some w1.heap.size)) (.int .u8 48) false).run Try.prog w6 = .ok (.bool true) w6 := by
              have := hS6.look 48; rw [decide_eq_true h8] at this; exact this
            have l120 : (Instr.lookup 25 (.map (some w1.heap.size)) (.int .u8 120) false).run Try.prog w6 = .ok (.bool false) w6 := by
              have := hS6.look 120; rw [decide_eq_false n120] at this; exact this
            have l122 : (Instr.lookup 25 (.map (some w1.heap.size)) (.int .u8 122) false).run Try.prog w6 = .ok (.bool false) w6 := by
              have := hS6.look 122; rw [decide_eq_false n122] at this; exact this
            clear hS6 hb6 h7 h8 n120 n122
            go_wp2_with fail
            go_roundw
            case rel => exact ⟨2 + 1, by omega, rfl, HS6.out.fb, HS6.out.bl⟩
            case measure => simp [intOf]
          · subst h6
            go_wp2_with fail
            refine (xor_at a b 49 ha hb HW.out _).mono ?_; rintro e w6 ⟨rfl, hb6⟩
            have hS6 := HS3.out.below hb6
            have HS6 := Lib.hid hS6
            have hlen := hS6.len
            rw [h7] at hlen
            have lW : (Instr.lookup 25 (.map (some w1.heap.size)) (.int .u8 49) false).run Try.prog w6 = .ok (.bool true) w6 := by
              have := hS6.look 49; rw [decide_eq_true h8] at this; exact this
            have l120 : (Instr.lookup 25 (.map (some w1.heap.size)) (.int .u8 120) false).run Try.prog w6 = .ok (.bool false) w6 := by
              have := hS6.look 120; rw [decide_eq_false n120] at this; exact this
            have l122 : (Instr.lookup 25 (.map (some w1.heap.size)) (.int .u8 122) false).run Try.prog w6 = .ok (.bool false) w6 := by
              have := hS6.look 122; rw [decide_eq_false n122] at this; exact this
            clear hS6 hb6 h7 h8 n120 n122
            go_wp2_with fail
            go_roundw
            case rel => exact ⟨2 + 1, by omega, rfl, HS6.out.fb, HS6.out.bl⟩
            case measure => simp [intOf]
          · subst h6
            obtain ⟨n, hn⟩ : ∃ n, ks.length = n := ⟨_, rfl⟩
            rw [hn] at h7
            have hn1 : ((n : Int) == 1) = false := by rw [Bool.eq_false_iff]; simp; omega
            go_wp2_with fail
            refine (xor_at a b 120 ha hb HW.out _).mono ?_; rintro e w6 ⟨rfl, hb6⟩
            have hS6 := HS3.out.below hb6
            have HS6 := Lib.hid hS6
            have hlen := hS6.len
            rw [hn] at hlen
            have l120 : (Instr.lookup 25 (.map (some w1.heap.size)) (.int .u8 120) false).run Try.prog w6 = .ok (.bool false) w6 := by
              have := hS6.look 120; rw [decide_eq_false n120] at this; exact this
            have l122 : (Instr.lookup 25 (.map (some w1.heap.size)) (.int .u8 122) false).run Try.prog w6 = .ok (.bool false) w6 := by
              have := hS6.look 122; rw [decide_eq_false n122] at this; exact this
            clear hS6 hb6 hn h7 n120 n122
            go_wp2_with fail
            go_roundw
            case rel => exact ⟨2 + 1, by omega, rfl, HS6.out.fb, HS6.out.bl⟩
            case measure => simp [intOf]
    · go_wp2
      go_ret
      exact ⟨rfl, HB.out⟩
theorem unknown_in (a : Int) (ha : (Lit.int .u8 a).wf = true) (b : Int) (hb : (Lit.int .u8 b).wf = true) (w : World) : Calls Try.prog 3 #[.int .u8 a, .int .u8 b] w fun e w' => e = .returned (.bool true) ∧ Below w.heap.size w w' := by
  obtain ⟨m, rfl, hm⟩ := u8_nat ha
  obtain ⟨n, rfl, hn⟩ := u8_nat hb
  exact unknown_law m n hm hn w
end Go.Proofs.Ytfaifdmjgkaphaa
