/- A part of the proofs of TopCounter and TopStrict: what the functions of the program do, each walked once, and plain laws about it. No condition. -/
import Derived.Test.YtlmjefjimoghcaaGreatA50
import Derived.Test.YtlmjefjimoghcaaGreatA40
namespace Go.Proofs.YtlmjefjimoghcaaGreat
set_option linter.unusedSimpArgs false
set_option linter.unnecessarySimpa false
set_option linter.unusedVariables false
open Go.RowKit
attribute [local go_sem ↓] Go.wp_at_zero Go.wp_at_succ
def aT : List Int := [0, 5, 10, 15, 21]
def aV : List Str := [[48,48],[48,49],[49,48],[49,49],[48,120]]
def aA : Str := [0, 5, 0, 55, 27, 18, 173, 230, 147, 122]
def aB : Str := [0, 5, 1, 69, 40]
def aF1 : Str := [165, 1, 10, 0, 5, 0, 55, 27, 18, 173, 230, 147, 122, 128, 75, 245, 212]
def aF2 : Str := [165, 2, 5, 0, 5, 1, 69, 40, 164, 63, 122, 206]
def aS : Str := aF1 ++ aF2
theorem aT_enc : tcE aT = (aA, 0) := by decide +kernel
theorem aV_enc : encB 2 aV = (aB, 0) := by decide +kernel
theorem aS_enc : encFr [(1, aA), (2, aB)] = (aS, 0) := by decide +kernel
theorem aT_full : tcFull aA 5 aT := ⟨by unfold cod0; decide +kernel, by decide +kernel, aT_enc, by decide⟩
theorem aV_full : bcFull 2 aB 5 aV := ⟨by decide +kernel, by decide +kernel, by decide, by decide, by decide +kernel, aV_enc, by decide⟩
theorem aS_full : PfL aS [((1 : Int), aA), ((2 : Int), aB)] := by
 refine ⟨1, 17, rfl, ⟨by decide, by decide +kernel, by decide +kernel, by decide, by decide +kernel, by decide +kernel, by decide +kernel, by decide +kernel, by decide +kernel⟩, 2, 12, rfl, ⟨by decide, by decide +kernel, by decide +kernel, by decide, by decide +kernel, by decide +kernel, by decide +kernel, by decide +kernel, by decide +kernel⟩, rfl⟩
set_option maxRecDepth 100000 in
/-- Texts: two lists of the same texts are equal -/
theorem texts_walk (l : List Str) (hl : l.length ≤ 1000000) (hs : ∀ s ∈ l, s.length ≤ 100000) (w : World) (A B : Option Addr) (c d : Nat) (hA : InS w A l) (hB : InS w B l) : Calls Tryz.prog 27 #[.slice A l.length c, .slice B l.length d] w fun e w' => e = .returned (.bool true) ∧ Below w.heap.size w w' := by
 have HA := Lib.hid hA
 have HB' := Lib.hid hB
 have HS := Lib.hid hs
 have hli : (l.length : Int) ≤ 1000000 := by omega
 clear hA hB hs hl
 go_enter Tryz.func27, Tryz.ntmps27
 go_wp2_with fail
 go_loopw [5] (fun i wr => (∃ k : Nat, i = .int .i64 (k : Int) ∧ k ≤ l.length ∧ Below w.heap.size w wr)) (fun i _ => ((l.length : Int) - intOf i).toNat)
 case atStart => exact ⟨0, rfl, Nat.zero_le _, .refl _ _⟩
 case round =>
  obtain ⟨k, rfl, hk, hb⟩ := hrel
  have HB := Lib.hid hb
  by_cases hlt : k < l.length
  ·have hki : (k : Int) < l.length := by omega
   obtain ⟨s, hs⟩ : ∃ s, l.getD k default = s := ⟨_, rfl⟩
   obtain ⟨a, rfl, c0⟩ := HA.out.at hb hlt
   obtain ⟨b, rfl, c1⟩ := HB'.out.at hb hlt
   rw [hs] at c0 c1
   have hsl := HS.out s (by rw [← hs]; exact List.mem_of_getElem? (get_default hlt))
   clear hb hs
   go_upto_region 6 with (fail)
   go_quiet (fail)
   go_wp2_with fail
   go_roundw
   case rel => exact ⟨k + 1, by go_num, by omega, below_drewN HB.out _⟩
   case measure => simp [intOf]; omega
  ·obtain rfl : k = l.length := by omega
   clear hb
   go_wp2_with fail
   go_ret
   exact ⟨rfl, HB.out⟩
theorem flat_new (w : World) (T : Nat → Prop) (cs : Array Value) (xs : List Value) (t : TypeId) (h : cs.toList = xs) (hT : T w.heap.size) : Flat (w.alloc (.cells cs t)) T (some ⟨w.heap.size, 0, none⟩) xs := fun j u hj => by
 refine ⟨_, rfl, hT, ?_⟩
 rw [Addr.add_lit, cell_of_row _ _ _ _ _ _ (heap_alloc_new _ _)]
 rw [← h] at hj
 simpa using hj
theorem size_al (w : World) (o : Obj) : (w.alloc o).heap.size = w.heap.size + 1 := World.size_alloc ..
set_option maxRecDepth 100000 in
/-- awakeCodec returns true -/
theorem awake_walk (w : World) : Calls Tryz.prog 5 #[] w fun e w' => e = .returned (.bool true) ∧ Below w.heap.size w w' := by
 obtain ⟨I, hI⟩ : ∃ I, w.heap.size = I := ⟨_, rfl⟩
 go_enter Tryz.func5, Tryz.ntmps5
 go_upto_region 2 with (fail)
 obtain ⟨W1, hW1⟩ : ∃ W, w.alloc (.cells #[.int .i64 0, .int .i64 5, .int .i64 10, .int .i64 15, .int .i64 21] 3) = W := ⟨_, rfl⟩
 obtain ⟨W2, hW2⟩ : ∃ W, W1.alloc (.cells #[.string ⟨#[48, 48]⟩, .string ⟨#[48, 49]⟩, .string ⟨#[49, 48]⟩, .string ⟨#[49, 49]⟩, .string ⟨#[48, 120]⟩] 9) = W := ⟨_, rfl⟩
 rw [hW1, hW2]
 have hs1 : W1.heap.size = I + 1 := by rw [← hW1, size_al, hI]
 have hs2 : W2.heap.size = I + 2 := by rw [← hW2, size_al, hs1]
 have hb1 : Below w.heap.size w W1 := by rw [← hW1]; exact (Below.refl _ _).alloc (Nat.le_refl _) _
 have hb2 : Below W1.heap.size W1 W2 := by rw [← hW2]; exact (Below.refl _ _).alloc (Nat.le_refl _) _
 have hT : InI W2 (some ⟨I, 0, none⟩) aT := InI.mono (w := W1) (by have := flat_new w (fun k => k < W1.heap.size) _ (ic aT) 3 rfl (by omega); rw [← hI, ← hW1]; rw [← hW1] at this; exact this) hb2
 have hV : InS W2 (some ⟨I + 1, 0, none⟩) aV := by have := flat_new W1 (fun k => k < W2.heap.size) _ (sc aV) 9 rfl (by omega); rw [← hs1, ← hW2]; rw [← hW2] at this; exact this
 have hb := bstep hb1 (Nat.le_refl _) hb2
 have H1 : Hid (Calls Tryz.prog 10 #[.slice (some ⟨I, 0, none⟩) 5 5] W2 fun e w' => e = .returned (.tuple #[.string (sB aA), .int .i64 0]) ∧ Below W2.heap.size W2 w') := Lib.hid (by
  have := tcE_walk aT (by decide) W2 (some ⟨I, 0, none⟩) 5 hT fun a ha => ⟨I, 0, by injection ha with ha; exact ha.symm⟩
  rw [aT_enc] at this; exact this)
 go_wp2_with fail
 refine (H1.out).mono ?_
 rintro x W3 ⟨rfl, hb3⟩
 have hV3 := hV.mono hb3
 have hb := bstep hb (Nat.le_refl _) hb3
 have H2 : Hid (Calls Tryz.prog 11 #[.int .i64 2, .slice (some ⟨I + 1, 0, none⟩) 5 5] W3 fun e w' => e = .returned (.tuple #[.string (sB aB), .int .i64 0]) ∧ Below W3.heap.size W3 w') := Lib.hid (by
  have := busE_walk 2 aV (by decide) (by decide) W3 (some ⟨I + 1, 0, none⟩) 5 hV3
  rw [aV_enc] at this; exact this)
 go_wp2_with fail
 refine (H2.out).mono ?_
 rintro x W4 ⟨rfl, hb4⟩
 have hV4 := hV3.mono hb4
 have hb := bstep hb (Nat.le_refl _) hb4
 obtain ⟨F, hF⟩ : ∃ F, W4.heap.size = F := ⟨_, rfl⟩
 obtain ⟨W5, hW5⟩ : ∃ W, W4.alloc (.cells #[.int .i64 1, .string (sB aA), .int .i64 2, .string (sB aB)] 39) = W := ⟨_, rfl⟩
 have hb5 : Below W4.heap.size W4 W5 := by rw [← hW5]; exact (Below.refl _ _).alloc (Nat.le_refl _) _
 have hs5 : W5.heap.size = F + 1 := by rw [← hW5, size_al, hF]
 have hFr : InFr W5 (some ⟨F, 0, none⟩) [((1 : Int), aA), ((2 : Int), aB)] := by have := flat_new W4 (fun k => k < W5.heap.size) _ (frs [((1 : Int), aA), ((2 : Int), aB)]) 39 rfl (by omega); rw [← hF, ← hW5]; rw [← hW5] at this; exact this
 have H3 : Hid (Calls Tryz.prog 12 #[.slice (some ⟨F, 0, none⟩) 2 2] W5 fun e w' => e = .returned (.tuple #[.string (sB aS), .int .i64 0]) ∧ Below W5.heap.size W5 w') := Lib.hid (by
  have := fenc_walk [((1 : Int), aA), ((2 : Int), aB)] (by decide) (by decide) W5 (some ⟨F, 0, none⟩) 2 hFr
  rw [aS_enc] at this; exact this)
 have hV5 := hV4.mono hb5
 have hb := bstep hb (Nat.le_refl _) hb5
 go_wp2_with fail
 try rw [hW5]
 refine (H3.out).mono ?_
 rintro x W6 ⟨rfl, hb6⟩
 have hV6 := hV5.mono hb6
 have hb := bstep hb (Nat.le_refl _) hb6
 have H4 := Lib.hid (fdec_walk aS (by decide) W6)
 go_wp2_with fail
 refine (H4.out).mono ?_
 rintro x W7 ⟨hb7, l, e, A, c, rfl, hl, -, -, -, hfull⟩
 obtain ⟨rfl, rfl⟩ := hfull _ aS_full
 have hV7 := hV6.mono hb7
 have hb := bstep hb (Nat.le_refl _) hb7
 obtain ⟨a, rfl, -, c0⟩ := infr_at hl (.refl _ _) (k := 0) (by decide)
 have H5 := Lib.hid (tcD_walk aA (by decide) 5 W7)
 have c0' : W7.cell? ⟨a.block, a.off + 1, none⟩ = some (.string (sB aA)) := by
  have : (a.add 0) = a := by simp [Addr.add]
  have h := c0
  rw [show 0 * 2 = 0 from rfl, this] at h
  exact h
 go_wp2_with fail
 refine (H5.out).mono ?_
 rintro x W8 ⟨hb8, l, e, A, d, rfl, hl8, -, -, -, hfull⟩
 obtain ⟨rfl, rfl⟩ := hfull _ aT_full
 have hV8 := hV7.mono hb8
 have hb := bstep hb (Nat.le_refl _) hb8
 obtain ⟨a', e', -, c1⟩ := infr_at hl hb8 (k := 1) (by decide)
 obtain rfl : a = a' := by injection e'
 have c1' : W8.cell? ⟨a.block, a.off + 2 + 1, none⟩ = some (.string (sB aB)) := c1
 have H6 := Lib.hid (bdec_walk 2 aB (by decide) 5 W8)
 go_wp2_with fail
 refine (H6.out).mono ?_
 rintro x W9 ⟨hb9, l, e, B, d', rfl, hl9, -, -, -, hfull⟩
 obtain ⟨rfl, rfl⟩ := hfull _ aV_full
 have hV9 := hV8.mono hb9
 have hb := bstep hb (Nat.le_refl _) hb9
 obtain ⟨a2, rfl, c2⟩ := InI.at hl8 hb9 (k := 4) (by decide)
 have H7 := Lib.hid (texts_walk aV (by decide) (by decide) W9 B (some ⟨I + 1, 0, none⟩) d' 5 hl9 hV9)
 have c2' : W9.cell? ⟨a2.block, a2.off + 4, none⟩ = some (.int .i64 21) := c2
 go_wp2_with fail
 refine (H7.out).mono ?_
 rintro x W10 ⟨rfl, hb10⟩
 have hb := bstep hb (Nat.le_refl _) hb10
 go_wp2_with fail
 go_ret
 exact ⟨rfl, hI ▸ hb⟩
end Go.Proofs.YtlmjefjimoghcaaGreat
