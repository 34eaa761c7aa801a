/- A part of the proofs of TopCounter and TopStrict: what the functions of the program do, each walked once, and plain laws about it. No condition. -/
import Derived.Test.YtlmjefjimoghcaaGreatA34
namespace Go.Proofs.YtlmjefjimoghcaaGreat
set_option linter.unusedSimpArgs false
set_option linter.unnecessarySimpa false
set_option linter.unusedVariables false
open Go.RowKit
attribute [local go_sem ↓] Go.wp_at_zero Go.wp_at_succ
set_option maxRecDepth 100000 in
theorem words_walk (n : Int) (o : List Str) (hl : o.length ≤ 100000) (hs : ∀ s ∈ o, s.length ≤ 100000) (w : World) (A : Option Addr) (c : Nat) (hF : InS w A o) : Calls Tryz.prog 125 #[.agg #[.int .i64 n], .slice A o.length c] w fun e w' => e = .returned (.tuple #[.string (sB (encRL (o.map shortV)).1), .bool true]) ∧ Below w.heap.size w w' := by
 obtain ⟨W0, hW0⟩ : ∃ W, w.alloc (.cells #[.int .i64 n] 109) = W := ⟨_, rfl⟩
 have hb0 : Below w.heap.size w W0 := by rw [← hW0]; exact (Below.refl _ _).alloc (Nat.le_refl _) _
 have HSh := Lib.hid (short_walk o hl hs W0 A c (hF.mono hb0))
 have HB0 := Lib.hid hb0
 have HW0 := Lib.hid hW0
 have HOl := Lib.hid hl
 clear hF hb0 hW0 hs hl
 go_enter Tryz.func125, Tryz.ntmps125
 go_upto_region 1 with (fail)
 rw [HW0.out]
 go_wp2_with fail
 refine (HSh.out).mono ?_
 rintro x w1 ⟨hb1, A1, c1, rfl, hi1⟩
 have HB1 := Lib.hid (bstep HB0.out (Nat.le_refl _) hb1)
 have hr := fun w h => encRL_walk (o.map shortV) (by rw [List.length_map]; exact HOl.out) w A1 c1 h
 rw [List.length_map] at hr
 have HR := Lib.hid (hr w1 hi1)
 clear hb1 hi1 hr
 go_wp2_with fail
 refine (HR.out).mono ?_
 rintro x w2 ⟨rfl, hb2⟩
 have HB2 := Lib.hid (bstep HB1.out (Nat.le_refl _) hb2)
 clear hb2
 go_wp2_with fail
 go_ret2
 exact ⟨rfl, HB2.out⟩
def mixK : Str → List Str → List Str
 | _, [] => []
 | last, s :: r => List.zipWith mixC s last :: mixK s r
theorem mixK_len : ∀ (l : List Str) (last : Str), (mixK last l).length = l.length
 | [], _ => rfl
 | s :: r, _ => by simp [mixK, mixK_len r s]
def mixedF (n : Nat) (l : List Str) : List UInt8 := (encRL ((mixK (List.replicate n 48) l).map shortV)).1
theorem mixK_snoc : ∀ (l : List Str) (last s : Str), mixK last (l ++ [s]) = mixK last l ++ [List.zipWith mixC s (l.getLastD last)]
 | [], _, _ => rfl
 | t :: r, last, s => by
  show _ :: mixK t (r ++ [s]) = _ :: (mixK t r ++ _)
  rw [mixK_snoc r t s]
  cases r <;> rfl
theorem mixK_b : ∀ (l : List Str) (last : Str) (n : Nat), last.length ≤ n → (∀ s ∈ mixK last l, s.length ≤ n ∨ ∃ t ∈ l, s.length ≤ t.length)
 | [], _, _, _, s, hs => by cases hs
 | t :: r, last, n, hn, s, hs => by
  simp only [mixK, List.mem_cons] at hs
  rcases hs with rfl | hs
  ·exact .inr ⟨t, by simp, by rw [List.length_zipWith]; omega⟩
  ·rcases mixK_b r t t.length (Nat.le_refl _) s hs with h | ⟨u, hu, h⟩
   ·exact .inr ⟨t, by simp, h⟩
   ·exact .inr ⟨u, by simp [hu], h⟩
def MxR (w : World) (G n : Nat) (l : List Str) (v i : Value) (wr : World) : Prop := ∃ (k : Nat) (last : Str), i = .int .i64 (k : Int) ∧ v = .string (sB last) ∧ k ≤ l.length ∧ last = (l.take k).getLastD (List.replicate n 48) ∧ isV last = true ∧ last.length = n ∧ SRow wr G (mixK (List.replicate n 48) (l.take k) ++ List.replicate (l.length - k) []) ∧ Below w.heap.size w wr
theorem isV_zeros (n : Nat) (h1 : 1 ≤ n) (h128 : n ≤ 128) : isV (List.replicate n 48) = true := by
 unfold isV
 rw [List.length_replicate, decide_eq_true h128]
 have e : (List.replicate n (48 : UInt8)).isEmpty = false := by cases n with | zero => omega | succ n => rfl
 rw [e]
 simp only [Bool.not_false, Bool.true_and]
 rw [List.all_eq_true]
 intro x hx
 rw [List.eq_of_mem_replicate hx]; decide
set_option maxRecDepth 100000 in
set_option maxHeartbeats 1000000 in
theorem mixed_walk (n : Nat) (h1 : 1 ≤ n) (h128 : n ≤ 128) (l : List Str) (hl : l.length ≤ 100000) (hs : ∀ s ∈ l, isV s = true ∧ s.length = n) (w : World) (A : Option Addr) (c : Nat) (hF : InS w A l) : Calls Tryz.prog 124 #[.agg #[.int .i64 (n : Int)], .slice A l.length c] w fun e w' => e = .returned (.tuple #[.string (sB (mixedF n l)), .bool true]) ∧ Below w.heap.size w w' := by
 have hb0 : Below w.heap.size w (w.alloc (.cells #[.int .i64 (n : Int)] 109)) := (Below.refl _ _).alloc (Nat.le_refl _) _
 obtain ⟨W, hrun, hrow, hbw⟩ := made_srow (w.alloc (.cells #[.int .i64 (n : Int)] 109)) l.length hl
 have hcell := heap_alloc_new w (.cells #[.int .i64 (n : Int)] 109)
 rw [World.size_alloc] at hbw hrow hrun
 have hce : W.heap[w.heap.size]? = some (.cells #[.int .i64 (n : Int)] 109 (0, 0)) := (hbw.block _ (by omega)).trans hcell
 have cn := (one_cell hce).1
 have HF := Lib.hid hF
 have HS := Lib.hid hs
 have HR0 := Lib.hid hrow
 have HB0 : Hid (Below w.heap.size w W) := Lib.hid (hb0.trans (hbw.mono (by omega)))
 have hli : (l.length : Int) ≤ 100000 := by omega
 have HAl := Lib.hid (all_walk n h1 h128)
 have HZ := Lib.hid (isV_zeros n h1 h128)
 have HZl : Hid ((List.replicate n (48 : UInt8)).length = n) := Lib.hid (by simp)
 have HLl := Lib.hid hl
 have H128 := Lib.hid h128
 clear hF hl hs hrow hbw hb0 h1 h128 hcell hce
 go_enter Tryz.func124, Tryz.ntmps124
 go_wp2_with fail
 clear hrun
 refine (HAl.out _).mono ?_
 rintro x w1 ⟨rfl, hb1⟩
 have HR1 := Lib.hid (HR0.out.mono hb1)
 have HB1 := Lib.hid (bstep HB0.out (Nat.le_refl _) hb1)
 clear hb1 cn
 go_wp2_with fail
 go_loopw [7, 20] (fun v i wr => MxR w (w.heap.size + 1) n l v i wr) (fun _ i _ => ((l.length : Int) - intOf i).toNat)
 case atStart => exact ⟨0, List.replicate n 48, rfl, rfl, Nat.zero_le _, rfl, HZ.out, HZl.out, by rw [List.take_zero, Nat.sub_zero]; exact HR1.out, HB1.out⟩
 case round =>
  obtain ⟨k, last, rfl, rfl, hk, hla, hlv, hln, hr, hb⟩ := hrel
  have HB := Lib.hid hb
  have HR := Lib.hid hr
  have HLa := Lib.hid hla
  by_cases hlt : k < l.length
  ·have hki : (k : Int) < l.length := by omega
   obtain ⟨a, rfl, c0⟩ := HF.out.at hb hlt
   obtain ⟨s, hsk⟩ : ∃ s, l.getD k default = s := ⟨_, rfl⟩
   rw [hsk] at c0
   have hsv := HS.out s (by rw [← hsk]; exact List.mem_of_getElem? (get_default hlt))
   have HSv := Lib.hid hsv
   have HMx := Lib.hid (mix_walk s last hsv.1 hlv (by omega))
   have HT : Hid (mixK (List.replicate n 48) (l.take (k + 1)) = mixK (List.replicate n 48) (l.take k) ++ [List.zipWith mixC s last] ∧ (l.take (k + 1)).getLastD (List.replicate n 48) = s) := Lib.hid (by
    rw [take_getDS hlt, hsk, mixK_snoc, ← hla]
    exact ⟨rfl, List.getLastD_concat ..⟩)
   have hml : (mixK (List.replicate n 48) (l.take k)).length = k := by rw [mixK_len, List.length_take]; omega
   obtain ⟨xs, hxs⟩ : ∃ xs, mixK (List.replicate n 48) (l.take k) = xs := ⟨_, rfl⟩
   rw [hxs] at HT HR hml
   have HMl := Lib.hid hml
   have HP := Lib.hid fun v => puts_row (n := l.length) hml hlt v
   clear hr hb hk hsk hla hlv hln hsv hml hxs
   go_wp2_with fail
   refine (HMx.out _).mono ?_
   rintro x w2 ⟨rfl, hb2⟩
   have hr1 := HR.out.mono hb2
   have g0 := hr1.cell (i := k) (by rw [List.length_append, List.length_replicate, HMl.out]; omega)
   have gf := hr1.fr k
   have hset := hr1.set k (List.zipWith mixC s last)
   rw [HP.out] at hset
   have HSet := Lib.hid hset
   have HB2 := Lib.hid (bstep HB.out (Nat.le_refl _) hb2)
   clear hb2 hr1 hset
   go_wp2_with fail
   go_roundw
   case rel => exact ⟨k + 1, s, by go_num, rfl, by omega, HT.out.2.symm, HSv.out.1, HSv.out.2, by rw [HT.out.1]; exact HSet.out, HB2.out.setCell (p := ⟨w.heap.size + 1, k, none⟩) (Nat.le_succ _) _⟩
   case measure => simp [intOf]; omega
  ·obtain rfl : k = l.length := by omega
   rw [Nat.sub_self, List.replicate_zero, List.append_nil, List.take_length] at hr
   obtain ⟨o, ho⟩ : ∃ o, mixK (List.replicate n 48) l = o := ⟨_, rfl⟩
   have hol : o.length = l.length := by rw [← ho]; exact mixK_len _ _
   have hob : ∀ s ∈ o, s.length ≤ 100000 := by
    rw [← ho]
    intro s hs
    have hz := HZl.out
    have h128 := H128.out
    rcases mixK_b l (List.replicate n 48) n (by omega) s hs with h | ⟨t, ht, h⟩
    ·omega
    ·have := (HS.out t ht).2; omega
   rw [ho] at hr
   have hll := HLl.out
   have HOl : Hid (o.length ≤ 100000) := Lib.hid (by omega)
   have hsh := short_walk o HOl.out hob wr (some ⟨w.heap.size + 1, 0, none⟩) l.length (srow_in hr)
   rw [hol] at hsh
   have HSh := Lib.hid hsh
   have HM : Hid (mixedF n l = (encRL (o.map shortV)).1) := Lib.hid (by rw [← ho]; rfl)
   have HB0 := HB
   have HOe := Lib.hid hol
   clear hr hb hk hla hlv hln ho hol hob hll hsh
   go_wp2_with fail
   refine (HSh.out).mono ?_
   rintro x w1 ⟨hb1, A1, c1, rfl, hi1⟩
   have HB1 := Lib.hid (bstep HB0.out (Nat.le_refl _) hb1)
   have hr := fun w h => encRL_walk (o.map shortV) (by rw [List.length_map]; exact HOl.out) w A1 c1 h
   rw [List.length_map, HOe.out] at hr
   have HR := Lib.hid (hr w1 hi1)
   clear hb1 hi1 hr
   go_wp2_with fail
   refine (HR.out).mono ?_
   rintro x w2 ⟨rfl, hb2⟩
   have HB2 := Lib.hid (bstep HB1.out (Nat.le_refl _) hb2)
   clear hb2
   go_wp2_with fail
   go_ret2
   rw [HM.out]
   exact ⟨rfl, HB2.out⟩
end Go.Proofs.YtlmjefjimoghcaaGreat
