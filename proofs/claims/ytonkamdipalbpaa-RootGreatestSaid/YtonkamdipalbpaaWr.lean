import Derived.Test.YtonkamdipalbpaaWq
import Derived.Deep.Strs
namespace Go.Proofs.Ytonkamdipalbpaa
open Go.RowKit Go.ChangeShapes Go.WideShapes Go.ChangeAt

theorem Strs.alloc {w : World} {N : Nat} {A : Option Addr} {ss : List ByteArray} (h : Strs w N A ss) (hN : N ≤ w.heap.size) (o : Obj) : Strs (w.alloc o) N A ss := fun i hi => by
  obtain ⟨a, h1, h2, h3⟩ := h i hi
  exact ⟨a, h1, h2, (World.cell?_alloc_lt w o _ (by rw [add_block]; omega)).trans h3⟩
theorem Strs.more {w : World} {N M : Nat} {A : Option Addr} {ss : List ByteArray} (h : Strs w N A ss) (hN : N ≤ M) : Strs w M A ss := fun i hi => by
  obtain ⟨a, h1, h2, h3⟩ := h i hi
  exact ⟨a, h1, by omega, h3⟩
set_option maxRecDepth 100000 in
set_option maxHeartbeats 2000000 in
theorem choose_law (A : Option Addr) (c0 n0 : Nat) (ss : List ByteArray) (hn : ss.length = n0) (hm : n0 ≤ maxLen) (w : World) (h : Strs w w.heap.size A ss) : Calls Try.prog 9 #[.slice A n0 c0] w fun e w' => e = .returned (.bool true) ∧ Below w.heap.size w w' := by
  obtain ⟨⟨⟨n, s, l, c⟩, e⟩, hr⟩ : ∃ r, chooseF ss = r := ⟨_, rfl⟩
  unfold maxLen at hm
  have HR := Lib.hid hr
  have HH := Lib.hid h
  have HN := Lib.hid hn
  clear hr h hn
  go_enter Try.func9, Try.ntmps9
  go_wp2_with fail
  refine (awake_walk _).mono ?_; rintro e0 w0 ⟨rfl, hb⟩
  have HS0 := Lib.hid (HH.out.below hb (Nat.le_refl _))
  have HB0 := Lib.hid hb
  clear hb
  go_wp2_with fail
  go_loop [13] (fun i => ∃ k : Nat, k ≤ n0 ∧ i = .int .i64 k) (fun i => n0 - (intOf i).toNat)
  case atStart => exact ⟨0, by omega, rfl⟩
  case round =>
    obtain ⟨k, hk, rfl⟩ := hrel
    by_cases hlt : k < n0
    · have HLT := Lib.hid hlt
      obtain ⟨a, rfl, hab, hca⟩ := HS0.out k (by rw [HN.out]; exact hlt)
      obtain ⟨x, hx⟩ : ∃ x, ss.getD k ⟨#[]⟩ = x := ⟨_, rfl⟩
      rw [hx] at hca
      clear hx hab
      by_cases hs : 100 < x.size
      · have hs' : (100 : Int) < x.size := by omega
        go_wp2_with fail
        go_ret
        exact ⟨rfl, HB0.out⟩
      · have hs' : ¬ (100 : Int) < x.size := by omega
        go_wp2_with fail
        go_round
        case rel => exact ⟨k + 1, HLT.out, by go_num⟩
        case measure => have := HLT.out; simp [intOf]; omega
    · obtain rfl : k = n0 := by omega
      by_cases h6 : 6 < k
      · have h6' : (6 : Int) < k := by omega
        go_wp2_with fail
        go_ret
        exact ⟨rfl, HB0.out⟩
      · have h6' : ¬ (6 : Int) < k := by omega
        go_wp2_with fail
        refine (choose_walk A c0 k ss n s l c e HR.out HN.out _ (HS0.out.more HB0.out.size)).mono ?_; rintro e1 w1 ⟨rfl, hb⟩
        have HS1 := Lib.hid ((HS0.out.more HB0.out.size).below hb (Nat.le_refl _))
        have HB1 := Lib.hid (step_b HB0.out hb)
        have hsz : w0.heap.size ≤ w1.heap.size := hb.size
        clear hb
        go_wp2_with fail
        refine (rchoose_walk A c0 k ss n s l c e HR.out HN.out _ ((HS1.out.alloc hsz _).more (by simp; omega))).mono ?_; rintro e2 w2 ⟨rfl, hb⟩
        have hX : Box w2 w1.heap.size n s l c := (hb.block _ (by simp)).trans (heap_alloc_new _ _)
        have x0 := hX.c0
        have x1 := hX.c1
        have x2 := hX.c2
        have x3 := hX.c3
        have xl := hX.lt
        have HB2 := Lib.hid (step_b (HB1.out.alloc HB1.out.size _) hb)
        clear hb hX
        go_wp2_with fail
        go_ret
        exact ⟨rfl, HB2.out.alloc HB2.out.size _⟩
theorem cells9 : Try.prog.cellsOf 9 = 1 := by kernel_rfl
theorem cells40 : Try.prog.cellsOf 40 = 1 := by kernel_rfl
section
variable {H : Type} {enc : TypeId × Value → H} {w : World} {base b0 : Nat} {held : Bool}
theorem slice_of {P : Program} {r : Reach} {v u : Value} {t e : TypeId} (ht : P.underlying t = some (.slice e)) (hv : Value.okWide P w r b0 t v) (h : v.cells.toList = [u]) : v = u := by
  cases v with
  | agg cs => simp [Value.okWide, ht, Cell.okWide, Cell.ok] at hv
  | _ => simpa [Value.cells] using h
theorem open_texts {r : Reach} {v : Value} {d : DataW H} {p : List MemPlace} (hv : Value.okWide Try.prog w r b0 40 v) (h : DataW.Trod enc Try.prog w base (fun _ => true) held 40 v d p) : ∃ (A : Option Addr) (n c : Nat) (ss : List ByteArray), v = .slice A n c ∧ ss.length = n ∧ n ≤ maxLen ∧ Strs w w.heap.size A ss := by
  obtain ⟨fuel, hf⟩ := h
  rcases Deep.open_strs Try.underlying40 Try.underlying9 cells9 hf with ⟨h1, _⟩ | ⟨a, len, cap, m, Sx, h1, _, hlc, hcm, hm, _, hcell⟩
  · exact ⟨none, 0, 0, [], slice_of Try.underlying40 hv h1, rfl, Nat.zero_le _, fun i hi => absurd hi (by simp)⟩
  · refine ⟨some a, len, cap, (List.range len).map Sx, slice_of Try.underlying40 hv h1, by simp, by omega, fun i hi => ?_⟩
    have hi' : i < len := by simpa using hi
    have hc := (hcell i (by rw [hm, if_pos rfl]; omega)).1
    refine ⟨a, rfl, ?_, ?_⟩
    · have := block_lt_of_cell hc
      rwa [add_block] at this
    · rw [hc]; simp [List.getD, hi']
theorem choose_in {d : DataW H} {p : List MemPlace} (v : Value) (h : DataW.Trod enc Try.prog w base (fun _ => true) held 40 v d p) (hv : Value.okWide Try.prog w .any b0 40 v) : Calls Try.prog 9 #[v] w fun e w' => e = .returned (.bool true) ∧ Below w.heap.size w w' := by
  obtain ⟨A, n, c, ss, rfl, hn, hm, hS⟩ := open_texts hv h
  exact choose_law A c n ss hn hm w hS
end
end Go.Proofs.Ytonkamdipalbpaa
