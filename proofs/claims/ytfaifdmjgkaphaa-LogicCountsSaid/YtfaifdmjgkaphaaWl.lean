import Derived.Test.YtfaifdmjgkaphaaWk
namespace Go.Proofs.Ytfaifdmjgkaphaa
open Go.RowKit
attribute [local go_sem ↓] Go.wp_at_zero Go.wp_at_succ

theorem qeq {P : Program} {f : FuncId} {args : Array Value} {w : World} {n : Nat} {v : Value}
    (h : Calls P f args (w.drewN n) fun e w' => e = .returned v ∧ w.drewN n = w') : Calls P f args (w.drewN n) fun e w'' => e = .returned v ∧ ∃ m, w'' = w.drewN m :=
  h.mono fun _ _ ⟨he, hm⟩ => ⟨he, n, hm.symm⟩
theorem conv1 (w : World) (x : Int) : (convert 26 9 (.slice (some ⟨w.heap.size, 0, none⟩) 1 1)).run Try.prog (w.alloc (.cells #[.int .u8 x] 5)) =
    .ok (.string ⟨#[UInt8.ofNat x.toNat]⟩) (w.alloc (.cells #[.int .u8 x] 5)) := by
  have := run_convert_bytes_arg (P := Try.prog) (w.alloc (.cells #[.int .u8 x] 5)) 26 5 Try.underlying26 Try.underlying5 w.heap.size 0 1 1 [x] rfl (by
    intro i hi
    rw [World.cell?_alloc_mark]
    match i, hi with
    | 0, _ => rfl) 9 Try.underlying9
  exact this
theorem valid_at (c : Nat) (b : Bool) (hc : c < 256) (h : rValid c = b) (w : World) : Calls Try.prog 15 #[.int .u8 c] w fun e w' => e = .returned (.bool b) ∧ w = w' := by
  subst h; exact valid_walk c hc w
theorem eq4 (a b c d : Int) (w : World) : (Op.equalIn 10000 34 (.agg #[.int .i64 a, .int .i64 b, .int .i64 c, .int .i64 d]) (.agg #[.int .i64 a, .int .i64 b, .int .i64 c, .int .i64 d])).run Try.prog w = .ok true w := by
  rw [run_equalIn_array (P := Try.prog) w 9999 (e := 3) (n := 4) _ _ Try.underlying34 rfl]
  rw [show List.range 4 = [0, 1, 2, 3] from rfl, show Try.prog.cellsOf 3 = 1 from rfl]
  simp [Op.eqItems, go_sem]
def tB (l : List UInt8) : ByteArray := ⟨(tl l).toArray⟩
theorem tB_size (l : List UInt8) : (tB l).size ≤ l.length := by
  show (tl l).toArray.size ≤ _
  rw [List.size_toArray]; unfold tl; rw [List.length_map]; exact List.length_filter_le _ _
theorem tB_snoc_v (l : List UInt8) (b : UInt8) (h : rValid b.toNat = true) : tB (l ++ [b]) = tB l ++ ⟨#[UInt8.ofNat (rInv b.toNat)]⟩ := by
  apply ByteArray.ext; apply Array.ext'; simp [tB, tl_snoc, h, iB]
theorem tB_snoc_n (l : List UInt8) (b : UInt8) (h : rValid b.toNat = false) : tB (l ++ [b]) = tB l := by
  unfold tB; rw [tl_snoc]; simp [h]
theorem nv_snoc_v (l : List UInt8) (b : UInt8) (h : rValid b.toNat = true) : nv (l ++ [b]) = nv l + 1 := by
  unfold nv; rw [cnt_snoc, cnt_snoc, cnt_snoc, cnt_snoc]
  rcases codes_of b.toNat with ⟨hv, hc⟩ | ⟨hv, ⟨_, hc⟩ | ⟨_, hc⟩ | ⟨_, hc⟩ | ⟨_, hc⟩⟩
  · rw [h] at hv; cases hv
  all_goals rw [hc]; simp; omega
theorem nv_snoc_n (l : List UInt8) (b : UInt8) (h : rValid b.toNat = false) : nv (l ++ [b]) = nv l := by
  unfold nv; rw [cnt_snoc, cnt_snoc, cnt_snoc, cnt_snoc]
  rcases codes_of b.toNat with ⟨hv, hc⟩ | ⟨hv, _⟩
  · rw [hc]; simp
  · rw [h] at hv; cases hv
theorem nv_le : ∀ l : List UInt8, nv l ≤ l.length
  | [] => Nat.le_refl _
  | b :: l => by
    have := nv_le l
    unfold nv at *
    rw [cnt_cons, cnt_cons, cnt_cons, cnt_cons, List.length_cons]
    rcases codes_of b.toNat with ⟨hv, hc⟩ | ⟨hv, ⟨_, hc⟩ | ⟨_, hc⟩ | ⟨_, hc⟩ | ⟨_, hc⟩⟩ <;> rw [hc] <;> simp <;> omega
theorem count_at (s : ByteArray) (a b c d : Nat) (hs : s.size ≤ 1000) (h : cnt s.data.toList 0 = a ∧ cnt s.data.toList 1 = b ∧ cnt s.data.toList 2 = c ∧ cnt s.data.toList 3 = d) (w : World) : Calls Try.prog 26 #[.string s] w fun e w' => e = .returned (.agg #[.int .i64 a, .int .i64 b, .int .i64 c, .int .i64 d]) ∧ Below w.heap.size w w' := by
  obtain ⟨rfl, rfl, rfl, rfl⟩ := h; exact count_walk s hs w
def K2 (w0 : World) (A B : Nat) (a b c d a' b' c' d' : Int) (w : World) : Prop := Below w0.heap.size w0 w ∧ C4 w A a b c d ∧ C4 w B a' b' c' d'
theorem rcount_at {w0 : World} {A B : Nat} {a' b' c' d' : Int} (s : ByteArray) (a b c d : Nat) (hs : s.size ≤ 1000) (h : cnt s.data.toList 0 = a ∧ cnt s.data.toList 1 = b ∧ cnt s.data.toList 2 = c ∧ cnt s.data.toList 3 = d) (w : World) (hK : K2 w0 A B a b c d a' b' c' d' w) : Calls Try.prog 27 #[.string s] w fun e w' => e = .returned (.agg #[.int .i64 a, .int .i64 b, .int .i64 c, .int .i64 d]) ∧ K2 w0 A B a b c d a' b' c' d' w' := by
  refine (rcount_walk s hs w).mono ?_
  rintro e w' ⟨rfl, hb⟩
  obtain ⟨rfl, rfl, rfl, rfl⟩ := h
  exact ⟨rfl, bstep hK.1 (Nat.le_refl _) hb, hK.2.1.below hb hK.2.1.lt, hK.2.2.below hb hK.2.2.lt⟩
theorem K2.drew {w0 : World} {A B : Nat} {a b c d a' b' c' d' : Int} {w : World} (h : K2 w0 A B a b c d a' b' c' d' w) : K2 w0 A B a b c d a' b' c' d' w.drew := ⟨h.1.drew, h.2⟩
theorem K2.cells {w0 : World} {A B : Nat} {a b c d a' b' c' d' : Int} {w : World} (h : K2 w0 A B a b c d a' b' c' d' w) : w.cell? ⟨A, 0, none⟩ = some (.int .i64 a) ∧ w.cell? ⟨A, 1, none⟩ = some (.int .i64 b) ∧ w.cell? ⟨A, 2, none⟩ = some (.int .i64 c) ∧ w.cell? ⟨A, 3, none⟩ = some (.int .i64 d) ∧ w.cell? ⟨B, 0, none⟩ = some (.int .i64 a') ∧ w.cell? ⟨B, 1, none⟩ = some (.int .i64 b') ∧ w.cell? ⟨B, 2, none⟩ = some (.int .i64 c') ∧ w.cell? ⟨B, 3, none⟩ = some (.int .i64 d') :=
  ⟨h.2.1.c0, h.2.1.c1, h.2.1.c2, h.2.1.c3, h.2.2.c0, h.2.2.c1, h.2.2.c2, h.2.2.c3⟩

set_option maxRecDepth 100000 in
set_option maxHeartbeats 2000000 in
theorem counts_law (s : ByteArray) (w : World) : Calls Try.prog 7 #[.string s] w fun e w' => e = .returned (.bool true) ∧ Below w.heap.size w w' := by
  by_cases h1 : 100 < s.size
  · have h1' : (100 : Int) < s.size := by omega
    go_enter Try.func7, Try.ntmps7
    go_wp2_with (go_at_call 10; refine (awake_walk _).mono ?_; rintro e w0 ⟨rfl, hb0⟩)
    go_ret
    exact ⟨rfl, hb0⟩
  · go_enter Try.func7, Try.ntmps7
    go_wp2_with (go_at_call 10; refine (awake_walk _).mono ?_; rintro e w0 ⟨rfl, hb0⟩)
    have HB0 := Lib.hid hb0
    clear hb0
    go_loopw [3, 4, 5] (fun x y i wr => ∃ k : Nat, k ≤ s.size ∧ x = .string (tB (s.data.toList.take k)) ∧ y = .int .i64 (nv (s.data.toList.take k) : Nat) ∧ i = .int .i64 k ∧ Below w.heap.size w wr) (fun _ _ i _ => s.size - (intOf i).toNat)
    case atStart => exact ⟨0, by omega, rfl, rfl, rfl, HB0.out⟩
    case round =>
      obtain ⟨k, hk, rfl, rfl, rfl, hb⟩ := hrel
      have HB := Lib.hid hb
      have ht1 := tB_size (s.data.toList.take k)
      have ht2 := nv_le (s.data.toList.take k)
      have ht3 : (s.data.toList.take k).length ≤ k := List.length_take_le _ _
      by_cases hlt : k < s.size
      · have HS := Lib.hid (take_snoc s k hlt)
        obtain ⟨x, hx⟩ : ∃ x, s[k] = x := ⟨_, rfl⟩
        have hxl := x.toNat_lt
        have HX := Lib.hid hx
        have hcv := fun x => conv1 wr x
        obtain ⟨tt, HTT⟩ : ∃ t, Hid (tB (s.data.toList.take k) = t) := ⟨_, Lib.hid rfl⟩
        obtain ⟨n, HN⟩ : ∃ t, Hid (nv (s.data.toList.take k) = t) := ⟨_, Lib.hid rfl⟩
        rw [HTT.out] at ht1
        rw [HN.out] at ht2
        rw [HTT.out, HN.out]
        have tb : tt.size ≤ 100 := by omega
        have nb : n ≤ 100 := by omega
        clear ht1 ht2 ht3 hb hx
        by_cases hv : rValid x.toNat = true
        · have HV := Lib.hid hv
          have hrl := rInv_lt x.toNat hxl
          have hii : ((rInv (rInv x.toNat) : Nat) : Int) = (x.toNat : Int) := by rw [inv_inv _ hv]
          have hne : ((x.toNat : Int) == (x.toNat : Int)) = true := by simp
          have HII := Lib.hid hii
          clear hii hv
          go_wp2_with fail
          rw [HX.out]
          refine (inv_at x.toNat hxl _).mono ?_; rintro e _ ⟨rfl, rfl⟩
          go_wp2_with fail
          rw [HX.out]
          refine (valid_at x.toNat true hxl HV.out _).mono ?_; rintro e _ ⟨rfl, rfl⟩
          go_wp2_with fail
          have hx := HX.out
          go_quiet (first | (go_at_call 22; refine qeq (inv_at (rInv x.toNat) hrl _)))
          rw [HII.out]
          go_wp2_with fail
          go_roundw
          case rel => exact ⟨k + 1, by omega, by rw [HS.out, HX.out, tB_snoc_v _ _ HV.out, HTT.out], by rw [HS.out, HX.out, nv_snoc_v _ _ HV.out, HN.out]; go_num, by go_num, below_drewN (HB.out.alloc HB.out.size _) _⟩
          case measure => simp [intOf]; omega
        · have HV := Lib.hid (show rValid x.toNat = false by simpa using hv)
          clear hv
          go_wp2_with fail
          rw [HX.out]
          refine (inv_at x.toNat hxl _).mono ?_; rintro e _ ⟨rfl, rfl⟩
          go_wp2_with fail
          rw [HX.out]
          refine (valid_at x.toNat false hxl HV.out _).mono ?_; rintro e _ ⟨rfl, rfl⟩
          go_wp2_with fail
          go_wp2_with fail
          go_roundw
          case rel => exact ⟨k + 1, by omega, by rw [HS.out, HX.out, tB_snoc_n _ _ HV.out, HTT.out], by rw [HS.out, HX.out, nv_snoc_n _ _ HV.out, HN.out], by go_num, HB.out⟩
          case measure => simp [intOf]; omega
      · obtain rfl : s.size = k := by omega
        have HTA : s.data.toList.take s.size = s.data.toList := List.take_of_length_le (by simp)
        rw [HTA] at ht1 ht2 ht3 ⊢
        obtain ⟨q0, q1, q2, q3⟩ := cnt_tl s.data.toList
        obtain ⟨c0, e0⟩ : ∃ c, cnt s.data.toList 0 = c := ⟨_, rfl⟩
        obtain ⟨c1, e1⟩ : ∃ c, cnt s.data.toList 1 = c := ⟨_, rfl⟩
        obtain ⟨c2, e2⟩ : ∃ c, cnt s.data.toList 2 = c := ⟨_, rfl⟩
        obtain ⟨c3, e3⟩ : ∃ c, cnt s.data.toList 3 = c := ⟨_, rfl⟩
        have hn : nv s.data.toList = c0 + c1 + c2 + c3 := by unfold nv; rw [e0, e1, e2, e3]
        rw [hn] at ht2 ⊢
        have HE : Hid (cnt s.data.toList 0 = c0 ∧ cnt s.data.toList 1 = c1 ∧ cnt s.data.toList 2 = c2 ∧ cnt s.data.toList 3 = c3) := Lib.hid ⟨e0, e1, e2, e3⟩
        obtain ⟨tt, HTT⟩ : ∃ t, Hid (tB s.data.toList = t) := ⟨_, Lib.hid rfl⟩
        have HF : Hid (cnt tt.data.toList 0 = c1 ∧ cnt tt.data.toList 1 = c0 ∧ cnt tt.data.toList 2 = c2 ∧ cnt tt.data.toList 3 = c3) := Lib.hid (by
          have e := HTT.out; subst e; exact ⟨q0.trans e1, q1.trans e0, q2.trans e2, q3.trans e3⟩)
        rw [HTT.out] at ht1 ⊢
        have ts : tt.size ≤ 1000 := by omega
        have ss : s.size ≤ 1000 := by omega
        have z1 : IntKind.i64.wrap ((c0 : Int) + (c1 : Int)) = (c0 : Int) + (c1 : Int) := IntWalk.i64_in _ (by omega)
        have z2 : IntKind.i64.wrap ((c0 : Int) + (c1 : Int) + (c2 : Int)) = (c0 : Int) + (c1 : Int) + (c2 : Int) := IntWalk.i64_in _ (by omega)
        have z3 : IntKind.i64.wrap ((c0 : Int) + (c1 : Int) + (c2 : Int) + (c3 : Int)) = (c0 : Int) + (c1 : Int) + (c2 : Int) + (c3 : Int) := IntWalk.i64_in _ (by omega)
        clear e0 e1 e2 e3 q0 q1 q2 q3 hn ht1 ht2 ht3 hb HTA
        go_wp2_with fail
        refine (count_at s c0 c1 c2 c3 ss HE.out _).mono ?_; rintro e w1 ⟨rfl, hb1⟩
        have HB1 := Lib.hid (bstep HB.out (Nat.le_refl _) hb1)
        clear hb1
        go_wp2_with fail
        refine (count_at tt c1 c0 c2 c3 ts HF.out _).mono ?_; rintro e w2 ⟨rfl, hb2⟩
        have HB2 := Lib.hid (bstep HB1.out (Nat.le_refl _) hb2)
        clear hb2
        go_wp2_with fail
        have hK1 : K2 w w2.heap.size (w2.heap.size + 1) c0 c1 c2 c3 c1 c0 c2 c3 ((w2.alloc (.cells #[.int .i64 c0, .int .i64 c1, .int .i64 c2, .int .i64 c3] 34)).alloc (.cells #[.int .i64 c1, .int .i64 c0, .int .i64 c2, .int .i64 c3] 34)) := by
          refine ⟨(HB2.out.alloc HB2.out.size _).alloc (by have := HB2.out.size; simp; omega) _, (Below.heap_alloc _ _ _ (by simp)).trans (heap_alloc_new _ _), ?_⟩
          rw [show w2.heap.size + 1 = (w2.alloc (.cells #[.int .i64 c0, .int .i64 c1, .int .i64 c2, .int .i64 c3] 34)).heap.size by simp]; exact heap_alloc_new _ _
        have hK2 := hK1.drew
        clear hK1
        have hKd := hK2
        have heq := eq4 c0 c1 c2 c3
        go_region_held3 (fun w' => w'.cell? ⟨w2.heap.size, 0, none⟩ = some (.int .i64 c0) ∧ w'.cell? ⟨w2.heap.size, 1, none⟩ = some (.int .i64 c1) ∧ w'.cell? ⟨w2.heap.size, 2, none⟩ = some (.int .i64 c2) ∧ w'.cell? ⟨w2.heap.size, 3, none⟩ = some (.int .i64 c3) ∧ w'.cell? ⟨w2.heap.size + 1, 0, none⟩ = some (.int .i64 c1) ∧ w'.cell? ⟨w2.heap.size + 1, 1, none⟩ = some (.int .i64 c0) ∧ w'.cell? ⟨w2.heap.size + 1, 2, none⟩ = some (.int .i64 c2) ∧ w'.cell? ⟨w2.heap.size + 1, 3, none⟩ = some (.int .i64 c3)) (first | exact K2.cells (by assumption)) (first | (go_at_call 27; (with_reducible refine (rcount_at (w0 := w) (A := w2.heap.size) (B := w2.heap.size + 1) (a' := c1) (b' := c0) (c' := c2) (d' := c3) s c0 c1 c2 c3 ss HE.out _ ?_).mono ?_); assumption; rintro e w3 ⟨rfl, hK3⟩))
        have HK3 := Lib.hid hK3
        clear hK3 hKd hK2
        go_wp2_with fail
        go_ret
        exact ⟨rfl, HK3.out.1⟩
theorem counts_in (s : ByteArray) (_ : s.size ≤ maxLen) (w : World) : Calls Try.prog 7 #[.string s] w fun e w' => e = .returned (.bool true) ∧ Below w.heap.size w w' := counts_law s w
end Go.Proofs.Ytfaifdmjgkaphaa
