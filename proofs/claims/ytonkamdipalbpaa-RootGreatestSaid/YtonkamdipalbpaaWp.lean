import Derived.Test.YtonkamdipalbpaaWo
import Derived.RegionTactic
import Derived.BigRegion
namespace Go.Proofs.Ytonkamdipalbpaa
open Go.RowKit Go.ChangeShapes Go.WideShapes Go.ChangeAt
attribute [local go_sem ↓] Go.wp_at_zero Go.wp_at_succ

/-- block B is a row of bytes that begins with l, and none of these is frozen -/
def CRow (w : World) (B : Nat) (l : List UInt8) : Prop :=
  ∃ (cs : Array Value) (fz : Nat), w.heap[B]? = some (.cells cs 5 (fz, fz + 1)) ∧ l.length ≤ cs.size ∧ cs.size ≤ fz ∧ ∀ i, i < l.length → cs[i]? = some (.int .u8 (((l.getD i 0).toNat : Nat) : Int))
theorem CRow.cell {w : World} {B : Nat} {l : List UInt8} (h : CRow w B l) (i : Nat) (hi : i < l.length) : w.cell? ⟨B, i, none⟩ = some (.int .u8 (((l.getD i 0).toNat : Nat) : Int)) := by
  obtain ⟨cs, fz, h1, h2, h3, h4⟩ := h
  rw [cell_of_row w B i cs _ _ h1, h4 i hi]
theorem CRow.frozen {w : World} {B : Nat} {l : List UInt8} (h : CRow w B l) (i : Nat) (hi : i < l.length) : w.frozen? ⟨B, i, none⟩ = false := by
  obtain ⟨cs, fz, h1, h2, h3, h4⟩ := h
  simp only [World.frozen?, h1]
  simp; omega
theorem CRow.drew {w : World} {B : Nat} {l : List UInt8} (h : CRow w B l) : CRow w.drew B l := h
theorem CRow.lt {w : World} {B : Nat} {l : List UInt8} (h : CRow w B l) : B < w.heap.size := by
  obtain ⟨cs, fz, h1, _⟩ := h
  exact (Array.getElem?_eq_some_iff.1 h1).1
theorem CRow.block {w w' : World} {B : Nat} {l : List UInt8} (h : CRow w B l) (e : w'.heap[B]? = w.heap[B]?) : CRow w' B l := by
  obtain ⟨cs, fz, h1, h2⟩ := h
  exact ⟨cs, fz, by rw [e]; exact h1, h2⟩
theorem CRow.alloc {w : World} {B : Nat} {l : List UInt8} (h : CRow w B l) (o : Obj) : CRow (w.alloc o) B l := h.block (Below.heap_alloc w o B h.lt)
theorem CRow.set_ {w : World} {B : Nat} {l : List UInt8} (h : CRow w B l) (k : Nat) (hk : k < l.length) (b : UInt8) (x : Int) (hx : x = b.toNat) : CRow (w.setCell ⟨B, k, none⟩ (.int .u8 x)) B (l.set k b) := by
  obtain ⟨cs, fz, h1, h2, h3, h4⟩ := h
  subst hx
  refine ⟨_, fz, heap_setCell_any w B k cs _ _ _ h1, by simpa using h2, by simpa using h3, fun i hi => ?_⟩
  have hi' : i < l.length := by simpa using hi
  rw [Array.getElem?_setIfInBounds, List.getD_eq_getElem?_getD, List.getElem?_set]
  by_cases hik : k = i
  · subst hik
    rw [if_pos rfl, if_pos (by omega), if_pos rfl, if_pos hk]; rfl
  · rw [if_neg hik, if_neg hik, h4 i hi', List.getD_eq_getElem?_getD]
theorem CRow.str {w : World} {B : Nat} {l : List UInt8} (h : CRow w B l) (cap n : Nat) (hn : n = l.length) : (convert 37 9 (.slice (some ⟨B, 0, none⟩) n cap)).run Try.prog w = .ok (.string (bA l)) w := by
  subst hn
  exact run_convert_bytes_back (P := Try.prog) w 37 9 5 ⟨B, 0, none⟩ cap l Try.underlying37 Try.underlying5 Try.underlying9 (by
    intro j hj
    have hadd : (⟨B, 0, none⟩ : Addr).add j = ⟨B, j, none⟩ := by unfold Addr.add; split <;> simp_all
    rw [hadd, h.cell j hj]
    simp [List.getD, hj])
theorem u8_row (s : ByteArray) (cap i : Nat) (hi : i < s.size) : (bytesRow s cap)[i]? = some (.int .u8 (((s.data.toList.getD i 0).toNat : Nat) : Int)) := by
  have hi' : i < s.data.size := hi
  unfold bytesRow
  rw [Array.getElem?_append_left (by simpa using hi')]
  simp [List.getD, Array.getElem?_eq_getElem hi']
theorem CRow.new (w : World) (s : ByteArray) (cap : Nat) (lo : Nat) (hlo : lo = (bytesRow s cap).size) : CRow (w.alloc (.cells (bytesRow s cap) 5 (lo, lo + 1))) w.heap.size s.data.toList := by
  subst hlo
  refine ⟨_, _, heap_alloc_new _ _, by simp [bytesRow], Nat.le_refl _, fun i hi => u8_row s cap i (by simpa using hi)⟩
/-- the damage, its first bytes -/
def dmL (l : List UInt8) (k : Nat) (ms : List UInt8) : Nat → List UInt8
  | 0 => l
  | j + 1 => (dmL l k ms j).set (k + j) ((dmL l k ms j).getD (k + j) 0 ^^^ ms.getD j 0)
theorem dmL_length (l : List UInt8) (k : Nat) (ms : List UInt8) (j : Nat) : (dmL l k ms j).length = l.length := by
  induction j with
  | zero => rfl
  | succ j ih => simp [dmL, ih]
theorem dmL_four (A Z : List UInt8) (w0 w1 w2 w3 a b c d : UInt8) : dmL (A ++ ([w0, w1, w2, w3] ++ Z)) A.length [a, b, c, d] 4 = A ++ ([w0 ^^^ a, w1 ^^^ b, w2 ^^^ c, w3 ^^^ d] ++ Z) := by
  simp [dmL, List.set_append_right, List.getD, List.getElem?_append_right]
theorem xor_self_ne {w a : UInt8} (h : w ^^^ a = w) : a = 0 := by
  have h1 : w ^^^ (w ^^^ a) = w ^^^ w := by rw [h]
  rwa [← UInt8.xor_assoc, UInt8.xor_self, UInt8.zero_xor] at h1
theorem dm_dec (n s l c k : Nat) (hk : k ≤ 60) (a b cc d : UInt8) (hne : ¬ (a = 0 ∧ b = 0 ∧ cc = 0 ∧ d = 0)) (hv : validI n s l c = true) (p : Int) (hp : ¬ (p < 0 ∨ 3 < p)) : decV (dmL (encL n s l c) k [a, b, cc, d] 4) p = ((0, 0, 0, 0), 12) := by
  apply decV_bad _ _ hp
  have hlen := encL_length n s l c
  have e1 := split3 (encL n s l c) k 4
  have hA : ((encL n s l c).take k).length = k := by rw [List.length_take]; omega
  obtain ⟨w0, w1, w2, w3, hw⟩ := four (mid_length (encL n s l c) k 4 (by omega))
  rw [hw] at e1
  have e2 : dmL (encL n s l c) k [a, b, cc, d] 4 = (encL n s l c).take k ++ ([w0 ^^^ a, w1 ^^^ b, w2 ^^^ cc, w3 ^^^ d] ++ (encL n s l c).drop (k + 4)) := by
    have := dmL_four ((encL n s l c).take k) ((encL n s l c).drop (k + 4)) w0 w1 w2 w3 a b cc d
    rw [hA, ← e1] at this
    exact this
  rw [e2]
  refine damage hv e1 rfl rfl ?_
  intro h
  simp only [List.cons.injEq, and_true] at h
  obtain ⟨h0, h1, h2, h3⟩ := h
  exact hne ⟨xor_self_ne h0.symm, xor_self_ne h1.symm, xor_self_ne h2.symm, xor_self_ne h3.symm⟩
theorem or4 (a b c d : UInt8) : bits .or .u8 (bits .or .u8 (bits .or .u8 (a.toNat : Int) (b.toNat : Int)) (c.toNat : Int)) (d.toNat : Int) = (((a ||| b ||| c ||| d).toNat : Nat) : Int) := by
  have ha := a.toNat_lt; have hb := b.toNat_lt; have hc := c.toNat_lt; have hd := d.toNat_lt
  have h1 : a.toNat ||| b.toNat < 256 := Nat.or_lt_two_pow (n := 8) ha hb
  have h2 : a.toNat ||| b.toNat ||| c.toNat < 256 := Nat.or_lt_two_pow (n := 8) h1 hc
  rw [u8_or_nat _ _ ha hb, u8_or_nat _ _ h1 hc, u8_or_nat _ _ h2 hd]
  simp
theorem or4_zero (a b c d : UInt8) : a ||| b ||| c ||| d = 0 ↔ a = 0 ∧ b = 0 ∧ c = 0 ∧ d = 0 := by
  constructor
  · intro h
    have h' : a.toNat ||| b.toNat ||| c.toNat ||| d.toNat = 0 := by
      have := congrArg UInt8.toNat h
      simpa using this
    rw [Nat.or_eq_zero_iff, Nat.or_eq_zero_iff, Nat.or_eq_zero_iff] at h'
    obtain ⟨⟨⟨h1, h2⟩, h3⟩, h4⟩ := h'
    exact ⟨UInt8.toNat_inj.1 h1, UInt8.toNat_inj.1 h2, UInt8.toNat_inj.1 h3, UInt8.toNat_inj.1 h4⟩
  · rintro ⟨rfl, rfl, rfl, rfl⟩; rfl
theorem xor_b (v m : UInt8) : bits .xor .u8 (v.toNat : Int) (m.toNat : Int) = ((v ^^^ m).toNat : Int) := by
  rw [u8_xor_nat _ _ v.toNat_lt m.toNat_lt, UInt8.toNat_xor]
set_option maxRecDepth 100000 in
set_option maxHeartbeats 1000000 in
theorem damage_bad (n s l c : Int) (t a b cc d : UInt8) (h : validI n s l c = false) (w : World) : Calls Try.prog 8 #[.agg #[.int .i64 n, .int .i64 s, .int .i64 l, .int .i64 c], .int .u8 t.toNat, .int .u8 a.toNat, .int .u8 b.toNat, .int .u8 cc.toNat, .int .u8 d.toNat] w fun e w' => e = .returned (.bool true) ∧ Below w.heap.size w w' := by
  have HE : Hid (encV n s l c = (⟨#[]⟩, 1)) := Lib.hid (by unfold encV; rw [h]; rfl)
  clear h
  go_enter Try.func8, Try.ntmps8
  go_wp2_with fail
  refine (awake_walk _).mono ?_; rintro e w0 ⟨rfl, hb⟩
  have hX : Box w0 w.heap.size n s l c := (hb.block _ (by simp)).trans (heap_alloc_new _ _)
  have x0 := hX.c0
  have x1 := hX.c1
  have x2 := hX.c2
  have x3 := hX.c3
  have HB0 := Lib.hid (((Below.refl w.heap.size w).alloc (Nat.le_refl _) _).trans (hb.mono (by simp) : Below w.heap.size _ _))
  clear hb hX
  go_wp2_with fail
  refine (enc_any n s l c _ _ HE.out _).mono ?_; rintro e w1 ⟨rfl, hb⟩
  have HB1 := Lib.hid (step_b HB0.out hb)
  clear hb
  go_wp2_with fail
  go_ret
  exact ⟨rfl, HB1.out⟩
set_option maxRecDepth 100000 in
set_option maxHeartbeats 1000000 in
theorem damage_none (n s l c : Int) (t a b cc d : UInt8) (x : ByteArray) (he : encV n s l c = (x, 0)) (hz : (bits .or .u8 (bits .or .u8 (bits .or .u8 (a.toNat : Int) (b.toNat : Int)) (cc.toNat : Int)) (d.toNat : Int) == 0) = true) (w : World) : Calls Try.prog 8 #[.agg #[.int .i64 n, .int .i64 s, .int .i64 l, .int .i64 c], .int .u8 t.toNat, .int .u8 a.toNat, .int .u8 b.toNat, .int .u8 cc.toNat, .int .u8 d.toNat] w fun e w' => e = .returned (.bool true) ∧ Below w.heap.size w w' := by
  have HE := Lib.hid he
  clear he
  go_enter Try.func8, Try.ntmps8
  go_wp2_with fail
  refine (awake_walk _).mono ?_; rintro e w0 ⟨rfl, hb⟩
  have hX : Box w0 w.heap.size n s l c := (hb.block _ (by simp)).trans (heap_alloc_new _ _)
  have x0 := hX.c0
  have x1 := hX.c1
  have x2 := hX.c2
  have x3 := hX.c3
  have HB0 := Lib.hid (((Below.refl w.heap.size w).alloc (Nat.le_refl _) _).trans (hb.mono (by simp) : Below w.heap.size _ _))
  clear hb hX
  go_wp2_with fail
  refine (enc_any n s l c _ _ HE.out _).mono ?_; rintro e w1 ⟨rfl, hb⟩
  have HB1 := Lib.hid (step_b HB0.out hb)
  clear hb
  go_wp2_with fail
  go_ret
  exact ⟨rfl, HB1.out⟩
set_option maxRecDepth 100000 in
set_option maxHeartbeats 2000000 in
theorem damage_some (n s l c : Int) (t : Nat) (ht : t < 256) (a b cc d : UInt8) (k : Nat) (hk : t % 61 = k) (x : ByteArray) (he : encV n s l c = (x, 0)) (hs : x.size = 64) (hz : (bits .or .u8 (bits .or .u8 (bits .or .u8 (a.toNat : Int) (b.toNat : Int)) (cc.toNat : Int)) (d.toNat : Int) == 0) = false)
    (y : ByteArray) (hy : bA (dmL x.data.toList k [a, b, cc, d] 4) = y) (hd : ∀ p : Int, ¬ (p < 0 ∨ 3 < p) → decV y.data.toList p = ((0, 0, 0, 0), 12)) (w : World) : Calls Try.prog 8 #[.agg #[.int .i64 n, .int .i64 s, .int .i64 l, .int .i64 c], .int .u8 t, .int .u8 a.toNat, .int .u8 b.toNat, .int .u8 cc.toNat, .int .u8 d.toNat] w fun e w' => e = .returned (.bool true) ∧ Below w.heap.size w w' := by
  have HE := Lib.hid he
  have HD := Lib.hid hd
  have HY := Lib.hid hy
  have HTL : Hid (x.data.toList.length = 64) := Lib.hid hs
  have hkk : ((t : Int) % 61) = (k : Int) := by omega
  have HKK := Lib.hid hkk
  have hk60 : k ≤ 60 := by omega
  have hcv := fun W => run_bytes_of_string (P := Try.prog) W 9 37 5 x Try.underlying9 Try.underlying37 Try.underlying5
  have hs' : (x.size : Int) = 64 := by omega
  have HS := Lib.hid hs
  clear he hd hy hkk hk
  go_enter Try.func8, Try.ntmps8
  go_wp2_with fail
  refine (awake_walk _).mono ?_; rintro e w0 ⟨rfl, hb⟩
  have hX : Box w0 w.heap.size n s l c := (hb.block _ (by simp)).trans (heap_alloc_new _ _)
  have x0 := hX.c0
  have x1 := hX.c1
  have x2 := hX.c2
  have x3 := hX.c3
  have HB0 := Lib.hid (((Below.refl w.heap.size w).alloc (Nat.le_refl _) _).trans (hb.mono (by simp) : Below w.heap.size _ _))
  clear hb hX
  go_wp2_with fail
  refine (enc_any n s l c _ _ HE.out _).mono ?_; rintro e w1 ⟨rfl, hb⟩
  have HB1 := Lib.hid (step_b HB0.out hb)
  clear hb
  go_wp2_with fail
  rw [HKK.out]
  generalize hcap : grownCap w1 64 0 5 = cap
  have HM : Hid ([a, b, cc, d] = [a, b, cc, d]) := Lib.hid rfl
  clear hcap hcv x0 x1 x2 x3
  have hm0 : ∀ j, j < 4 → ([a, b, cc, d].getD j 0).toNat < 256 := fun j _ => UInt8.toNat_lt _
  obtain ⟨W3, hW3⟩ : ∃ W3, ((w1.alloc (.cells (bytesRow x cap) 5 ((bytesRow x cap).size, (bytesRow x cap).size + 1))).alloc (.cells #[.int .u8 a.toNat, .int .u8 b.toNat, .int .u8 cc.toNat, .int .u8 d.toNat] 5)).drew = W3 := ⟨_, rfl⟩
  have hR3 : CRow W3 w1.heap.size x.data.toList := by
    rw [← hW3]; exact ((CRow.new w1 x cap _ rfl).alloc _).drew
  have hM3 : W3.heap[w1.heap.size + 1]? = some (.cells (rowC [a, b, cc, d]) 5 (0, 0)) := by
    rw [← hW3, show w1.heap.size + 1 = (w1.alloc (.cells (bytesRow x cap) 5 ((bytesRow x cap).size, (bytesRow x cap).size + 1))).heap.size by simp]
    exact heap_alloc_new _ _
  have hB3 : Below w.heap.size w W3 := by
    rw [← hW3]; exact ((HB1.out.alloc HB1.out.size _).alloc (by simp; have := HB1.out.size; omega) _).drew
  rw [hW3]
  obtain ⟨X, hX⟩ : ∃ X, w1.heap.size = X := ⟨_, rfl⟩
  have hXw : w.heap.size ≤ X := by rw [← hX]; exact HB1.out.size
  rw [hX] at hR3 hM3 ⊢
  have HR3 := Lib.hid hR3
  have HM3 : Hid (BRow W3 (X + 1) 5 [a, b, cc, d]) := Lib.hid hM3
  have HB3 := Lib.hid hB3
  clear hR3 hM3 hB3 hW3 hX hm0 HM
  go_loopw [52] (fun i wr => ∃ j : Nat, j ≤ 4 ∧ i = .int .i64 j ∧ CRow wr X (dmL x.data.toList k [a, b, cc, d] j) ∧ BRow wr (X + 1) 5 [a, b, cc, d] ∧ Below w.heap.size w wr) (fun i _ => 4 - (intOf i).toNat)
  case atStart => exact ⟨0, by omega, rfl, HR3.out, HM3.out, HB3.out⟩
  case round =>
    obtain ⟨j, hj, rfl, hR, hM, hb⟩ := hrel
    have HB := Lib.hid hb
    have HR := Lib.hid hR
    have HMR := Lib.hid hM
    by_cases hlt : j < 4
    · have hlen : k + j < (dmL x.data.toList k [a, b, cc, d] j).length := by rw [dmL_length, HTL.out]; omega
      obtain ⟨v, hv⟩ : ∃ v : UInt8, v = (dmL x.data.toList k [a, b, cc, d] j).getD (k + j) 0 := ⟨_, rfl⟩
      obtain ⟨m, hm⟩ : ∃ m : UInt8, m = [a, b, cc, d].getD j 0 := ⟨_, rfl⟩
      have hcell := hR.cell (k + j) hlen
      rw [← hv] at hcell
      have hfz := hR.frozen (k + j) hlen
      have hcm := hM.cell j hlt
      rw [← hm] at hcm
      have hvl : (v.toNat : Int) < 256 := by have := v.toNat_lt; omega
      have HV := Lib.hid hv
      have HMM := Lib.hid hm
      have hk2 : (j : Int) < 4 := by omega
      have hik : (k : Int) + (j : Int) < 64 := by omega
      clear hv hm hb hR hM hlen
      go_wp2_with fail
      go_roundw
      case rel =>
        refine ⟨j + 1, by omega, by go_num, ?_, ?_, HB.out.setCell hXw _⟩
        · have := HR.out.set_ (k + j) (by rw [dmL_length, HTL.out]; omega) (v ^^^ m) _ (xor_b v m)
          rw [HV.out, HMM.out] at this ⊢
          exact this
        · exact (Below.heap_setCell _ _ _ _ (by simp)).trans HMR.out
      case measure => simp [intOf]; omega
    · obtain rfl : j = 4 := by omega
      have hstr : ∀ W, CRow W X (dmL x.data.toList k [a, b, cc, d] 4) → (convert 37 9 (.slice (some ⟨X, 0, none⟩) 64 cap)).run Try.prog W = .ok (.string y) W := fun W h => by
        have := h.str cap 64 (by rw [dmL_length, HTL.out])
        rw [HY.out] at this; exact this
      have HSTR := Lib.hid hstr
      clear hstr hb hR hM
      rw [show ((4 : Nat) : Int) = 4 from rfl]
      go_wp2_with fail
      go_loopw [67] (fun i wr => ∃ j : Nat, j ≤ 4 ∧ i = .int .i64 j ∧ CRow wr X (dmL x.data.toList k [a, b, cc, d] 4) ∧ Below w.heap.size w wr) (fun i _ => 4 - (intOf i).toNat)
      case atStart => exact ⟨0, by omega, rfl, HR.out, HB.out⟩
      case round =>
        obtain ⟨j, hj, rfl, hR, hb⟩ := hrel
        have HB5 := Lib.hid hb
        have HR5 := Lib.hid hR
        by_cases hlt : j < 4
        · have hcv := HSTR.out _ hR
          have hdj := HD.out (j : Int) (by omega)
          have HDJ := Lib.hid hdj
          have hj4 : (j : Int) < 4 := by omega
          clear hR hb hdj
          go_wp2_with fail
          refine (decode_walk y (j : Int) _ _ _ _ _ HDJ.out _).mono ?_; rintro e w6 ⟨rfl, hb⟩
          have HB6 := Lib.hid (step_b HB5.out hb)
          have HR6 := Lib.hid (HR5.out.block (hb.block X HR5.out.lt))
          clear hb hcv
          go_wp2_with fail
          go_roundw
          case rel => exact ⟨j + 1, by omega, by go_num, HR6.out.alloc _, HB6.out.alloc HB6.out.size _⟩
          case measure => simp [intOf]; omega
        · obtain rfl : j = 4 := by omega
          clear hR hb
          rw [show ((4 : Nat) : Int) = 4 from rfl]
          go_wp2_with fail
          go_ret
          exact ⟨rfl, HB5.out⟩
theorem damage_law (n s l c : Int) (t : Nat) (ht : t < 256) (a b cc d : UInt8) (w : World) : Calls Try.prog 8 #[.agg #[.int .i64 n, .int .i64 s, .int .i64 l, .int .i64 c], .int .u8 t, .int .u8 a.toNat, .int .u8 b.toNat, .int .u8 cc.toNat, .int .u8 d.toNat] w fun e w' => e = .returned (.bool true) ∧ Below w.heap.size w w' := by
  cases hv : validI n s l c
  · have := damage_bad n s l c (UInt8.ofNat t) a b cc d hv w
    rw [show (UInt8.ofNat t).toNat = t by rw [UInt8.toNat_ofNat']; omega] at this
    exact this
  · have k0 := validI_iff.1 hv
    obtain ⟨n, rfl⟩ : ∃ m : Nat, n = m := ⟨n.toNat, by omega⟩
    obtain ⟨s, rfl⟩ : ∃ m : Nat, s = m := ⟨s.toNat, by omega⟩
    obtain ⟨l, rfl⟩ : ∃ m : Nat, l = m := ⟨l.toNat, by omega⟩
    obtain ⟨c, rfl⟩ : ∃ m : Nat, c = m := ⟨c.toNat, by omega⟩
    have e1 := encV_ok hv
    have ho := or4 a b cc d
    by_cases hz : a ||| b ||| cc ||| d = 0
    · have := damage_none n s l c (UInt8.ofNat t) a b cc d _ e1 (by rw [ho, hz]; rfl) w
      rw [show (UInt8.ofNat t).toNat = t by rw [UInt8.toNat_ofNat']; omega] at this
      exact this
    · refine damage_some n s l c t ht a b cc d _ rfl _ e1 (by rw [bA_size, encL_length]) ?_ _ rfl (fun p hp => ?_) w
      · rw [ho]
        simp only [beq_eq_false_iff_ne, ne_eq]
        intro h
        exact hz (UInt8.toNat_inj.1 (by simpa using h))
      · rw [bA_list, bA_list]
        exact dm_dec n s l c _ (by omega) a b cc d (fun h => hz ((or4_zero a b cc d).2 h)) hv p hp
section
variable {H : Type} {enc : TypeId × Value → H} {w : World} {base b0 : Nat} {spare : Nat → Bool} {held : Bool}
theorem u8_of {a : Int} (ha : (Lit.int .u8 a).wf = true) : ∃ b : UInt8, a = (b.toNat : Int) := by
  have hb : 0 ≤ a ∧ a < 256 := by
    simp [Lit.wf, IntKind.min, IntKind.max, IntKind.signed, IntKind.bits] at ha; omega
  exact ⟨UInt8.ofNat a.toNat, by rw [UInt8.toNat_ofNat']; omega⟩
theorem damage_in {d : DataW H} {p : List MemPlace} (v : Value) (h : DataW.Trod enc Try.prog w base spare held 25 v d p) (hv : Value.okWide Try.prog w .any b0 25 v) (t : Int) (ht : (Lit.int .u8 t).wf = true) (a : Int) (ha : (Lit.int .u8 a).wf = true) (b : Int) (hb : (Lit.int .u8 b).wf = true) (c : Int) (hc : (Lit.int .u8 c).wf = true) (dd : Int) (hd : (Lit.int .u8 dd).wf = true) (W : World) : Calls Try.prog 8 #[v, .int .u8 t, .int .u8 a, .int .u8 b, .int .u8 c, .int .u8 dd] W fun e w' => e = .returned (.bool true) ∧ Below W.heap.size W w' := by
  obtain ⟨n, s, l, c', rfl⟩ := open_root hv h
  obtain ⟨t, rfl⟩ := u8_of ht
  obtain ⟨a, rfl⟩ := u8_of ha
  obtain ⟨b, rfl⟩ := u8_of hb
  obtain ⟨c, rfl⟩ := u8_of hc
  obtain ⟨dd, rfl⟩ := u8_of hd
  exact damage_law n s l c' t.toNat t.toNat_lt a b c dd W
end
end Go.Proofs.Ytonkamdipalbpaa
