import Derived.Test.YtonkamdipalbpaaWp
namespace Go.Proofs.Ytonkamdipalbpaa
open Go.RowKit Go.ChangeShapes Go.WideShapes Go.ChangeAt
attribute [local go_sem ↓] Go.wp_at_zero Go.wp_at_succ

/-- a slice of texts -/
def Strs (w : World) (N : Nat) (A : Option Addr) (ss : List ByteArray) : Prop := ∀ i, i < ss.length → ∃ a, A = some a ∧ a.block < N ∧ w.cell? (a.add i) = some (.string (ss.getD i ⟨#[]⟩))
theorem add_block (a : Addr) (n : Nat) : (a.add n).block = a.block := by unfold Addr.add; split <;> rfl
theorem Strs.below {w w' : World} {N M : Nat} {A : Option Addr} {ss : List ByteArray} (h : Strs w N A ss) (hb : Below M w w') (hN : N ≤ M) : Strs w' N A ss := fun i hi => by
  obtain ⟨a, h1, h2, h3⟩ := h i hi
  exact ⟨a, h1, h2, (hb.cell (by rw [add_block]; omega)).trans h3⟩
/-- the root that counts among the first k sectors -/
def bestF (ss : List ByteArray) : Nat → Int × Int × Int × Int
  | 0 => (0, 0, 0, 0)
  | k + 1 => if (decV (ss.getD k ⟨#[]⟩).data.toList k).2 = 0 ∧ (bestF ss k).1 < (decV (ss.getD k ⟨#[]⟩).data.toList k).1.1 then (decV (ss.getD k ⟨#[]⟩).data.toList k).1 else bestF ss k
def chooseF (ss : List ByteArray) : (Int × Int × Int × Int) × Int :=
  if ss.length ≠ 4 then ((0, 0, 0, 0), 1) else if (bestF ss 4).1 = 0 then ((0, 0, 0, 0), 12) else (bestF ss 4, 0)
theorem Box.set4 {w b n s l c} (h : Box w b n s l c) (n' s' l' c' : Int) : Box ((((w.setCell ⟨b, 0, none⟩ (.int .i64 n')).setCell ⟨b, 1, none⟩ (.int .i64 s')).setCell ⟨b, 2, none⟩ (.int .i64 l')).setCell ⟨b, 3, none⟩ (.int .i64 c')) b n' s' l' c' := by
  have h1 := heap_setCell_any w b 0 _ _ _ (.int .i64 n') h
  have h2 := heap_setCell_any _ b 1 _ _ _ (.int .i64 s') h1
  have h3 := heap_setCell_any _ b 2 _ _ _ (.int .i64 l') h2
  exact heap_setCell_any _ b 3 _ _ _ (.int .i64 c') h3
theorem Box.far4 {w b n s l c} (h : Box w b n s l c) {g : Nat} (hg : b ≠ g) (v0 v1 v2 v3 : Value) : Box ((((w.setCell ⟨g, 0, none⟩ v0).setCell ⟨g, 1, none⟩ v1).setCell ⟨g, 2, none⟩ v2).setCell ⟨g, 3, none⟩ v3) b n s l c := by
  have k : ∀ (w : World) (i : Nat) (v : Value), Box w b n s l c → Box (w.setCell ⟨g, i, none⟩ v) b n s l c := fun w i v h => (Below.heap_setCell w ⟨g, i, none⟩ v b hg).trans h
  exact k _ _ _ (k _ _ _ (k _ _ _ (k _ _ _ h)))
theorem below_set4 {B : Nat} {a w : World} (h : Below B a w) {g : Nat} (hg : B ≤ g) (v0 v1 v2 v3 : Value) : Below B a ((((w.setCell ⟨g, 0, none⟩ v0).setCell ⟨g, 1, none⟩ v1).setCell ⟨g, 2, none⟩ v2).setCell ⟨g, 3, none⟩ v3) :=
  (((h.setCell hg _).setCell hg _).setCell hg _).setCell hg _
set_option maxRecDepth 100000 in
set_option maxHeartbeats 1000000 in
theorem choose_len (A : Option Addr) (n c : Nat) (h : n ≠ 4) (w : World) : Calls Try.prog 17 #[.slice A n c] w fun e w' => e = .returned (.tuple #[.agg #[.int .i64 0, .int .i64 0, .int .i64 0, .int .i64 0], .int .i64 1]) ∧ Below w.heap.size w w' := by
  have h1 : ((n : Int) != 4) = true := by simp; omega
  have h2 : ((n : Int) == 4) = false := by simp; omega
  clear h
  go_enter Try.func17, Try.ntmps17
  go_wp2_with fail
  exact bodyPost_ret (v := .tuple #[.agg #[.int .i64 0, .int .i64 0, .int .i64 0, .int .i64 0], .int .i64 1]) (by simp [results, Try.results17, go_sem]) rfl ⟨rfl, by first | exact (Below.refl _ _).alloc (Nat.le_refl _) _ | exact below_set4 ((Below.refl _ _).alloc (Nat.le_refl _) _) (Nat.le_refl _) _ _ _ _⟩
set_option maxRecDepth 100000 in
set_option maxHeartbeats 1000000 in
theorem rchoose_len (A : Option Addr) (n c : Nat) (h : n ≠ 4) (w : World) : Calls Try.prog 18 #[.slice A n c] w fun e w' => e = .returned (.tuple #[.agg #[.int .i64 0, .int .i64 0, .int .i64 0, .int .i64 0], .int .i64 1]) ∧ Below w.heap.size w w' := by
  have h1 : ((n : Int) != 4) = true := by simp; omega
  have h2 : ((n : Int) == 4) = false := by simp; omega
  clear h
  go_enter Try.func18, Try.ntmps18
  go_wp2_with fail
  exact bodyPost_ret (v := .tuple #[.agg #[.int .i64 0, .int .i64 0, .int .i64 0, .int .i64 0], .int .i64 1]) (by simp [results, Try.results18, go_sem]) rfl ⟨rfl, by first | exact (Below.refl _ _).alloc (Nat.le_refl _) _ | exact below_set4 ((Below.refl _ _).alloc (Nat.le_refl _) _) (Nat.le_refl _) _ _ _ _⟩
set_option maxRecDepth 100000 in
set_option maxHeartbeats 2000000 in
theorem choose_four (A : Option Addr) (c0 : Nat) (ss : List ByteArray) (n' s' l' c' e' : Int) (hr : chooseF ss = ((n', s', l', c'), e')) (w : World) (h : Strs w w.heap.size A ss ∧ ss.length = 4) : Calls Try.prog 17 #[.slice A 4 c0] w fun e w' => e = .returned (.tuple #[.agg #[.int .i64 n', .int .i64 s', .int .i64 l', .int .i64 c'], .int .i64 e']) ∧ Below w.heap.size w w' := by
  have HH := Lib.hid h
  clear h
  go_enter Try.func17, Try.ntmps17
  go_wp2_with fail
  go_loopw [16] (fun i wr => ∃ k : Nat, k ≤ 4 ∧ i = .int .i64 k ∧ Box wr w.heap.size 0 0 0 0 ∧ Box wr (w.heap.size + 1) (bestF ss k).1 (bestF ss k).2.1 (bestF ss k).2.2.1 (bestF ss k).2.2.2 ∧ Below w.heap.size w wr) (fun i _ => 4 - (intOf i).toNat)
  case atStart =>
    refine ⟨0, by omega, rfl, (Below.heap_alloc _ _ _ (by simp)).trans (heap_alloc_new _ _), ?_, ((Below.refl _ _).alloc (Nat.le_refl _) _).alloc (by simp) _⟩
    rw [show w.heap.size + 1 = (w.alloc (.cells #[.int .i64 0, .int .i64 0, .int .i64 0, .int .i64 0] 25)).heap.size by simp]; exact heap_alloc_new _ _
  case round =>
    obtain ⟨k, hk, rfl, hR, hX, hb⟩ := hrel
    obtain ⟨⟨bn, bs, bl, bc⟩, hbest⟩ : ∃ b, bestF ss k = b := ⟨_, rfl⟩
    rw [hbest] at hX
    have HB := Lib.hid hb
    have HR := Lib.hid hR
    have HX := Lib.hid hX
    have HBEST := Lib.hid hbest
    have b0 := hX.c0
    by_cases hlt : k < 4
    · obtain ⟨a, rfl, hab, hca⟩ := (HH.out.1.below hb (Nat.le_refl _)) k (by rw [HH.out.2]; exact hlt)
      obtain ⟨x, hx⟩ : ∃ x, ss.getD k ⟨#[]⟩ = x := ⟨_, rfl⟩
      rw [hx] at hca
      obtain ⟨n, s, l, c, e, hd⟩ : ∃ n s l c e, decV x.data.toList (k : Int) = ((n, s, l, c), e) := ⟨_, _, _, _, _, rfl⟩
      have HD := Lib.hid hd
      have HSTEP : Hid (bestF ss (k + 1) = if e = 0 ∧ bn < n then (n, s, l, c) else (bn, bs, bl, bc)) := Lib.hid (by rw [bestF, hx, hd, HBEST.out])
      have hk4 : (k : Int) < 4 := by omega
      clear hR hX hb hbest hx hd hab
      go_wp2_with fail
      refine (decode_walk x (k : Int) n s l c e HD.out _).mono ?_; rintro e' w6 ⟨rfl, hb⟩
      have hR6 := HR.out.below hb HR.out.lt
      have hX6 := HX.out.below hb HX.out.lt
      have HB6 := Lib.hid (step_b HB.out hb)
      have b0 := hX6.c0
      have b1 := hX6.c1
      have b2 := hX6.c2
      have b3 := hX6.c3
      have bf := hX6.fr
      have xl := hX6.lt
      have HR6 := Lib.hid hR6
      have HX6 := Lib.hid hX6
      clear hb hca hR6 hX6
      by_cases he : e = 0
      · subst he
        by_cases hn : bn < n
        · have HS2 : Hid (bestF ss (k + 1) = (n, s, l, c)) := Lib.hid (by rw [HSTEP.out, if_pos ⟨rfl, hn⟩])
          go_wp2_with fail
          go_roundw
          case rel =>
            have hbs := below_set4 HB6.out (show w.heap.size ≤ w.heap.size + 1 by omega) (.int .i64 n) (.int .i64 s) (.int .i64 l) (.int .i64 c)
            exact ⟨k + 1, by omega, by go_num, (HR6.out.far4 (by omega) _ _ _ _).alloc _, by rw [HS2.out]; exact (HX6.out.set4 n s l c).alloc _, hbs.alloc hbs.size _⟩
          case measure => simp [intOf]; omega
        · have HS2 : Hid (bestF ss (k + 1) = (bn, bs, bl, bc)) := Lib.hid (by rw [HSTEP.out, if_neg (fun h => hn h.2)])
          go_wp2_with fail
          go_roundw
          case rel => exact ⟨k + 1, by omega, by go_num, HR6.out.alloc _, by rw [HS2.out]; exact HX6.out.alloc _, HB6.out.alloc HB6.out.size _⟩
          case measure => simp [intOf]; omega
      · have he' : (e == 0) = false := by simpa using he
        have HS2 : Hid (bestF ss (k + 1) = (bn, bs, bl, bc)) := Lib.hid (by rw [HSTEP.out, if_neg (fun h => he h.1)])
        go_wp2_with fail
        go_roundw
        case rel => exact ⟨k + 1, by omega, by go_num, HR6.out.alloc _, by rw [HS2.out]; exact HX6.out.alloc _, HB6.out.alloc HB6.out.size _⟩
        case measure => simp [intOf]; omega
    · obtain rfl : k = 4 := by omega
      rw [show ((4 : Nat) : Int) = 4 from rfl]
      have HRES : Hid (chooseF ss = if bn = 0 then ((0, 0, 0, 0), 12) else ((bn, bs, bl, bc), 0)) := Lib.hid (by unfold chooseF; rw [if_neg (by simp [HH.out.2]), HBEST.out])
      have r0 := hR.c0
      have r1 := hR.c1
      have r2 := hR.c2
      have r3 := hR.c3
      have rf := hR.fr
      have b1 := hX.c1
      have b2 := hX.c2
      have b3 := hX.c3
      clear hR hX hb hbest
      by_cases hz : bn = 0
      · have hz' : (bn == 0) = true := by simpa using hz
        have he := HRES.out
        rw [if_pos hz, hr] at he
        cases he
        clear hz
        go_wp2_with fail
        exact bodyPost_ret (v := .tuple #[.agg #[.int .i64 0, .int .i64 0, .int .i64 0, .int .i64 0], .int .i64 12]) (by simp [results, Try.results17, go_sem, r0, r1, r2, r3]) rfl ⟨rfl, below_set4 HB.out (Nat.le_refl _) _ _ _ _⟩
      · have hz' : (bn == 0) = false := by simpa using hz
        have he := HRES.out
        rw [if_neg hz, hr] at he
        cases he
        clear hz
        go_wp2_with fail
        exact bodyPost_ret (v := .tuple #[.agg #[.int .i64 n', .int .i64 s', .int .i64 l', .int .i64 c'], .int .i64 0]) (by simp [results, Try.results17, go_sem, r0, r1, r2, r3]) rfl ⟨rfl, below_set4 HB.out (Nat.le_refl _) _ _ _ _⟩
set_option maxRecDepth 100000 in
set_option maxHeartbeats 2000000 in
theorem rchoose_four (A : Option Addr) (c0 : Nat) (ss : List ByteArray) (n' s' l' c' e' : Int) (hr : chooseF ss = ((n', s', l', c'), e')) (w : World) (h : Strs w w.heap.size A ss ∧ ss.length = 4) : Calls Try.prog 18 #[.slice A 4 c0] w fun e w' => e = .returned (.tuple #[.agg #[.int .i64 n', .int .i64 s', .int .i64 l', .int .i64 c'], .int .i64 e']) ∧ Below w.heap.size w w' := by
  have HH := Lib.hid h
  clear h
  go_enter Try.func18, Try.ntmps18
  go_wp2_with fail
  go_loopw [5] (fun i wr => ∃ k : Nat, k ≤ 4 ∧ i = .int .i64 k ∧ Box wr w.heap.size 0 0 0 0 ∧ Box wr (w.heap.size + 1) (bestF ss k).1 (bestF ss k).2.1 (bestF ss k).2.2.1 (bestF ss k).2.2.2 ∧ Below w.heap.size w wr) (fun i _ => 4 - (intOf i).toNat)
  case atStart =>
    refine ⟨0, by omega, rfl, (Below.heap_alloc _ _ _ (by simp)).trans (heap_alloc_new _ _), ?_, ((Below.refl _ _).alloc (Nat.le_refl _) _).alloc (by simp) _⟩
    rw [show w.heap.size + 1 = (w.alloc (.cells #[.int .i64 0, .int .i64 0, .int .i64 0, .int .i64 0] 25)).heap.size by simp]; exact heap_alloc_new _ _
  case round =>
    obtain ⟨k, hk, rfl, hR, hX, hb⟩ := hrel
    obtain ⟨⟨bn, bs, bl, bc⟩, hbest⟩ : ∃ b, bestF ss k = b := ⟨_, rfl⟩
    rw [hbest] at hX
    have HB := Lib.hid hb
    have HR := Lib.hid hR
    have HX := Lib.hid hX
    have HBEST := Lib.hid hbest
    have b0 := hX.c0
    by_cases hlt : k < 4
    · obtain ⟨a, rfl, hab, hca⟩ := (HH.out.1.below hb (Nat.le_refl _)) k (by rw [HH.out.2]; exact hlt)
      obtain ⟨x, hx⟩ : ∃ x, ss.getD k ⟨#[]⟩ = x := ⟨_, rfl⟩
      rw [hx] at hca
      obtain ⟨n, s, l, c, e, hd⟩ : ∃ n s l c e, decV x.data.toList (k : Int) = ((n, s, l, c), e) := ⟨_, _, _, _, _, rfl⟩
      have HD := Lib.hid hd
      have HSTEP : Hid (bestF ss (k + 1) = if e = 0 ∧ bn < n then (n, s, l, c) else (bn, bs, bl, bc)) := Lib.hid (by rw [bestF, hx, hd, HBEST.out])
      have hk4 : (k : Int) < 4 := by omega
      clear hR hX hb hbest hx hd hab
      go_wp2_with fail
      refine (rdecode_walk x (k : Int) n s l c e HD.out _).mono ?_; rintro e' w6 ⟨rfl, hb⟩
      have hR6 := HR.out.below hb HR.out.lt
      have hX6 := HX.out.below hb HX.out.lt
      have HB6 := Lib.hid (step_b HB.out hb)
      have b0 := hX6.c0
      have b1 := hX6.c1
      have b2 := hX6.c2
      have b3 := hX6.c3
      have bf := hX6.fr
      have xl := hX6.lt
      have HR6 := Lib.hid hR6
      have HX6 := Lib.hid hX6
      clear hb hca hR6 hX6
      by_cases he : e = 0
      · subst he
        by_cases hn : bn < n
        · have HS2 : Hid (bestF ss (k + 1) = (n, s, l, c)) := Lib.hid (by rw [HSTEP.out, if_pos ⟨rfl, hn⟩])
          go_wp2_with fail
          go_roundw
          case rel =>
            have hbs := below_set4 HB6.out (show w.heap.size ≤ w.heap.size + 1 by omega) (.int .i64 n) (.int .i64 s) (.int .i64 l) (.int .i64 c)
            exact ⟨k + 1, by omega, by go_num, (HR6.out.far4 (by omega) _ _ _ _).alloc _, by rw [HS2.out]; exact (HX6.out.set4 n s l c).alloc _, hbs.alloc hbs.size _⟩
          case measure => simp [intOf]; omega
        · have HS2 : Hid (bestF ss (k + 1) = (bn, bs, bl, bc)) := Lib.hid (by rw [HSTEP.out, if_neg (fun h => hn h.2)])
          go_wp2_with fail
          go_roundw
          case rel => exact ⟨k + 1, by omega, by go_num, HR6.out.alloc _, by rw [HS2.out]; exact HX6.out.alloc _, HB6.out.alloc HB6.out.size _⟩
          case measure => simp [intOf]; omega
      · have he' : (e == 0) = false := by simpa using he
        have HS2 : Hid (bestF ss (k + 1) = (bn, bs, bl, bc)) := Lib.hid (by rw [HSTEP.out, if_neg (fun h => he h.1)])
        go_wp2_with fail
        go_roundw
        case rel => exact ⟨k + 1, by omega, by go_num, HR6.out.alloc _, by rw [HS2.out]; exact HX6.out.alloc _, HB6.out.alloc HB6.out.size _⟩
        case measure => simp [intOf]; omega
    · obtain rfl : k = 4 := by omega
      rw [show ((4 : Nat) : Int) = 4 from rfl]
      have HRES : Hid (chooseF ss = if bn = 0 then ((0, 0, 0, 0), 12) else ((bn, bs, bl, bc), 0)) := Lib.hid (by unfold chooseF; rw [if_neg (by simp [HH.out.2]), HBEST.out])
      have r0 := hR.c0
      have r1 := hR.c1
      have r2 := hR.c2
      have r3 := hR.c3
      have rf := hR.fr
      have b1 := hX.c1
      have b2 := hX.c2
      have b3 := hX.c3
      clear hR hX hb hbest
      by_cases hz : bn = 0
      · have hz' : (bn == 0) = true := by simpa using hz
        have he := HRES.out
        rw [if_pos hz, hr] at he
        cases he
        clear hz
        go_wp2_with fail
        exact bodyPost_ret (v := .tuple #[.agg #[.int .i64 0, .int .i64 0, .int .i64 0, .int .i64 0], .int .i64 12]) (by simp [results, Try.results18, go_sem, r0, r1, r2, r3]) rfl ⟨rfl, below_set4 HB.out (Nat.le_refl _) _ _ _ _⟩
      · have hz' : (bn == 0) = false := by simpa using hz
        have he := HRES.out
        rw [if_neg hz, hr] at he
        cases he
        clear hz
        go_wp2_with fail
        exact bodyPost_ret (v := .tuple #[.agg #[.int .i64 n', .int .i64 s', .int .i64 l', .int .i64 c'], .int .i64 0]) (by simp [results, Try.results18, go_sem, r0, r1, r2, r3]) rfl ⟨rfl, below_set4 HB.out (Nat.le_refl _) _ _ _ _⟩
theorem choose_walk (A : Option Addr) (c0 n0 : Nat) (ss : List ByteArray) (n' s' l' c' e' : Int) (hr : chooseF ss = ((n', s', l', c'), e')) (hn : ss.length = n0) (w : World) (h : Strs w w.heap.size A ss) : Calls Try.prog 17 #[.slice A n0 c0] w fun e w' => e = .returned (.tuple #[.agg #[.int .i64 n', .int .i64 s', .int .i64 l', .int .i64 c'], .int .i64 e']) ∧ Below w.heap.size w w' := by
  subst hn
  by_cases h4 : ss.length = 4
  · rw [h4]; exact choose_four A c0 ss n' s' l' c' e' hr w ⟨h, h4⟩
  · unfold chooseF at hr; rw [if_pos h4] at hr; cases hr; exact choose_len A _ c0 h4 w
theorem rchoose_walk (A : Option Addr) (c0 n0 : Nat) (ss : List ByteArray) (n' s' l' c' e' : Int) (hr : chooseF ss = ((n', s', l', c'), e')) (hn : ss.length = n0) (w : World) (h : Strs w w.heap.size A ss) : Calls Try.prog 18 #[.slice A n0 c0] w fun e w' => e = .returned (.tuple #[.agg #[.int .i64 n', .int .i64 s', .int .i64 l', .int .i64 c'], .int .i64 e']) ∧ Below w.heap.size w w' := by
  subst hn
  by_cases h4 : ss.length = 4
  · rw [h4]; exact rchoose_four A c0 ss n' s' l' c' e' hr w ⟨h, h4⟩
  · unfold chooseF at hr; rw [if_pos h4] at hr; cases hr; exact rchoose_len A _ c0 h4 w
end Go.Proofs.Ytonkamdipalbpaa
