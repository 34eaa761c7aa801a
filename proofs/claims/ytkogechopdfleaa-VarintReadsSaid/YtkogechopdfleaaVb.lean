import Derived.Test.YtkogechopdfleaaVa
namespace Go.Proofs.Ytkogechopdfleaa
open Go.RowKit Go.ChangeShapes Go.WideShapes Go.ChangeAt
attribute [local go_sem ↓] Go.wp_at_zero Go.wp_at_succ

theorem quiet_eq {P : Program} {f : FuncId} {args : Array Value} {w : World} {n : Nat} {v : Value}
    (h : Calls P f args (w.drewN n) fun e w' => e = .returned v ∧ w.drewN n = w') : Calls P f args (w.drewN n) fun e w'' => e = .returned v ∧ ∃ m, w'' = w.drewN m :=
  h.mono fun _ _ ⟨he, hm⟩ => ⟨he, n, hm.symm⟩
/-- a slice of calls -/
def Ops (w : World) (N : Nat) (A : Option Addr) (rs : List (Int × Int × Int)) : Prop := ∀ i, i < rs.length → ∃ a, A = some a ∧ a.block < N ∧ w.cell? (a.add (i * 3)) = some (.int .i64 (rs.getD i (0, 0, 0)).1) ∧ w.cell? ⟨(a.add (i * 3)).block, (a.add (i * 3)).off + 1, none⟩ = some (.int .i64 (rs.getD i (0, 0, 0)).2.1) ∧ w.cell? ⟨(a.add (i * 3)).block, (a.add (i * 3)).off + 2, none⟩ = some (.int .i64 (rs.getD i (0, 0, 0)).2.2)
theorem Ops.below {w w' : World} {N M : Nat} {A : Option Addr} {rs : List (Int × Int × Int)} (h : Ops w N A rs) (hb : Below M w w') (hN : N ≤ M) : Ops w' N A rs := fun i hi => by
  obtain ⟨a, h1, h2, c0, c1, c2⟩ := h i hi
  have k : ∀ p : Addr, p.block = a.block → w'.cell? p = w.cell? p := fun p hp => hb.cell (by rw [hp]; omega)
  exact ⟨a, h1, h2, (k _ (add_block _ _)).trans c0, (k _ (by exact add_block _ _)).trans c1, (k _ (by exact add_block _ _)).trans c2⟩
theorem extract_size_le (b : ByteArray) (i j : Nat) : (b.extract i j).size ≤ b.size := by rw [ByteArray.size_extract]; omega
theorem readS_size (dec lo hi b er) : (readS dec lo hi b er).1.size ≤ b.size := by
  unfold readS
  split
  · exact Nat.le_refl _
  · split
    · exact Nat.le_refl _
    · split
      · exact Nat.le_refl _
      · split
        · exact Nat.le_refl _
        · exact extract_size_le _ _ _
theorem takeS_size (n b er) : (takeS n b er).1.size ≤ b.size := by
  unfold takeS
  split
  · exact Nat.le_refl _
  · split
    · exact Nat.le_refl _
    · split
      · exact Nat.le_refl _
      · exact extract_size_le _ _ _
theorem textS_size (n b er) : (textS n b er).1.size ≤ b.size := by
  unfold textS
  rcases hq : readS decN 0 n b er with ⟨b1, e1, n1⟩
  rcases hp : takeS n1 b1 e1 with ⟨b2, e2, s2⟩
  simp only [hp]
  have h1 := readS_size decN 0 n b er
  have h2 := takeS_size n1 b1 e1
  rw [hq] at h1
  rw [hp] at h2
  split
  · exact Nat.le_refl _
  · exact Nat.le_trans h2 h1
theorem doS_size (k lo hi b er) : (doS k lo hi b er).1.size ≤ b.size := by
  unfold doS
  split
  · exact readS_size ..
  · split
    · exact readS_size ..
    · split
      · exact takeS_size ..
      · split
        · exact textS_size ..
        · exact Nat.le_refl _
set_option maxRecDepth 100000 in
set_option maxHeartbeats 4000000 in
theorem reads_few (s : ByteArray) (A : Option Addr) (n0 c0 : Nat) (rs : List (Int × Int × Int)) (hs : s.size ≤ 300) (hn : rs.length = n0) (h30 : n0 ≤ 30) (w : World) (h : Ops w w.heap.size A rs) : Calls Try.prog 8 #[.string s, .slice A n0 c0] w fun e w' => e = .returned (.bool true) ∧ Below w.heap.size w w' := by
  have HH := Lib.hid h
  have HN := Lib.hid hn
  have hs1 : ¬ (300 : Int) < s.size := by omega
  have hn1 : ¬ (30 : Int) < n0 := by omega
  clear h hn
  go_enter Try.func8, Try.ntmps8
  go_wp2_with fail
  refine (awake_walk _).mono ?_; rintro e w0 ⟨rfl, hb⟩
  have HB0 := Lib.hid hb
  clear hb
  go_wp2_with fail
  refine (new_walk _ _).mono ?_; rintro e w1 ⟨rfl, hi, hf⟩
  obtain ⟨B, hB⟩ : ∃ B, w0.heap.size = B := ⟨_, rfl⟩
  rw [hB] at hi hf ⊢
  have hBw : w.heap.size ≤ B := by rw [← hB]; exact HB0.out.size
  have HB1 := Lib.hid (HB0.out.trans (hf _ hBw))
  have HI1 := Lib.hid hi
  clear hi hf hB
  go_wp2_with fail
  obtain ⟨X, hX⟩ : ∃ X, w1.heap.size = X := ⟨_, rfl⟩
  have hBX : B < X := by rw [← hX]; exact HI1.out.lt
  have HXW : Hid (w.heap.size ≤ X) := Lib.hid (by omega)
  have HX1 : Hid (SB (w1.alloc (.cells #[.string s, .int .i64 0] 40)) X s 0) := Lib.hid (by rw [← hX]; exact SB.new _ _ _)
  have HBX : Hid (Below w.heap.size w (w1.alloc (.cells #[.string s, .int .i64 0] 40))) := Lib.hid (HB1.out.alloc HB1.out.size _)
  rw [hX]
  clear hX
  go_loopw [32] (fun i wr => ∃ (k : Nat) (b : ByteArray) (er : Int), k ≤ n0 ∧ i = .int .i64 k ∧ b.size ≤ 300 ∧ IsR wr B b er ∧ SB wr X b er ∧ Below w.heap.size w wr) (fun i _ => n0 - (intOf i).toNat)
  case atStart => exact ⟨0, s, 0, by omega, rfl, hs, HI1.out.alloc _, HX1.out, HBX.out⟩
  case round =>
    obtain ⟨k, b, er, hk, rfl, hbs, hi, hx, hb⟩ := hrel
    have HB := Lib.hid hb
    have HI := Lib.hid hi
    have HX := Lib.hid hx
    by_cases hlt : k < n0
    · obtain ⟨a, rfl, hab, r0, r1, r2⟩ := (HH.out.below hb (Nat.le_refl _)) k (by rw [HN.out]; exact hlt)
      obtain ⟨⟨ki, lo, hi2⟩, hr⟩ : ∃ r, rs.getD k (0, 0, 0) = r := ⟨_, rfl⟩
      rw [hr] at r0 r1 r2
      obtain ⟨⟨b1, e1, n1, s1⟩, hd⟩ : ∃ q, doS ki lo hi2 b er = q := ⟨_, rfl⟩
      have HD := Lib.hid hd
      have hb1 : b1.size ≤ 300 := by have := doS_size ki lo hi2 b er; rw [hd] at this; exact Nat.le_trans this hbs
      have HB1S := Lib.hid hb1
      clear hab hr hi hx hb hd hb1
      go_wp2_with fail
      refine (do_walkX B b er ki lo hi2 b1 e1 n1 s1 (by exact HD.out) _ (by exact HI.out.alloc _)).mono ?_; rintro e w2 ⟨rfl, hi, hf⟩
      have hO : OB w2 wr.heap.size ki lo hi2 := (hf.far _ (by have := HI.out.lt; omega) (by simp)).trans (heap_alloc_new _ _)
      have hXX : SB w2 X b er := (hf.far _ (by omega) (by simp; have := HX.out.lt; omega)).trans (HX.out.alloc _)
      have HI2 := Lib.hid hi
      have HB2 := Lib.hid ((HB.out.alloc HB.out.size _).trans (hf.low _ hBw))
      have o0 := hO.c0
      have o1 := hO.c1
      have o2 := hO.c2
      have x0 := hXX.c0
      have x1 := hXX.c1
      have HX2 := Lib.hid hXX
      have HO2 := Lib.hid hO
      clear hi hf hO hXX r0 r1 r2
      go_wp2_with fail
      refine (rdo_walk b er ki lo hi2 b1 e1 n1 s1 (by omega) (by exact HD.out) _).mono ?_; rintro e w3 ⟨rfl, hb⟩
      have HI3 : Hid (IsR w3 B b1 e1) := Lib.hid ((hb.block B HI2.out.lt).trans HI2.out)
      have hX3 : SB w3 X b er := HX2.out.below hb HX2.out.lt
      have HB3 := Lib.hid (step_b HB2.out hb)
      have x0 := hX3.c0
      have x1 := hX3.c1
      have xf := hX3.fr
      have xl := hX3.lt
      have HX3 := Lib.hid hX3
      clear hb hX3 o0 o1 o2
      go_wp2_with fail
      have hsg := ((HX3.out.set b1 e1).alloc (.cells #[.string b1, .int .i64 e1] 40))
      have y0 := hsg.c0
      have y1 := hsg.c1
      have HSG := Lib.hid hsg
      have HRG : Hid (∀ nq, IsR ((((w3.setCell ⟨X, 0, none⟩ (.string b1)).setCell ⟨X, 1, none⟩ (.int .i64 e1)).alloc (.cells #[.string b1, .int .i64 e1] 40)).drewN nq) B b1 e1) := Lib.hid fun nq => by
        have h1 : IsR ((w3.setCell ⟨X, 0, none⟩ (.string b1)).setCell ⟨X, 1, none⟩ (.int .i64 e1)) B b1 e1 :=
          (Below.heap_setCell _ ⟨X, 1, none⟩ _ B (by show B ≠ X; omega)).trans ((Below.heap_setCell w3 ⟨X, 0, none⟩ _ B (by show B ≠ X; omega)).trans HI3.out)
        exact h1.alloc _
      clear hsg
      go_quiet (first | (go_at_call 20; refine quiet_eq (left_walk B b1 e1 _ ?_); exact HRG.out _) | (go_at_call 22; refine quiet_eq (err_walk B b1 e1 _ ?_); exact HRG.out _))
      go_wp2_with fail
      go_roundw
      case rel => exact ⟨k + 1, b1, e1, by omega, by go_num, HB1S.out, HRG.out _, HSG.out, below_drewN (((HB3.out.setCell (p := ⟨X, 0, none⟩) HXW.out _).setCell (p := ⟨X, 1, none⟩) HXW.out _).alloc (by simp; have := HB3.out.size; omega) _) _⟩
      case measure => simp [intOf]; omega
    · obtain rfl : n0 = k := by omega
      clear hi hx hb
      go_wp2_with fail
      go_ret
      exact ⟨rfl, HB.out⟩
set_option maxRecDepth 100000 in
theorem reads_many (s : ByteArray) (A : Option Addr) (n0 c0 : Nat) (h : 300 < s.size ∨ 30 < n0) (w : World) : Calls Try.prog 8 #[.string s, .slice A n0 c0] w fun e w' => e = .returned (.bool true) ∧ Below w.heap.size w w' := by
  by_cases h1 : 300 < s.size
  · have k1 : (300 : Int) < s.size := by omega
    clear h h1
    go_enter Try.func8, Try.ntmps8
    go_wp2_with fail
    refine (awake_walk _).mono ?_; rintro e w0 ⟨rfl, hb⟩
    have HB0 := Lib.hid hb
    clear hb
    go_wp2_with fail
    go_ret
    exact ⟨rfl, HB0.out⟩
  · have k1 : ¬ (300 : Int) < s.size := by omega
    have k2 : (30 : Int) < n0 := by omega
    clear h h1
    go_enter Try.func8, Try.ntmps8
    go_wp2_with fail
    refine (awake_walk _).mono ?_; rintro e w0 ⟨rfl, hb⟩
    have HB0 := Lib.hid hb
    clear hb
    go_wp2_with fail
    go_ret
    exact ⟨rfl, HB0.out⟩
theorem cells42 : Try.prog.cellsOf 42 = 3 := by kernel_rfl
section
variable {H : Type} {enc : TypeId × Value → H} {w : World} {base b0 : Nat} {spare : Nat → Bool} {held : Bool}
theorem op_cells {fuel : Nat} {cs : List Value} {x : DataW H × List MemPlace} (h : DataW.trod enc Try.prog w base spare held fuel 42 cs = some x) : ∃ k l m : Int, cs = [.int .i64 k, .int .i64 l, .int .i64 m] := by
  obtain ⟨xs, n, _, _, hl, hx, hg⟩ := DataW.trod_struct Try.underlying42 h
  rw [cells42] at hl
  match cs, hl with
  | [c0, c1, c2], _ =>
    match xs, hx with
    | [y0, y1, y2], _ =>
      have k0 := hg 0 _ rfl
      have k1 := hg 1 _ rfl
      have k2 := hg 2 _ rfl
      simp only [List.getElem?_cons_zero, List.getElem?_cons_succ] at k0 k1 k2
      obtain ⟨a, ha, _⟩ := DataW.trod_int Try.underlying3 k0
      obtain ⟨b, hb, _⟩ := DataW.trod_int Try.underlying3 k1
      obtain ⟨c, hc, _⟩ := DataW.trod_int Try.underlying3 k2
      simp [cells3] at ha hb hc
      exact ⟨a, b, c, by simp [ha, hb, hc]⟩
theorem open_ops {r : Reach} {v : Value} {d : DataW H} {p : List MemPlace} (hv : Value.okWide Try.prog w r b0 38 v) (h : DataW.Trod enc Try.prog w base (fun _ => true) held 38 v d p) : ∃ (A : Option Addr) (n c : Nat) (rs : List (Int × Int × Int)), v = .slice A n c ∧ rs.length = n ∧ Ops w w.heap.size A rs := by
  obtain ⟨fuel, hf⟩ := h
  rcases Deep.open_slice Try.underlying38 hf with ⟨h1, _⟩ | ⟨a, len, cap, m, fu, D, Pl, h1, _, hlc, hcm, hm, _, hel⟩
  · exact ⟨none, 0, 0, [], slice_of Try.underlying38 hv h1, rfl, fun i hi => absurd hi (by simp)⟩
  · rw [cells42] at hel
    have key' : ∀ i, i < len → ∃ r : Int × Int × Int, w.cell? (a.add (i * 3)) = some (.int .i64 r.1) ∧ w.cell? ⟨(a.add (i * 3)).block, (a.add (i * 3)).off + 1, none⟩ = some (.int .i64 r.2.1) ∧ w.cell? ⟨(a.add (i * 3)).block, (a.add (i * 3)).off + 2, none⟩ = some (.int .i64 r.2.2) := by
      intro i hi
      obtain ⟨cs', hc, ht⟩ := hel i (by rw [hm, if_pos rfl]; omega)
      obtain ⟨n, s, l, rfl⟩ := op_cells ht
      obtain ⟨_, _, hat⟩ := World.cells?_some hc
      have hne : ∀ k, 0 < k → (a.add (i * 3)).add k = ⟨(a.add (i * 3)).block, (a.add (i * 3)).off + k, none⟩ := fun k hk => by
        unfold Addr.add; rw [if_neg (by omega : ¬ k = 0)]
      have h0 := hat 0 (by decide)
      have h1 := hat 1 (by decide)
      have h2 := hat 2 (by decide)
      rw [hne 1 (by decide)] at h1
      rw [hne 2 (by decide)] at h2
      exact ⟨(n, s, l), by simpa [Addr.add] using h0, by simpa using h1, by simpa using h2⟩
    obtain ⟨f, hf⟩ := Deep.choose_lt key'
    refine ⟨some a, len, cap, (List.range len).map f, slice_of Try.underlying38 hv h1, by simp, fun i hi => ?_⟩
    have hi' : i < len := by simpa using hi
    have hg : ((List.range len).map f).getD i (0, 0, 0) = f i := by simp [List.getD, hi']
    rw [hg]
    refine ⟨a, rfl, ?_, hf i hi'⟩
    have := block_lt_of_cell (hf i hi').1
    rwa [add_block] at this
theorem reads_in (s : ByteArray) (_ : s.size ≤ maxLen) {d : DataW H} {p : List MemPlace} (v : Value) (h : DataW.Trod enc Try.prog w base (fun _ => true) held 38 v d p) (hv : Value.okWide Try.prog w .any b0 38 v) : Calls Try.prog 8 #[.string s, v] w fun e w' => e = .returned (.bool true) ∧ Below w.heap.size w w' := by
  obtain ⟨A, n, c, rs, rfl, hn, hR⟩ := open_ops hv h
  by_cases h1 : 300 < s.size ∨ 30 < n
  · exact reads_many s A n c h1 w
  · exact reads_few s A n c rs (by omega) hn (by omega) w hR
end
end Go.Proofs.Ytkogechopdfleaa
