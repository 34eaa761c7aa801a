/- A part of the proofs of TopCounter and TopStrict: what the functions of the program do, each walked once, and plain laws about it. No condition. -/
import Derived.Test.YtlmjefjimoghcaaGreatA11
import Derived.Test.YtlmjefjimoghcaaGreatA18
namespace Go.Proofs.YtlmjefjimoghcaaGreat
set_option linter.unusedSimpArgs false
set_option linter.unnecessarySimpa false
set_option linter.unusedVariables false
open Go.RowKit
attribute [local go_sem ↓] Go.wp_at_zero Go.wp_at_succ
def gB (s : List UInt8) (i : Nat) : UInt8 := s.getD i 0
/-- how many bytes behind i and j are alike: n are known to be, m more are looked at -/
def comF (s : List UInt8) (i j : Nat) : Nat → Nat → Nat
 | n, 0 => n
 | n, m + 1 => if gB s (i + n) = gB s (j + n) then comF s i j (n + 1) m else n
theorem comF_le (s : List UInt8) (i j : Nat) : ∀ m n, comF s i j n m ≤ n + m
 | 0, _ => Nat.le_refl _
 | m + 1, n => by
  unfold comF; split
  ·have := comF_le s i j m (n + 1); omega
  ·omega
theorem sB_at {s : List UInt8} {i : Nat} (hi : i < s.length) : ∀ h, (sB s)[i]'h = gB s i := fun h => by
 have e : (sB s)[i]'h = s[i]'hi := rfl
 rw [e]
 unfold gB
 simp [List.getD, hi]
theorem u8_ne {x y : UInt8} : ((x.toNat : Int) != (y.toNat : Int)) = decide (x ≠ y) := by
 by_cases h : x = y
 ·subst h; simp
 ·have : x.toNat ≠ y.toNat := fun e => h (UInt8.toNat_inj.1 e)
  rw [decide_eq_true h]
  exact bne_iff_ne.2 (by omega)
def ComR (i j m : Nat) (s : List UInt8) (w : World) (v : Value) (wr : World) : Prop := ∃ k : Nat, v = .int .i64 (k : Int) ∧ k ≤ m ∧ comF s i j 0 m = comF s i j k (m - k) ∧ Below w.heap.size w wr
set_option maxRecDepth 100000 in
theorem common_walk (s : List UInt8) (hs : s.length ≤ 1000000) (i j m : Nat) (hi : i + m ≤ s.length) (hj : j + m ≤ s.length) (w : World) : Calls Tryz.prog 180 #[.string (sB s), .int .i64 (i : Int), .int .i64 (j : Int), .int .i64 (m : Int)] w fun e w' => e = .returned (.int .i64 (comF s i j 0 m : Int)) ∧ Below w.heap.size w w' := by
 have hsz := sB_size s
 go_enter Tryz.func180, Tryz.ntmps180
 go_wp2_with fail
 go_loopw [11] (fun v wr => ComR i j m s w v wr) (fun v _ => ((m : Int) - intOf v).toNat)
 case atStart => exact ⟨0, rfl, Nat.zero_le _, rfl, .refl _ _⟩
 case round =>
  obtain ⟨k, rfl, hk, he, hb⟩ := hrel
  have HE := Lib.hid he
  have HB := Lib.hid hb
  clear he hb
  by_cases hlt : k < m
  ·have hki : (k : Int) < m := by omega
   have G0 := sB_at (s := s) (i := i + k) (by omega)
   have G1 := sB_at (s := s) (i := j + k) (by omega)
   have b0 : (i : Int) + k < s.length := by omega
   have b1 : (j : Int) + k < s.length := by omega
   have e0 : (i : Int) + k = ((i + k : Nat) : Int) := by omega
   have e1 : (j : Int) + k = ((j + k : Nat) : Int) := by omega
   obtain ⟨p, hp⟩ : ∃ p, i + k = p := ⟨_, rfl⟩
   obtain ⟨q, hq⟩ : ∃ q, j + k = q := ⟨_, rfl⟩
   have HS : Hid (comF s i j k (m - k) = if gB s p = gB s q then comF s i j (k + 1) (m - (k + 1)) else k) := Lib.hid (by
    rw [show m - k = (m - (k + 1)) + 1 by omega, ← hp, ← hq]; rfl)
   rw [hp] at G0 e0
   rw [hq] at G1 e1
   obtain ⟨x, hx⟩ : ∃ x, gB s p = x := ⟨_, rfl⟩
   obtain ⟨y, hy⟩ : ∃ y, gB s q = y := ⟨_, rfl⟩
   rw [hx] at G0 HS
   rw [hy] at G1 HS
   have hps : p < s.length := by omega
   have hqs : q < s.length := by omega
   have hw0 : IntKind.i64.wrap ((i : Int) + k) = (p : Int) := by rw [IntWalk.i64_in _ (by omega)]; exact e0
   have hw1 : IntKind.i64.wrap ((j : Int) + k) = (q : Int) := by rw [IntWalk.i64_in _ (by omega)]; exact e1
   clear hp hq hx hy
   by_cases hxy : x = y
   ·have hne : ((x.toNat : Int) != (y.toNat : Int)) = false := by rw [u8_ne]; simp [hxy]
    go_upto_region 4 with (fail)
    go_quiet (fail)
    go_wp2_with fail
    go_roundw
    case rel => exact ⟨k + 1, by go_num, by omega, by rw [HE.out, HS.out, if_pos hxy], below_drewN HB.out _⟩
    case measure => simp [intOf]; omega
   ·have hne : ((x.toNat : Int) != (y.toNat : Int)) = true := by rw [u8_ne]; simp [hxy]
    go_upto_region 4 with (fail)
    go_quiet (fail)
    go_wp2_with fail
    go_ret
    rw [HE.out, HS.out, if_neg hxy]
    exact ⟨rfl, below_drewN HB.out _⟩
  ·obtain rfl : k = m := by omega
   have HE2 : Hid (comF s i j 0 k = k) := Lib.hid (by rw [HE.out, Nat.sub_self]; rfl)
   have hmx : max (k : Int) 0 = k := by omega
   go_wp2_with fail
   go_ret
   rw [HE2.out]
   exact ⟨rfl, HB.out⟩
theorem mvalid_walk (w : World) : Calls Tryz.prog 163 #[.int .i64 4096, .int .i64 273] w fun e w' => e = .returned (.bool true) ∧ Below w.heap.size w w' := by
 go_enter Tryz.func163, Tryz.ntmps163
 go_wp2_with fail
 go_ret
 exact ⟨rfl, .refl _ _⟩
/-- one earlier place is looked at: go on or not, the best length, the copies -/
def candS (s : List UInt8) (i m : Nat) (st : Nat × List (Nat × Nat)) (j : Nat) : Bool × (Nat × List (Nat × Nat)) :=
 if 4096 < i - j ∨ m ≤ st.1 then (false, st)
 else if gB s (j + st.1) ≠ gB s (i + st.1) then (true, st)
 else if st.1 < comF s j i 0 m then (true, (comF s j i 0 m, st.2 ++ [(comF s j i 0 m, i - j)])) else (true, st)
def candG (s : List UInt8) (i m : Nat) : Nat → Nat × List (Nat × Nat) → Nat × List (Nat × Nat)
 | 0, st => st
 | j + 1, st => if (candS s i m st j).1 then candG s i m j (candS s i m st j).2 else (candS s i m st j).2
def candL (s : List UInt8) (i : Nat) : List (Nat × Nat) := (candG s i (min 273 (s.length - i)) i (1, [])).2
/-- the variables of better -/
structure BtO (w0 w : World) (I W B M D O : Nat) (s : List UInt8) (i m b : Nat) (out : List (Nat × Nat)) : Prop where
 ci : w.heap[I]? = some (.cells #[.int .i64 (i : Int)] 3 (0, 0))
 cw : w.heap[W]? = some (.cells #[.int .i64 4096] 3 (0, 0))
 cb : w.heap[B]? = some (.cells #[.int .i64 (b : Int)] 3 (0, 0))
 cm : w.heap[M]? = some (.cells #[.int .i64 (m : Int)] 3 (0, 0))
 cd : w.heap[D]? = some (.cells #[.string (sB s)] 9 (0, 0))
 co : ∃ A c, w.heap[O]? = some (.cells #[.slice A out.length c] 189 (0, 0)) ∧ OwnR w0 192 2 (.slice A out.length c) out.length (rcells out) w
 gI : w0.heap.size ≤ I
 gB : w0.heap.size ≤ B
 gO : w0.heap.size ≤ O
 bI : B ≠ I
 bW : B ≠ W
 bM : B ≠ M
 be : Below w0.heap.size w0 w
theorem cells_ne {w : World} {g k : Nat} {a b : Array Value} {t u : TypeId} (h : w.heap[g]? = some (.cells a t (0, 0))) (h' : w.heap[k]? = some (.cells b u (0, 0))) (ht : t ≠ u) : g ≠ k := by
 rintro rfl; rw [h] at h'; injection h' with h'; injection h' with _ h'; exact ht h'
theorem row_cells_ne {w : World} {e : TypeId} {size n : Nat} {v : Value} {xs : List Value} (h : w.ownsRow 0 e size v n xs) {k : Nat} {b : Array Value} {u : TypeId} (h' : w.heap[k]? = some (.cells b u (0, 0))) (ht : e ≠ u) {g : Nat} (hg : v.ownBlock = some g) : g ≠ k := by
 obtain ⟨cur, hc⟩ := row_block h hg
 exact cells_ne hc h' ht
/-- nothing of it is touched -/
theorem BtO.mono {w0 w w' : World} {I W B M D O : Nat} {s : List UInt8} {i m b : Nat} {out : List (Nat × Nat)} (h : BtO w0 w I W B M D O s i m b out) (hb : Below w.heap.size w w') : BtO w0 w' I W B M D O s i m b out := by
 obtain ⟨ci, cw, cb, cm, cd, ⟨A, c, co, ho⟩, gI, gB, gO, bI, bW, bM, be⟩ := h
 have k : ∀ g o, w.heap[g]? = some o → w'.heap[g]? = some o := fun g o h => (hb.block g (Array.getElem?_eq_some_iff.1 h).1).trans h
 exact ⟨k _ _ ci, k _ _ cw, k _ _ cb, k _ _ cm, k _ _ cd, ⟨A, c, k _ _ co, ho.below hb⟩, gI, gB, gO, bI, bW, bM, bstep be (Nat.le_refl _) hb⟩
theorem one_cell {w : World} {g : Nat} {v : Value} {t : TypeId} (h : w.heap[g]? = some (.cells #[v] t (0, 0))) : w.cell? ⟨g, 0, none⟩ = some v ∧ w.frozen? ⟨g, 0, none⟩ = false := ⟨by rw [cell_of_row w g 0 _ _ _ h]; rfl, by simp [World.frozen?, h]⟩
set_option maxRecDepth 100000 in
/-- a better copy is found -/
theorem BtO.found {w0 w : World} {I W B M D O : Nat} {s : List UInt8} {i m b : Nat} {out : List (Nat × Nat)} (h : BtO w0 w I W B M D O s i m b out) (n d : Nat) (hol : out.length + 1 ≤ 1000000) {A : Option Addr} {c : Nat} (hA : w.heap[O]? = some (.cells #[.slice A out.length c] 189 (0, 0))) :
  ∃ A4 c4 W4, (Builtin.append_ #[189, 189] 189 #[.slice A out.length c, .slice (some ⟨w.heap.size, 0, none⟩) 1 1]).run Tryz.prog ((w.setCell ⟨B, 0, none⟩ (.int .i64 (n : Int))).alloc (.cells #[.int .i64 (n : Int), .int .i64 (d : Int)] 192)) = .ok (.slice A4 (out.length + 1) c4) W4 ∧ W4.heap[O]? = some (.cells #[.slice A out.length c] 189 (0, 0)) ∧ BtO w0 (W4.setCell ⟨O, 0, none⟩ (.slice A4 (out.length + 1) c4)) I W B M D O s i m n (out ++ [(n, d)]) := by
 obtain ⟨ci, cw, cb, cm, cd, ⟨A', c', co, ho⟩, gI, gB, gO, bI, bW, bM, be⟩ := h
 rw [hA] at co
 injection co with co
 injection co with co
 injection co with co
 injection co with co
 injection co with eA _ ec
 subst eA ec
 obtain ⟨W1, hW1⟩ : ∃ W1, w.setCell ⟨B, 0, none⟩ (.int .i64 (n : Int)) = W1 := ⟨_, rfl⟩
 have f1 : ∀ g, g ≠ B → W1.heap[g]? = w.heap[g]? := fun g hg => by rw [← hW1]; exact Below.heap_setCell _ ⟨B, 0, none⟩ _ g hg
 have hs1 : W1.heap.size = w.heap.size := by rw [← hW1]; simp
 have cb1 : W1.heap[B]? = some (.cells #[.int .i64 (n : Int)] 3 (0, 0)) := by rw [← hW1]; exact heap_setCell_any w B 0 _ _ _ _ cb
 have oB := cells_ne hA cb (by decide)
 have dB := cells_ne cd cb (by decide)
 have be1 : Below w0.heap.size w0 W1 := by rw [← hW1]; exact be.setCell (p := ⟨B, 0, none⟩) gB _
 have ho1 : OwnR w0 192 2 (.slice A out.length c) out.length (rcells out) W1 := ho.frame fun g hg => f1 g (row_cells_ne ho.row cb (by decide) hg)
 have ci1 := (f1 I (Ne.symm bI)).trans ci
 have cw1 := (f1 W (Ne.symm bW)).trans cw
 have cm1 := (f1 M (Ne.symm bM)).trans cm
 have cd1 := (f1 D dB).trans cd
 have co1 := (f1 O oB).trans hA
 have ho2 := ho1.below ((Below.refl _ _).alloc (Nat.le_refl _) (.cells #[.int .i64 (n : Int), .int .i64 (d : Int)] 192))
 have hsz : w0.heap.size ≤ (W1.alloc (.cells #[.int .i64 (n : Int), .int .i64 (d : Int)] 192)).heap.size := by rw [World.size_alloc]; have := be1.size; omega
 obtain ⟨A4, c4, W4, hrun, ho4, hg4, -⟩ := ho2.push2 Tryz.underlying189 rfl rfl rfl rfl rfl (by decide) hol W1.heap.size (.int .i64 (n : Int)) (.int .i64 (d : Int)) (by rw [cell_of_row _ _ _ _ _ _ (heap_alloc_new W1 _)]; rfl) (by rw [cell_of_row _ _ _ _ _ _ (heap_alloc_new W1 _)]; rfl) rfl rfl hsz
 have f4 : ∀ {g : Nat} {a : Array Value} {t : TypeId}, W1.heap[g]? = some (.cells a t (0, 0)) → 192 ≠ t → W4.heap[g]? = some (.cells a t (0, 0)) := fun {g a t} hg ht =>
  ((hg4.block g (by have := (Array.getElem?_eq_some_iff.1 hg).1; rw [World.size_alloc]; omega) fun e => row_cells_ne ho1.row hg ht e.symm rfl).trans (Below.heap_alloc W1 _ g (Array.getElem?_eq_some_iff.1 hg).1)).trans hg
 have be4 := below_grown (be1.alloc be1.size (.cells #[.int .i64 (n : Int), .int .i64 (d : Int)] 192)) hsz hg4 ho2.new
 have co4 := f4 co1 (by decide)
 have cb4 := f4 cb1 (by decide)
 have ci4 := f4 ci1 (by decide)
 have cw4 := f4 cw1 (by decide)
 have cm4 := f4 cm1 (by decide)
 have cd4 := f4 cd1 (by decide)
 have f5 : ∀ g, g ≠ O → (W4.setCell ⟨O, 0, none⟩ (.slice A4 (out.length + 1) c4)).heap[g]? = W4.heap[g]? := fun g hg => Below.heap_setCell _ ⟨O, 0, none⟩ _ g hg
 rw [hs1, ← hW1] at hrun
 refine ⟨A4, c4, W4, hrun, co4, (f5 I (cells_ne ci4 co4 (by decide))).trans ci4, (f5 W (cells_ne cw4 co4 (by decide))).trans cw4, (f5 B (cells_ne cb4 co4 (by decide))).trans cb4, (f5 M (cells_ne cm4 co4 (by decide))).trans cm4, (f5 D (cells_ne cd4 co4 (by decide))).trans cd4, ⟨A4, c4, ?_, ?_⟩, gI, gB, gO, bI, bW, bM, be4.setCell (p := ⟨O, 0, none⟩) gO _⟩
 ·rw [List.length_append]
  exact heap_setCell_any W4 O 0 _ _ _ _ co4
 ·rw [rcells_append, List.length_append]
  exact ho4.frame fun g hg => f5 g (row_cells_ne ho4.row co4 (by decide) hg)
set_option maxRecDepth 100000 in
set_option maxHeartbeats 1000000 in
theorem betc_walk {w0 w : World} {I W B M D O : Nat} {s : List UInt8} {i m b : Nat} {out : List (Nat × Nat)} (h : BtO w0 w I W B M D O s i m b out) (j : Nat) (hj : j < i) (hi : i + m ≤ s.length) (hs : s.length ≤ 4096) (hol : out.length ≤ 5000) :
  Calls Tryz.prog 179 #[.int .i64 (j : Int), .pointer (some ⟨I, 0, none⟩), .pointer (some ⟨W, 0, none⟩), .pointer (some ⟨B, 0, none⟩), .pointer (some ⟨M, 0, none⟩), .pointer (some ⟨D, 0, none⟩), .pointer (some ⟨O, 0, none⟩)] w fun e w' => e = .returned (.bool (candS s i m (b, out) j).1) ∧ BtO w0 w' I W B M D O s i m (candS s i m (b, out) j).2.1 (candS s i m (b, out) j).2.2 := by
 have HI := Lib.hid h
 obtain ⟨ki, -⟩ := one_cell h.ci
 obtain ⟨kw, -⟩ := one_cell h.cw
 obtain ⟨kb, fb⟩ := one_cell h.cb
 obtain ⟨km, -⟩ := one_cell h.cm
 obtain ⟨kd, -⟩ := one_cell h.cd
 obtain ⟨A, c, co, -⟩ := h.co
 obtain ⟨ko, -⟩ := one_cell co
 have HCo := Lib.hid co
 have hbl := HI.out.cb
 have HBl := Lib.hid (Array.getElem?_eq_some_iff.1 hbl).1
 clear h co hbl
 obtain ⟨d, hd⟩ : ∃ d, i - j = d := ⟨_, rfl⟩
 have hdi : (i : Int) - j = (d : Int) := by omega
 have HD := Lib.hid hd
 by_cases hfar : 4096 < d
 ·have hE : Hid (candS s i m (b, out) j = (false, (b, out))) := Lib.hid (by unfold candS; rw [if_pos (.inl (by omega))])
  have hf : (4096 : Int) < d := by omega
  have hil : (i : Int) ≤ 4096 := by omega
  clear hd
  go_enter Tryz.func179, Tryz.ntmps179
  go_wp2_with fail
  go_ret
  rw [hE.out]
  exact ⟨rfl, HI.out⟩
 by_cases hbest : m ≤ b
 ·have hE : Hid (candS s i m (b, out) j = (false, (b, out))) := Lib.hid (by unfold candS; rw [if_pos (.inr hbest)])
  have hf : ¬ (4096 : Int) < d := by omega
  have hil : (i : Int) ≤ 4096 := by omega
  have hmb : (m : Int) ≤ b := by omega
  clear hd
  go_enter Tryz.func179, Tryz.ntmps179
  go_wp2_with fail
  go_ret
  rw [hE.out]
  exact ⟨rfl, HI.out⟩
 have hf : ¬ (4096 : Int) < d := by omega
 have hil : (i : Int) ≤ 4096 := by omega
 have hmb : ¬ (m : Int) ≤ b := by omega
 obtain ⟨p, hp⟩ : ∃ p, j + b = p := ⟨_, rfl⟩
 obtain ⟨q, hq⟩ : ∃ q, i + b = q := ⟨_, rfl⟩
 have hw0 : IntKind.i64.wrap ((j : Int) + b) = (p : Int) := by rw [IntWalk.i64_in _ (by omega)]; omega
 have hw1 : IntKind.i64.wrap ((i : Int) + b) = (q : Int) := by rw [IntWalk.i64_in _ (by omega)]; omega
 have hsz := sB_size s
 have hps : p < s.length := by omega
 have hqs : q < s.length := by omega
 have G0 := sB_at (s := s) (i := p) hps
 have G1 := sB_at (s := s) (i := q) hqs
 obtain ⟨x, hx⟩ : ∃ x, Go.Proofs.YtlmjefjimoghcaaGreat.gB s p = x := ⟨_, rfl⟩
 obtain ⟨y, hy⟩ : ∃ y, Go.Proofs.YtlmjefjimoghcaaGreat.gB s q = y := ⟨_, rfl⟩
 have HE : Hid (candS s i m (b, out) j = if x ≠ y then (true, (b, out)) else if b < comF s j i 0 m then (true, (comF s j i 0 m, out ++ [(comF s j i 0 m, d)])) else (true, (b, out))) := Lib.hid (by
  unfold candS
  rw [if_neg (by omega)]
  simp only
  rw [hp, hq, hx, hy, hd])
 rw [hx] at G0
 rw [hy] at G1
 have hpi : (p : Int) < s.length := by omega
 have hqi : (q : Int) < s.length := by omega
 have HC := Lib.hid fun w => common_walk s (by omega) j i m (by omega) hi w
 have hcl := comF_le s j i m 0
 obtain ⟨n, hn⟩ : ∃ n, comF s j i 0 m = n := ⟨_, rfl⟩
 rw [hn] at HC HE hcl
 have hni : (n : Int) ≤ 4096 := by omega
 have HOl : Hid (out.length ≤ 5000) := Lib.hid hol
 clear hx hy hp hq hd hn hcl hol hs
 by_cases hxy : x = y
 ·have hne : ((x.toNat : Int) != (y.toNat : Int)) = false := by rw [u8_ne]; simp [hxy]
  have HE2 : Hid (candS s i m (b, out) j = if b < n then (true, (n, out ++ [(n, d)])) else (true, (b, out))) := Lib.hid (by rw [HE.out, if_neg (by simp [hxy])])
  by_cases hbn : b < n
  ·have hbi : (b : Int) < n := by omega
   go_enter Tryz.func179, Tryz.ntmps179
   go_upto_region 3 with (fail)
   go_quiet (fail)
   obtain ⟨W2, hW2⟩ : ∃ W2, w.drewN nq = W2 := ⟨_, rfl⟩
   have HI2 : Hid (BtO w0 W2 I W B M D O s i m b out) := Lib.hid (by rw [← hW2]; exact HI.out.mono (below_drewN (.refl _ _) _))
   rw [hW2]
   clear hW2 ki kw kb km kd ko fb
   obtain ⟨ki, -⟩ := one_cell HI2.out.ci
   obtain ⟨kb, -⟩ := one_cell HI2.out.cb
   obtain ⟨km, -⟩ := one_cell HI2.out.cm
   obtain ⟨kd, -⟩ := one_cell HI2.out.cd
   go_wp2_with fail
   refine (HC.out _).mono ?_
   rintro x w3 ⟨rfl, hb3⟩
   have HI3 := Lib.hid (HI2.out.mono hb3)
   clear hb3 ki kb km kd
   obtain ⟨ki, -⟩ := one_cell HI3.out.ci
   obtain ⟨kb, fb⟩ := one_cell HI3.out.cb
   obtain ⟨A, c, co, -⟩ := HI3.out.co
   obtain ⟨ko, -⟩ := one_cell co
   obtain ⟨A4, c4, W4, hrun, co4, hB4⟩ := HI3.out.found n d (by have := HOl.out; omega) co
   obtain ⟨ko4, fo4⟩ := one_cell co4
   have hOB : ¬ (O = B) := cells_ne co HI3.out.cb (by decide)
   have hIB : ¬ (I = B) := fun e => HI3.out.bI e.symm
   have HB4 := Lib.hid hB4
   have HRUN := Lib.hid hrun
   clear hrun hB4 co co4
   go_wp2_with (at_builtin; refine wpList_append_eq rfl _ _ _ rfl _ _ rfl rfl HRUN.out ?_)
   go_ret
   rw [HE2.out, if_pos (by omega)]
   exact ⟨rfl, HB4.out⟩
  ·have hbi : ¬ (b : Int) < n := by omega
   go_enter Tryz.func179, Tryz.ntmps179
   go_upto_region 3 with (fail)
   go_quiet (fail)
   obtain ⟨W2, hW2⟩ : ∃ W2, w.drewN nq = W2 := ⟨_, rfl⟩
   have HI2 : Hid (BtO w0 W2 I W B M D O s i m b out) := Lib.hid (by rw [← hW2]; exact HI.out.mono (below_drewN (.refl _ _) _))
   rw [hW2]
   clear hW2 ki kw kb km kd ko fb
   obtain ⟨ki, -⟩ := one_cell HI2.out.ci
   obtain ⟨kb, -⟩ := one_cell HI2.out.cb
   obtain ⟨km, -⟩ := one_cell HI2.out.cm
   obtain ⟨kd, -⟩ := one_cell HI2.out.cd
   go_wp2_with fail
   refine (HC.out _).mono ?_
   rintro x w3 ⟨rfl, hb3⟩
   have HI3 := Lib.hid (HI2.out.mono hb3)
   clear hb3 ki kb km kd
   obtain ⟨ki, -⟩ := one_cell HI3.out.ci
   obtain ⟨kb, fb⟩ := one_cell HI3.out.cb
   obtain ⟨A, c, co, -⟩ := HI3.out.co
   obtain ⟨ko, -⟩ := one_cell co
   clear co
   go_wp2_with fail
   go_ret
   rw [HE2.out, if_neg (by omega)]
   exact ⟨rfl, HI3.out⟩
 ·have hne : ((x.toNat : Int) != (y.toNat : Int)) = true := by rw [u8_ne]; simp [hxy]
  have HE2 : Hid (candS s i m (b, out) j = (true, (b, out))) := Lib.hid (by rw [HE.out, if_pos hxy])
  go_enter Tryz.func179, Tryz.ntmps179
  go_upto_region 3 with (fail)
  go_quiet (fail)
  go_wp2_with fail
  go_ret
  rw [HE2.out]
  exact ⟨rfl, HI.out.mono (below_drewN (.refl _ _) _)⟩
/-- what better's loop keeps -/
def CaR (w0 : World) (I W B M D O : Nat) (s : List UInt8) (i m : Nat) (v : Value) (wr : World) : Prop := ∃ k b out, ((k = 0 ∧ v = .int .i64 (-1)) ∨ ∃ j : Nat, k = j + 1 ∧ v = .int .i64 (j : Int)) ∧ k ≤ i ∧ out.length + 1 ≤ b ∧ b ≤ 4096 ∧ candG s i m i (1, []) = candG s i m k (b, out) ∧ BtO w0 wr I W B M D O s i m b out
theorem candS_b {s : List UInt8} {i m b : Nat} {out : List (Nat × Nat)} {j : Nat} (hm : m ≤ 4096) (h : out.length + 1 ≤ b) (hb : b ≤ 4096) : (candS s i m (b, out) j).2.2.length + 1 ≤ (candS s i m (b, out) j).2.1 ∧ (candS s i m (b, out) j).2.1 ≤ 4096 := by
 unfold candS
 split
 ·exact ⟨h, hb⟩
 ·split
  ·exact ⟨h, hb⟩
  ·split
   ·rename_i h1
    have := comF_le s j i m 0
    refine ⟨?_, by show comF s j i 0 m ≤ 4096; omega⟩
    show (out ++ [_]).length + 1 ≤ _
    rw [List.length_append]
    simp only [List.length_cons, List.length_nil] at h1 ⊢
    omega
   ·exact ⟨h, hb⟩
set_option maxRecDepth 100000 in
set_option maxHeartbeats 1000000 in
theorem cand1_walk {w0 w : World} {I W B M D O : Nat} {s : List UInt8} {i m : Nat} (h : BtO w0 w I W B M D O s i m 1 []) (hi : i + m ≤ s.length) (hs : s.length ≤ 4096) (P : Nat) (hP : w.heap[P]? = some (.cells #[.int .i64 (i : Int)] 3 (0, 0))) :
  Calls Tryz.prog 165 #[.func (.func 179) #[] #[.pointer (some ⟨I, 0, none⟩), .pointer (some ⟨W, 0, none⟩), .pointer (some ⟨B, 0, none⟩), .pointer (some ⟨M, 0, none⟩), .pointer (some ⟨D, 0, none⟩), .pointer (some ⟨O, 0, none⟩)], .pointer (some ⟨P, 0, none⟩)] w fun e w' => e = .returned (.tuple #[]) ∧ BtO w0 w' I W B M D O s i m (candG s i m i (1, [])).1 (candG s i m i (1, [])).2 := by
 have HI := Lib.hid h
 obtain ⟨kp, -⟩ := one_cell hP
 have HSl := Lib.hid hs
 have HIm := Lib.hid hi
 have hil : (i : Int) ≤ 4096 := by omega
 clear h hP hs hi
 have hstart : ∃ v, v = .int .i64 ((i : Int) - 1) ∧ CaR w0 I W B M D O s i m v w := by
  refine ⟨_, rfl, i, 1, [], ?_, Nat.le_refl _, by simp, by omega, rfl, HI.out⟩
  rcases i with _ | j
  ·exact .inl ⟨rfl, rfl⟩
  ·exact .inr ⟨j, rfl, by congr 1; omega⟩
 obtain ⟨v0, hv0, HR0⟩ := hstart
 have HR0 := Lib.hid HR0
 have HV0 := Lib.hid hv0
 clear hv0
 go_enter Tryz.func165, Tryz.ntmps165
 go_wp2_with fail
 rw [← HV0.out]
 go_loopw [3] (fun v wr => CaR w0 I W B M D O s i m v wr) (fun v _ => (intOf v + 1).toNat)
 case atStart => exact HR0.out
 case round =>
  obtain ⟨k, b, out, hkv, hk, hob, hb, he, hB⟩ := hrel
  have HE := Lib.hid he
  have HB := Lib.hid hB
  clear he hB
  rcases hkv with ⟨rfl, rfl⟩ | ⟨j, rfl, rfl⟩
  ·go_wp2_with fail
   refine bodyPost_end (results_none rfl _ _ _) rfl ?_
   rw [HE.out]
   exact ⟨rfl, HB.out⟩
  ·have HC := Lib.hid (betc_walk HB.out j (by omega) HIm.out HSl.out (by omega))
   have hSb := candS_b (s := s) (i := i) (m := m) (j := j) (by have := HIm.out; have := HSl.out; omega) hob hb
   obtain ⟨ok, hok⟩ : ∃ ok, (candS s i m (b, out) j).1 = ok := ⟨_, rfl⟩
   obtain ⟨st, hst⟩ : ∃ st, (candS s i m (b, out) j).2 = st := ⟨_, rfl⟩
   rw [hok, hst] at HC
   rw [hst] at hSb
   have HG : Hid (candG s i m (j + 1) (b, out) = if ok then candG s i m j st else st) := Lib.hid (by rw [← hok, ← hst]; rfl)
   have HSb := Lib.hid hSb
   have hji : (j : Int) < i := by omega
   have HK := Lib.hid hk
   clear hok hst hSb hob hb hk
   cases ok with
   | false =>
    go_wp2_with fail
    refine (HC.out).mono ?_
    rintro x w1 ⟨rfl, hb1⟩
    have HB1 := Lib.hid hb1
    clear hb1
    go_wp2_with fail
    refine bodyPost_end (results_none rfl _ _ _) rfl ?_
    rw [HE.out, HG.out]
    exact ⟨rfl, HB1.out⟩
   | true =>
    go_wp2_with fail
    refine (HC.out).mono ?_
    rintro x w1 ⟨rfl, hb1⟩
    have HB1 := Lib.hid hb1
    clear hb1
    go_wp2_with fail
    go_roundw
    case rel =>
     refine ⟨j, st.1, st.2, ?_, by have := HK.out; omega, HSb.out.1, HSb.out.2, by rw [HE.out, HG.out]; rfl, HB1.out⟩
     rcases j with _ | j
     ·exact .inl ⟨rfl, by go_num⟩
     ·exact .inr ⟨j, rfl, by go_num⟩
    case measure => simp [intOf]
theorem own_flat {w0 w : World} {e : TypeId} {size : Nat} {A : Option Addr} {n c : Nat} {xs : List Value} (h : OwnR w0 e size (.slice A n c) n xs w) : Flat w (fun k => w0.heap.size ≤ k ∧ k < w.heap.size) A xs := fun j u hj => by
 obtain ⟨a, hA, hT, hc⟩ := row_flat h.row j u hj
 refine ⟨a, hA, ⟨?_, hT.2⟩, hc⟩
 have hn : 0 < n := by
  have h1 := h.row.1
  have h2 := (List.getElem?_eq_some_iff.1 hj).1
  rcases Nat.eq_zero_or_pos n with h0 | h0
  ·subst h0; omega
  ·exact h0
 obtain ⟨g, c', hg, -⟩ := row_some h.row hn
 injection hg with hg
 rw [hA] at hg
 injection hg with hg
 subst hg
 exact h.new g (by rw [hA]; rfl)
theorem bt_new (w : World) (s : List UInt8) (i m : Nat) : BtO w ((((((w.alloc (.cells #[.string (sB s)] 9)).alloc (.cells #[.int .i64 (i : Int)] 3)).alloc (.cells #[.int .i64 4096] 3)).alloc (.cells #[.int .i64 (m : Int)] 3)).alloc (.cells #[.slice none 0 0] 189)).alloc (.cells #[.int .i64 1] 3)) (w.heap.size + 1) (w.heap.size + 1 + 1) (w.heap.size + 1 + 1 + 1 + 1 + 1) (w.heap.size + 1 + 1 + 1) w.heap.size (w.heap.size + 1 + 1 + 1 + 1) s i m 1 [] := by
 have e : ∀ (w : World) (o : Obj) (k : Nat), (w.alloc o).heap[k]? = if k = w.heap.size then some o else w.heap[k]? := fun w o k => by
  show (w.heap.push o)[k]? = _
  rw [Array.getElem?_push]
 refine ⟨?_, ?_, ?_, ?_, ?_, ⟨none, 0, ?_, .nil _ _ _ _⟩, by omega, by omega, by omega, by omega, by omega, by omega, ?_⟩
 rotate_right
 ·exact ((((((Below.refl _ w).alloc (Nat.le_refl _) _).alloc (by simp) _).alloc (by simp; omega) _).alloc (by simp; omega) _).alloc (by simp; omega) _).alloc (by simp; omega) _
 all_goals (simp only [e, World.size_alloc]; (repeat' split))
 all_goals first | rfl | omega | (exfalso; simp_all [World.size_alloc])
set_option maxRecDepth 100000 in
set_option maxHeartbeats 1000000 in
theorem better_walk (s : List UInt8) (hs : s.length ≤ 4096) (i : Nat) (hi : i ≤ s.length) (w : World) (P : Nat) (hP : w.heap[P]? = some (.cells #[.int .i64 (i : Int)] 3 (0, 0))) :
  Calls Tryz.prog 164 #[.string (sB s), .int .i64 (i : Int), .int .i64 4096, .int .i64 273, .func (.func 165) #[] #[.pointer (some ⟨P, 0, none⟩)]] w fun e w' => ∃ A c, e = .returned (.slice A (candL s i).length c) ∧ Flat w' (fun k => w.heap.size ≤ k ∧ k < w'.heap.size) A (rcells (candL s i)) ∧ Below w.heap.size w w' := by
 have hsz := sB_size s
 have hsi : (s.length : Int) ≤ 4096 := by omega
 have hil : (i : Int) ≤ s.length := by omega
 obtain ⟨d, hd⟩ : ∃ d, s.length - i = d := ⟨_, rfl⟩
 have hdi : (s.length : Int) - i = (d : Int) := by omega
 obtain ⟨m, hm⟩ : ∃ m, min 273 d = m := ⟨_, rfl⟩
 have hmi : min (273 : Int) d = (m : Int) := by omega
 have HB := Lib.hid (bt_new w s i m)
 have HP := Lib.hid hP
 have HL : Hid (candL s i = (candG s i m i (1, [])).2) := Lib.hid (by unfold candL; rw [hd, hm])
 have HS := Lib.hid hs
 have him : Hid (i + m ≤ s.length) := Lib.hid (by omega)
 clear hP hs hi hd hm
 go_enter Tryz.func164, Tryz.ntmps164
 go_wp2_with fail
 have HX := Lib.hid (cand1_walk HB.out him.out HS.out P ((HB.out.be.block P (Array.getElem?_eq_some_iff.1 HP.out).1).trans HP.out))
 refine (HX.out).mono ?_
 rintro x w1 ⟨rfl, h1⟩
 obtain ⟨A, c, co, ho⟩ := h1.co
 obtain ⟨ko, -⟩ := one_cell co
 have HB1 := Lib.hid h1.be
 have HO := Lib.hid ho
 clear co ho h1 HX
 go_wp2_with fail
 go_ret
 rw [HL.out]
 exact ⟨A, c, rfl, own_flat HO.out, HB1.out⟩
set_option maxRecDepth 100000 in
set_option maxHeartbeats 1000000 in
theorem cand_walk (s : List UInt8) (hs : s.length ≤ 4096) (i : Nat) (hi : i ≤ s.length) (w : World) :
  Calls Tryz.prog 133 #[.string (sB s), .int .i64 (i : Int), .int .i64 4096, .int .i64 273] w fun e w' => ∃ A c, e = .returned (.slice A (candL s i).length c) ∧ Flat w' (fun k => w.heap.size ≤ k ∧ k < w'.heap.size) A (rcells (candL s i)) ∧ Below w.heap.size w w' := by
 have hsz := sB_size s
 have hsi : (s.length : Int) ≤ 4096 := by omega
 have hil : (i : Int) ≤ s.length := by omega
 have HV := Lib.hid fun w => mvalid_walk w
 have HX := Lib.hid fun w P h => better_walk s hs i hi w P h
 have hP0 := heap_alloc_new w (.cells #[.int .i64 (i : Int)] 3)
 have HB0 : Hid (Below w.heap.size w (w.alloc (.cells #[.int .i64 (i : Int)] 3))) := Lib.hid ((Below.refl _ _).alloc (Nat.le_refl _) _)
 obtain ⟨W0, hW0⟩ : ∃ W0, w.alloc (.cells #[.int .i64 (i : Int)] 3) = W0 := ⟨_, rfl⟩
 obtain ⟨P, hP⟩ : ∃ P, w.heap.size = P := ⟨_, rfl⟩
 rw [hW0] at hP0 HB0
 rw [hP] at hP0
 have HP0 := Lib.hid hP0
 obtain ⟨k0, -⟩ := one_cell hP0
 have HW0 := Lib.hid hW0
 have HPe := Lib.hid hP
 clear hs hi hP0 hW0 hP
 go_enter Tryz.func133, Tryz.ntmps133
 go_upto_region 1 with (fail)
 rw [HW0.out, HPe.out]
 go_wp2_with fail
 refine (HV.out _).mono ?_
 rintro x w1 ⟨rfl, hb1⟩
 have k1 : w1.cell? ⟨P, 0, none⟩ = some (.int .i64 (i : Int)) := by
  rw [World.cell?_of_block (hb1.block P (Array.getElem?_eq_some_iff.1 HP0.out).1)]; exact k0
 have HP1 := Lib.hid ((hb1.block P (Array.getElem?_eq_some_iff.1 HP0.out).1).trans HP0.out)
 have HB1 := Lib.hid (bstep HB0.out (Nat.le_refl _) hb1)
 clear hb1
 go_wp2_with fail
 refine (HX.out _ P HP1.out).mono ?_
 rintro x w2 ⟨A, c, rfl, hi2, hb2⟩
 have HB2 := Lib.hid (bstep HB1.out (by have := HB1.out.size; omega) hb2)
 have HI2 := Lib.hid (hi2.mono (T' := fun k => w.heap.size ≤ k ∧ k < w2.heap.size) fun k h => ⟨by have := HB1.out.size; omega, h.2⟩)
 clear hi2 hb2
 go_wp2_with fail
 go_ret
 exact ⟨A, c, rfl, HI2.out, HB2.out⟩
end Go.Proofs.YtlmjefjimoghcaaGreat
