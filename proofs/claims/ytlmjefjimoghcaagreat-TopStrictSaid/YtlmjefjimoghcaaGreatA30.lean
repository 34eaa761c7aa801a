/- A part of the proofs of TopCounter and TopStrict: what the functions of the program do, each walked once, and plain laws about it. No condition. -/
import Derived.Test.YtlmjefjimoghcaaGreatA29
import Derived.Test.YtlmjefjimoghcaaGreatA12
import Derived.Test.YtlmjefjimoghcaaGreatA26
namespace Go.Proofs.YtlmjefjimoghcaaGreat
set_option linter.unusedSimpArgs false
set_option linter.unnecessarySimpa false
set_option linter.unusedVariables false
open Go.RowKit
attribute [local go_sem ↓] Go.wp_at_zero Go.wp_at_succ
/-- one bit more -/
def wpush (l : List UInt8) (n : Nat) : List UInt8 := if n % 8 = 0 then l ++ [0] else l
def wor (x : UInt8) (b k : Nat) : UInt8 := x ||| UInt8.ofNat (b <<< k)
def wset (l : List UInt8) (n b : Nat) : List UInt8 := l.set (n / 8) (wor (l.getD (n / 8) 0) b (7 - n % 8))
def wbit (l : List UInt8) (n b : Nat) : List UInt8 := wset (wpush l n) n b
structure WrO (w0 : World) (B : Nat) (l : List UInt8) (n : Nat) (w : World) : Prop where
 ex : ∃ A c, w.heap[B]? = some (.cells #[.slice A l.length c, .int .i64 (n : Int)] 243 (0, 0)) ∧ OwnR w0 5 1 (.slice A l.length c) l.length (bcells l) w ∧ (Value.slice A l.length c).ownBlock ≠ some B
 len : l.length = (n + 7) / 8
 ge : w0.heap.size ≤ B
 below : Below w0.heap.size w0 w
/-- the bit is to be set: its byte is there -/
structure WrP (w0 : World) (B : Nat) (l : List UInt8) (n : Nat) (w : World) : Prop where
 ex : ∃ g c, w.heap[B]? = some (.cells #[.slice (some ⟨g, 0, none⟩) l.length c, .int .i64 (n : Int)] 243 (0, 0)) ∧ OwnR w0 5 1 (.slice (some ⟨g, 0, none⟩) l.length c) l.length (bcells l) w ∧ g ≠ B
 len : l.length = n / 8 + 1
 ge : w0.heap.size ≤ B
 below : Below w0.heap.size w0 w
def PutR (w0 : World) (B : Nat) (l : List UInt8) (n v : Nat) (i : Value) (wr : World) : Prop :=
 (i = .int .i64 1 ∧ WrO w0 B l n wr) ∨ (i = .int .i64 0 ∧ WrO w0 B (wbit l n (v / 2)) (n + 1) wr) ∨ (i = .int .i64 (-1) ∧ WrO w0 B (wbit (wbit l n (v / 2)) (n + 1) (v % 2)) (n + 2) wr)
theorem tm8 (N : Nat) : (N : Int).tmod 8 = ((N % 8 : Nat) : Int) := by rw [Int.tmod_eq_emod_of_nonneg (by omega)]; rfl
theorem td8 (N : Nat) : (N : Int).tdiv 8 = ((N / 8 : Nat) : Int) := by rw [Int.tdiv_eq_ediv_of_nonneg (by omega)]; rfl
theorem row_g {w0 w : World} {e : TypeId} {A : Option Addr} {n c : Nat} {xs : List Value} (h : OwnR w0 e 1 (.slice A n c) n xs w) (hn : 0 < n) : ∃ g, A = some ⟨g, 0, none⟩ := by
 rcases h.row.2 with ⟨h1, h2⟩ | ⟨g, cap, cur, hv, _⟩
 ·omega
 ·injection hv with hA; exact ⟨g, hA⟩
theorem shl_eq (bt k : Nat) (hb : bt < 2) (hk : k ≤ 7) : (bt : Int) * 2 ^ min k 8 % 256 = ((UInt8.ofNat (bt <<< k)).toNat : Int) := by
 rcases (by omega : bt = 0 ∨ bt = 1) with rfl | rfl <;> rcases (by omega : k = 0 ∨ k = 1 ∨ k = 2 ∨ k = 3 ∨ k = 4 ∨ k = 5 ∨ k = 6 ∨ k = 7) with rfl | rfl | rfl | rfl | rfl | rfl | rfl | rfl <;> rfl
theorem bit_hi {v : Nat} (hv : v < 4) : IntKind.u8.wrap (bits BinOp.and IntKind.i64 ((v : Int) / 2) 1) = ((v / 2 : Nat) : Int) := by
 rcases (by omega : v = 0 ∨ v = 1 ∨ v = 2 ∨ v = 3) with rfl | rfl | rfl | rfl <;> rfl
theorem bit_lo {v : Nat} (hv : v < 4) : IntKind.u8.wrap (bits BinOp.and IntKind.i64 (v : Int) 1) = ((v % 2 : Nat) : Int) := by
 rcases (by omega : v = 0 ∨ v = 1 ∨ v = 2 ∨ v = 3) with rfl | rfl | rfl | rfl <;> rfl
theorem or_run (x : UInt8) (b k : Nat) : bits BinOp.or IntKind.u8 (x.toNat : Int) ((UInt8.ofNat (b <<< k)).toNat : Int) = ((wor x b k).toNat : Int) := by
 have h : ∀ a b : Fin 256, bits BinOp.or IntKind.u8 ((a.val : Nat) : Int) ((b.val : Nat) : Int) = ((a.val ||| b.val : Nat) : Int) := by
  intro a b
  have ha := a.isLt
  have hb := b.isLt
  have hab : a.val ||| b.val < 256 := Nat.or_lt_two_pow (n := 8) ha hb
  show IntKind.u8.wrap (((((a.val : Nat) : Int) % 2 ^ IntKind.u8.bits).toNat ||| (((b.val : Nat) : Int) % 2 ^ IntKind.u8.bits).toNat : Nat) : Int) = _
  have e1 : (((a.val : Nat) : Int) % 2 ^ IntKind.u8.bits).toNat = a.val := by
   have : (2 : Int) ^ IntKind.u8.bits = 256 := rfl
   rw [this]; omega
  have e2 : (((b.val : Nat) : Int) % 2 ^ IntKind.u8.bits).toNat = b.val := by
   have : (2 : Int) ^ IntKind.u8.bits = 256 := rfl
   rw [this]; omega
  rw [e1, e2, IntKind.wrap_u8]
  omega
 unfold wor
 rw [UInt8.toNat_or]
 exact h ⟨x.toNat, x.toNat_lt⟩ ⟨_, (UInt8.ofNat (b <<< k)).toNat_lt⟩
theorem own_cell {w0 w : World} {g n c : Nat} {l : List UInt8} (h : OwnR w0 5 1 (.slice (some ⟨g, 0, none⟩) n c) n (bcells l) w) {q : Nat} (hq : q < l.length) {x : UInt8} (hx : l.getD q 0 = x) : w.cell? ⟨g, q, none⟩ = some (.int .u8 (x.toNat : Int)) := by
 have hg : l[q]? = some x := by rw [List.getElem?_eq_getElem hq]; rw [List.getD_eq_getElem?_getD, List.getElem?_eq_getElem hq] at hx; exact congrArg some hx
 obtain ⟨a, ha, _, h3⟩ := row_flat h.row q _ (bcells_get hg)
 injection ha with ha
 subst ha
 rw [Addr.add_lit, Nat.zero_add] at h3
 exact h3
theorem wr_done {w0 W : World} {B N g c : Nat} {l : List UInt8} {b : Nat} (hb : W.heap[B]? = some (.cells #[.slice (some ⟨g, 0, none⟩) l.length c, .int .i64 (N : Int)] 243 (0, 0))) (ho : OwnR w0 5 1 (.slice (some ⟨g, 0, none⟩) l.length c) l.length (bcells l) W) (hg : g ≠ B) (hl : l.length = N / 8 + 1) (hge : w0.heap.size ≤ B) (hbe : Below w0.heap.size w0 W) :
  (W.drew.setCell ⟨g, N / 8, none⟩ (.int .u8 ((wor (l.getD (N / 8) 0) b (7 - N % 8)).toNat : Int))).heap[B]? = some (.cells #[.slice (some ⟨g, 0, none⟩) l.length c, .int .i64 (N : Int)] 243 (0, 0)) ∧
  WrO w0 B (wset l N b) (N + 1) ((W.drew.setCell ⟨g, N / 8, none⟩ (.int .u8 ((wor (l.getD (N / 8) 0) b (7 - N % 8)).toNat : Int))).setCell ⟨B, 1, none⟩ (.int .i64 ((N + 1 : Nat) : Int))) := by
 obtain ⟨y, hy⟩ : ∃ y, wor (l.getD (N / 8) 0) b (7 - N % 8) = y := ⟨_, rfl⟩
 have hws : wset l N b = l.set (N / 8) y := by unfold wset; rw [hy]
 rw [hy, hws]
 have h1 := (Below.heap_setCell W.drew ⟨g, N / 8, none⟩ (.int .u8 (y.toNat : Int)) B (by show B ≠ g; omega)).trans hb
 have hr := row_set (w := W.drew) ho.row (N / 8) (.int .u8 (y.toNat : Int)) (by omega)
 have hr2 : bcells (l.set (N / 8) y) = (bcells l).set (N / 8) (.int .u8 (y.toNat : Int)) := by unfold bcells; rw [List.map_set]
 have h2 := heap_setCell_any _ B 1 _ _ _ (.int .i64 ((N + 1 : Nat) : Int)) h1
 refine ⟨h1, ⟨⟨some ⟨g, 0, none⟩, c, ?_, ?_, fun e => hg (by injection e)⟩, ?_, hge, ?_⟩⟩
 ·rw [List.length_set]; exact h2
 ·rw [List.length_set, hr2]
  exact (⟨hr, ho.new⟩ : OwnR w0 5 1 _ _ _ _).frame fun g' hg' => Below.heap_setCell _ ⟨B, 1, none⟩ _ g' (by injection hg' with hg'; have hg' : g = g' := hg'; show g' ≠ B; omega)
 ·rw [List.length_set]; omega
 ·have hg0 := ho.new g rfl
  exact ((hbe.drew).setCell (p := ⟨g, N / 8, none⟩) hg0 _).setCell (p := ⟨B, 1, none⟩) hge _
set_option maxRecDepth 100000 in
set_option maxHeartbeats 2000000 in
theorem put_walk {w0 w : World} {B n : Nat} {l : List UInt8} (h : WrO w0 B l n w) (hn : n ≤ 100000) (v : Nat) (hv : v < 4) : Calls Tryz.prog 176 #[.pointer (some ⟨B, 0, none⟩), .int .i64 2, .int .i64 (v : Int)] w fun e w' => e = .returned (.tuple #[]) ∧ WrO w0 B (wbit (wbit l n (v / 2)) (n + 1) (v % 2)) (n + 2) w' := by
 go_enter Tryz.func176, Tryz.ntmps176
 go_wp2_with fail
 go_loopw [6] (fun i wr => PutR w0 B l n v i wr) (fun i _ => (intOf i + 1).toNat)
 case atStart => exact .inl ⟨rfl, h⟩
 case round =>
  rcases hrel with ⟨rfl, hst⟩ | ⟨rfl, hst⟩ | ⟨rfl, hst⟩
  ·obtain ⟨N, hN⟩ : ∃ N : Nat, n = N := ⟨_, rfl⟩
   rw [hN] at hst
   obtain ⟨L, hL⟩ : ∃ L, l = L := ⟨_, rfl⟩
   rw [hL] at hst
   obtain ⟨⟨A, c, hb, ho, hne⟩, hlen, hge, hbe⟩ := hst
   have b0 : wr.cell? ⟨B, 0, none⟩ = some (.slice A L.length c) := by rw [cell_of_row wr B 0 _ _ _ hb]; rfl
   have b1 : wr.cell? ⟨B, 1, none⟩ = some (.int .i64 (N : Int)) := by rw [cell_of_row wr B 1 _ _ _ hb]; rfl
   have HNn : Hid (N ≤ 100010) := Lib.hid (by omega)
   have HNe := Lib.hid hN
   have HLe := Lib.hid hL
   clear hN hL
   by_cases h8 : N % 8 = 0
   ·have h8i : (N : Int).tmod 8 = 0 := by rw [tm8]; omega
    have hx := heap_alloc_new wr (.cells #[.int .u8 0] 5)
    have hox := ho.below ((Below.refl _ _).alloc (Nat.le_refl _) (.cells #[.int .u8 0] 5))
    obtain ⟨v', W3, hrun, hrow, hgr, hbl⟩ := push_byte (wr.alloc (.cells #[.int .u8 0] 5)) _ L L.length hox.row (by have := HNn.out; omega) wr.heap.size 0 hx
    obtain ⟨A3, c3, rfl⟩ := row_sl hrow
    obtain ⟨g, rfl⟩ := row_g (w0 := w0) (e := 5) ⟨hrow, fun g hg => by
     rcases hbl with e | ⟨e, _⟩
     ·exact hox.new g (e ▸ hg)
     ·rw [e] at hg; injection hg with hg; have := hbe.size; rw [World.size_alloc] at hg; omega⟩ (by omega)
    have hBl : B < wr.heap.size := (Array.getElem?_eq_some_iff.1 hb).1
    have hgB : g ≠ B := by
     rintro rfl
     rcases hbl with e | ⟨e, _⟩
     ·exact hne (e ▸ rfl)
     ·have e : some g = _ := e
      injection e with e; rw [World.size_alloc] at e; omega
    have hg0 : w0.heap.size ≤ g := by
     rcases hbl with e | ⟨e, _⟩
     ·exact hox.new g (e ▸ rfl)
     ·have e : some g = _ := e
      injection e with e; have := hbe.size; rw [World.size_alloc] at e; omega
    have hb3 : W3.heap[B]? = some (.cells #[.slice A L.length c, .int .i64 (N : Int)] 243 (0, 0)) := (hgr.block B (by rw [World.size_alloc]; omega) fun e => hne e.symm).trans ((Below.heap_alloc wr _ B hBl).trans hb)
    have hbe3 := below_grown (hbe.alloc hbe.size (.cells #[.int .u8 0] 5)) (by rw [World.size_alloc]; have := hbe.size; omega) hgr ho.new
    have e0 : W3.cell? ⟨B, 0, none⟩ = some (.slice A L.length c) := by rw [cell_of_row W3 B 0 _ _ _ hb3]; rfl
    have ef : ∀ i, W3.frozen? ⟨B, i, none⟩ = false := fun i => by simp [World.frozen?, hb3]
    have hset := heap_setCell_any W3 B 0 _ _ _ (.slice (some ⟨g, 0, none⟩) (L.length + 1) c3) hb3
    have ho4 := (⟨hrow, fun g' hg => by injection hg with hg; have hg : g = g' := hg; omega⟩ : OwnR w0 5 1 (.slice (some ⟨g, 0, none⟩) (L.length + 1) c3) (L.length + 1) (bcells (L ++ [0])) W3).frame (w' := W3.setCell ⟨B, 0, none⟩ (.slice (some ⟨g, 0, none⟩) (L.length + 1) c3)) (fun g' hg => Below.heap_setCell W3 ⟨B, 0, none⟩ _ g' (by injection hg with hg; have hg : g = g' := hg; show g' ≠ B; omega))
    have hpush : wpush L N = L ++ [0] := by unfold wpush; rw [if_pos h8]
    obtain ⟨W4, hW4⟩ : ∃ W, W3.setCell ⟨B, 0, none⟩ (.slice (some ⟨g, 0, none⟩) (L.length + 1) c3) = W := ⟨_, rfl⟩
    obtain ⟨l1, hl1⟩ : ∃ l, wpush L N = l := ⟨_, rfl⟩
    have hll : l1.length = L.length + 1 := by rw [← hl1, hpush]; simp
    have HPs : Hid (WrP w0 B l1 N W4) := Lib.hid ⟨⟨g, c3, by rw [← hW4, hll]; exact hset, by rw [← hW4, hll, ← hl1, hpush]; exact ho4, hgB⟩, by omega, hge, by rw [← hW4]; exact hbe3.setCell (p := ⟨B, 0, none⟩) hge _⟩
    have HW4 := Lib.hid hW4
    have HL1 := Lib.hid hl1
    have HRUN := Lib.hid hrun
    clear hb ho hne hlen hge hbe hx hox hrow hgr hbl hBl hgB hg0 hb3 hbe3 hset ho4 hpush hl1 hll hrun
    go_wp2_with (at_builtin; refine wpList_append_eq rfl _ _ _ rfl _ _ rfl rfl HRUN.out ?_)
    clear h8i
    obtain ⟨⟨g, c2, hb2, ho2, hg2⟩, hlen2, hge2, hbe2⟩ := HPs.out
    have d0 : (W4).cell? ⟨B, 0, none⟩ = some (.slice (some ⟨g, 0, none⟩) l1.length c2) := by rw [cell_of_row (W4) B 0 _ _ _ hb2]; rfl
    have d1 : (W4).cell? ⟨B, 1, none⟩ = some (.int .i64 (N : Int)) := by rw [cell_of_row (W4) B 1 _ _ _ hb2]; rfl
    have hqd := td8 N
    have hrd := tm8 N
    obtain ⟨q, hq⟩ : ∃ q : Nat, N / 8 = q := ⟨_, rfl⟩
    obtain ⟨r, hr⟩ : ∃ r : Nat, N % 8 = r := ⟨_, rfl⟩
    rw [hq] at hqd
    rw [hr] at hrd
    have hql : q < l1.length := by omega
    have hqi : (q : Int) < l1.length := by omega
    have hr8 : (r : Int) ≤ 7 := by omega
    obtain ⟨x, hx⟩ : ∃ x, l1.getD q 0 = x := ⟨_, rfl⟩
    have p := own_cell ho2 hql hx
    obtain ⟨k, hk⟩ : ∃ k : Nat, 7 - r = k := ⟨_, rfl⟩
    have hwr : IntKind.i64.wrap (7 - (r : Int)) = (k : Int) := (IntWalk.i64_in _ (by omega)).trans (by omega)
    have hbw := bit_hi hv
    obtain ⟨bt, hbt⟩ : ∃ bt : Nat, v / 2 = bt := ⟨_, rfl⟩
    rw [hbt] at hbw
    have HBt := Lib.hid hbt
    obtain ⟨hb5, hw5⟩ := wr_done (b := bt) hb2 ho2 hg2 hlen2 hge2 hbe2
    have hfz : ∀ i, (W4).frozen? ⟨g, i, none⟩ = false := fun i => ho2.row.frozenAt i
    rw [hq, hr, hx, hk] at hb5 hw5
    obtain ⟨W5, hW5⟩ : ∃ W5, ((W4).setCell ⟨g, q, none⟩ (.int .u8 ((wor x bt k).toNat : Int))).drew = W5 := ⟨_, rfl⟩
    rw [show ((W4).drew.setCell ⟨g, q, none⟩ (.int .u8 ((wor x bt k).toNat : Int))) = W5 from hW5] at hb5 hw5
    have j1 : W5.cell? ⟨B, 1, none⟩ = some (.int .i64 (N : Int)) := by rw [cell_of_row W5 B 1 _ _ _ hb5]; rfl
    have jf : ∀ i, W5.frozen? ⟨B, i, none⟩ = false := fun i => by simp [World.frozen?, hb5]
    obtain ⟨W6, hW6⟩ : ∃ W6, W5.setCell ⟨B, 1, none⟩ (.int .i64 ((N + 1 : Nat) : Int)) = W6 := ⟨_, rfl⟩
    rw [hW6] at hw5
    rw [show ((N + 1 : Nat) : Int) = (N : Int) + 1 by omega] at hW6
    have HW6 := Lib.hid hw5
    have hwn : IntKind.i64.wrap ((N : Int) + 1) = (N : Int) + 1 := IntWalk.i64_in _ (by have := HNn.out; omega)
    have hor := or_run x bt k
    rw [← shl_eq bt k (by omega) (by omega)] at hor
    have hwq : IntKind.i64.wrap (q : Int) = q := IntWalk.i64_in _ (by have := HNn.out; omega)
    have hwr2 : IntKind.i64.wrap (r : Int) = r := IntWalk.i64_in _ (by omega)
    clear hb2 ho2 hg2 hlen2 hge2 hbe2 hq hr hx hk hbt hb5 hw5
    go_upto_region 5 with (fail)
    go_still_tail 25, (by kernel_rfl)
    go_wp2_with fail
    have hz := HW6.out
    rw [← HBt.out, ← HL1.out, ← HLe.out, ← HNe.out] at hz
    have hz := Lib.hid hz
    clear HW6 HBt
    go_roundw
    case rel => exact .inr <| .inl <| And.intro rfl hz.out
    case measure => exact (by decide)
   ·have h8i : ¬ (N : Int).tmod 8 = 0 := by rw [tm8]; omega
    obtain ⟨g, rfl⟩ := row_g ho (by omega)
    have hgB : g ≠ B := fun e => hne (congrArg some e)
    obtain ⟨l1, hl1⟩ : ∃ l, wpush L N = l := ⟨_, rfl⟩
    have hpush : wpush L N = L := by unfold wpush; rw [if_neg h8]
    have hle : L = l1 := by rw [← hl1, hpush]
    have HPs : Hid (WrP w0 B l1 N wr) := Lib.hid ⟨⟨g, c, by rw [← hle]; exact hb, by rw [← hle]; exact ho, hgB⟩, by rw [← hle]; omega, hge, hbe⟩
    have HL1 := Lib.hid hl1
    clear hb ho hne hlen hge hbe hgB hl1 hpush hle
    go_wp2_with fail
    clear h8i b0 b1
    obtain ⟨⟨g, c2, hb2, ho2, hg2⟩, hlen2, hge2, hbe2⟩ := HPs.out
    have d0 : (wr).cell? ⟨B, 0, none⟩ = some (.slice (some ⟨g, 0, none⟩) l1.length c2) := by rw [cell_of_row (wr) B 0 _ _ _ hb2]; rfl
    have d1 : (wr).cell? ⟨B, 1, none⟩ = some (.int .i64 (N : Int)) := by rw [cell_of_row (wr) B 1 _ _ _ hb2]; rfl
    have hqd := td8 N
    have hrd := tm8 N
    obtain ⟨q, hq⟩ : ∃ q : Nat, N / 8 = q := ⟨_, rfl⟩
    obtain ⟨r, hr⟩ : ∃ r : Nat, N % 8 = r := ⟨_, rfl⟩
    rw [hq] at hqd
    rw [hr] at hrd
    have hql : q < l1.length := by omega
    have hqi : (q : Int) < l1.length := by omega
    have hr8 : (r : Int) ≤ 7 := by omega
    obtain ⟨x, hx⟩ : ∃ x, l1.getD q 0 = x := ⟨_, rfl⟩
    have p := own_cell ho2 hql hx
    obtain ⟨k, hk⟩ : ∃ k : Nat, 7 - r = k := ⟨_, rfl⟩
    have hwr : IntKind.i64.wrap (7 - (r : Int)) = (k : Int) := (IntWalk.i64_in _ (by omega)).trans (by omega)
    have hbw := bit_hi hv
    obtain ⟨bt, hbt⟩ : ∃ bt : Nat, v / 2 = bt := ⟨_, rfl⟩
    rw [hbt] at hbw
    have HBt := Lib.hid hbt
    obtain ⟨hb5, hw5⟩ := wr_done (b := bt) hb2 ho2 hg2 hlen2 hge2 hbe2
    have hfz : ∀ i, (wr).frozen? ⟨g, i, none⟩ = false := fun i => ho2.row.frozenAt i
    rw [hq, hr, hx, hk] at hb5 hw5
    obtain ⟨W5, hW5⟩ : ∃ W5, ((wr).setCell ⟨g, q, none⟩ (.int .u8 ((wor x bt k).toNat : Int))).drew = W5 := ⟨_, rfl⟩
    rw [show ((wr).drew.setCell ⟨g, q, none⟩ (.int .u8 ((wor x bt k).toNat : Int))) = W5 from hW5] at hb5 hw5
    have j1 : W5.cell? ⟨B, 1, none⟩ = some (.int .i64 (N : Int)) := by rw [cell_of_row W5 B 1 _ _ _ hb5]; rfl
    have jf : ∀ i, W5.frozen? ⟨B, i, none⟩ = false := fun i => by simp [World.frozen?, hb5]
    obtain ⟨W6, hW6⟩ : ∃ W6, W5.setCell ⟨B, 1, none⟩ (.int .i64 ((N + 1 : Nat) : Int)) = W6 := ⟨_, rfl⟩
    rw [hW6] at hw5
    rw [show ((N + 1 : Nat) : Int) = (N : Int) + 1 by omega] at hW6
    have HW6 := Lib.hid hw5
    have hwn : IntKind.i64.wrap ((N : Int) + 1) = (N : Int) + 1 := IntWalk.i64_in _ (by have := HNn.out; omega)
    have hor := or_run x bt k
    rw [← shl_eq bt k (by omega) (by omega)] at hor
    have hwq : IntKind.i64.wrap (q : Int) = q := IntWalk.i64_in _ (by have := HNn.out; omega)
    have hwr2 : IntKind.i64.wrap (r : Int) = r := IntWalk.i64_in _ (by omega)
    clear hb2 ho2 hg2 hlen2 hge2 hbe2 hq hr hx hk hbt hb5 hw5
    go_upto_region 5 with (fail)
    go_still_tail 25, (by kernel_rfl)
    go_wp2_with fail
    have hz := HW6.out
    rw [← HBt.out, ← HL1.out, ← HLe.out, ← HNe.out] at hz
    have hz := Lib.hid hz
    clear HW6 HBt
    go_roundw
    case rel => exact .inr <| .inl <| And.intro rfl hz.out
    case measure => exact (by decide)
  ·obtain ⟨N, hN⟩ : ∃ N : Nat, n + 1 = N := ⟨_, rfl⟩
   rw [hN] at hst
   obtain ⟨L, hL⟩ : ∃ L, wbit l n (v / 2) = L := ⟨_, rfl⟩
   rw [hL] at hst
   obtain ⟨⟨A, c, hb, ho, hne⟩, hlen, hge, hbe⟩ := hst
   have b0 : wr.cell? ⟨B, 0, none⟩ = some (.slice A L.length c) := by rw [cell_of_row wr B 0 _ _ _ hb]; rfl
   have b1 : wr.cell? ⟨B, 1, none⟩ = some (.int .i64 (N : Int)) := by rw [cell_of_row wr B 1 _ _ _ hb]; rfl
   have HNn : Hid (N ≤ 100010) := Lib.hid (by omega)
   have HNe := Lib.hid hN
   have HLe := Lib.hid hL
   clear hN hL
   by_cases h8 : N % 8 = 0
   ·have h8i : (N : Int).tmod 8 = 0 := by rw [tm8]; omega
    have hx := heap_alloc_new wr (.cells #[.int .u8 0] 5)
    have hox := ho.below ((Below.refl _ _).alloc (Nat.le_refl _) (.cells #[.int .u8 0] 5))
    obtain ⟨v', W3, hrun, hrow, hgr, hbl⟩ := push_byte (wr.alloc (.cells #[.int .u8 0] 5)) _ L L.length hox.row (by have := HNn.out; omega) wr.heap.size 0 hx
    obtain ⟨A3, c3, rfl⟩ := row_sl hrow
    obtain ⟨g, rfl⟩ := row_g (w0 := w0) (e := 5) ⟨hrow, fun g hg => by
     rcases hbl with e | ⟨e, _⟩
     ·exact hox.new g (e ▸ hg)
     ·rw [e] at hg; injection hg with hg; have := hbe.size; rw [World.size_alloc] at hg; omega⟩ (by omega)
    have hBl : B < wr.heap.size := (Array.getElem?_eq_some_iff.1 hb).1
    have hgB : g ≠ B := by
     rintro rfl
     rcases hbl with e | ⟨e, _⟩
     ·exact hne (e ▸ rfl)
     ·have e : some g = _ := e
      injection e with e; rw [World.size_alloc] at e; omega
    have hg0 : w0.heap.size ≤ g := by
     rcases hbl with e | ⟨e, _⟩
     ·exact hox.new g (e ▸ rfl)
     ·have e : some g = _ := e
      injection e with e; have := hbe.size; rw [World.size_alloc] at e; omega
    have hb3 : W3.heap[B]? = some (.cells #[.slice A L.length c, .int .i64 (N : Int)] 243 (0, 0)) := (hgr.block B (by rw [World.size_alloc]; omega) fun e => hne e.symm).trans ((Below.heap_alloc wr _ B hBl).trans hb)
    have hbe3 := below_grown (hbe.alloc hbe.size (.cells #[.int .u8 0] 5)) (by rw [World.size_alloc]; have := hbe.size; omega) hgr ho.new
    have e0 : W3.cell? ⟨B, 0, none⟩ = some (.slice A L.length c) := by rw [cell_of_row W3 B 0 _ _ _ hb3]; rfl
    have ef : ∀ i, W3.frozen? ⟨B, i, none⟩ = false := fun i => by simp [World.frozen?, hb3]
    have hset := heap_setCell_any W3 B 0 _ _ _ (.slice (some ⟨g, 0, none⟩) (L.length + 1) c3) hb3
    have ho4 := (⟨hrow, fun g' hg => by injection hg with hg; have hg : g = g' := hg; omega⟩ : OwnR w0 5 1 (.slice (some ⟨g, 0, none⟩) (L.length + 1) c3) (L.length + 1) (bcells (L ++ [0])) W3).frame (w' := W3.setCell ⟨B, 0, none⟩ (.slice (some ⟨g, 0, none⟩) (L.length + 1) c3)) (fun g' hg => Below.heap_setCell W3 ⟨B, 0, none⟩ _ g' (by injection hg with hg; have hg : g = g' := hg; show g' ≠ B; omega))
    have hpush : wpush L N = L ++ [0] := by unfold wpush; rw [if_pos h8]
    obtain ⟨W4, hW4⟩ : ∃ W, W3.setCell ⟨B, 0, none⟩ (.slice (some ⟨g, 0, none⟩) (L.length + 1) c3) = W := ⟨_, rfl⟩
    obtain ⟨l1, hl1⟩ : ∃ l, wpush L N = l := ⟨_, rfl⟩
    have hll : l1.length = L.length + 1 := by rw [← hl1, hpush]; simp
    have HPs : Hid (WrP w0 B l1 N W4) := Lib.hid ⟨⟨g, c3, by rw [← hW4, hll]; exact hset, by rw [← hW4, hll, ← hl1, hpush]; exact ho4, hgB⟩, by omega, hge, by rw [← hW4]; exact hbe3.setCell (p := ⟨B, 0, none⟩) hge _⟩
    have HW4 := Lib.hid hW4
    have HL1 := Lib.hid hl1
    have HRUN := Lib.hid hrun
    clear hb ho hne hlen hge hbe hx hox hrow hgr hbl hBl hgB hg0 hb3 hbe3 hset ho4 hpush hl1 hll hrun
    go_wp2_with (at_builtin; refine wpList_append_eq rfl _ _ _ rfl _ _ rfl rfl HRUN.out ?_)
    clear h8i
    obtain ⟨⟨g, c2, hb2, ho2, hg2⟩, hlen2, hge2, hbe2⟩ := HPs.out
    have d0 : (W4).cell? ⟨B, 0, none⟩ = some (.slice (some ⟨g, 0, none⟩) l1.length c2) := by rw [cell_of_row (W4) B 0 _ _ _ hb2]; rfl
    have d1 : (W4).cell? ⟨B, 1, none⟩ = some (.int .i64 (N : Int)) := by rw [cell_of_row (W4) B 1 _ _ _ hb2]; rfl
    have hqd := td8 N
    have hrd := tm8 N
    obtain ⟨q, hq⟩ : ∃ q : Nat, N / 8 = q := ⟨_, rfl⟩
    obtain ⟨r, hr⟩ : ∃ r : Nat, N % 8 = r := ⟨_, rfl⟩
    rw [hq] at hqd
    rw [hr] at hrd
    have hql : q < l1.length := by omega
    have hqi : (q : Int) < l1.length := by omega
    have hr8 : (r : Int) ≤ 7 := by omega
    obtain ⟨x, hx⟩ : ∃ x, l1.getD q 0 = x := ⟨_, rfl⟩
    have p := own_cell ho2 hql hx
    obtain ⟨k, hk⟩ : ∃ k : Nat, 7 - r = k := ⟨_, rfl⟩
    have hwr : IntKind.i64.wrap (7 - (r : Int)) = (k : Int) := (IntWalk.i64_in _ (by omega)).trans (by omega)
    have hbw := bit_lo hv
    obtain ⟨bt, hbt⟩ : ∃ bt : Nat, v % 2 = bt := ⟨_, rfl⟩
    rw [hbt] at hbw
    have HBt := Lib.hid hbt
    obtain ⟨hb5, hw5⟩ := wr_done (b := bt) hb2 ho2 hg2 hlen2 hge2 hbe2
    have hfz : ∀ i, (W4).frozen? ⟨g, i, none⟩ = false := fun i => ho2.row.frozenAt i
    rw [hq, hr, hx, hk] at hb5 hw5
    obtain ⟨W5, hW5⟩ : ∃ W5, ((W4).setCell ⟨g, q, none⟩ (.int .u8 ((wor x bt k).toNat : Int))).drew = W5 := ⟨_, rfl⟩
    rw [show ((W4).drew.setCell ⟨g, q, none⟩ (.int .u8 ((wor x bt k).toNat : Int))) = W5 from hW5] at hb5 hw5
    have j1 : W5.cell? ⟨B, 1, none⟩ = some (.int .i64 (N : Int)) := by rw [cell_of_row W5 B 1 _ _ _ hb5]; rfl
    have jf : ∀ i, W5.frozen? ⟨B, i, none⟩ = false := fun i => by simp [World.frozen?, hb5]
    obtain ⟨W6, hW6⟩ : ∃ W6, W5.setCell ⟨B, 1, none⟩ (.int .i64 ((N + 1 : Nat) : Int)) = W6 := ⟨_, rfl⟩
    rw [hW6] at hw5
    rw [show ((N + 1 : Nat) : Int) = (N : Int) + 1 by omega] at hW6
    have HW6 := Lib.hid hw5
    have hwn : IntKind.i64.wrap ((N : Int) + 1) = (N : Int) + 1 := IntWalk.i64_in _ (by have := HNn.out; omega)
    have hor := or_run x bt k
    rw [← shl_eq bt k (by omega) (by omega)] at hor
    have hwq : IntKind.i64.wrap (q : Int) = q := IntWalk.i64_in _ (by have := HNn.out; omega)
    have hwr2 : IntKind.i64.wrap (r : Int) = r := IntWalk.i64_in _ (by omega)
    clear hb2 ho2 hg2 hlen2 hge2 hbe2 hq hr hx hk hbt hb5 hw5
    go_upto_region 5 with (fail)
    go_still_tail 25, (by kernel_rfl)
    go_wp2_with fail
    have hz := HW6.out
    rw [← HBt.out, ← HL1.out, ← HLe.out, ← HNe.out] at hz
    have hz := Lib.hid hz
    clear HW6 HBt
    go_roundw
    case rel => exact .inr <| .inr <| And.intro rfl hz.out
    case measure => exact (by decide)
   ·have h8i : ¬ (N : Int).tmod 8 = 0 := by rw [tm8]; omega
    obtain ⟨g, rfl⟩ := row_g ho (by omega)
    have hgB : g ≠ B := fun e => hne (congrArg some e)
    obtain ⟨l1, hl1⟩ : ∃ l, wpush L N = l := ⟨_, rfl⟩
    have hpush : wpush L N = L := by unfold wpush; rw [if_neg h8]
    have hle : L = l1 := by rw [← hl1, hpush]
    have HPs : Hid (WrP w0 B l1 N wr) := Lib.hid ⟨⟨g, c, by rw [← hle]; exact hb, by rw [← hle]; exact ho, hgB⟩, by rw [← hle]; omega, hge, hbe⟩
    have HL1 := Lib.hid hl1
    clear hb ho hne hlen hge hbe hgB hl1 hpush hle
    go_wp2_with fail
    clear h8i b0 b1
    obtain ⟨⟨g, c2, hb2, ho2, hg2⟩, hlen2, hge2, hbe2⟩ := HPs.out
    have d0 : (wr).cell? ⟨B, 0, none⟩ = some (.slice (some ⟨g, 0, none⟩) l1.length c2) := by rw [cell_of_row (wr) B 0 _ _ _ hb2]; rfl
    have d1 : (wr).cell? ⟨B, 1, none⟩ = some (.int .i64 (N : Int)) := by rw [cell_of_row (wr) B 1 _ _ _ hb2]; rfl
    have hqd := td8 N
    have hrd := tm8 N
    obtain ⟨q, hq⟩ : ∃ q : Nat, N / 8 = q := ⟨_, rfl⟩
    obtain ⟨r, hr⟩ : ∃ r : Nat, N % 8 = r := ⟨_, rfl⟩
    rw [hq] at hqd
    rw [hr] at hrd
    have hql : q < l1.length := by omega
    have hqi : (q : Int) < l1.length := by omega
    have hr8 : (r : Int) ≤ 7 := by omega
    obtain ⟨x, hx⟩ : ∃ x, l1.getD q 0 = x := ⟨_, rfl⟩
    have p := own_cell ho2 hql hx
    obtain ⟨k, hk⟩ : ∃ k : Nat, 7 - r = k := ⟨_, rfl⟩
    have hwr : IntKind.i64.wrap (7 - (r : Int)) = (k : Int) := (IntWalk.i64_in _ (by omega)).trans (by omega)
    have hbw := bit_lo hv
    obtain ⟨bt, hbt⟩ : ∃ bt : Nat, v % 2 = bt := ⟨_, rfl⟩
    rw [hbt] at hbw
    have HBt := Lib.hid hbt
    obtain ⟨hb5, hw5⟩ := wr_done (b := bt) hb2 ho2 hg2 hlen2 hge2 hbe2
    have hfz : ∀ i, (wr).frozen? ⟨g, i, none⟩ = false := fun i => ho2.row.frozenAt i
    rw [hq, hr, hx, hk] at hb5 hw5
    obtain ⟨W5, hW5⟩ : ∃ W5, ((wr).setCell ⟨g, q, none⟩ (.int .u8 ((wor x bt k).toNat : Int))).drew = W5 := ⟨_, rfl⟩
    rw [show ((wr).drew.setCell ⟨g, q, none⟩ (.int .u8 ((wor x bt k).toNat : Int))) = W5 from hW5] at hb5 hw5
    have j1 : W5.cell? ⟨B, 1, none⟩ = some (.int .i64 (N : Int)) := by rw [cell_of_row W5 B 1 _ _ _ hb5]; rfl
    have jf : ∀ i, W5.frozen? ⟨B, i, none⟩ = false := fun i => by simp [World.frozen?, hb5]
    obtain ⟨W6, hW6⟩ : ∃ W6, W5.setCell ⟨B, 1, none⟩ (.int .i64 ((N + 1 : Nat) : Int)) = W6 := ⟨_, rfl⟩
    rw [hW6] at hw5
    rw [show ((N + 1 : Nat) : Int) = (N : Int) + 1 by omega] at hW6
    have HW6 := Lib.hid hw5
    have hwn : IntKind.i64.wrap ((N : Int) + 1) = (N : Int) + 1 := IntWalk.i64_in _ (by have := HNn.out; omega)
    have hor := or_run x bt k
    rw [← shl_eq bt k (by omega) (by omega)] at hor
    have hwq : IntKind.i64.wrap (q : Int) = q := IntWalk.i64_in _ (by have := HNn.out; omega)
    have hwr2 : IntKind.i64.wrap (r : Int) = r := IntWalk.i64_in _ (by omega)
    clear hb2 ho2 hg2 hlen2 hge2 hbe2 hq hr hx hk hbt hb5 hw5
    go_upto_region 5 with (fail)
    go_still_tail 25, (by kernel_rfl)
    go_wp2_with fail
    have hz := HW6.out
    rw [← HBt.out, ← HL1.out, ← HLe.out, ← HNe.out] at hz
    have hz := Lib.hid hz
    clear HW6 HBt
    go_roundw
    case rel => exact .inr <| .inr <| And.intro rfl hz.out
    case measure => exact (by decide)
  ·have HS := Lib.hid hst
   clear hst
   go_wp2_with fail
   refine bodyPost_end (results_none rfl _ _ _) rfl ?_
   exact ⟨rfl, HS.out⟩
end Go.Proofs.YtlmjefjimoghcaaGreat
