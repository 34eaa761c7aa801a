import Derived.Test.YtglchdcpkjabaaaWa
import Derived.Deep.QuietTactic
import Derived.BigQuiet
namespace Go.Proofs.Ytglchdcpkjabaaa
open Go.RowKit

/-- a register times a matrix, its first k bits -/
def tim (g : Nat → Nat) (r : Nat) : Nat → Nat
  | 0 => 0
  | k + 1 => if r / 2 ^ k % 2 = 1 then tim g r k ^^^ g k else tim g r k
theorem mod_succ (r k : Nat) : r % 2 ^ (k + 1) = (r % 2 ^ k) ^^^ (if r / 2 ^ k % 2 = 1 then 2 ^ k else 0) := by
  apply Nat.eq_of_testBit_eq
  intro i
  rw [Nat.testBit_xor, Nat.testBit_mod_two_pow, Nat.testBit_mod_two_pow]
  by_cases h : r / 2 ^ k % 2 = 1
  · have hb : r.testBit k = true := by rw [Nat.testBit_eq_decide_div_mod_eq]; exact decide_eq_true h
    rw [if_pos h, Nat.testBit_two_pow]
    by_cases hik : i = k
    · subst hik; simp [hb]
    · by_cases h1 : i < k
      · simp [h1, show i < k + 1 by omega, Ne.symm hik]
      · simp [h1, show ¬ i < k + 1 by omega, Ne.symm hik]
  · have hb : r.testBit k = false := by rw [Nat.testBit_eq_decide_div_mod_eq]; exact decide_eq_false h
    rw [if_neg h, Nat.zero_testBit]
    by_cases hik : i = k
    · subst hik; simp [hb]
    · by_cases h1 : i < k
      · simp [h1, show i < k + 1 by omega]
      · simp [h1, show ¬ i < k + 1 by omega]
theorem tim_lin (f g : Nat → Nat) (hf : ∀ a b, f (a ^^^ b) = f a ^^^ f b) (h0 : f 0 = 0) (r : Nat) : ∀ k, (∀ i, i < k → g i = f (2 ^ i)) → tim g r k = f (r % 2 ^ k) := by
  intro k
  induction k with
  | zero => intro _; simp [tim, Nat.mod_one, h0]
  | succ k ih =>
    intro hg
    rw [mod_succ, hf, ← ih (fun i hi => hg i (by omega)), tim]
    split
    · rw [hg k (by omega)]
    · simp [h0]
theorem tim_sh (n r : Nat) (g : Nat → Nat) (hg : ∀ i, i < 32 → g i = sh n (2 ^ i)) (hr : r < 2 ^ 32) : tim g r 32 = sh n r := by
  rw [tim_lin (sh n) g (sh_xor n) (sh_zero n) r 32 hg, Nat.mod_eq_of_lt hr]
theorem tim_lt (g : Nat → Nat) (r : Nat) : ∀ k, (∀ i, i < k → g i < 2 ^ 32) → tim g r k < 2 ^ 32 := by
  intro k
  induction k with
  | zero => intro _; simp [tim]
  | succ k ih =>
    intro hg
    have h1 := ih (fun i hi => hg i (by omega))
    unfold tim; split
    · exact Nat.xor_lt_two_pow h1 (hg k (by omega))
    · exact h1

theorem bit_at (r k : Nat) (hr : r < 2 ^ 32) : bits .and .u32 ((r : Int) / 2 ^ k) 1 = ((r / 2 ^ k % 2 : Nat) : Int) := by
  have e : ((r : Int) / 2 ^ k) = ((r / 2 ^ k : Nat) : Int) := by simp
  rw [e, and_one _ (Nat.lt_of_le_of_lt (Nat.div_le_self _ _) hr)]
theorem tim_hit (g : Nat → Nat) (r k : Nat) (hr : r < 2 ^ 32) (hg : ∀ i, i ≤ k → g i < 2 ^ 32) (h : (bits .and .u32 ((r : Int) / 2 ^ k) 1 == 1) = true) :
    bits .xor .u32 (tim g r k : Int) (g k : Int) = (tim g r (k + 1) : Int) := by
  rw [bit_at r k hr] at h
  have h1 : r / 2 ^ k % 2 = 1 := by have := of_decide_eq_true (p := (((r / 2 ^ k % 2 : Nat) : Int) = 1)) h; omega
  have := tim_lt g r k (fun i hi => hg i (by omega))
  have := hg k (Nat.le_refl _)
  rw [u32_xor_nat _ _ (by omega) (by omega), tim, if_pos h1]
theorem tim_miss (g : Nat → Nat) (r k : Nat) (hr : r < 2 ^ 32) (h : (bits .and .u32 ((r : Int) / 2 ^ k) 1 == 1) = false) : tim g r k = tim g r (k + 1) := by
  rw [bit_at r k hr] at h
  have h1 : ¬ r / 2 ^ k % 2 = 1 := by
    intro h2; rw [h2] at h; simp at h
  rw [tim, if_neg h1]
theorem times_walk (g : Nat → Nat) (B r : Nat) (hr : r < 2 ^ 32) (w : World) (hc : ∀ i, i < 32 → w.cell? ⟨B, i, none⟩ = some (.int .u32 (g i))) (hg : ∀ i, i < 32 → g i < 2 ^ 32) :
    Calls Try.prog 29 #[.pointer (some ⟨B, 0, none⟩), .int .u32 r] w fun e w' => e = .returned (.int .u32 (tim g r 32)) ∧ ∃ n, w' = w.drewN n := by
  have HC := Lib.hid hc
  have HG := Lib.hid hg
  clear hc hg
  go_enter Try.func29, Try.ntmps29
  go_wp2_with fail
  go_loopw [5, 9] (fun x i wr => ∃ k : Nat, k ≤ 32 ∧ i = .int .i64 k ∧ x = .int .u32 (tim g r k) ∧ ∃ n, wr = w.drewN n) (fun _ i _ => 32 - (intOf i).toNat)
  case atStart => exact ⟨0, by omega, rfl, rfl, 0, rfl⟩
  case round =>
    obtain ⟨k, hk, rfl, rfl, n, rfl⟩ := hrel
    by_cases hlt : k < 32
    · have hcell := HC.out k hlt
      have hk2 : (k : Int) < 32 := by omega
      go_wp2_with fail
      go_quiet (fail)
      go_wp2_with fail
      · go_roundw
        case rel => exact ⟨k + 1, by omega, by go_num, val_int (tim_hit g r k hr (fun i hi => HG.out i (by omega)) (by assumption)), _, rfl⟩
        case measure => simp [intOf]; omega
      · go_roundw
        case rel => exact ⟨k + 1, by omega, by go_num, val_int (by rw [tim_miss g r k hr (by assumption)]), _, rfl⟩
        case measure => simp [intOf]; omega
    · obtain rfl : k = 32 := by omega
      go_wp2_with fail
      go_ret
      exact ⟨rfl, n, rfl⟩

/-- block B is a matrix whose first k rows are g -/
def Mat (w : World) (B : Nat) (g : Nat → Nat) (k : Nat) : Prop := ∃ cs : Array Value, w.heap[B]? = some (.cells cs 50 (0, 0)) ∧ cs.size = 32 ∧ ∀ i, i < k → cs[i]? = some (.int .u32 (g i))
theorem Mat.cell {w : World} {B : Nat} {g : Nat → Nat} {k : Nat} (h : Mat w B g k) (i : Nat) (hi : i < k) : w.cell? ⟨B, i, none⟩ = some (.int .u32 (g i)) := by
  obtain ⟨cs, h1, h2, h3⟩ := h
  rw [cell_of_row w B i cs _ _ h1, h3 i hi]
theorem Mat.some_cell {w : World} {B : Nat} {g : Nat → Nat} {k : Nat} (h : Mat w B g k) (i : Nat) (hi : i < 32) : ∃ v, w.cell? ⟨B, i, none⟩ = some v := by
  obtain ⟨cs, h1, h2, h3⟩ := h
  rw [cell_of_row w B i cs _ _ h1, Array.getElem?_eq_getElem (by omega)]
  exact ⟨_, rfl⟩
theorem Mat.frozen {w : World} {B : Nat} {g : Nat → Nat} {k : Nat} (h : Mat w B g k) (i : Nat) : w.frozen? ⟨B, i, none⟩ = false := by
  obtain ⟨cs, h1, h2, h3⟩ := h
  exact frozen_of_row w B i cs _ h1
theorem Mat.set_ {w : World} {B : Nat} {g : Nat → Nat} {k : Nat} (h : Mat w B g k) (hk : k < 32) : Mat (w.setCell ⟨B, k, none⟩ (.int .u32 (g k))) B g (k + 1) := by
  obtain ⟨cs, h1, h2, h3⟩ := h
  refine ⟨_, heap_setCell_same w B k cs _ _ h1, by simp [h2], fun i hi => ?_⟩
  rw [Array.getElem?_setIfInBounds]
  by_cases hik : k = i
  · subst hik; simp [h2, hk]
  · rw [if_neg hik]; exact h3 i (by omega)
theorem Mat.drewN {w : World} {B : Nat} {g : Nat → Nat} {k : Nat} (h : Mat w B g k) (n : Nat) : Mat (w.drewN n) B g k := h
theorem Mat.far {w : World} {B : Nat} {g : Nat → Nat} {k : Nat} (h : Mat w B g k) {a : Addr} (ha : B ≠ a.block) (v : Value) : Mat (w.setCell a v) B g k := by
  obtain ⟨cs, h1, h2, h3⟩ := h
  exact ⟨cs, by rw [heap_setCell_other w a B v ha]; exact h1, h2, h3⟩
theorem Mat.lt {w : World} {B : Nat} {g : Nat → Nat} {k : Nat} (h : Mat w B g k) : B < w.heap.size := by
  obtain ⟨cs, h1, _⟩ := h
  exact (Array.getElem?_eq_some_iff.1 h1).1
theorem Mat.alloc {w : World} {B : Nat} {g : Nat → Nat} {k : Nat} (h : Mat w B g k) (o : Obj) : Mat (w.alloc o) B g k := by
  have hl := h.lt
  obtain ⟨cs, h1, h2, h3⟩ := h
  exact ⟨cs, by rw [Below.heap_alloc w o B hl]; exact h1, h2, h3⟩

theorem Mat.cells {w : World} {B : Nat} {g : Nat → Nat} (h : Mat w B g 32) : ∃ cs : Array Value, w.heap[B]? = some (.cells cs 50 (0, 0)) ∧ (Try.prog.info? 50).map (·.size) = some cs.size ∧ 32 = cs.size ∧ cs.all (·.oneCell') = true ∧
    ∀ w' B', w'.heap[B']? = some (.cells cs 50 (0, 0)) → Mat w' B' g 32 := by
  obtain ⟨cs, h1, h2, h3⟩ := h
  refine ⟨cs, h1, by rw [h2]; kernel_rfl, h2.symm, ?_, fun w' B' hw => ⟨cs, hw, h2, h3⟩⟩
  rw [Array.all_eq_true]
  intro i hi
  have h4 := h3 i (by omega)
  rw [Array.getElem?_eq_getElem hi] at h4
  injection h4 with h4
  rw [h4]; rfl
theorem setRow_alloc (w : World) (old cs : Array Value) (t : TypeId) (fr : Nat × Nat) : (w.alloc (.cells old t fr)).setRow w.heap.size cs = w.alloc (.cells cs t fr) := by
  unfold World.setRow World.alloc
  congr 1
  apply Array.ext
  · simp
  · intro i h1 h2
    simp only [Array.getElem_modify, Array.getElem_push]
    split
    · rename_i h; subst h; simp
    · rename_i h
      have h3 : i < w.heap.size := by simp [Array.size_push] at h2; omega
      simp [h3]
theorem setRow_alloc_drewN (w : World) (n : Nat) (old cs : Array Value) (t : TypeId) (fr : Nat × Nat) : ((w.drewN n).alloc (.cells old t fr)).setRow w.heap.size cs = (w.drewN n).alloc (.cells cs t fr) := setRow_alloc (w.drewN n) old cs t fr
theorem below_drewN {B : Nat} {a w : World} (h : Below B a w) (n : Nat) : Below B a (w.drewN n) := ⟨h.os, h.tape, h.output, h.size, h.block⟩
theorem mat_zero {w : World} {B : Nat} {g g' : Nat → Nat} {k : Nat} (h : Mat w B g k) : Mat w B g' 0 := by
  obtain ⟨cs, h1, h2, _⟩ := h
  exact ⟨cs, h1, h2, fun i hi => absurd hi (by omega)⟩
theorem below_setRow2 {B : Nat} {a w : World} (h : Below B a w) {g : Nat} (hg : B ≤ g) (cs : Array Value) : Below B a (w.setRow g cs) :=
  h.trans ⟨rfl, rfl, rfl, by simp, fun k hk => setRow_other _ _ _ _ (by omega)⟩
theorem comb_even (j y : Nat) (z : Int) (h : 0 < z) (hp : z.toNat % 2 = 0) : sh (8 * 2 ^ (j + 1) * (z / 2).toNat) y = sh (8 * 2 ^ j * z.toNat) y := by
  congr 1
  rw [show z.toNat = 2 * (z / 2).toNat by omega, Nat.pow_succ, ← Nat.mul_assoc]
  simp only [Nat.mul_assoc, Nat.mul_comm, Nat.mul_left_comm]
theorem comb_odd (j y : Nat) (z : Int) (h : 0 < z) (hp : z.toNat % 2 = 1) : sh (8 * 2 ^ (j + 1) * (z / 2).toNat) (sh (8 * 2 ^ j) y) = sh (8 * 2 ^ j * z.toNat) y := by
  rw [← sh_add]
  congr 1
  rw [show z.toNat = 2 * (z / 2).toNat + 1 by omega, Nat.pow_succ, Nat.mul_add, Nat.mul_one, Nat.add_comm]
  simp only [Nat.mul_assoc, Nat.mul_comm, Nat.mul_left_comm]
theorem sq_sh (j x : Nat) : sh (8 * 2 ^ j) (sh (8 * 2 ^ j) x) = sh (8 * 2 ^ (j + 1)) x := by
  rw [← sh_add]; congr 1; rw [Nat.pow_succ]; omega
theorem shl32 (k : Nat) (hk : k < 32) : ((2 : Int) ^ k % 4294967296) = ((2 ^ k : Nat) : Int) := by
  have h : 2 ^ k < 2 ^ 32 := Nat.pow_lt_pow_right (by decide) hk
  have e : ((2 : Int) ^ k) = ((2 ^ k : Nat) : Int) := by simp
  rw [e]
  obtain ⟨x, hx⟩ : ∃ x, x = 2 ^ k := ⟨_, rfl⟩
  rw [← hx] at h ⊢
  omega
theorem ofInt_i64 (a : Nat) (ha : a < 9223372036854775808) : (BitVec.ofInt 64 (a : Int)).toNat = a := by
  rw [BitVec.ofInt_natCast, BitVec.toNat_ofNat]; exact Nat.mod_eq_of_lt (by omega)
theorem i64_and_one (z : Int) (h0 : 0 < z) (h1 : z ≤ 9223372036854775807) : bits .and .i64 z 1 = ((z.toNat % 2 : Nat) : Int) := by
  obtain ⟨a, rfl⟩ := Int.eq_ofNat_of_zero_le (show 0 ≤ z by omega)
  have hx : a &&& 1 < 2 ^ 63 := Nat.and_lt_two_pow _ (by omega)
  show IntKind.i64.wrap ((BitVec.ofInt 64 (a : Int) &&& BitVec.ofInt 64 ((1 : Nat) : Int)).toNat : Int) = _
  rw [BitVec.toNat_and, ofInt_i64 a (by omega), ofInt_i64 1 (by omega), IntKind.wrap_i64, Int.toNat_natCast, ← Nat.and_one_is_mod]
  omega
theorem times_sh (B r m : Nat) (hr : r < 2 ^ 32) (w : World) (h : Mat w B (fun i => sh m (2 ^ i)) 32) :
    Calls Try.prog 29 #[.pointer (some ⟨B, 0, none⟩), .int .u32 r] w fun e w' => e = .returned (.int .u32 (sh m r)) ∧ ∃ n, w' = w.drewN n := by
  rw [← tim_sh m r (fun i => sh m (2 ^ i)) (fun i _ => rfl) hr]
  exact times_walk _ B r hr w h.cell (fun i hi => sh_lt m (Nat.pow_lt_pow_right (by decide) hi))
theorem info50 : (Try.prog.info? 50).map (·.size) = some 32 := by kernel_rfl
theorem xor_u32 (x y : Nat) (hx : x < 2 ^ 32) (hy : y < 2 ^ 32) : bits .xor .u32 (x : Int) (y : Int) = ((x ^^^ y : Nat) : Int) := u32_xor_nat _ _ (by omega) (by omega)
theorem combine_walk (a b : Nat) (n : Int) (ha : a < 2 ^ 32) (hb : b < 2 ^ 32) (hn : -9223372036854775808 ≤ n) (hn2 : n ≤ 9223372036854775807) (w : World) :
    Calls Try.prog 23 #[.int .u32 a, .int .u32 b, .int .i64 n] w fun e w' => e = .returned (.int .u32 (comb a b n.toNat)) ∧ Below w.heap.size w w' := by
  go_enter Try.func23, Try.ntmps23
  go_wp2_with fail
  go_loopw [11] (fun i wr => ∃ k : Nat, k ≤ 32 ∧ i = .int .i64 k ∧ Below w.heap.size w wr ∧ Mat wr w.heap.size (fun i => sh 8 (2 ^ i)) k) (fun i _ => 32 - (intOf i).toNat)
  case atStart => exact ⟨0, by omega, rfl, (Below.refl _ _).alloc (Nat.le_refl _) _, _, heap_alloc_new _ _, rfl, fun i hi => absurd hi (by omega)⟩
  case round =>
    obtain ⟨k, hk, rfl, hb1, hM⟩ := hrel
    by_cases hlt : k < 32
    · obtain ⟨v, hv⟩ := hM.some_cell k hlt
      have hf := hM.frozen k
      have hk2 : (k : Int) < 32 := by omega
      have HM := Lib.hid hM
      clear hM
      go_wp2_with fail
      rw [shl32 k hlt]
      refine (shift_walk (2 ^ k) (Nat.pow_lt_pow_right (by decide) hlt) _).mono ?_; rintro e _ ⟨rfl, rfl⟩
      go_wp2_with fail
      go_roundw
      case rel => exact ⟨k + 1, by omega, by go_num, hb1.setCell (Nat.le_refl _) _, HM.out.set_ hlt⟩
      case measure => simp [intOf]; omega
    · obtain rfl : k = 32 := by omega
      go_wp2_with fail
      rw [show ((32 : Nat) : Int) = 32 from rfl]
      go_loopw [0, 2] (fun x i w2 => ∃ (z : Int) (y j : Nat), i = .int .i64 z ∧ z ≤ n ∧ x = .int .u32 y ∧ y < 2 ^ 32 ∧ sh (8 * 2 ^ j * z.toNat) y = sh (8 * n.toNat) a ∧ Below w.heap.size w w2 ∧ Mat w2 w.heap.size (fun i => sh (8 * 2 ^ j) (2 ^ i)) 32) (fun _ i _ => (intOf i).toNat)
      case atStart => exact ⟨n, a, 0, rfl, Int.le_refl _, rfl, ha, by simp, hb1, hM⟩
      case round =>
        obtain ⟨z, y, j, rfl, hz, rfl, hy, hE, hb2, hM2⟩ := hrel
        have HE := Lib.hid hE
        have HM := Lib.hid hM2
        clear hE hM2 hM hb1
        obtain ⟨wo, rfl⟩ : ∃ wo : World, wo = wr := ⟨_, rfl⟩
        by_cases hz0 : 0 < z
        · rcases Nat.mod_two_eq_zero_or_one z.toNat with hpar | hpar
          · skip
            have hb : (bits .and .i64 z 1 == 1) = false := by rw [i64_and_one z hz0 (by omega), hpar]; rfl
            have HP := Lib.hid hpar
            clear hpar
            obtain ⟨cs, hcs, hsz, hsz2, hall, hmk⟩ := HM.out.cells
            have HCS := Lib.hid hcs
            have HSZ := Lib.hid hsz
            have HS2 := Lib.hid hsz2
            have HAL := Lib.hid hall
            have HMK := Lib.hid hmk
            clear hcs hsz hsz2 hall hmk
            go_wp2_with (first | (refine wpList_load_row rfl 50 (.tmp 7) rfl w.heap.size rfl 50 cs (0, 0) _ (by exact HCS.out) Try.underlying50 rfl HSZ.out ?_) | (refine wpList_store_row rfl 50 (.tmp 9) (.tmp 29) rfl wo.heap.size cs rfl rfl 50 _ (by exact heap_alloc_new _ _) HSZ.out (by exact HS2.out) HAL.out ?_; first | rw [setRow_alloc] | rw [setRow_alloc_drewN]))
            go_loopw [30] (fun i w3 => ∃ k : Nat, k ≤ 32 ∧ i = .int .i64 k ∧ Below w.heap.size w w3 ∧ Mat w3 w.heap.size (fun i => sh (8 * 2 ^ j) (2 ^ i)) 32 ∧ Mat w3 wo.heap.size (fun i => sh (8 * 2 ^ (j + 1)) (2 ^ i)) k) (fun i _ => 32 - (intOf i).toNat)
            case atStart => exact ⟨0, by omega, rfl, hb2.alloc hb2.size _, HM.out.alloc _, mat_zero (HMK.out _ _ (heap_alloc_new _ _))⟩
            case round =>
              obtain ⟨k, hk, rfl, hb3, hM3, hN3⟩ := hrel
              by_cases hlt3 : k < 32
              · have hcell := hM3.cell k hlt3
                obtain ⟨v3, hv3⟩ := hN3.some_cell k hlt3
                have hf3 := hN3.frozen k
                have hk3 : (k : Int) < 32 := by omega
                have HM3 := Lib.hid hM3
                have HN3 := Lib.hid hN3
                clear hM3 hN3
                go_wp2_with fail
                refine (times_sh w.heap.size _ (8 * 2 ^ j) (sh_lt _ (Nat.pow_lt_pow_right (by decide) hlt3)) _ HM3.out).mono ?_; rintro e _ ⟨rfl, n3, rfl⟩
                go_wp2_with fail
                go_roundw
                case rel => exact ⟨k + 1, by omega, by go_num, (below_drewN hb3 n3).setCell (hb2.size) _, (HM3.out.drewN n3).far (Nat.ne_of_lt (Nat.lt_of_lt_of_le HM.out.lt (Nat.le_refl _))) _, by rw [sq_sh]; exact (HN3.out.drewN n3).set_ hlt3⟩
                case measure => simp [intOf]; omega
              · obtain rfl : k = 32 := by omega
                have hcc := hN3.cells
                have hM3c := hM3.cells
                obtain ⟨cs2, hcs2, hsz2, hsz22, hall2, hmk2⟩ := hcc
                obtain ⟨cs1, hcs1, hsz1, hsz12, _, _⟩ := hM3c
                have HB3 := Lib.hid hb3
                have HC2 := Lib.hid hcs2
                have HZ2 := Lib.hid hsz2
                have HA2 := Lib.hid hall2
                have HK2 := Lib.hid hmk2
                have HC1 := Lib.hid hcs1
                have HS12 : Hid (cs1.size = cs2.size) := Lib.hid (by omega)
                clear hcs2 hsz2 hsz22 hall2 hmk2 hcs1 hsz1 hsz12 hM3 hN3 hb3
                go_wp2_with (first | (refine wpList_load_row rfl 50 (.tmp 9) rfl wo.heap.size rfl 50 cs2 (0, 0) _ (by exact HC2.out) Try.underlying50 rfl HZ2.out ?_) | (refine wpList_store_row rfl 50 (.tmp 7) (.tmp 40) rfl w.heap.size cs2 rfl rfl 50 cs1 (by exact HC1.out) HZ2.out (by exact HS12.out) HA2.out ?_))
                go_roundw
                case rel => exact ⟨z / 2, y, j + 1, rfl, by omega, rfl, hy, by rw [← HE.out]; exact comb_even _ _ _ hz0 HP.out, below_setRow2 HB3.out (Nat.le_refl _) _, HK2.out _ _ (setRow_heap _ _ cs1 _ _ _ HC1.out)⟩
                case measure => simp [intOf]; omega
          · skip
            have hb : (bits .and .i64 z 1 == 1) = true := by rw [i64_and_one z hz0 (by omega), hpar]; rfl
            have HP := Lib.hid hpar
            clear hpar
            go_wp2_with fail
            refine (times_sh w.heap.size y (8 * 2 ^ j) hy _ HM.out).mono ?_; rintro e _ ⟨rfl, n1, rfl⟩
            obtain ⟨cs, hcs, hsz, hsz2, hall, hmk⟩ := (HM.out.drewN n1).cells
            have HCS := Lib.hid hcs
            have HSZ := Lib.hid hsz
            have HS2 := Lib.hid hsz2
            have HAL := Lib.hid hall
            have HMK := Lib.hid hmk
            clear hcs hsz hsz2 hall hmk
            go_wp2_with (first | (refine wpList_load_row rfl 50 (.tmp 7) rfl w.heap.size rfl 50 cs (0, 0) _ (by exact HCS.out) Try.underlying50 rfl HSZ.out ?_) | (refine wpList_store_row rfl 50 (.tmp 9) (.tmp 29) rfl wo.heap.size cs rfl rfl 50 _ (by exact heap_alloc_new _ _) HSZ.out (by exact HS2.out) HAL.out ?_; first | rw [setRow_alloc] | rw [setRow_alloc_drewN]))
            go_loopw [30] (fun i w3 => ∃ k : Nat, k ≤ 32 ∧ i = .int .i64 k ∧ Below w.heap.size w w3 ∧ Mat w3 w.heap.size (fun i => sh (8 * 2 ^ j) (2 ^ i)) 32 ∧ Mat w3 wo.heap.size (fun i => sh (8 * 2 ^ (j + 1)) (2 ^ i)) k) (fun i _ => 32 - (intOf i).toNat)
            case atStart => exact ⟨0, by omega, rfl, (below_drewN hb2 n1).alloc hb2.size _, (HM.out.drewN n1).alloc _, mat_zero (HMK.out _ _ (heap_alloc_new _ _))⟩
            case round =>
              obtain ⟨k, hk, rfl, hb3, hM3, hN3⟩ := hrel
              by_cases hlt3 : k < 32
              · have hcell := hM3.cell k hlt3
                obtain ⟨v3, hv3⟩ := hN3.some_cell k hlt3
                have hf3 := hN3.frozen k
                have hk3 : (k : Int) < 32 := by omega
                have HM3 := Lib.hid hM3
                have HN3 := Lib.hid hN3
                clear hM3 hN3
                go_wp2_with fail
                refine (times_sh w.heap.size _ (8 * 2 ^ j) (sh_lt _ (Nat.pow_lt_pow_right (by decide) hlt3)) _ HM3.out).mono ?_; rintro e _ ⟨rfl, n3, rfl⟩
                go_wp2_with fail
                go_roundw
                case rel => exact ⟨k + 1, by omega, by go_num, (below_drewN hb3 n3).setCell (hb2.size) _, (HM3.out.drewN n3).far (Nat.ne_of_lt (Nat.lt_of_lt_of_le HM.out.lt (Nat.le_refl _))) _, by rw [sq_sh]; exact (HN3.out.drewN n3).set_ hlt3⟩
                case measure => simp [intOf]; omega
              · obtain rfl : k = 32 := by omega
                have hcc := hN3.cells
                have hM3c := hM3.cells
                obtain ⟨cs2, hcs2, hsz2, hsz22, hall2, hmk2⟩ := hcc
                obtain ⟨cs1, hcs1, hsz1, hsz12, _, _⟩ := hM3c
                have HB3 := Lib.hid hb3
                have HC2 := Lib.hid hcs2
                have HZ2 := Lib.hid hsz2
                have HA2 := Lib.hid hall2
                have HK2 := Lib.hid hmk2
                have HC1 := Lib.hid hcs1
                have HS12 : Hid (cs1.size = cs2.size) := Lib.hid (by omega)
                clear hcs2 hsz2 hsz22 hall2 hmk2 hcs1 hsz1 hsz12 hM3 hN3 hb3
                go_wp2_with (first | (refine wpList_load_row rfl 50 (.tmp 9) rfl wo.heap.size rfl 50 cs2 (0, 0) _ (by exact HC2.out) Try.underlying50 rfl HZ2.out ?_) | (refine wpList_store_row rfl 50 (.tmp 7) (.tmp 40) rfl w.heap.size cs2 rfl rfl 50 cs1 (by exact HC1.out) HZ2.out (by exact HS12.out) HA2.out ?_))
                go_roundw
                case rel => exact ⟨z / 2, (sh (8 * 2 ^ j) y), j + 1, rfl, by omega, rfl, sh_lt _ hy, by rw [← HE.out]; exact comb_odd _ _ _ hz0 HP.out, below_setRow2 HB3.out (Nat.le_refl _) _, HK2.out _ _ (setRow_heap _ _ cs1 _ _ _ HC1.out)⟩
                case measure => simp [intOf]; omega
        · have h0 : z.toNat = 0 := by omega
          have hy2 : y = sh (8 * n.toNat) a := by rw [← HE.out, h0]; rfl
          have HY := Lib.hid hy2
          clear hy2 h0
          go_wp2_with fail
          go_ret
          exact ⟨ret_int (by rw [xor_u32 _ _ hy hb, HY.out]; rfl), hb2⟩
end Go.Proofs.Ytglchdcpkjabaaa
