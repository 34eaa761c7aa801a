/- A part of the proofs of TopCounter and TopStrict: what the functions of the program do, each walked once, and plain laws about it. No condition. -/
import Derived.Test.YtlmjefjimoghcaaGreatA42
namespace Go.Proofs.YtlmjefjimoghcaaGreat
set_option linter.unusedSimpArgs false
set_option linter.unnecessarySimpa false
set_option linter.unusedVariables false
open Go.RowKit
attribute [local go_sem ↓] Go.wp_at_zero Go.wp_at_succ
def runN (i d lo : Nat) : Nat → Bool × List Stp → Bool × List Stp
 | 0, st => st
 | n + 1, st => if lo < n + 1 then runN i d lo n (tryF i (n + 1) d 0 st) else st
theorem runN_stop (i d lo : Nat) (st : Bool × List Stp) : ∀ m, m ≤ lo → runN i d lo m st = st
 | 0, _ => rfl
 | m + 1, h => by unfold runN; rw [if_neg (by omega)]
def loK (L : List (Nat × Nat)) (k : Nat) : Nat := if k = 0 then 1 else (L.getD (k - 1) default).1
def runK (i : Nat) (L : List (Nat × Nat)) : Nat → Bool × List Stp → Bool × List Stp
 | 0, st => st
 | k + 1, st => runK i L k (runN i (L.getD k default).2 (loK L k) (L.getD k default).1 st)
def stepI (s : List UInt8) (best : List Stp) (i : Nat) : List Stp := (tryF i 1 0 (gB s i).toNat (runK i (candL s i) (candL s i).length (false, best))).2
def bestP (s : List UInt8) : Nat → List Stp
 | 0 => List.replicate (s.length + 1) default
 | j + 1 => stepI s (bestP s j) (s.length - (j + 1))
abbrev Pc := Nat × Nat × Nat
def firstP (x : Stp) : Pc := (x.len, x.dst, x.byt)
def outP (n : Nat) (best : List Stp) : Nat → Nat → List Pc
 | 0, _ => []
 | f + 1, i => if i < n then firstP (best.getD i default) :: outP n best f (i + (best.getD i default).len) else []
def piecesF (s : List UInt8) : List Pc := outP s.length (bestP s s.length) s.length 0
/-- bounds -/
structure Bd (n : Nat) (best : List Stp) : Prop where
 len : best.length = n + 1
 b : ∀ k, k ≤ n → (best.getD k default).cost ≤ 50 * (n - k) ∧ (best.getD k default).pcs ≤ n - k
def Ok1 (n i : Nat) (x : Stp) : Prop := 1 ≤ x.len ∧ i + x.len ≤ n ∧ x.len ≤ 273 ∧ x.dst ≤ 4096 ∧ x.byt < 256 ∧ (x.dst = 0 ∨ 2 ≤ x.len)
theorem getD_set {l : List Stp} {i k : Nat} {x : Stp} (hi : i < l.length) : (l.set i x).getD k default = if k = i then x else l.getD k default := by
 simp only [List.getD_eq_getElem?_getD]
 rw [List.getElem?_set]
 by_cases h : i = k
 ·subst h; simp [hi]
 ·rw [if_neg h, if_neg (Ne.symm h)]
/-- one try keeps the bounds -/
theorem tryF_bd {n i l d b : Nat} {st : Bool × List Stp} (h : Bd n st.2) (h1 : 1 ≤ l) (hil : i + l ≤ n) (hl : l ≤ 273) (hd : d ≤ 4096) (hb : b < 256) (hx : d = 0 ∨ 2 ≤ l) (hs : st.1 = true → Ok1 n i (st.2.getD i default)) :
  Bd n (tryF i l d b st).2 ∧ (tryF i l d b st).1 = true ∧ Ok1 n i ((tryF i l d b st).2.getD i default) ∧ ∀ k, k ≠ i → (tryF i l d b st).2.getD k default = st.2.getD k default := by
 have hp := priceF_le (l := l) (d := d) (by omega) (by omega)
 have hn := h.b (i + l) hil
 unfold tryF
 simp only
 split
 ·refine ⟨⟨by rw [List.length_set]; exact h.len, fun k hk => ?_⟩, rfl, ?_, fun k hk => ?_⟩
  ·rw [getD_set (by rw [h.len]; omega)]
   split
   ·rename_i e; subst e
    simp only
    refine ⟨by have := hn.1; omega, by have := hn.2; omega⟩
   ·exact h.b k hk
  ·rw [getD_set (by rw [h.len]; omega), if_pos rfl]
   exact ⟨h1, hil, hl, hd, hb, hx⟩
  ·rw [getD_set (by rw [h.len]; omega), if_neg hk]
 ·rename_i hne
  have hst : st.1 = true := by
   cases hq : st.1 with
   | true => rfl
   | false => exact absurd (.inl hq) hne
  exact ⟨h, hst, hs hst, fun _ _ => rfl⟩
/-- what the tries at i keep -/
structure Tr (n i : Nat) (best0 : List Stp) (st : Bool × List Stp) : Prop where
 bd : Bd n st.2
 ok : st.1 = true → Ok1 n i (st.2.getD i default)
 oth : ∀ k, k ≠ i → st.2.getD k default = best0.getD k default
theorem Tr.step {n i l d b : Nat} {best0 : List Stp} {st : Bool × List Stp} (h : Tr n i best0 st) (h1 : 1 ≤ l) (hil : i + l ≤ n) (hl : l ≤ 273) (hd : d ≤ 4096) (hb : b < 256) (hx : d = 0 ∨ 2 ≤ l) : Tr n i best0 (tryF i l d b st) ∧ (tryF i l d b st).1 = true := by
 obtain ⟨a, b', c, e⟩ := tryF_bd h.bd h1 hil hl hd hb hx h.ok
 exact ⟨⟨a, fun _ => c, fun k hk => (e k hk).trans (h.oth k hk)⟩, b'⟩
/-- the copies that are found are good ones -/
def COk (s : List UInt8) (i : Nat) (p : Nat × Nat) : Prop := 2 ≤ p.1 ∧ p.1 ≤ 273 ∧ i + p.1 ≤ s.length ∧ 1 ≤ p.2 ∧ p.2 ≤ 4096
theorem candS_ok {s : List UInt8} {i m j : Nat} {st : Nat × List (Nat × Nat)} (hm : m ≤ 273) (him : i + m ≤ s.length) (hj : j < i) (hs : 1 ≤ st.1) (h : ∀ p ∈ st.2, COk s i p) : 1 ≤ (candS s i m st j).2.1 ∧ ∀ p ∈ (candS s i m st j).2.2, COk s i p := by
 unfold candS
 split
 ·exact ⟨hs, h⟩
 ·rename_i hf
  split
  ·exact ⟨hs, h⟩
  ·split
   ·rename_i hlt
    have hc := comF_le s j i m 0
    refine ⟨by show 1 ≤ comF s j i 0 m; omega, fun p hp => ?_⟩
    simp only [List.mem_append, List.mem_singleton] at hp
    rcases hp with hp | rfl
    ·exact h p hp
    ·exact ⟨by show 2 ≤ comF s j i 0 m; omega, by show comF s j i 0 m ≤ 273; omega, by show i + comF s j i 0 m ≤ _; omega, by show 1 ≤ i - j; omega, by show i - j ≤ 4096; omega⟩
   ·exact ⟨hs, h⟩
theorem candG_ok {s : List UInt8} {i m : Nat} (hm : m ≤ 273) (him : i + m ≤ s.length) : ∀ (k : Nat) (st : Nat × List (Nat × Nat)), k ≤ i → 1 ≤ st.1 → (∀ p ∈ st.2, COk s i p) → ∀ p ∈ (candG s i m k st).2, COk s i p
 | 0, _, _, _, h => h
 | k + 1, st, hk, hs, h => by
  have hc := candS_ok (j := k) hm him (by omega) hs h
  unfold candG
  split
  ·exact candG_ok hm him k _ (by omega) hc.1 hc.2
  ·exact hc.2
theorem candL_ok {s : List UInt8} {i : Nat} (hi : i ≤ s.length) : ∀ p ∈ candL s i, COk s i p := candG_ok (by omega) (by omega) i (1, []) (Nat.le_refl _) (Nat.le_refl _) (fun p hp => by cases hp)
theorem Tr.runN {n i d lo : Nat} {best0 : List Stp} (hlo : 1 ≤ lo) (hd : d ≤ 4096) : ∀ (m : Nat) (st : Bool × List Stp), i + m ≤ n → m ≤ 273 → Tr n i best0 st → Tr n i best0 (Go.Proofs.YtlmjefjimoghcaaGreat.runN i d lo m st)
 | 0, _, _, _, h => h
 | m + 1, st, h1, h2, h => by
  unfold Go.Proofs.YtlmjefjimoghcaaGreat.runN
  split
  ·exact Tr.runN hlo hd m _ (by omega) (by omega) (h.step (by omega) h1 h2 hd (by decide) (.inr (by omega))).1
  ·exact h
theorem loK_pos {s : List UInt8} {i : Nat} {L : List (Nat × Nat)} (hL : ∀ p ∈ L, COk s i p) {k : Nat} (hk : k < L.length) : 1 ≤ loK L k ∧ loK L k ≤ 273 := by
 unfold loK
 split
 ·omega
 ·have := hL _ (List.mem_of_getElem? (get_default (show k - 1 < L.length by omega)))
  have h1 := this.1
  have h2 := this.2.1
  omega
theorem Tr.runK {s : List UInt8} {i : Nat} {L : List (Nat × Nat)} {best0 : List Stp} (hL : ∀ p ∈ L, COk s i p) : ∀ (k : Nat) (st : Bool × List Stp), k ≤ L.length → Tr s.length i best0 st → Tr s.length i best0 (Go.Proofs.YtlmjefjimoghcaaGreat.runK i L k st)
 | 0, _, _, h => h
 | k + 1, st, hk, h => by
  have hc := hL _ (List.mem_of_getElem? (get_default (show k < L.length by omega)))
  exact Tr.runK hL k _ (by omega) (Tr.runN (loK_pos hL (by omega)).1 hc.2.2.2.2 _ _ hc.2.2.1 hc.2.1 h)
/-- after j places from the end -/
structure Fin (n j : Nat) (best : List Stp) : Prop where
 bd : Bd n best
 ok : ∀ k, k < n → n - j ≤ k → Ok1 n k (best.getD k default)
theorem fin_start (s : List UInt8) : Fin s.length 0 (bestP s 0) := by
 have e : ∀ k, (List.replicate (s.length + 1) (default : Stp)).getD k default = default := fun k => by
  rw [List.getD_eq_getElem?_getD, List.getElem?_replicate]; split <;> rfl
 refine ⟨⟨by simp [bestP], fun k hk => ?_⟩, fun k hk h => by omega⟩
 have e1 : (bestP s 0).getD k default = default := e k
 rw [e1]
 exact ⟨Nat.zero_le _, Nat.zero_le _⟩
theorem fin_tr {n j : Nat} {best : List Stp} (h : Fin n j best) (i : Nat) : Tr n i best (false, best) := ⟨h.bd, (fun h => by cases h), fun _ _ => rfl⟩
theorem fin_step {n j i : Nat} {best0 : List Stp} {st : Bool × List Stp} (h : Fin n j best0) (hij : i + j + 1 = n) (ht : Tr n i best0 st) (hs : st.1 = true) : Fin n (j + 1) st.2 := by
 refine ⟨ht.bd, fun k hk hle => ?_⟩
 by_cases hki : k = i
 ·subst hki; exact ht.ok hs
 ·rw [ht.oth k hki]; exact h.ok k hk (by omega)
theorem fin_all (s : List UInt8) : ∀ j, j ≤ s.length → Fin s.length j (bestP s j)
 | 0, _ => fin_start s
 | j + 1, hj => by
  have h := fin_all s j (by omega)
  have hi : s.length - (j + 1) < s.length := by omega
  have hr := Tr.runK (candL_ok (s := s) (i := s.length - (j + 1)) (by omega)) (candL s (s.length - (j + 1))).length (false, bestP s j) (Nat.le_refl _) (fin_tr h _)
  have ht := hr.step (l := 1) (d := 0) (b := (gB s (s.length - (j + 1))).toNat) (by omega) (by omega) (by omega) (by omega) ((gB s (s.length - (j + 1))).toNat_lt) (.inl rfl)
  exact fin_step h (by omega) ht.1 ht.2
theorem outP_fuel (n : Nat) (best : List Stp) (h : ∀ k, k < n → 1 ≤ (best.getD k default).len) : ∀ (f i : Nat), n - i ≤ f → outP n best f i = outP n best (n - i) i
 | 0, i, hf => by rw [show n - i = 0 by omega]
 | f + 1, i, hf => by
  by_cases hi : i < n
  ·have h1 := h i hi
   obtain ⟨q, hq⟩ : ∃ q, n - i = q + 1 := ⟨n - i - 1, by omega⟩
   rw [hq]
   unfold outP
   rw [if_pos hi, if_pos hi, outP_fuel n best h f _ (by omega), outP_fuel n best h q _ (by omega)]
  ·rw [show n - i = 0 by omega]
   unfold outP
   rw [if_neg hi]
theorem outP_step {n i : Nat} {best : List Stp} (h : ∀ k, k < n → 1 ≤ (best.getD k default).len) (hi : i < n) : outP n best (n - i) i = firstP (best.getD i default) :: outP n best (n - (i + (best.getD i default).len)) (i + (best.getD i default).len) := by
 have h1 := h i hi
 obtain ⟨q, hq⟩ : ∃ q, n - i = q + 1 := ⟨n - i - 1, by omega⟩
 rw [hq]
 show (if i < n then _ else _) = _
 rw [if_pos hi, outP_fuel n best h q _ (by omega)]
theorem outP_stop (n : Nat) (best : List Stp) (f i : Nat) (hi : ¬ i < n) : outP n best f i = [] := by
 cases f with
 | zero => rfl
 | succ f => show (if i < n then _ else _) = _; rw [if_neg hi]
theorem made_five (n : Nat) : (madeCells #[Value.int .i64 0, Value.int .i64 0, Value.int .i64 0, Value.int .i64 0, Value.int .u8 0] (n * 5)).toList = spc (List.replicate n default) := by
 unfold madeCells
 rw [Array.toList_map, Array.toList_range]
 apply List.ext_getElem?
 intro i
 rw [List.getElem?_map]
 by_cases h : i < n * 5
 ·rw [List.getElem?_range h]
  have hk : i / 5 < (List.replicate n (default : Stp)).length := by rw [List.length_replicate]; omega
  have hg := spc_get hk (i % 5) (by omega)
  rw [show i / 5 * 5 + i % 5 = i by omega] at hg
  rw [hg]
  have e : (List.replicate n (default : Stp)).getD (i / 5) default = default := by
   rw [List.getD_eq_getElem?_getD, List.getElem?_replicate]; split <;> rfl
  rw [e]
  rcases (by omega : i % 5 = 0 ∨ i % 5 = 1 ∨ i % 5 = 2 ∨ i % 5 = 3 ∨ i % 5 = 4) with q | q | q | q | q <;> simp [q] <;> rfl
 ·rw [List.getElem?_eq_none (by simpa using h), List.getElem?_eq_none (by rw [spc_length, List.length_replicate]; omega)]; rfl
set_option maxRecDepth 100000 in
theorem made_sprow (W : World) (n : Nat) (hn : n ≤ 10000) : ∃ W', (Instr.makeSlice 185 (.int .i64 (n : Int)) (.int .i64 (n : Int))).run Tryz.prog W = .ok (.slice (some ⟨W.heap.size, 0, none⟩) n n) W' ∧ SpRow W' W.heap.size (List.replicate n default) ∧ Below W.heap.size W W' ∧ W'.heap.size = W.heap.size + 1 := by
 obtain ⟨cur, hcur⟩ : ∃ cur, madeCells (Value.agg #[.int .i64 0, .int .i64 0, .int .i64 0, .int .i64 0, .int .u8 0]).cells (n * 5) = cur := ⟨_, rfl⟩
 have hmk := run_makeSlice (P := Tryz.prog) W 185 187 _ (.agg #[.int .i64 0, .int .i64 0, .int .i64 0, .int .i64 0, .int .u8 0]) Tryz.underlying185 rfl rfl .i64 .i64 (n : Int) (n : Int) (by omega) (Int.le_refl _) (by show (n : Int).toNat * 5 ≤ _; omega) (by show (40 : Int) * n ≤ _; omega) (by omega)
 rw [Int.toNat_natCast] at hmk
 have hmk' : (Instr.makeSlice 185 (.int .i64 (n : Int)) (.int .i64 (n : Int))).run Tryz.prog W = .ok (.slice (some ⟨W.heap.size, 0, none⟩) n n) (W.alloc (.cells cur 187)) := by rw [← hcur]; exact hmk
 refine ⟨_, hmk', ?_, (Below.refl _ _).alloc (Nat.le_refl _) _, World.size_alloc ..⟩
 have hc1 : cur.toList = spc (List.replicate n default) := by rw [← hcur]; exact made_five n
 have := heap_alloc_new W (.cells cur 187)
 rw [show cur = (spc (List.replicate n default)).toArray by rw [← hc1]] at this ⊢
 exact this
def pcc (x : Pc) : List Value := [.int .i64 (x.1 : Int), .int .i64 (x.2.1 : Int), .int .u8 (x.2.2 : Int)]
def pcs3 (l : List Pc) : List Value := l.flatMap pcc
theorem pcs3_append (a b : List Pc) : pcs3 (a ++ b) = pcs3 a ++ pcs3 b := by simp [pcs3]
theorem pcs3_length (l : List Pc) : (pcs3 l).length = l.length * 3 := by
 induction l with
 | nil => rfl
 | cons x l ih => show (pcc x ++ pcs3 l).length = _; rw [List.length_append, ih]; show 3 + _ = (_ + 1) * 3; omega
def InPc (w : World) (A : Option Addr) (l : List Pc) : Prop := Flat w (fun k => k < w.heap.size) A (pcs3 l)
set_option maxRecDepth 100000 in
theorem push_pc {w0 w : World} {v : Value} {n : Nat} {xs : List Pc} (h : OwnR w0 97 3 v n (pcs3 xs) w) (hb : Below w0.heap.size w0 w) (hn : n + 1 ≤ 1000000) (x : Pc) : ∃ A c w', (Builtin.append_ #[87, 87] 87 #[v, .slice (some ⟨w.heap.size, 0, none⟩) 1 1]).run Tryz.prog (w.alloc (.cells #[.int .i64 (x.1 : Int), .int .i64 (x.2.1 : Int), .int .u8 (x.2.2 : Int)] 97)) = .ok (.slice A (n + 1) c) w' ∧ OwnR w0 97 3 (.slice A (n + 1) c) (n + 1) (pcs3 (xs ++ [x])) w' ∧ Below w0.heap.size w0 w' ∧ (w.alloc (.cells #[.int .i64 (x.1 : Int), .int .i64 (x.2.1 : Int), .int .u8 (x.2.2 : Int)] 97)).grownBy w' v.ownBlock := by
 obtain ⟨W, hW⟩ : ∃ W, w.alloc (.cells #[.int .i64 (x.1 : Int), .int .i64 (x.2.1 : Int), .int .u8 (x.2.2 : Int)] 97) = W := ⟨_, rfl⟩
 have hbl : W.heap[w.heap.size]? = some (.cells #[.int .i64 (x.1 : Int), .int .i64 (x.2.1 : Int), .int .u8 (x.2.2 : Int)] 97 (0, 0)) := by rw [← hW]; exact heap_alloc_new _ _
 have h2 : OwnR w0 97 3 v n (pcs3 xs) W := by rw [← hW]; exact h.below ((Below.refl _ _).alloc (Nat.le_refl _) _)
 have hbW : Below w0.heap.size w0 W := by rw [← hW]; exact hb.alloc hb.size _
 have hsz : w0.heap.size ≤ W.heap.size := hbW.size
 rw [hW]
 obtain ⟨v', w', h1, h2', h3, h4⟩ := append_at (P := Tryz.prog) W 87 87 (e := 97) _ _ 3 _ Tryz.underlying87 rfl rfl rfl rfl rfl (by decide) v n (pcs3 xs) h2.row ⟨w.heap.size, 0, none⟩ 1 1 (pcc x) rfl (fun j u hj => by
  match j, hj with
  | 0, hj => cases hj; rw [Addr.add_lit, cell_of_row W _ _ _ _ _ hbl]; rfl
  | 1, hj => cases hj; rw [Addr.add_lit, cell_of_row W _ _ _ _ _ hbl]; rfl
  | 2, hj => cases hj; rw [Addr.add_lit, cell_of_row W _ _ _ _ _ hbl]; rfl) (fun u hu => by simp [pcc] at hu; rcases hu with rfl | rfl | rfl <;> rfl) hn (by decide) (by decide)
 obtain ⟨A, c, rfl⟩ := row_sl h2'
 refine ⟨A, c, w', h1, ⟨?_, fun k hk => ?_⟩, below_grown hbW hsz h3 h.new, h3⟩
 ·have e : pcs3 (xs ++ [x]) = pcs3 xs ++ pcc x := by rw [pcs3_append]; simp [pcs3]
  rw [e]; exact h2'
 ·rcases h4 with h4 | ⟨h4, _⟩
  ·exact h.new k (h4 ▸ hk)
  ·rw [h4] at hk; injection hk with hk; omega
end Go.Proofs.YtlmjefjimoghcaaGreat
