/- A part of the proofs of TopCounter and TopStrict: what the functions of the program do, each walked once, and plain laws about it. No condition. -/
import Derived.Test.YtlmjefjimoghcaaGreatA33
import Derived.Test.YtlmjefjimoghcaaGreatA23
import Derived.Test.YtlmjefjimoghcaaGreatA32
namespace Go.Proofs.YtlmjefjimoghcaaGreat
set_option linter.unusedSimpArgs false
set_option linter.unnecessarySimpa false
set_option linter.unusedVariables false
open Go.RowKit
attribute [local go_sem ↓] Go.wp_at_zero Go.wp_at_succ
def SRow (w : World) (G : Nat) (l : List Str) : Prop := w.heap[G]? = some (.cells (sc l).toArray 9 (0, 0))
theorem SRow.to {w : World} {G : Nat} {l : List Str} (h : SRow w G l) : w.heap[G]? = some (.cells (sc l).toArray 9 (0, 0)) := h
theorem SRow.set {w : World} {G : Nat} {l : List Str} (h : SRow w G l) (i : Nat) (x : Str) : SRow (w.setCell ⟨G, i, none⟩ (.string (sB x))) G (l.set i x) :=
 (heap_setCell_any w G i _ _ _ _ h).trans (by simp [sc, List.map_set])
theorem SRow.cell {w : World} {G : Nat} {l : List Str} (h : SRow w G l) {i : Nat} (hi : i < l.length) : w.cell? ⟨G, i, none⟩ = some (.string (sB (l.getD i default))) := by
 rw [cell_of_row w G i _ _ _ h]
 exact (List.getElem?_toArray).trans (sc_get hi)
theorem SRow.fr {w : World} {G : Nat} {l : List Str} (h : SRow w G l) (i : Nat) : w.frozen? ⟨G, i, none⟩ = false := by simp [World.frozen?, h.to]
theorem SRow.mono {w w' : World} {G : Nat} {l : List Str} (h : SRow w G l) (hb : Below w.heap.size w w') : SRow w' G l := (hb.block G (Array.getElem?_eq_some_iff.1 h.to).1).trans h.to
theorem srow_in {w : World} {G : Nat} {l : List Str} (h : SRow w G l) : InS w (some ⟨G, 0, none⟩) l := fun j x hj => by
 refine ⟨_, rfl, (Array.getElem?_eq_some_iff.1 h.to).1, ?_⟩
 rw [Addr.add_lit, Nat.zero_add, cell_of_row _ G j _ _ _ h.to, List.getElem?_toArray]
 exact hj
theorem puts_row {l : List Str} {k n : Nat} (hl : l.length = k) (hk : k < n) (v : Str) : (l ++ List.replicate (n - k) []).set k v = (l ++ [v]) ++ List.replicate (n - (k + 1)) [] := by
 rw [List.set_append_right _ _ (Nat.le_of_eq hl), hl, Nat.sub_self, show n - k = (n - (k + 1)) + 1 by omega, List.replicate_succ, List.set_cons_zero]
 simp
set_option maxRecDepth 100000 in
theorem made_srow (W : World) (n : Nat) (hn : n ≤ 100000) : ∃ W', (Instr.makeSlice 31 (.int .i64 (n : Int)) (.int .i64 (n : Int))).run Tryz.prog W = .ok (.slice (some ⟨W.heap.size, 0, none⟩) n n) W' ∧ SRow W' W.heap.size (List.replicate n []) ∧ Below W.heap.size W W' := by
 obtain ⟨cur, hcur⟩ : ∃ cur, madeCells (Value.string (sB [])).cells (n * 1) = cur := ⟨_, rfl⟩
 have hmk := run_makeSlice (P := Tryz.prog) W 31 9 _ (.string (sB [])) Tryz.underlying31 rfl rfl .i64 .i64 (n : Int) (n : Int) (by omega) (Int.le_refl _) (by show (n : Int).toNat * 1 ≤ _; omega) (by show (16 : Int) * n ≤ _; omega) (by omega)
 rw [Int.toNat_natCast] at hmk
 have hmk' : (Instr.makeSlice 31 (.int .i64 (n : Int)) (.int .i64 (n : Int))).run Tryz.prog W = .ok (.slice (some ⟨W.heap.size, 0, none⟩) n n) (W.alloc (.cells cur 9)) := by rw [← hcur]; exact hmk
 refine ⟨_, hmk', ?_, (Below.refl _ _).alloc (Nat.le_refl _) _⟩
 have hc1 : cur.toList = sc (List.replicate n []) := by
  rw [← hcur, Nat.mul_one]
  show (madeCells #[Value.string (sB [])] n).toList = _
  rw [toList_madeCells_one]; simp [sc]
 have := heap_alloc_new W (.cells cur 9)
 rw [show cur = (sc (List.replicate n [])).toArray by rw [← hc1]] at this ⊢
 exact this
def MpR (w : World) (G : Nat) (o : List Str) (i : Value) (wr : World) : Prop := ∃ k : Nat, i = .int .i64 (k : Int) ∧ k ≤ o.length ∧ SRow wr G (o.take k ++ List.replicate (o.length - k) []) ∧ Below w.heap.size w wr
theorem take_getS {l : List Str} {k : Nat} (h : k < l.length) : l.take k ++ [l.getD k default] = l.take (k + 1) := (take_getDS h).symm
theorem map_getS (f : Str → Str) {l : List Str} {k : Nat} (h : k < l.length) : (l.map f).getD k default = f (l.getD k default) := by simp [List.getD, h]
/-- the row with one value more -/
theorem MpR.put {o : List Str} {k : Nat} (h : k < o.length) (x : Str) (hx : o.getD k default = x) : (o.take k ++ List.replicate (o.length - k) []).set k x = o.take (k + 1) ++ List.replicate (o.length - (k + 1)) [] := by
 rw [puts_row (by rw [List.length_take]; omega) h, ← hx, take_getS h]
set_option maxRecDepth 100000 in
theorem short_walk (l : List Str) (hl : l.length ≤ 100000) (hs : ∀ s ∈ l, s.length ≤ 100000) (w : World) (A : Option Addr) (c : Nat) (hF : InS w A l) : Calls Tryz.prog 160 #[.slice A l.length c] w fun x w' => Below w.heap.size w w' ∧ ∃ A1 c1, x = .returned (.slice A1 l.length c1) ∧ InS w' A1 (l.map shortV) := by
 obtain ⟨W, hrun, hrow, hbw⟩ := made_srow w l.length hl
 have HF := Lib.hid hF
 have HS := Lib.hid hs
 have HR0 := Lib.hid hrow
 have HB0 := Lib.hid hbw
 have hli : (l.length : Int) ≤ 100000 := by omega
 obtain ⟨o, ho⟩ : ∃ o, l.map shortV = o := ⟨_, rfl⟩
 have hol : o.length = l.length := by rw [← ho]; simp
 have HOl := Lib.hid hol
 have HO : Hid (∀ k, k < l.length → o.getD k default = shortV (l.getD k default)) := Lib.hid (by rw [← ho]; exact fun k hk => map_getS shortV hk)
 rw [ho]
 clear hF hl hs hrow hbw hol ho
 go_enter Tryz.func160, Tryz.ntmps160
 go_wp2_with fail
 clear hrun
 go_loopw [11] (fun i wr => MpR w w.heap.size o i wr) (fun i _ => ((l.length : Int) - intOf i).toNat)
 case atStart => exact ⟨0, rfl, Nat.zero_le _, by rw [List.take_zero, HOl.out, Nat.sub_zero]; exact HR0.out, HB0.out⟩
 case round =>
  obtain ⟨k, rfl, hk, hr, hb⟩ := hrel
  have HB := Lib.hid hb
  have HR := Lib.hid hr
  have hol := HOl.out
  by_cases hlt : k < l.length
  ·have hki : (k : Int) < l.length := by omega
   obtain ⟨a, rfl, c0⟩ := HF.out.at hb hlt
   obtain ⟨s, hsk⟩ : ∃ s, l.getD k default = s := ⟨_, rfl⟩
   rw [hsk] at c0
   have hsl := HS.out s (by rw [← hsk]; exact List.mem_of_getElem? (get_default hlt))
   have HSw := Lib.hid fun w => shorten_walk s (by unfold maxLen; omega) w
   have hx := HO.out k hlt
   rw [hsk] at hx
   have HX := Lib.hid hx
   clear hr hb hk hol hsl hx hsk
   go_wp2_with fail
   refine (HSw.out _).mono ?_
   rintro x w1 ⟨rfl, hb1⟩
   have hr1 := HR.out.mono hb1
   have g0 := hr1.cell (i := k) (by rw [List.length_append, List.length_take, List.length_replicate, HOl.out]; omega)
   have gf := hr1.fr k
   have hset := hr1.set k (shortV s)
   rw [MpR.put (by rw [HOl.out]; exact hlt) _ HX.out] at hset
   have HSet := Lib.hid hset
   have HB1 := Lib.hid (bstep HB.out (Nat.le_refl _) hb1)
   clear hb1 hr1 hset
   go_wp2_with fail
   go_roundw
   case rel => exact ⟨k + 1, by go_num, by rw [HOl.out]; omega, HSet.out, HB1.out.setCell (p := ⟨w.heap.size, k, none⟩) (Nat.le_refl _) _⟩
   case measure => simp [intOf]; omega
  ·obtain rfl : k = l.length := by omega
   rw [← hol, Nat.sub_self, List.replicate_zero, List.append_nil, List.take_length] at hr
   have HRr := Lib.hid hr
   clear hr hb hol
   go_wp2_with fail
   go_ret
   exact ⟨HB.out, some ⟨w.heap.size, 0, none⟩, l.length, rfl, srow_in HRr.out⟩
def excK (l : List Str) (st : Str) : Nat → List Int
 | 0 => []
 | k + 1 => if addOk (l.getD k default) st && decide ((if addOk (l.getD k default) st then addV (l.getD k default) st else []) = l.getD (k + 1) default) then excK l st k else excK l st k ++ [((k + 1 : Nat) : Int)]
def excF (l : List Str) (st : Str) : List Int := excK l st (l.length - 1)
theorem excK_len (l : List Str) (st : Str) : ∀ k, (excK l st k).length ≤ k
 | 0 => Nat.le_refl _
 | k + 1 => by
  have := excK_len l st k
  unfold excK
  generalize (addOk (l.getD k default) st && _) = b
  cases b
  ·simp; omega
  ·simp; omega
def ExR (w : World) (l : List Str) (st : Str) (v i : Value) (wr : World) : Prop := ∃ j m : Nat, i = .int .i64 (j : Int) ∧ j = m + 1 ∧ (j ≤ l.length ∨ m = 0) ∧ OwnR w 3 1 v (excK l st m).length (ic (excK l st m)) wr ∧ Below w.heap.size w wr
set_option maxRecDepth 100000 in
set_option maxHeartbeats 1000000 in
theorem bexc_walk (l : List Str) (hl : l.length ≤ 100000) (hs : ∀ s ∈ l, s.length ≤ 100000) (st : Str) (hst : st.length ≤ 100000) (w : World) (A : Option Addr) (c : Nat) (hF : InS w A l) : Calls Tryz.prog 159 #[.slice A l.length c, .string (sB st)] w fun x w' => Below w.heap.size w w' ∧ ∃ A1 c1, x = .returned (.slice A1 (excF l st).length c1) ∧ InI w' A1 (excF l st) := by
 have HF := Lib.hid hF
 have HS := Lib.hid hs
 have HSt := Lib.hid hst
 have HLl := Lib.hid hl
 have hli : (l.length : Int) ≤ 100000 := by omega
 clear hF hl hs hst
 go_enter Tryz.func159, Tryz.ntmps159
 go_wp2_with fail
 go_loopw [5, 6] (fun v i wr => ExR w l st v i wr) (fun _ i _ => ((l.length : Int) - intOf i).toNat)
 case atStart => exact ⟨1, 0, rfl, rfl, .inr rfl, .nil _ _ _ _, .refl _ _⟩
 case round =>
  obtain ⟨j, m, rfl, hjm, hjl, ho, hb⟩ := hrel
  have hel := excK_len l st m
  obtain ⟨xs, hxs⟩ : ∃ xs, excK l st m = xs := ⟨_, rfl⟩
  rw [hxs] at ho hel
  obtain ⟨n, hn⟩ : ∃ n, xs.length = n := ⟨_, rfl⟩
  rw [hn] at ho hel
  have HN := Lib.hid hn
  have HXs := Lib.hid hxs
  have HO := Lib.hid ho
  have HB := Lib.hid hb
  obtain ⟨A', c', rfl⟩ := row_sl ho.row
  by_cases hlt : j < l.length
  ·have hji : (j : Int) < l.length := by omega
   have hmi : (j : Int) - 1 = (m : Int) := by omega
   have hml : (m : Int) < l.length := by omega
   obtain ⟨s1, hs1⟩ : ∃ s, l.getD m default = s := ⟨_, rfl⟩
   obtain ⟨s2, hs2⟩ : ∃ s, l.getD j default = s := ⟨_, rfl⟩
   have hin1 : s1 ∈ l := by rw [← hs1]; exact List.mem_of_getElem? (get_default (by omega))
   have l1 := HS.out _ hin1
   have l2 := HSt.out
   have hmm : maxLen = 2 ^ 63 - 1 := rfl
   have hd0 := fun w => add_walk s1 st (by omega) (by omega) w
   obtain ⟨d, hd⟩ : ∃ d, (if addOk s1 st then addV s1 st else []) = d := ⟨_, rfl⟩
   obtain ⟨ok, hok⟩ : ∃ ok, addOk s1 st = ok := ⟨_, rfl⟩
   have hE : excK l st (m + 1) = if ok && decide (d = s2) then xs else xs ++ [(j : Int)] := by
    rw [← hxs, ← hd, ← hok, ← hs1, ← hs2, hjm]; rfl
   have HD : Hid (∀ w : World, Calls Tryz.prog 9 #[.string (sB s1), .string (sB st)] w fun e w' => e = .returned (.tuple #[.string (sB d), .bool ok]) ∧ Below w.heap.size w w') := Lib.hid (by
    intro w; have := hd0 w; rw [hd, hok] at this; exact this)
   obtain ⟨a1, ha1, c0⟩ := HF.out.at hb (show m < l.length by omega)
   obtain ⟨a2, ha2, c1⟩ := HF.out.at hb hlt
   subst ha1
   injection ha2 with ha2
   subst ha2
   rw [hs1] at c0
   rw [hs2] at c1
   have HEl : Hid (n + 1 ≤ 1000000) := Lib.hid (by have := HLl.out; omega)
   have HE := Lib.hid hE
   have HJ : Hid (j = m + 1) := Lib.hid hjm
   have HK : Hid (∀ W', Below wr.heap.size wr W' → W'.cell? (a1.add j) = some (.string (sB s2))) := Lib.hid (by
    intro W' hW'
    obtain ⟨b', hb1', d1⟩ := HF.out.at (bstep HB.out (Nat.le_refl _) hW') hlt
    injection hb1' with hb1'; subst hb1'
    rw [hs2] at d1
    exact d1)
   clear hjm ho hb hn hxs hd0 hin1 l1 l2 hmm hd hok hs1 hs2 hE hel c1
   go_wp2_with fail
   refine (HD.out _).mono ?_
   rintro x w1 ⟨rfl, hb1⟩
   have c1 := HK.out _ hb1
   have HB1 := Lib.hid (bstep HB.out (Nat.le_refl _) hb1)
   have HO1 := Lib.hid (HO.out.below hb1)
   clear hb1
   by_cases hall : ok = true ∧ d = s2
   ·obtain ⟨rfl, h2⟩ := hall
    have HE2 : Hid (excK l st (m + 1) = xs) := Lib.hid (by rw [HE.out, decide_eq_true h2]; rfl)
    have hse := str_eq d s2
    have hsn := str_ne d s2
    rw [decide_eq_true h2] at hse hsn
    clear h2
    go_wp2_with fail
    go_roundw
    case rel => exact ⟨j + 1, m + 1, by go_num, by rw [HJ.out], .inl (by omega), by rw [HE2.out, HN.out]; exact HO1.out, HB1.out⟩
    case measure => simp [intOf]; omega
   ·have HE2 : Hid (excK l st (m + 1) = xs ++ [(j : Int)]) := Lib.hid (by
     rw [HE.out, if_neg]
     intro h
     rw [Bool.and_eq_true, decide_eq_true_eq] at h
     exact hall h)
    cases ok with
    | false =>
     obtain ⟨A5, c5, W5, hrun, ho5, hb5, -⟩ := push_int HO1.out HB1.out HEl.out (j : Int)
     have HO5 := Lib.hid ho5
     have HB5 := Lib.hid hb5
     have HRUN := Lib.hid hrun
     clear hrun ho5 hb5 hall
     go_wp2_with (at_builtin; refine wpList_append_eq rfl _ _ _ rfl _ _ rfl rfl HRUN.out ?_)
     go_roundw
     case rel => exact ⟨j + 1, m + 1, by go_num, by rw [HJ.out], .inl (by omega), by rw [HE2.out, List.length_append, HN.out]; exact HO5.out, HB5.out⟩
     case measure => simp [intOf]; omega
    | true =>
     have hse := str_eq d s2
     have hsn := str_ne d s2
     rw [decide_eq_false (fun h => hall ⟨rfl, h⟩)] at hse hsn
     obtain ⟨A5, c5, W5, hrun, ho5, hb5, -⟩ := push_int HO1.out HB1.out HEl.out (j : Int)
     have HO5 := Lib.hid ho5
     have HB5 := Lib.hid hb5
     have HRUN := Lib.hid hrun
     clear hrun ho5 hb5 hall
     go_wp2_with (at_builtin; refine wpList_append_eq rfl _ _ _ rfl _ _ rfl rfl HRUN.out ?_)
     go_roundw
     case rel => exact ⟨j + 1, m + 1, by go_num, by rw [HJ.out], .inl (by omega), by rw [HE2.out, List.length_append, HN.out]; exact HO5.out, HB5.out⟩
     case measure => simp [intOf]; omega
  ·have hml : l.length - 1 = m := by omega
   have hge : ¬ (j : Int) < l.length := by omega
   have HE : Hid (excF l st = xs) := Lib.hid (by unfold excF; rw [hml, hxs])
   have HO2 := Lib.hid (ownI_in HO.out)
   clear hml ho hb hjm hjl hn hxs hel
   go_wp2_with fail
   go_ret
   rw [HE.out, HN.out]
   exact ⟨HB.out, A', ⟨c', rfl⟩, HO2.out⟩
def longV (n : Nat) (l : List Str) : List Str × Bool := if l.all (fun d => (extV n d).2 == 0) then (l.map fun d => (extV n d).1, true) else ([], false)
theorem extV_len (n : Nat) (h : n ≤ 128) (d : Str) : (extV n d).1.length ≤ 128 := by
 unfold extV
 split
 ·simp
 ·split
  ·simp
  ·split
   ·simp
   ·rename_i h1
    show (List.replicate _ _ ++ d).length ≤ _
    rw [List.length_append, List.length_replicate]
    omega
theorem longV_b (n : Nat) (h : n ≤ 128) (l : List Str) : (longV n l).1.length ≤ l.length ∧ ∀ s ∈ (longV n l).1, s.length ≤ 128 := by
 unfold longV
 split
 ·refine ⟨by simp, fun s hs => ?_⟩
  obtain ⟨d, _, rfl⟩ := List.mem_map.1 hs
  exact extV_len n h d
 ·exact ⟨by simp, fun s hs => by cases hs⟩
def LongP (w : World) (r : List Str × Bool) (x : Ending) (w' : World) : Prop := Below w.heap.size w w' ∧ ((r = ([], false) ∧ x = .returned (.tuple #[.slice none 0 0, .bool false])) ∨ (r.2 = true ∧ ∃ G, w.heap.size ≤ G ∧ x = .returned (.tuple #[.slice (some ⟨G, 0, none⟩) r.1.length r.1.length, .bool true]) ∧ SRow w' G r.1))
theorem longP_nil {w w' : World} (h : Below w.heap.size w w') : LongP w ([], false) (.returned (.tuple #[.slice none 0 0, .bool false])) w' := ⟨h, .inl ⟨rfl, rfl⟩⟩
theorem longP_ok {w w' : World} {o : List Str} {n G : Nat} (h : Below w.heap.size w w') (hn : o.length = n) (hG : w.heap.size ≤ G) (hs : SRow w' G o) : LongP w (o, true) (.returned (.tuple #[.slice (some ⟨G, 0, none⟩) n n, .bool true])) w' := by
 subst hn
 exact ⟨h, .inr ⟨rfl, G, hG, rfl, hs⟩⟩
theorem extV_ok {n : Nat} {d : Str} (h1 : 1 ≤ n) (h128 : n ≤ 128) (h : (extV n d).2 = 0) : isV (extV n d).1 = true ∧ (extV n d).1.length = n := by
 unfold extV at h ⊢
 split at h
 ·exact absurd h (by decide)
 ·rename_i a1
  split at h
  ·exact absurd h (by decide)
  ·rename_i a2
   split at h
   ·exact absurd h (by decide)
   ·rename_i a3
    rw [if_neg a1, if_neg a2, if_neg a3]
    simp only [Bool.or_eq_true, Bool.not_eq_true', not_or, Bool.not_eq_true, Bool.not_eq_false] at a2
    have hl : (List.replicate ((n : Int).toNat - d.length) (extC (d.getD 0 0)) ++ d).length = n := by
     rw [List.length_append, List.length_replicate]; omega
    refine ⟨?_, hl⟩
    unfold isV
    show (!(List.replicate ((n : Int).toNat - d.length) (extC (d.getD 0 0)) ++ d).isEmpty && decide ((List.replicate ((n : Int).toNat - d.length) (extC (d.getD 0 0)) ++ d).length ≤ 128) && _) = true
    rw [hl, decide_eq_true h128]
    have he : (List.replicate ((n : Int).toNat - d.length) (extC (d.getD 0 0)) ++ d).isEmpty = false := by
     cases hq : (List.replicate ((n : Int).toNat - d.length) (extC (d.getD 0 0)) ++ d) with
     | nil => rw [hq] at hl; simp at hl; omega
     | cons => rfl
    rw [he]
    simp only [Bool.not_false, Bool.true_and, List.all_append, Bool.and_eq_true]
    refine ⟨?_, a2.2⟩
    rw [List.all_eq_true]
    intro x hx
    rw [List.eq_of_mem_replicate hx]
    have h0 : d ≠ [] := by intro e; rw [e] at a2; exact absurd a2.1 (by decide)
    obtain ⟨y, r, rfl⟩ := List.exists_cons_of_ne_nil h0
    have hy := List.all_eq_true.1 a2.2 y (by simp)
    show okC (extC y) = true
    unfold extC
    split
    ·decide
    ·exact hy
theorem longV_ok {n : Nat} {l : List Str} (h1 : 1 ≤ n) (h128 : n ≤ 128) : ∀ s ∈ (longV n l).1, isV s = true ∧ s.length = n := by
 unfold longV
 split
 ·rename_i h
  intro s hs
  obtain ⟨d, hd, rfl⟩ := List.mem_map.1 hs
  have := List.all_eq_true.1 h d hd
  exact extV_ok h1 h128 (by simpa using this)
 ·intro s hs; cases hs
def LoR (w : World) (G n : Nat) (o l : List Str) (i : Value) (wr : World) : Prop := ∃ k : Nat, i = .int .i64 (k : Int) ∧ k ≤ o.length ∧ (∀ q, q < k → (extV n (l.getD q default)).2 = 0) ∧ SRow wr G (o.take k ++ List.replicate (o.length - k) []) ∧ wr.heap[w.heap.size]? = some (.cells #[.int .i64 (n : Int)] 109 (0, 0)) ∧ Below w.heap.size w wr
set_option maxRecDepth 100000 in
set_option maxHeartbeats 1000000 in
theorem long_walk (n : Nat) (h1 : 1 ≤ n) (h128 : n ≤ 128) (l : List Str) (hl : l.length ≤ 100000) (hs : ∀ s ∈ l, s.length ≤ 100000) (w : World) (A : Option Addr) (c : Nat) (hF : InS w A l) : Calls Tryz.prog 148 #[.agg #[.int .i64 (n : Int)], .slice A l.length c] w fun x w' => LongP w (longV n l) x w' := by
 have hb0 : Below w.heap.size w (w.alloc (.cells #[.int .i64 (n : Int)] 109)) := (Below.refl _ _).alloc (Nat.le_refl _) _
 obtain ⟨W, hrun, hrow, hbw⟩ := made_srow (w.alloc (.cells #[.int .i64 (n : Int)] 109)) l.length hl
 have hcell := heap_alloc_new w (.cells #[.int .i64 (n : Int)] 109)
 have HF := Lib.hid hF
 have HS := Lib.hid hs
 have HR0 := Lib.hid hrow
 rw [World.size_alloc] at hbw hrow
 have HCe : Hid (W.heap[w.heap.size]? = some (.cells #[.int .i64 (n : Int)] 109 (0, 0))) := Lib.hid ((hbw.block _ (by omega)).trans hcell)
 have HB0 : Hid (Below w.heap.size w W) := Lib.hid (hb0.trans (hbw.mono (by omega)))
 have hli : (l.length : Int) ≤ 100000 := by omega
 obtain ⟨o, ho⟩ : ∃ o, (l.map fun d => (extV n d).1) = o := ⟨_, rfl⟩
 have hol : o.length = l.length := by rw [← ho]; simp
 have HOl := Lib.hid hol
 have HO : Hid (∀ k, k < l.length → o.getD k default = (extV n (l.getD k default)).1) := Lib.hid (by rw [← ho]; exact fun k hk => map_getS (fun d => (extV n d).1) hk)
 have HL : Hid (longV n l = if l.all (fun d => (extV n d).2 == 0) then (o, true) else ([], false)) := Lib.hid (by rw [← ho]; rfl)
 have HN : Hid (1 ≤ n ∧ n ≤ 128) := Lib.hid ⟨h1, h128⟩
 have HR0' : Hid (SRow W (w.heap.size + 1) (List.replicate l.length [])) := Lib.hid hrow
 rw [World.size_alloc] at hrun
 clear hF hl hs hrow hbw hol ho hcell hb0 h1 h128 HR0
 go_enter Tryz.func148, Tryz.ntmps148
 go_wp2_with fail
 clear hrun
 go_loopw [16] (fun i wr => LoR w (w.heap.size + 1) n o l i wr) (fun i _ => ((l.length : Int) - intOf i).toNat)
 case atStart => exact ⟨0, rfl, Nat.zero_le _, fun q hq => by omega, by rw [List.take_zero, HOl.out, Nat.sub_zero]; exact HR0'.out, HCe.out, HB0.out⟩
 case round =>
  obtain ⟨k, rfl, hk, hq, hr, hc, hb⟩ := hrel
  have HB := Lib.hid hb
  have HR := Lib.hid hr
  have HQ := Lib.hid hq
  have HC := Lib.hid hc
  have hol := HOl.out
  by_cases hlt : k < l.length
  ·have hki : (k : Int) < l.length := by omega
   obtain ⟨a, rfl, c0⟩ := HF.out.at hb hlt
   obtain ⟨s, hsk⟩ : ∃ s, l.getD k default = s := ⟨_, rfl⟩
   rw [hsk] at c0
   have hmem : s ∈ l := by rw [← hsk]; exact List.mem_of_getElem? (get_default hlt)
   have hsl := HS.out s hmem
   have HX := Lib.hid (ext_walk n HN.out.1 HN.out.2 s (by unfold maxLen; omega))
   have hx := HO.out k hlt
   rw [hsk] at hx
   rcases hve : extV n s with ⟨v, e⟩
   rw [hve] at HX hx
   have HE : Hid (extV n (l.getD k default) = (v, e)) := Lib.hid (by rw [hsk, hve])
   have HM := Lib.hid hmem
   have HVe := Lib.hid hve
   have HXo : Hid (o.getD k default = v) := Lib.hid hx
   have cn := (one_cell hc).1
   clear hr hb hk hq hol hsl hx hsk hve hmem hc
   go_wp2_with fail
   refine (HX.out _).mono ?_
   rintro x w1 ⟨rfl, hb1⟩
   have hr1 := HR.out.mono hb1
   have g0 := hr1.cell (i := k) (by rw [List.length_append, List.length_take, List.length_replicate, HOl.out]; omega)
   have gf := hr1.fr k
   have hset := hr1.set k v
   rw [MpR.put (by rw [HOl.out]; exact hlt) _ HXo.out] at hset
   have HSet := Lib.hid hset
   have HB1 := Lib.hid (bstep HB.out (Nat.le_refl _) hb1)
   have HC1 := Lib.hid ((hb1.block _ (Array.getElem?_eq_some_iff.1 HC.out).1).trans HC.out)
   clear hb1 hr1 hset
   by_cases he : e = 0
   ·subst he
    go_wp2_with fail
    go_roundw
    case rel =>
     refine ⟨k + 1, by go_num, by rw [HOl.out]; omega, fun q hq => ?_, HSet.out, ?_, HB1.out.setCell (p := ⟨w.heap.size + 1, k, none⟩) (Nat.le_succ _) _⟩
     ·rcases Nat.lt_or_ge q k with h | h
      ·exact HQ.out q h
      ·obtain rfl : q = k := by omega
       rw [HE.out]
     ·rw [Below.heap_setCell _ ⟨w.heap.size + 1, k, none⟩ _ _ (by show w.heap.size ≠ w.heap.size + 1; omega)]; exact HC1.out
    case measure => simp [intOf]; omega
   ·have hen := errne he
    have HL2 : Hid (longV n l = ([], false)) := Lib.hid (by
     rw [HL.out, if_neg]
     intro h
     have := List.all_eq_true.1 h s HM.out
     rw [HVe.out] at this
     exact he (by simpa using this))
    clear he
    go_wp2_with fail
    go_ret2
    rw [HL2.out]
    exact longP_nil HB1.out
  ·obtain rfl : k = l.length := by omega
   rw [← hol, Nat.sub_self, List.replicate_zero, List.append_nil, List.take_length] at hr
   have HRr := Lib.hid hr
   have HL2 : Hid (longV n l = (o, true)) := Lib.hid (by
    rw [HL.out, if_pos]
    rw [List.all_eq_true]
    intro s hs
    obtain ⟨q, hq1, hq2⟩ := List.mem_iff_getElem.1 hs
    have := hq q hq1
    rw [List.getD_eq_getElem?_getD, List.getElem?_eq_getElem hq1, Option.getD_some, hq2] at this
    rw [this]; rfl)
   clear hr hb hol hq hc
   go_wp2_with fail
   go_ret2
   rw [HL2.out]
   exact longP_ok HB.out HOl.out (Nat.le_succ _) HRr.out
def pbits (cs : List UInt8) : List UInt8 := (cs.foldl (fun (st : List UInt8 × Nat) c => (put2 st.1 st.2 (codeN c), st.2 + 2)) ([], 0)).1
theorem pbits_n (cs : List UInt8) : (cs.foldl (fun (st : List UInt8 × Nat) c => (put2 st.1 st.2 (codeN c), st.2 + 2)) ([], 0)).2 = 2 * cs.length := by
 induction cs using snoc_rec with
 | h0 => rfl
 | h1 l s ih => rw [List.foldl_append, List.length_append]; show _ + 2 = _; rw [ih]; show _ = 2 * (l.length + 1); omega
theorem pbits_snoc (cs : List UInt8) (c : UInt8) : pbits (cs ++ [c]) = put2 (pbits cs) (2 * cs.length) (codeN c) := by
 unfold pbits
 rw [List.foldl_append, ← pbits_n cs]; rfl
def plainF (l : List Str) : List UInt8 × Bool := if l.flatten.length ≤ 32768 then (V.num l.length ++ wbit (pbits l.flatten) (2 * l.flatten.length) 1, true) else ([], false)
theorem flat_take {l : List Str} {k : Nat} (h : k < l.length) : (l.take (k + 1)).flatten = (l.take k).flatten ++ l.getD k default := by rw [take_getDS h]; simp
theorem flat_le (l : List Str) (k : Nat) (h : k < l.length) (q : Nat) : ((l.take k).flatten ++ (l.getD k default).take q).length ≤ l.flatten.length := by
 have e : l.flatten = (l.take k).flatten ++ (l.getD k default ++ (l.drop (k + 1)).flatten) := by
  have e0 : l = l.take k ++ (l.getD k default :: l.drop (k + 1)) := by
   have e1 : l.getD k default :: l.drop (k + 1) = l.drop k := by rw [List.drop_eq_getElem_cons h]; simp [List.getD, h]
   rw [e1, List.take_append_drop]
  have e2 := congrArg List.flatten e0
  rw [List.flatten_append, List.flatten_cons] at e2
  exact e2
 rw [e]
 simp only [List.length_append, List.length_take]
 omega
def PlR (W0 : World) (B : Nat) (l : List Str) (i : Value) (wr : World) : Prop := ∃ k : Nat, i = .int .i64 (k : Int) ∧ k ≤ l.length ∧ (l.take k).flatten.length ≤ 32768 ∧ WrO W0 B (pbits (l.take k).flatten) (2 * (l.take k).flatten.length) wr
def PlI (W0 : World) (B : Nat) (f s : List UInt8) (i : Value) (wr : World) : Prop := ∃ q : Nat, i = .int .i64 (q : Int) ∧ q ≤ s.length ∧ (f ++ s.take q).length ≤ 32768 ∧ WrO W0 B (pbits (f ++ s.take q)) (2 * (f ++ s.take q).length) wr
theorem take_getB {s : List UInt8} {q : Nat} (h : q < s.length) : s.take (q + 1) = s.take q ++ [gB s q] := by
 rw [List.take_succ_eq_append_getElem h]; simp [gB, List.getD, h]
set_option maxRecDepth 100000 in
set_option maxHeartbeats 1000000 in
theorem plain_walk (n : Int) (l : List Str) (hl : l.length ≤ 4096) (hs : ∀ s ∈ l, isV s = true) (w : World) (A : Option Addr) (c : Nat) (hF : InS w A l) : Calls Tryz.prog 122 #[.agg #[.int .i64 n], .slice A l.length c] w fun e w' => e = .returned (.tuple #[.string (sB (plainF l).1), .bool (plainF l).2]) ∧ Below w.heap.size w w' := by
 obtain ⟨W0, hW0⟩ : ∃ W, w.alloc (.cells #[.int .i64 n] 109) = W := ⟨_, rfl⟩
 have hb0 : Below w.heap.size w W0 := by rw [← hW0]; exact (Below.refl _ _).alloc (Nat.le_refl _) _
 have HF := Lib.hid (hF.mono hb0)
 have HB0 := Lib.hid hb0
 have HW0 := Lib.hid hW0
 have HNw := Lib.hid (new_wr W0 W0 (.refl _ _))
 have HS := Lib.hid hs
 have HLl := Lib.hid hl
 have hli : (l.length : Int) ≤ 4096 := by omega
 clear hF hb0 hW0 hs hl
 go_enter Tryz.func122, Tryz.ntmps122
 go_upto_region 1 with (fail)
 rw [HW0.out]
 go_wp2_with fail
 refine (HNw.out).mono ?_
 rintro x w1 ⟨B, rfl, h1⟩
 have H1 := Lib.hid h1
 clear h1 HNw
 go_wp2_with fail
 go_loopw [13] (fun i wr => PlR W0 B l i wr) (fun i _ => ((l.length : Int) - intOf i).toNat)
 case atStart => exact ⟨0, rfl, Nat.zero_le _, by simp, H1.out⟩
 case round =>
  obtain ⟨k, rfl, hk, hk3, hwr⟩ := hrel
  have HWr := Lib.hid hwr
  have HK3 := Lib.hid hk3
  have hbe := hwr.below
  by_cases hlt : k < l.length
  ·have hki : (k : Int) < l.length := by omega
   obtain ⟨a, rfl, c0⟩ := HF.out.at hbe hlt
   obtain ⟨s, hsk⟩ : ∃ s, l.getD k default = s := ⟨_, rfl⟩
   rw [hsk] at c0
   have hsv := HS.out s (by rw [← hsk]; exact List.mem_of_getElem? (get_default hlt))
   have hp := isV_parts hsv
   have hsl : (s.length : Int) ≤ 128 := by omega
   have HOk := Lib.hid hp.2.2
   have hsz := sB_size s
   obtain ⟨f, hf⟩ : ∃ f, (l.take k).flatten = f := ⟨_, rfl⟩
   have HFl : Hid ((l.take (k + 1)).flatten = f ++ s) := Lib.hid (by rw [flat_take hlt, hf, hsk])
   have HLe : Hid (∀ q, (f ++ s.take q).length ≤ l.flatten.length) := Lib.hid (by rw [← hf, ← hsk]; exact flat_le l k hlt)
   rw [hf] at HWr HK3
   obtain ⟨W2, hW2⟩ : ∃ W2, W2 = wr := ⟨_, rfl⟩
   subst hW2
   clear hwr hk hk3 hbe hsk hsv hp hf
   go_wp2_with fail
   go_loopw [19] (fun i wr => PlI W0 B f s i wr) (fun i _ => ((s.length : Int) - intOf i).toNat)
   case atStart => exact ⟨0, rfl, Nat.zero_le _, by rw [List.take_zero, List.append_nil]; exact HK3.out, by rw [List.take_zero, List.append_nil]; exact HWr.out⟩
   case round =>
    obtain ⟨q, rfl, hq, hq3, hwr⟩ := hrel
    have HWq := Lib.hid hwr
    by_cases hqs : q < s.length
    ·have hqi : (q : Int) < s.length := by omega
     have G0 := sB_at (s := s) (i := q) hqs
     have HT : Hid (f ++ s.take (q + 1) = (f ++ s.take q) ++ [gB s q]) := Lib.hid (by rw [take_getB hqs, List.append_assoc])
     have hmem : gB s q ∈ s := by unfold gB; rw [List.getD_eq_getElem?_getD, List.getElem?_eq_getElem hqs]; exact List.getElem_mem hqs
     have hok := List.all_eq_true.1 HOk.out _ hmem
     obtain ⟨b, hb⟩ : ∃ b, gB s q = b := ⟨_, rfl⟩
     rw [hb] at G0 HT hok
     have HCd := Lib.hid fun w => code_okw b hok w
     have hc3 := (codeN_code hok).2
     obtain ⟨cs, hcs⟩ : ∃ cs, f ++ s.take q = cs := ⟨_, rfl⟩
     rw [hcs] at HWq HT hq3
     obtain ⟨v, hv⟩ : ∃ v, codeN b = v := ⟨_, rfl⟩
     rw [hv] at HCd hc3
     have HSn : Hid (pbits (f ++ s.take (q + 1)) = put2 (pbits cs) (2 * cs.length) v ∧ (f ++ s.take (q + 1)).length = cs.length + 1) := Lib.hid (by rw [HT.out, pbits_snoc, hv]; exact ⟨rfl, by simp⟩)
     by_cases hfull : cs.length < 32768
     ·have HPu := Lib.hid fun w (h : WrO W0 B (pbits cs) (2 * cs.length) w) => wput_walk h (by omega) v (by omega)
      have HFu := Lib.hid hfull
      clear hwr hq3 hok hmem hb hc3 hcs hv hfull
      go_wp2_with fail
      refine (HCd.out _).mono ?_
      rintro x _ ⟨rfl, rfl⟩
      have HW3 := Lib.hid (HPu.out _ HWq.out)
      go_wp2_with fail
      refine (HW3.out).mono ?_
      rintro x w4 ⟨rfl, h4⟩
      have H4 := Lib.hid h4
      clear h4
      go_wp2_with fail
      go_roundw
      case rel => exact ⟨q + 1, by go_num, by omega, by rw [HSn.out.2]; exact HFu.out, by rw [HSn.out.1, HSn.out.2]; exact H4.out⟩
      case measure => simp [intOf]; omega
     ·have HPu := Lib.hid fun w (h : WrO W0 B (pbits cs) (2 * cs.length) w) => wput_full h (by omega) v (by omega)
      have HPl : Hid (plainF l = ([], false)) := Lib.hid (by
       unfold plainF
       rw [if_neg]
       have h1 := HLe.out (q + 1)
       rw [HSn.out.2] at h1
       omega)
      clear hwr hq3 hok hmem hb hc3 hcs hv hfull
      go_wp2_with fail
      refine (HCd.out _).mono ?_
      rintro x _ ⟨rfl, rfl⟩
      have HW3 := Lib.hid (HPu.out _ HWq.out)
      go_wp2_with fail
      refine (HW3.out).mono ?_
      rintro x w4 ⟨rfl, h4⟩
      have H4 := Lib.hid h4.below
      clear h4
      go_wp2_with fail
      go_ret2
      rw [HPl.out]
      exact ⟨rfl, bstep HB0.out (Nat.le_refl _) H4.out⟩
    ·obtain rfl : q = s.length := by omega
     rw [List.take_length] at hq3 HWq
     have HQ3 := Lib.hid hq3
     clear hwr hq3
     go_wp2_with fail
     go_roundw
     case rel => exact ⟨k + 1, by go_num, by omega, by rw [HFl.out]; exact HQ3.out, by rw [HFl.out]; exact HWq.out⟩
     case measure => simp [intOf]; omega
  ·obtain rfl : k = l.length := by omega
   rw [List.take_length] at hk3 HWr
   have HNm := Lib.hid fun w => num_at l.length (by omega) w
   have hwb := fun w (h : WrO W0 B (pbits l.flatten) (2 * l.flatten.length) w) => wbytes_walk h (by omega)
   obtain ⟨bs, hbs⟩ : ∃ bs, wbit (pbits l.flatten) (2 * l.flatten.length) 1 = bs := ⟨_, rfl⟩
   have hbl : bs.length ≤ 100000 := by
    rw [← hbs, wbit, wset, List.length_set]
    have := HWr.out.len
    unfold wpush
    split
    ·rw [List.length_append]; simp only [List.length_cons, List.length_nil]; omega
    ·omega
   rw [hbs] at hwb
   have HWb := Lib.hid hwb
   have HPl : Hid (plainF l = (V.num l.length ++ bs, true)) := Lib.hid (by unfold plainF; rw [if_pos hk3, hbs])
   have z1 : (sB (V.num l.length)).size ≤ 9 := by rw [sB_size]; exact num_len _
   have z2 : (sB bs).size ≤ 100000 := by rw [sB_size]; exact hbl
   clear hwr hk hk3 hbe hwb hbs hbl
   go_wp2_with fail
   refine (HNm.out _).mono ?_
   rintro x w3 ⟨rfl, hb3⟩
   have HW3 := Lib.hid (HWr.out.below2 hb3)
   clear hb3
   go_wp2_with fail
   refine (HWb.out _ HW3.out).mono ?_
   rintro x w4 ⟨rfl, hb4⟩
   have HB4 := Lib.hid (bstep HW3.out.below (Nat.le_refl _) hb4)
   clear hb4
   go_wp2_with fail
   go_ret2
   rw [HPl.out, ← sB_app]
   exact ⟨rfl, bstep HB0.out (Nat.le_refl _) HB4.out⟩
end Go.Proofs.YtlmjefjimoghcaaGreat
