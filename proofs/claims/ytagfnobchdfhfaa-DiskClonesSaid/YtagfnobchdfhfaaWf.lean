import Derived.Test.YtagfnobchdfhfaaWe
namespace Go.Proofs.Ytagfnobchdfhfaa
set_option linter.unusedSimpArgs false
set_option linter.unnecessarySimpa false
set_option linter.unusedVariables false
open Go.RowKit
attribute [local go_sem ↓] Go.wp_at_zero Go.wp_at_succ

theorem modify_set (l : List (List UInt8)) (k : Nat) (b : List UInt8) (f : List UInt8 → List UInt8) (h : l[k]? = some b) : l.modify k f = l.set k (f b) := by
  apply List.ext_getElem?
  intro i
  rw [List.getElem?_modify, List.getElem?_set]
  by_cases hi : k = i
  · subst hi
    have hl := (List.getElem?_eq_some_iff.1 h).1
    have e : l[k] = b := by have := List.getElem?_eq_getElem hl; rw [h] at this; exact (Option.some.inj this).symm
    simp [hl, e]
  · simp [hi]
theorem torn_cells (cur : Array Value) (b : List UInt8) (s : ByteArray) (m c : Nat) (hs : s.size = 64) (hm : m ≤ 64) (hc : cur.size = c * 1) (h64 : 64 ≤ c) (ht : cur.toList.take (64 * 1) = bcells b) :
    (cur.toList.take 0 ++ Lib.byteCells (s.extract 0 m).data.toList ++ cur.toList.drop (0 + (s.extract 0 m).size)).toArray.size = cur.size ∧
    (cur.toList.take 0 ++ Lib.byteCells (s.extract 0 m).data.toList ++ cur.toList.drop (0 + (s.extract 0 m).size)).toArray.toList.take 64 = bcells (torn b s.data.toList m) ∧ (s.extract 0 m).size = m ∧ 0 + (s.extract 0 m).size ≤ cur.size ∧ (b.length = 64 → (torn b s.data.toList m).length = 64) := by
  have hem : (s.extract 0 m).size = m := by rw [ByteArray.size_extract]; omega
  have hl : (s.extract 0 m).data.toList = s.data.toList.take m := by simp
  have hsl : s.data.toList.length = 64 := by rw [Array.length_toList]; exact hs
  have hbl : (Lib.byteCells (s.extract 0 m).data.toList).length = m := by rw [hl, Lib.byteCells, List.length_map, List.length_take, hsl]; exact Nat.min_eq_left hm
  refine ⟨?_, ?_, hem, by rw [hem]; omega, fun hb => by unfold torn; simp [hsl, hb]; omega⟩
  · rw [hem, List.size_toArray, List.length_append, List.length_append, hbl, List.length_drop, List.take_zero, List.length_nil, Array.length_toList]; omega
  · rw [hem, hl]
    have hbc : Lib.byteCells (s.data.toList.take m) = bcells (s.data.toList.take m) := rfl
    rw [hbc]
    have h1 : (bcells (s.data.toList.take m)).length = m := by rw [bcells, List.length_map, List.length_take, hsl]; exact Nat.min_eq_left hm
    have h2 : cur.toList.drop (0 + m) = cur.toList.drop m := by simp
    rw [h2]
    simp only [List.take_zero, List.nil_append]
    rw [List.take_append, h1, List.take_of_length_le (by omega)]
    unfold torn bcells at *
    rw [List.map_append]
    congr 1
    rw [List.map_drop, ← ht, Nat.mul_one, List.drop_take]
theorem Touch.setRow {S : Nat → Prop} {a b : World} (h : Touch S a b) {g : Nat} (hg : S g) (vs : Array Value) : Touch S a (b.setRow g vs) :=
  ⟨h.os, h.tape, h.output, by have e : (b.setRow g vs).heap.size = b.heap.size := by simp
                              rw [e]; exact h.size, fun i hi hn => (setRow_other b g i vs (fun e => hn (by rw [e]; exact hg))).trans (h.block i hi hn)⟩
section
variable {S : Nat → Prop} {D : Nat} {d : DM} {w : World} {vd vb vp : Value} {dl : List Value}
theorem DkO.clear (h : DkO S D d w vd vb vp dl) : DkO S D { d with pend := [] } (w.setCell ⟨D, 2, none⟩ (.slice none 0 0)) vd vb (.slice none 0 0) dl := by
  have nD : ∀ {e size v n xs}, w.ownsRow 0 e size v n xs → e ≠ 69 → (w.setCell ⟨D, 2, none⟩ (.slice none 0 0)).ownsRow 0 e size v n xs := fun {e size v n xs} hr he => row_of hr fun g hg =>
    Below.heap_setCell w ⟨D, 2, none⟩ _ g fun e' => h.not_own hr he (by rw [hg, e'])
  refine ⟨by rw [heap_setCell_any w D 2 _ _ _ (.slice none 0 0) h.obj]; rfl, h.sD, nD h.rd (by decide), h.sd, nD h.rb (by decide), h.sb, World.ownsRow_nil _ _ _ _, fun k hk => by simp [Value.ownBlock] at hk, fun i b hb => ?_, h.inj, h.len, fun p hp => by cases hp⟩
  obtain ⟨v, h1, h2, h3⟩ := h.sec i b hb
  exact ⟨v, h1, nD h2 (by decide), h3⟩
theorem full_walk (i : Int) (w : World) : Calls Try.prog 33 #[.int .i64 i] w fun e w' => e = .returned (.int .i64 64) ∧ w = w' := by
  go_enter Try.func33, Try.ntmps33
  go_wp2
  go_ret
  exact ⟨rfl, rfl⟩
set_option maxHeartbeats 1000000 in
theorem end_sync (h : DkO S D d w vd vb vp dl) (hp : d.pend.length ≤ 1000) : Calls Try.prog 32 #[.pointer (some ⟨D, 0, none⟩), .func (.func 33) #[] #[]] w fun e w' => e = .returned (.tuple #[]) ∧ Touch S w w' ∧ Dk S D (endF d fun _ => 64) w' := by
  obtain ⟨ap, cp, rfl⟩ := row_slice h.rp
  obtain ⟨gd, cd, e, _⟩ := row_some h.rd h.len
  subst e
  have x2 := h.c2
  have H := Lib.hid h
  clear h
  go_enter Try.func32, Try.ntmps32
  go_wp2_with fail
  go_loopw [11] (fun i wr => ∃ j : Nat, j ≤ d.pend.length ∧ i = .int .i64 j ∧ Touch S w wr ∧ DkO S D { d with secs := endN (fun _ => 64) d.secs d.pend j } wr (.slice (some ⟨gd, 0, none⟩) d.secs.length cd) vb (.slice ap d.pend.length cp) dl) (fun i _ => d.pend.length - (intOf i).toNat)
  case atStart => exact ⟨0, by omega, rfl, Touch.refl _ _, H.out⟩
  case round =>
    obtain ⟨j, hj, rfl, ht, h1⟩ := hrel
    have HT := Lib.hid ht
    have H1 := Lib.hid h1
    by_cases hlt : j < d.pend.length
    · obtain ⟨gp, c, e, hgp, hcp, hpc, hpf⟩ := row_some h1.rp (by show 0 < d.pend.length; omega)
      injection e with e1 e2 e3
      subst e1 e3
      obtain ⟨p, hpj⟩ : ∃ p, d.pend[j]? = some p := ⟨_, List.getElem?_eq_getElem hlt⟩
      obtain ⟨q1, q2⟩ := pcells_get d.pend j p hpj
      have z1 := hpc _ _ q1
      have z2 := hpc _ _ q2
      obtain ⟨hk, hs⟩ := h1.fit p (by exact List.mem_of_getElem? hpj)
      clear hpc q1 q2 hpf ht h1
      obtain ⟨b, hb⟩ : ∃ b, (endN (fun _ => 64) d.secs d.pend j)[p.1]? = some b := ⟨_, List.getElem?_eq_getElem hk⟩
      have h2 : DkO S D { d with secs := endN (fun _ => 64) d.secs d.pend j } (wr.alloc (.cells #[.int .i64 (p.1 : Int), .string p.2] 71)).drew (.slice (some ⟨gd, 0, none⟩) d.secs.length cd) vb (.slice (some ⟨gp, 0, none⟩) d.pend.length cp) dl := H1.out.frame fun k _ hlt => Below.heap_alloc _ _ k hlt
      obtain ⟨v, hv1, hv2, g, hv3, hv4⟩ := h2.sec p.1 b hb
      have hb64 : b.length = 64 := by have := hv2.1; simpa [bcells] using this
      rcases hv2.2 with ⟨e, _⟩ | ⟨g', cs, cur, rfl, _, hcur, h64, _, hsz, htk⟩
      · subst e; cases hv3
      obtain rfl : g' = g := by injection hv3
      have hS' := hv4
      obtain ⟨t1, t2, t3, t4, t5⟩ := torn_cells cur b p.2 64 cs hs (by omega) hsz h64 htk
      have hcopy := Lib.run_copy_row_string (P := Try.prog) (wr.alloc (.cells #[.int .i64 (p.1 : Int), .string p.2] 71)).drew 74 9 3 5 g' 0 64 cs (p.2.extract 0 64) cur 5 Try.underlying74 rfl hcur (by omega) t4
      obtain ⟨cur', hcur'⟩ : ∃ c, (cur.toList.take 0 ++ Lib.byteCells (p.2.extract 0 64).data.toList ++ cur.toList.drop (0 + (p.2.extract 0 64).size)).toArray = c := ⟨_, rfl⟩
      rw [hcur'] at t1 t2 hcopy
      obtain ⟨gd', cd', ed, _, _, hdc, _⟩ := row_some h2.rd h2.len
      injection ed with ed1 ed2 ed3
      injection ed1 with ed1
      injection ed1 with ed1
      subst ed1 ed3
      have k3 := hdc p.1 _ hv1
      have k0 := h2.c0
      have k1 : (wr.alloc (.cells #[.int .i64 (p.1 : Int), .string p.2] 71)).drew.cell? ⟨wr.heap.size, 0, none⟩ = some (.int .i64 (p.1 : Int)) := by rw [World.cell?_drew]; exact World.cell?_alloc_mark ..
      have k2 : (wr.alloc (.cells #[.int .i64 (p.1 : Int), .string p.2] 71)).drew.cell? ⟨wr.heap.size, 1, none⟩ = some (.string p.2) := by rw [World.cell?_drew]; exact World.cell?_alloc_mark ..
      have hsl := fun wx => run_slice_string_h (P := Try.prog) (w := wx) 9 p.2 Try.underlying9 .i64 64 (by omega) (by omega)
      have h3 := h2.sector hb hv1 (t5 hb64) hcur (setRow_heap _ g' cur _ 5 _ hcur) t1 t2 (fun i hi _ => setRow_other _ g' i _ hi)
      have HN : Hid (endN (fun _ => 64) d.secs d.pend (j + 1) = (endN (fun _ => 64) d.secs d.pend j).set p.1 (torn b p.2.data.toList 64)) := Lib.hid (by
        rw [endN, hpj]; exact modify_set _ _ _ _ hb)
      have hX : (wr.alloc (.cells #[.int .i64 (p.1 : Int), .string p.2] 71)).drew.heap[wr.heap.size]? = some (.cells #[.int .i64 (p.1 : Int), .string p.2] 71 (0, 0)) := heap_alloc_new _ _
      have hne : wr.heap.size ≠ g' := fun e => by
        rw [e, hcur] at hX
        injection hX with hX; injection hX with _ hX _; exact absurd hX (by decide)
      have hX3 : ((wr.alloc (.cells #[.int .i64 (p.1 : Int), .string p.2] 71)).drew.setRow g' cur').heap[wr.heap.size]? = some (.cells #[.int .i64 (p.1 : Int), .string p.2] 71 (0, 0)) := (setRow_other _ g' _ _ hne).trans hX
      have j0 := h3.c0
      have j1 := cell_of_row _ wr.heap.size 0 _ _ _ hX3
      have j2 := cell_of_row _ wr.heap.size 1 _ _ _ hX3
      obtain ⟨gd2, cd2, ed, _, _, hdc2, _⟩ := row_some h3.rd h3.len
      injection ed with ed1 ed2 ed3
      injection ed1 with ed1
      injection ed1 with ed1
      subst ed1 ed3
      have j3 := hdc2 p.1 _ hv1
      have HT2 : Hid (Touch S w ((wr.alloc (.cells #[.int .i64 (p.1 : Int), .string p.2] 71)).drew.setRow g' cur')) := Lib.hid (by
        exact ((HT.out.alloc _).drew).setRow hS' _)
      have H3 := Lib.hid h3
      have hkl : (p.1 : Int) < d.secs.length := by rw [endN_length] at hk; omega
      clear h3 h2 hdc hdc2 hv1 hv2 hv3 hv4 hX hX3 hcur hsz htk t1 t2 t5 hb
      go_wp2_with fail
      go_region_held3 (fun w' => w'.cell? ⟨D, 0, none⟩ = some (.slice (some ⟨gd, 0, none⟩) d.secs.length cd) ∧ w'.cell? ⟨wr.heap.size, 0, none⟩ = some (.int .i64 (p.1 : Int)) ∧ w'.cell? ⟨wr.heap.size, 1, none⟩ = some (.string p.2) ∧ w'.cell? ⟨gd, p.1, none⟩ = some (.slice (some ⟨g', 0, none⟩) 64 cs)) (first | exact ⟨k0, k1, k2, k3⟩ | exact ⟨j0, j1, j2, j3⟩) (first | (go_at_call 33; (with_reducible refine (full_walk _ _).mono ?_); rintro e _ ⟨rfl, rfl⟩) | (refine step_copy_eq rfl _ _ _ _ rfl _ _ _ _ rfl rfl hcopy ?_))
      go_wp2_with fail
      go_roundw
      case rel => exact ⟨j + 1, by omega, by go_num, HT2.out, by rw [HN.out]; exact H3.out⟩
      case measure => simp [intOf]; omega
    · obtain rfl : d.pend.length = j := by omega
      have y2 := h1.c2
      have yf := h1.fr
      have h2 := h1.clear
      have H2 := Lib.hid h2
      clear h1 h2
      go_wp2_with fail
      (refine bodyPost_end (results_none rfl _ _ _) rfl ?_)
      exact ⟨rfl, HT.out.setCell (.inl H.out.sD) _, _, _, _, _, H2.out⟩
end
end Go.Proofs.Ytagfnobchdfhfaa
