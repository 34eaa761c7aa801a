import Derived.Test.YtphckenihkgoeaaWl
namespace Go.Proofs.Ytphckenihkgoeaa
set_option linter.unusedSimpArgs false
set_option linter.unnecessarySimpa false
set_option linter.unusedVariables false
open Go.RowKit
attribute [local go_sem ↓] Go.wp_at_zero Go.wp_at_succ

/-- the list of a key -/
def lookI : Items → K → Option (List Chg)
  | [], _ => none
  | p :: l, k => if p.1 = k then some p.2 else lookI l k
theorem lookI_some : ∀ {l : Items} {k : K} {c : List Chg}, lookI l k = some c → (k, c) ∈ l
  | p :: l, k, c, h => by
    unfold lookI at h
    split at h
    · rename_i e
      injection h with h
      subst e h
      exact List.mem_cons_self ..
    · exact List.mem_cons_of_mem _ (lookI_some h)
theorem lookI_none : ∀ {l : Items} {k : K}, lookI l k = none → k ∉ keys l
  | [], _, _ => by simp [keys]
  | p :: l, k, h => by
    unfold lookI at h
    split at h
    · cases h
    · rename_i e
      have := lookI_none h
      simp only [keys, List.map_cons, List.mem_cons, not_or]
      exact ⟨Ne.symm e, this⟩
def getF (d : CM) (k : K) : CM × List Chg × Bool :=
  match lookI d.items k with
  | some l => ({ d with items := delI d.items k ++ [(k, l)], hits := d.hits + 1 }, l, true)
  | none => ({ d with misses := d.misses + 1 }, [], false)
def SmallP (p : K × List Chg) : Prop := p.2.length ≤ 1000 ∧ ∀ i, i < p.2.length → (p.2.getD i default).2.size ≤ 1000
theorem weight_pos {p : K × List Chg} (h : SmallP p) : 16 ≤ weight p.2 ∧ weight p.2 ≤ 1073741824 := wtF_bound p.2 h.2 p.2.length (Nat.le_refl _)
theorem tot_sub : ∀ {l' l : Items}, l'.Sublist l → (∀ p ∈ l, SmallP p) → tot l' ≤ tot l
  | _, _, .slnil, _ => Int.le_refl _
  | _, _, .cons p h, hs => by
    rw [tot_cons]
    have h1 := tot_sub h fun q hq => hs q (List.mem_cons_of_mem _ hq)
    have h2 := (weight_pos (hs p (List.mem_cons_self ..))).1
    omega
  | _, _, .cons_cons p h, hs => by
    rw [tot_cons, tot_cons]
    have h1 := tot_sub h fun q hq => hs q (List.mem_cons_of_mem _ hq)
    omega
theorem Good.sub {d : CM} (h : Good d) {its : Items} (hs : its.Sublist d.items) : Good { d with items := its } := by
  refine ⟨h.cap0, h.cap1, h.nd.sublist (hs.map _), fun k hk => h.wf k ((hs.map _).subset hk), fun p hp => h.small p (hs.subset hp), ?_⟩
  exact Int.le_trans (tot_sub hs h.small) h.fit
theorem fitI_suf (cap : Int) : ∀ l : Items, (fitI cap l).Sublist l
  | [] => .slnil
  | p :: l => by
    unfold fitI
    split
    · exact (fitI_suf cap l).cons p
    · exact List.Sublist.refl _
theorem fitI_fit {cap : Int} (h0 : 0 ≤ cap) : ∀ l : Items, tot (fitI cap l) ≤ cap
  | [] => by simpa [fitI, tot] using h0
  | p :: l => by
    unfold fitI
    split
    · exact fitI_fit h0 l
    · omega
theorem Good.snoc {d : CM} (hg : Good d) {k : K} {l : List Chg} (hk : k ∉ keys d.items) (hwf : wfK k) (hl : SmallP (k, l)) (hf : tot d.items ≤ d.cap) : Good { d with items := d.items ++ [(k, l)] } := by
  have e2 : keys (d.items ++ [(k, l)]) = keys d.items ++ [k] := by simp [keys]
  refine ⟨hg.cap0, hg.cap1, ?_, fun x hx => ?_, fun p hp => ?_, ?_⟩
  · show (keys (d.items ++ [(k, l)])).Nodup
    rw [e2, List.nodup_append]
    exact ⟨hg.nd, by simp, fun a ha b hb e => hk (by rw [List.mem_singleton.1 hb] at e; exact e ▸ ha)⟩
  · change x ∈ keys (d.items ++ [(k, l)]) at hx
    rw [e2] at hx
    rcases List.mem_append.1 hx with hx | hx
    · exact hg.wf x hx
    · rw [List.mem_singleton.1 hx]; exact hwf
  · rcases List.mem_append.1 hp with hp | hp
    · exact hg.small p hp
    · rw [List.mem_singleton.1 hp]; exact hl
  · show tot (d.items ++ [(k, l)]) ≤ 4294967296
    have h1 := hg.cap1
    have h2 : tot [(k, l)] = weight l := by simp [tot]
    have h3 := (weight_pos hl).2
    change weight l ≤ 1073741824 at h3
    rw [tot_append, h2]; omega
theorem not_delI (l : Items) (k : K) : k ∉ keys (delI l k) := by
  rw [keys_delI]; unfold without; intro h; simpa using (List.mem_filter.1 h).2
theorem delI_sub (l : Items) (k : K) : (delI l k).Sublist l := List.filter_sublist
theorem dropI_sub (a b : Int) (l : Items) : (dropI a b l).Sublist l := List.filter_sublist
/-- a cache, and what holds of it -/
structure Cw (S R : Nat → Prop) (C : Nat) (d : CM) (w : World) (N : Nat) : Prop where
  ck : Ck S R C d w
  good : Good d
  fit : tot d.items ≤ d.cap
  lt : ∀ k, S k ∨ R k → k < w.heap.size
  len : d.items.length ≤ N
  hit : 0 ≤ d.hits ∧ d.hits ≤ N
  mis : 0 ≤ d.misses ∧ d.misses ≤ N
section
variable {S R : Nat → Prop} {C : Nat} {d : CM} {w w' : World} {N : Nat}
theorem Cw.frame (h : Cw S R C d w N) (hs : w.heap.size ≤ w'.heap.size) (hf : ∀ k, S k ∨ R k → k < w.heap.size → w'.heap[k]? = w.heap[k]?) : Cw S R C d w' N :=
  ⟨h.ck.frame hf, h.good, h.fit, fun k hk => Nat.lt_of_lt_of_le (h.lt k hk) hs, h.len, h.hit, h.mis⟩
theorem Cw.below (h : Cw S R C d w N) (hb : Below w.heap.size w w') : Cw S R C d w' N := h.frame hb.size fun k _ hl => hb.block k hl
theorem Cw.more (h : Cw S R C d w N) {N' : Nat} (hN : N ≤ N') : Cw S R C d w N' :=
  ⟨h.ck, h.good, h.fit, h.lt, Nat.le_trans h.len hN, ⟨h.hit.1, by have := h.hit.2; omega⟩, ⟨h.mis.1, by have := h.mis.2; omega⟩⟩
theorem new_c (w : World) (n : Int) (h0 : 0 ≤ n) (h1 : n ≤ 1073741824) : Calls Try.prog 13 #[.int .i64 n] w fun e w' => ∃ C S, e = .returned (.tuple #[.pointer (some ⟨C, 0, none⟩), .int .i64 0]) ∧ Below w.heap.size w w' ∧ Cw S (fun _ => False) C ⟨n, [], 0, 0⟩ w' 0 ∧ ∀ k, S k → w.heap.size ≤ k := by
  refine (new_walk w n h0 h1).mono ?_
  rintro e w' ⟨C, rfl, hb, hc⟩
  refine ⟨C, _, rfl, hb, ⟨hc, ⟨h0, h1, by simp [keys], by simp [keys], by simp, by simp [tot]⟩, by simpa [tot] using h0, ?_, by simp, by simp, by simp⟩, fun k hk => hk.1⟩
  rintro k (hk | hk)
  · exact hk.2
  · exact hk.elim
theorem get_c (h : Cw S R C d w N) (hN : N ≤ 800000) (k : K) (hwf : wfK k) : Calls Try.prog 15 #[.pointer (some ⟨C, 0, none⟩), kv k] w fun e w' => ∃ S' A c, e = .returned (.tuple #[.slice A (getF d k).2.1.length c, .bool (getF d k).2.2]) ∧ Nx S R S' R w w' ∧ Cw S' R C (getF d k).1 w' (N + 1) ∧ Chgs w' (fun j => w.heap.size ≤ j ∧ j < w'.heap.size ∧ ¬ S' j ∧ ¬ R j) A (getF d k).2.1 ∧ Nice w' 35 A := by
  obtain ⟨vo, M, f, hc⟩ := h.ck
  have hl := h.len
  have hh := h.hit
  have hm := h.mis
  cases hk : lookI d.items k with
  | none =>
    have e1 : getF d k = ({ d with misses := d.misses + 1 }, [], false) := by unfold getF; rw [hk]
    rw [e1]
    refine (get_none hc k (lookI_none hk) hwf ⟨by omega, hm.1⟩).mono ?_
    rintro e w' ⟨rfl, ht, hc'⟩
    exact ⟨S, none, 0, rfl, ⟨ht, fun _ h => .inl h, fun _ h => .inl h, fun k hk => Nat.lt_of_lt_of_le (h.lt k hk) ht.size⟩, ⟨⟨_, _, _, hc'⟩, ⟨h.good.cap0, h.good.cap1, h.good.nd, h.good.wf, h.good.small, h.good.fit⟩, h.fit, fun k hk => Nat.lt_of_lt_of_le (h.lt k hk) ht.size, by show d.items.length ≤ N + 1; omega, ⟨hh.1, by show d.hits ≤ _; omega⟩, ⟨by show 0 ≤ d.misses + 1; omega, by show d.misses + 1 ≤ _; omega⟩⟩, fun i hi => absurd hi (Nat.not_lt_zero _), fun _ h => by cases h⟩
  | some l =>
    have hmem := lookI_some hk
    have e1 : getF d k = ({ d with items := delI d.items k ++ [(k, l)], hits := d.hits + 1 }, l, true) := by unfold getF; rw [hk]
    rw [e1]
    refine (get_hit hc h.good h.lt (by omega) ⟨by omega, hh.1⟩ k l hmem).mono ?_
    rintro e w' ⟨S', A, c, rfl, hx, hc', hch⟩
    have hw := weight_pos (p := (k, l)) (h.good.small _ hmem)
    have ht := tot_delI d.items k l h.good.nd hmem
    have hlen := (delI_sub d.items k).length_le
    have hsn := (h.good.del hmem).snoc (not_delI _ _) hwf (h.good.small _ hmem) (by show tot (delI d.items k) ≤ d.cap; have := h.fit; have h2 : weight l = weight (k, l).2 := rfl; omega)
    have hlen2 : (delI d.items k).length + 1 ≤ N + 1 := by omega
    exact ⟨S', A, c, rfl, hx, ⟨hc', ⟨hsn.cap0, hsn.cap1, hsn.nd, hsn.wf, hsn.small, hsn.fit⟩, by show tot (delI d.items k ++ [(k, l)]) ≤ d.cap; rw [tot_append, ht]; have := h.fit; simp [tot]; simpa [tot] using this, hx.lt, by simpa using hlen2, ⟨by show 0 ≤ d.hits + 1; omega, by show d.hits + 1 ≤ _; omega⟩, ⟨hm.1, by show d.misses ≤ _; omega⟩⟩, hch⟩
theorem put_c (h : Cw S R C d w N) (hN : N ≤ 800000) (k : K) (hwf : wfK k) (T : Nat → Prop) (A : Option Addr) (c : Nat) (l : List Chg) (hc : Chgs w T A l) (hTS : ∀ j, T j → ¬ S j) (hl : SmallP (k, l)) :
    Calls Try.prog 14 #[.pointer (some ⟨C, 0, none⟩), kv k, .slice A l.length c] w fun e w' => ∃ S' R', e = .returned (.tuple #[]) ∧ Nx S R S' R' w w' ∧ Cw S' R' C (putF d k l) w' (N + 1) := by
  obtain ⟨vo, M, f, hc'⟩ := h.ck
  have hlen := h.len
  have hcalls : Calls Try.prog 14 #[.pointer (some ⟨C, 0, none⟩), kv k, .slice A l.length c] w fun e w' => ∃ S' R', e = .returned (.tuple #[]) ∧ Nx S R S' R' w w' ∧ Ck S' R' C (putF d k l) w' := by
    cases hk : lookI d.items k with
    | none => exact put_new hc' h.good h.lt (by omega) h.fit k hwf (lookI_none hk) T A c l hc hTS hl
    | some l0 => exact put_old hc' h.good h.lt (by omega) h.fit k l0 (lookI_some hk) T A c l hc hTS hl
  refine hcalls.mono ?_
  rintro e w' ⟨S', R', rfl, hx, hck⟩
  have hg1 := h.good.sub (delI_sub d.items k)
  have hf1 : tot (delI d.items k) ≤ d.cap := Int.le_trans (tot_sub (delI_sub d.items k) h.good.small) h.fit
  have hlen1 := (delI_sub d.items k).length_le
  have hh := h.hit
  have hm := h.mis
  refine ⟨S', R', rfl, hx, hck, ?_, ?_, hx.lt, ?_, ⟨hh.1, by show d.hits ≤ _; omega⟩, ⟨hm.1, by show d.misses ≤ _; omega⟩⟩
  · unfold putF
    split
    · exact hg1
    · exact (hg1.snoc (not_delI _ _) hwf hl hf1).sub (fitI_suf _ _)
  · show tot (if d.cap < weight l then delI d.items k else fitI d.cap (delI d.items k ++ [(k, l)])) ≤ d.cap
    split
    · exact hf1
    · exact fitI_fit h.good.cap0 _
  · show (if d.cap < weight l then delI d.items k else fitI d.cap (delI d.items k ++ [(k, l)])).length ≤ N + 1
    split
    · omega
    · have := (fitI_suf d.cap (delI d.items k ++ [(k, l)])).length_le
      simp at this; omega
theorem drop_c (h : Cw S R C d w N) (hN : N ≤ 800000) (a b : Int) : Calls Try.prog 20 #[.pointer (some ⟨C, 0, none⟩), .int .i64 a, .int .i64 b] w fun e w' => e = .returned (.int .i64 (d.items.length - (dropI a b d.items).length : Nat)) ∧ Nx S R S R w w' ∧ Cw S R C (dropF d a b) w' N := by
  refine (drop_walk h.ck h.good h.lt (by have := h.len; omega) a b).mono ?_
  rintro e w' ⟨rfl, ht, hc⟩
  have hlt : ∀ k, S k ∨ R k → k < w'.heap.size := fun k hk => Nat.lt_of_lt_of_le (h.lt k hk) ht.size
  exact ⟨rfl, ⟨ht, fun _ h => .inl h, fun _ h => .inl h, hlt⟩, hc, h.good.sub (dropI_sub a b d.items), Int.le_trans (tot_sub (dropI_sub a b d.items) h.good.small) h.fit, hlt, Nat.le_trans (dropI_sub a b d.items).length_le h.len, h.hit, h.mis⟩
theorem total_c (h : Cw S R C d w N) : Calls Try.prog 21 #[.pointer (some ⟨C, 0, none⟩)] w fun e w' => e = .returned (.int .i64 (tot d.items)) ∧ w = w' := by
  obtain ⟨vo, M, f, hc⟩ := h.ck
  exact total_walk hc
theorem keys_c (h : Cw S R C d w N) (hN : N ≤ 800000) : Calls Try.prog 22 #[.pointer (some ⟨C, 0, none⟩)] w fun e w' => ∃ A c, e = .returned (.slice A d.items.length c) ∧ Flat w' (fun k => w.heap.size ≤ k ∧ k < w'.heap.size) A (kscells (keys d.items)) ∧ Below w.heap.size w w' := by
  obtain ⟨vo, M, f, hc⟩ := h.ck
  exact keys_walk hc (by have := h.len; omega)
theorem hits_c (h : Cw S R C d w N) : Calls Try.prog 28 #[.pointer (some ⟨C, 0, none⟩)] w fun e w' => e = .returned (.tuple #[.int .i64 d.hits, .int .i64 d.misses]) ∧ Below w.heap.size w w' := by
  obtain ⟨vo, M, f, hc⟩ := h.ck
  exact hits_walk hc
end
end Go.Proofs.Ytphckenihkgoeaa
