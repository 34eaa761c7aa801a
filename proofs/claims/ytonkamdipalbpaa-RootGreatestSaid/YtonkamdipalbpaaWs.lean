import Derived.Test.YtonkamdipalbpaaWr
namespace Go.Proofs.Ytonkamdipalbpaa
open Go.RowKit Go.ChangeShapes Go.WideShapes Go.ChangeAt
attribute [local go_sem ↓] Go.wp_at_zero Go.wp_at_succ

/-- a slice of roots -/
def Roots (w : World) (N : Nat) (A : Option Addr) (rs : List (Int × Int × Int × Int)) : Prop := ∀ i, i < rs.length → ∃ a, A = some a ∧ a.block < N ∧ w.cell? (a.add (i * 4)) = some (.int .i64 (rs.getD i (0, 0, 0, 0)).1) ∧ w.cell? ⟨(a.add (i * 4)).block, (a.add (i * 4)).off + 1, none⟩ = some (.int .i64 (rs.getD i (0, 0, 0, 0)).2.1) ∧ w.cell? ⟨(a.add (i * 4)).block, (a.add (i * 4)).off + 2, none⟩ = some (.int .i64 (rs.getD i (0, 0, 0, 0)).2.2.1) ∧ w.cell? ⟨(a.add (i * 4)).block, (a.add (i * 4)).off + 3, none⟩ = some (.int .i64 (rs.getD i (0, 0, 0, 0)).2.2.2)
theorem Roots.below {w w' : World} {N M : Nat} {A : Option Addr} {rs : List (Int × Int × Int × Int)} (h : Roots w N A rs) (hb : Below M w w') (hN : N ≤ M) : Roots w' N A rs := fun i hi => by
  obtain ⟨a, h1, h2, c0, c1, c2, c3⟩ := h i hi
  have k : ∀ p : Addr, p.block = a.block → w'.cell? p = w.cell? p := fun p hp => hb.cell (by rw [hp]; omega)
  exact ⟨a, h1, h2, (k _ (add_block _ _)).trans c0, (k _ (by exact add_block _ _)).trans c1, (k _ (by exact add_block _ _)).trans c2, (k _ (by exact add_block _ _)).trans c3⟩
/-- four texts in block B -/
def Sec (w : World) (B : Nat) (x0 x1 x2 x3 : ByteArray) : Prop := w.heap[B]? = some (.cells #[.string x0, .string x1, .string x2, .string x3] 9 (0, 0))
theorem Sec.lt {w B x0 x1 x2 x3} (h : Sec w B x0 x1 x2 x3) : B < w.heap.size := (Array.getElem?_eq_some_iff.1 h).1
theorem Sec.below {w w' B x0 x1 x2 x3} {N : Nat} (h : Sec w B x0 x1 x2 x3) (hb : Below N w w') (hN : B < N) : Sec w' B x0 x1 x2 x3 := (hb.block B hN).trans h
theorem Sec.alloc {w B x0 x1 x2 x3} (h : Sec w B x0 x1 x2 x3) (o : Obj) : Sec (w.alloc o) B x0 x1 x2 x3 := (Below.heap_alloc w o B h.lt).trans h
theorem Sec.drew {w B x0 x1 x2 x3} (h : Sec w B x0 x1 x2 x3) : Sec w.drew B x0 x1 x2 x3 := h
theorem Sec.fr {w B x0 x1 x2 x3} (h : Sec w B x0 x1 x2 x3) (i : Nat) : w.frozen? ⟨B, i, none⟩ = false := by
  have h' : w.heap[B]? = some (.cells #[.string x0, .string x1, .string x2, .string x3] 9 (0, 0)) := h
  simp [World.frozen?, h']
theorem Sec.cell {w B x0 x1 x2 x3} (h : Sec w B x0 x1 x2 x3) (i : Nat) : w.cell? ⟨B, i, none⟩ = #[Value.string x0, Value.string x1, Value.string x2, Value.string x3][i]? := by rw [cell_of_row w B i _ _ _ h]
theorem Sec.set02 {w B x0 x1 x2 x3} (h : Sec w B x0 x1 x2 x3) (b : ByteArray) : Sec ((w.setCell ⟨B, 0, none⟩ (.string b)).setCell ⟨B, 2, none⟩ (.string b)) B b x1 b x3 :=
  heap_setCell_any _ B 2 _ _ _ (.string b) (heap_setCell_any w B 0 _ _ _ (.string b) h)
theorem Sec.set13 {w B x0 x1 x2 x3} (h : Sec w B x0 x1 x2 x3) (b : ByteArray) : Sec ((w.setCell ⟨B, 1, none⟩ (.string b)).setCell ⟨B, 3, none⟩ (.string b)) B x0 b x2 b :=
  heap_setCell_any _ B 3 _ _ _ (.string b) (heap_setCell_any w B 1 _ _ _ (.string b) h)
theorem Sec.far {w B x0 x1 x2 x3} (h : Sec w B x0 x1 x2 x3) {g : Nat} (hg : B ≠ g) (v0 v1 v2 v3 : Value) : Sec ((((w.setCell ⟨g, 0, none⟩ v0).setCell ⟨g, 1, none⟩ v1).setCell ⟨g, 2, none⟩ v2).setCell ⟨g, 3, none⟩ v3) B x0 x1 x2 x3 := by
  have k : ∀ (w : World) (i : Nat) (v : Value), Sec w B x0 x1 x2 x3 → Sec (w.setCell ⟨g, i, none⟩ v) B x0 x1 x2 x3 := fun w i v h => (Below.heap_setCell w ⟨g, i, none⟩ v B hg).trans h
  exact k _ _ _ (k _ _ _ (k _ _ _ (k _ _ _ h)))
theorem Box.far2 {w b n s l c} (h : Box w b n s l c) {g i j : Nat} (hg : b ≠ g) (u v : Value) : Box ((w.setCell ⟨g, i, none⟩ u).setCell ⟨g, j, none⟩ v) b n s l c :=
  (Below.heap_setCell _ ⟨g, j, none⟩ v b hg).trans ((Below.heap_setCell w ⟨g, i, none⟩ u b hg).trans h)
theorem Box.far1 {w b n s l c} (h : Box w b n s l c) {g i : Nat} (hg : b ≠ g) (v : Value) : Box (w.setCell ⟨g, i, none⟩ v) b n s l c := (Below.heap_setCell w ⟨g, i, none⟩ v b hg).trans h
theorem Box.drew {w b n s l c} (h : Box w b n s l c) : Box w.drew b n s l c := h
theorem box4 {w b n s l c} (h : Box w b n s l c) : w.cell? ⟨b, 0, none⟩ = some (.int .i64 n) ∧ w.cell? ⟨b, 1, none⟩ = some (.int .i64 s) ∧ w.cell? ⟨b, 2, none⟩ = some (.int .i64 l) ∧ w.cell? ⟨b, 3, none⟩ = some (.int .i64 c) := ⟨h.c0, h.c1, h.c2, h.c3⟩
/-- what the sectors hold behind the root with number m -/
def GI (m : Nat) (s l c : Int) (p q : ByteArray) : Prop :=
  (m = 0 ∧ s = 0 ∧ l = 0 ∧ c = 0 ∧ p = ⟨#[]⟩ ∧ q = ⟨#[]⟩) ∨
  (1 ≤ m ∧ ∃ a b d : Nat, s = a ∧ l = b ∧ c = d ∧ validI m a b d = true ∧ (if m % 2 = 0 then p else q) = bA (encL m a b d) ∧ ((if m % 2 = 0 then q else p) = ⟨#[]⟩ ∨ ∃ a' b' d' : Nat, validI ((m - 1 : Nat) : Int) a' b' d' = true ∧ (if m % 2 = 0 then q else p) = bA (encL (m - 1) a' b' d')))
theorem GI.step {m : Nat} {s l c s' l' c' : Int} {p q b : ByteArray} (h : GI m s l c p q) (he : encV ((m : Int) + 1) s' l' c' = (b, 0)) : GI (m + 1) s' l' c' (if (m + 1) % 2 = 0 then b else p) (if (m + 1) % 2 = 0 then q else b) := by
  unfold encV at he
  by_cases hv : validI ((m : Int) + 1) s' l' c' = true
  · rw [if_pos hv] at he
    have k := validI_iff.1 hv
    obtain ⟨a2, rfl⟩ : ∃ m : Nat, s' = m := ⟨s'.toNat, by omega⟩
    obtain ⟨a3, rfl⟩ : ∃ m : Nat, l' = m := ⟨l'.toNat, by omega⟩
    obtain ⟨a4, rfl⟩ : ∃ m : Nat, c' = m := ⟨c'.toNat, by omega⟩
    have he' := (Prod.mk.inj he).1
    rw [show ((m : Int) + 1).toNat = m + 1 by omega, Int.toNat_natCast, Int.toNat_natCast, Int.toNat_natCast] at he'
    right
    refine ⟨by omega, a2, a3, a4, rfl, rfl, rfl, by simpa using hv, ?_, ?_⟩
    · rcases Nat.mod_two_eq_zero_or_one (m + 1) with h2 | h2
      · simp only [h2, if_true, he']
      · simp [h2, he']
    · rw [Nat.add_sub_cancel]
      rcases h with ⟨rfl, _, _, _, rfl, rfl⟩ | ⟨h1, a, b', d, rfl, rfl, rfl, hv', hc, _⟩
      · left; simp
      · right
        refine ⟨a, b', d, hv', ?_⟩
        rcases Nat.mod_two_eq_zero_or_one m with h2 | h2
        · have h3 : (m + 1) % 2 = 1 := by omega
          simp only [h2, if_true] at hc
          simp [h3, hc]
        · have h3 : (m + 1) % 2 = 0 := by omega
          simp only [h2] at hc
          simp only [h3, if_true]
          simpa using hc
  · rw [if_neg hv] at he; cases he
theorem best_of (ss : List ByteArray) (L : Int × Int × Int × Int) (hL : 1 ≤ L.1) (h : ∀ i, i < 4 → (decV (ss.getD i ⟨#[]⟩).data.toList i).2 = 0 → (decV (ss.getD i ⟨#[]⟩).data.toList i).1 = L ∨ (decV (ss.getD i ⟨#[]⟩).data.toList i).1.1 < L.1) (j : Nat) (hj : j < 4) (hd : decV (ss.getD j ⟨#[]⟩).data.toList j = (L, 0)) : bestF ss 4 = L := by
  have key : ∀ k, k ≤ 4 → ((bestF ss k = L) ∨ (bestF ss k).1 < L.1) ∧ (j < k → bestF ss k = L) := by
    intro k
    induction k with
    | zero => intro _; exact ⟨.inr (by show (0 : Int) < _; omega), fun h => absurd h (by omega)⟩
    | succ k ih =>
      intro hk
      obtain ⟨i1, i2⟩ := ih (by omega)
      rw [bestF]
      by_cases hc : (decV (ss.getD k ⟨#[]⟩).data.toList k).2 = 0 ∧ (bestF ss k).1 < (decV (ss.getD k ⟨#[]⟩).data.toList k).1.1
      · rw [if_pos hc]
        rcases h k (by omega) hc.1 with h1 | h1
        · rw [h1]; exact ⟨.inl rfl, fun _ => rfl⟩
        · refine ⟨.inr h1, fun hjk => ?_⟩
          exfalso
          by_cases e : j = k
          · subst e; rw [hd] at h1; exact absurd h1 (by simp)
          · have := i2 (by omega)
            rw [this] at hc; omega
      · rw [if_neg hc]
        refine ⟨i1, fun hjk => ?_⟩
        by_cases e : j = k
        · subst e
          rcases i1 with i1 | i1
          · exact i1
          · exfalso; apply hc; rw [hd]; exact ⟨rfl, i1⟩
        · exact i2 (by omega)
  exact (key 4 (Nat.le_refl _)).2 hj
theorem decV_nil (i : Int) : (decV (ByteArray.mk #[]).data.toList i).2 ≠ 0 := by
  unfold decV
  by_cases h : i < 0 ∨ 3 < i
  · rw [if_pos h]; decide
  · rw [if_neg h, if_pos (by decide)]; decide
theorem greatest_pure {m : Nat} {s l c : Int} {p q : ByteArray} (h : GI m s l c p q) (lost : Nat) (hl : lost < 4) : chooseF ([p, q, p, q].set lost ⟨#[]⟩) = if m = 0 then ((0, 0, 0, 0), 12) else (((m : Int), s, l, c), 0) := by
  have hlen : ([p, q, p, q].set lost ⟨#[]⟩).length = 4 := by simp
  unfold chooseF
  rw [if_neg (by rw [hlen]; decide)]
  rcases h with ⟨rfl, _, _, _, rfl, rfl⟩ | ⟨h1, a, b, d, rfl, rfl, rfl, hv, hc, ho⟩
  · have e : ([(⟨#[]⟩ : ByteArray), ⟨#[]⟩, ⟨#[]⟩, ⟨#[]⟩].set lost ⟨#[]⟩) = [⟨#[]⟩, ⟨#[]⟩, ⟨#[]⟩, ⟨#[]⟩] := by
      rcases (by omega : lost = 0 ∨ lost = 1 ∨ lost = 2 ∨ lost = 3) with rfl | rfl | rfl | rfl <;> rfl
    rw [e, if_pos (by decide), if_pos rfl]
  · have hm : ¬ m = 0 := by omega
    have eg : ∀ i, i < 4 → ([p, q, p, q].set lost ⟨#[]⟩).getD i ⟨#[]⟩ = if i = lost then ⟨#[]⟩ else if i % 2 = m % 2 then bA (encL m a b d) else (if m % 2 = 0 then q else p) := by
      intro i hi
      rw [List.getD_eq_getElem?_getD, List.getElem?_set]
      by_cases e : lost = i
      · rw [if_pos e, if_pos (by simp; omega), if_pos e.symm]; rfl
      · rw [if_neg e, if_neg (Ne.symm e), ← hc]
        rcases Nat.mod_two_eq_zero_or_one m with h2 | h2 <;> rcases (by omega : i = 0 ∨ i = 1 ∨ i = 2 ∨ i = 3) with rfl | rfl | rfl | rfl <;> simp [h2]
    have hL : (1 : Int) ≤ ((m : Int), (a : Int), (b : Int), (d : Int)).1 := by show (1 : Int) ≤ m; omega
    have dm : ∀ i : Nat, i < 4 → i % 2 = m % 2 → decV (bA (encL m a b d)).data.toList (i : Int) = (((m : Int), (a : Int), (b : Int), (d : Int)), 0) := fun i hi hp => by
      rw [decV_enc _ hv, if_neg (by omega), if_pos (by omega)]
    have hall : ∀ i, i < 4 → (decV (([p, q, p, q].set lost ⟨#[]⟩).getD i ⟨#[]⟩).data.toList (i : Int)).2 = 0 → (decV (([p, q, p, q].set lost ⟨#[]⟩).getD i ⟨#[]⟩).data.toList (i : Int)).1 = ((m : Int), (a : Int), (b : Int), (d : Int)) ∨ (decV (([p, q, p, q].set lost ⟨#[]⟩).getD i ⟨#[]⟩).data.toList (i : Int)).1.1 < ((m : Int), (a : Int), (b : Int), (d : Int)).1 := by
      intro i hi h0
      rw [eg i hi] at h0 ⊢
      by_cases e : i = lost
      · rw [if_pos e] at h0; exact absurd h0 (decV_nil _)
      · rw [if_neg e] at h0 ⊢
        by_cases e2 : i % 2 = m % 2
        · rw [if_pos e2] at h0 ⊢; left; rw [dm i hi e2]
        · rw [if_neg e2] at h0 ⊢
          right
          rcases ho with ho | ⟨a', b', d', hv', ho⟩
          · rw [ho] at h0; exact absurd h0 (decV_nil _)
          · rw [ho, decV_enc _ hv', if_neg (by omega)] at h0 ⊢
            by_cases hp : (((m - 1 : Nat) : Int)) % 2 = (i : Int) % 2
            · rw [if_pos hp]; show (((m - 1 : Nat) : Int)) < m; omega
            · rw [if_neg hp] at h0; exact absurd h0 (by decide)
    obtain ⟨j, hj, hjl, hjp⟩ : ∃ j, j < 4 ∧ j ≠ lost ∧ j % 2 = m % 2 := by
      by_cases e : lost = m % 2
      · exact ⟨2 + m % 2, by omega, by omega, by omega⟩
      · exact ⟨m % 2, by omega, by omega, by omega⟩
    have hbest := best_of ([p, q, p, q].set lost ⟨#[]⟩) ((m : Int), (a : Int), (b : Int), (d : Int)) hL hall j hj (by rw [eg j hj, if_neg hjl, if_pos hjp]; exact dm j hj hjp)
    rw [hbest, if_neg (by show ¬ (m : Int) = 0; omega), if_neg hm]
theorem Sec.strs {w S N x0 x1 x2 x3} (h : Sec w S x0 x1 x2 x3) (hN : S < N) : Strs w N (some ⟨S, 0, none⟩) [x0, x1, x2, x3] := fun i hi => by
  refine ⟨_, rfl, hN, ?_⟩
  have hadd : (⟨S, 0, none⟩ : Addr).add i = ⟨S, i, none⟩ := by unfold Addr.add; split <;> simp_all
  rw [hadd, h.cell]
  rcases (by simpa using hi : i < 4) with hi'
  rcases (by omega : i = 0 ∨ i = 1 ∨ i = 2 ∨ i = 3) with rfl | rfl | rfl | rfl <;> rfl
theorem Sec.set0 {w B x0 x1 x2 x3} (h : Sec w B x0 x1 x2 x3) (b : ByteArray) : Sec (w.setCell ⟨B, 0, none⟩ (.string b)) B b x1 x2 x3 := heap_setCell_any w B 0 _ _ _ (.string b) h
theorem Sec.set1 {w B x0 x1 x2 x3} (h : Sec w B x0 x1 x2 x3) (b : ByteArray) : Sec (w.setCell ⟨B, 1, none⟩ (.string b)) B x0 b x2 x3 := heap_setCell_any w B 1 _ _ _ (.string b) h
theorem Sec.set2 {w B x0 x1 x2 x3} (h : Sec w B x0 x1 x2 x3) (b : ByteArray) : Sec (w.setCell ⟨B, 2, none⟩ (.string b)) B x0 x1 b x3 := heap_setCell_any w B 2 _ _ _ (.string b) h
theorem Sec.set3 {w B x0 x1 x2 x3} (h : Sec w B x0 x1 x2 x3) (b : ByteArray) : Sec (w.setCell ⟨B, 3, none⟩ (.string b)) B x0 x1 x2 b := heap_setCell_any w B 3 _ _ _ (.string b) h
set_option maxRecDepth 100000 in
set_option maxHeartbeats 4000000 in
theorem greatest_few (A : Option Addr) (c0 n0 lost : Nat) (hl : lost < 256) (rs : List (Int × Int × Int × Int)) (hn : rs.length = n0) (h8 : n0 ≤ 8) (w : World) (h : Roots w w.heap.size A rs) : Calls Try.prog 10 #[.slice A n0 c0, .int .u8 lost] w fun e w' => e = .returned (.bool true) ∧ Below w.heap.size w w' := by
  have HH := Lib.hid h
  have HN := Lib.hid hn
  clear h hn
  go_enter Try.func10, Try.ntmps10
  go_wp2_with fail
  refine (awake_walk _).mono ?_; rintro e0 w0 ⟨rfl, hb⟩
  have HS0 := Lib.hid (HH.out.below hb (Nat.le_refl _))
  have HB0 := Lib.hid hb
  clear hb
  have h8' : ¬ (8 : Int) < n0 := by omega
  go_wp2_with fail
  obtain ⟨S, hS⟩ : ∃ S, w0.heap.size = S := ⟨_, rfl⟩
  have hSw : w.heap.size ≤ S := by rw [← hS]; exact HB0.out.size
  have HBi : Hid (Below w.heap.size w ((w0.alloc (.cells #[.string ⟨#[]⟩, .string ⟨#[]⟩, .string ⟨#[]⟩, .string ⟨#[]⟩] 9)).alloc (.cells #[.int .i64 0, .int .i64 0, .int .i64 0, .int .i64 0] 25))) := Lib.hid ((HB0.out.alloc HB0.out.size _).alloc (by simp; omega) _)
  have HXi : Hid (Box ((w0.alloc (.cells #[.string ⟨#[]⟩, .string ⟨#[]⟩, .string ⟨#[]⟩, .string ⟨#[]⟩] 9)).alloc (.cells #[.int .i64 0, .int .i64 0, .int .i64 0, .int .i64 0] 25)) (S + 1) 0 0 0 0) := Lib.hid (by
    rw [show S + 1 = (w0.alloc (.cells #[.string ⟨#[]⟩, .string ⟨#[]⟩, .string ⟨#[]⟩, .string ⟨#[]⟩] 9)).heap.size by simp [hS]]; exact heap_alloc_new _ _)
  have HSi : Hid (Sec ((w0.alloc (.cells #[.string ⟨#[]⟩, .string ⟨#[]⟩, .string ⟨#[]⟩, .string ⟨#[]⟩] 9)).alloc (.cells #[.int .i64 0, .int .i64 0, .int .i64 0, .int .i64 0] 25)) S ⟨#[]⟩ ⟨#[]⟩ ⟨#[]⟩ ⟨#[]⟩) := Lib.hid (by
    refine (Below.heap_alloc _ _ _ (by simp; omega)).trans ?_
    rw [← hS]; exact heap_alloc_new _ _)
  rw [hS]
  clear hS
  go_loopw [23] (fun i wr => ∃ (k m : Nat) (s l c : Int) (p q : ByteArray), k ≤ n0 ∧ m ≤ k ∧ i = .int .i64 k ∧ Below w.heap.size w wr ∧ Box wr (S + 1) m s l c ∧ Sec wr S p q p q ∧ GI m s l c p q) (fun i _ => n0 - (intOf i).toNat)
  case atStart => exact ⟨0, 0, 0, 0, 0, ⟨#[]⟩, ⟨#[]⟩, by omega, by omega, rfl, HBi.out, HXi.out, HSi.out, .inl ⟨rfl, rfl, rfl, rfl, rfl, rfl⟩⟩
  case round =>
    obtain ⟨k, m, s, l, c, p, q, hk, hmk, rfl, hb, hX, hSe, hG⟩ := hrel
    have HB := Lib.hid hb
    have HX := Lib.hid hX
    have HSE := Lib.hid hSe
    have HG := Lib.hid hG
    by_cases hlt : k < n0
    · obtain ⟨a, rfl, hab, r0, r1, r2, r3⟩ := (HH.out.below hb (Nat.le_refl _)) k (by rw [HN.out]; exact hlt)
      obtain ⟨⟨rn, s', l', c'⟩, hr⟩ : ∃ r, rs.getD k (0, 0, 0, 0) = r := ⟨_, rfl⟩
      rw [hr] at r0 r1 r2 r3
      obtain ⟨b, e, he⟩ : ∃ b e, encV ((m : Int) + 1) s' l' c' = (b, e) := ⟨_, _, rfl⟩
      have HE := Lib.hid he
      have x0 := hX.c0
      have xl := hX.lt
      clear hX hab hr hb hSe hG he
      go_wp2_with fail
      refine (enc_any ((m : Int) + 1) s' l' c' b e HE.out _).mono ?_; rintro e0 w2 ⟨rfl, hb⟩
      have HRB : Hid (Box w2 wr.heap.size ((m : Int) + 1) s' l' c') := Lib.hid ((hb.block _ (by simp)).trans (heap_alloc_new _ _))
      have HX2 : Hid (Box w2 (S + 1) m s l c) := Lib.hid ((HX.out.alloc _).below hb (by simp; have := HX.out.lt; omega))
      have HSE2 : Hid (Sec w2 S p q p q) := Lib.hid ((HSE.out.alloc _).below hb (by simp; have := HSE.out.lt; omega))
      have HB2 := Lib.hid (step_b (HB.out.alloc HB.out.size _) hb)
      clear hb r0 r1 r2 r3 x0 xl
      by_cases hz : e = 0
      · subst hz
        have r0 := HRB.out.c0
        go_wp2_with fail
        refine (places_ge ((m : Int) + 1) (by omega) _).mono ?_; rintro e0 _ ⟨rfl, rfl⟩
        have HG2 := Lib.hid (HG.out.step HE.out)
        rcases Nat.mod_two_eq_zero_or_one (m + 1) with hp | hp
        · have hpi : ((m : Int) + 1) % 2 = 0 := by omega
          rw [hpi]
          clear r0
          have r0 := HRB.out.c0
          have r1 := HRB.out.c1
          have r2 := HRB.out.c2
          have r3 := HRB.out.c3
          have l0 := HX2.out.c0
          have l1 := HX2.out.c1
          have l2 := HX2.out.c2
          have l3 := HX2.out.c3
          have lf := HX2.out.fr
          have s0 := HSE2.out.cell 0
          have s1 := HSE2.out.cell 1
          have s2 := HSE2.out.cell 2
          have s3 := HSE2.out.cell 3
          have sf := HSE2.out.fr
          simp only [List.getElem?_toArray, List.getElem?_cons_zero, List.getElem?_cons_succ] at s0 s1 s2 s3
          go_wp2_with fail
          have hne1 : wr.heap.size ≠ S := by have := HSE.out.lt; omega
          have hne2 : wr.heap.size ≠ S + 1 := by have := HX.out.lt; omega
          have hne3 : ¬ S = wr.heap.size := fun h => hne1 h.symm
          have hne4 : ¬ S + 1 = wr.heap.size := fun h => hne2 h.symm
          go_region
          clear r0 r1 r2 r3 l0 l1 l2 l3 lf s0 s1 s2 s3 sf hne1 hne2 hne3 hne4
          go_wp2_with fail
          go_roundw
          case rel =>
            have hg := HG2.out
            simp [hp] at hg
            refine ⟨k + 1, m + 1, s', l', c', b, q, by omega, by omega, by go_num, (below_set4 ((HB2.out.setCell hSw _).setCell hSw _) (by omega) _ _ _ _).drew, ?_, ?_, hg⟩
            · have := ((HX2.out.far2 (g := S) (i := 0) (j := 2) (by omega) (.string b) (.string b)).set4 ((m : Int) + 1) s' l' c').drew
              rw [show (((m + 1 : Nat)) : Int) = (m : Int) + 1 by omega]; exact this
            · exact ((HSE2.out.set02 b).far (g := S + 1) (by omega) (.int .i64 ((m : Int) + 1)) (.int .i64 s') (.int .i64 l') (.int .i64 c')).drew
          case measure => simp [intOf]; omega
        · have hpi : ((m : Int) + 1) % 2 = 1 := by omega
          rw [hpi]
          clear r0
          have r0 := HRB.out.c0
          have r1 := HRB.out.c1
          have r2 := HRB.out.c2
          have r3 := HRB.out.c3
          have l0 := HX2.out.c0
          have l1 := HX2.out.c1
          have l2 := HX2.out.c2
          have l3 := HX2.out.c3
          have lf := HX2.out.fr
          have s0 := HSE2.out.cell 0
          have s1 := HSE2.out.cell 1
          have s2 := HSE2.out.cell 2
          have s3 := HSE2.out.cell 3
          have sf := HSE2.out.fr
          simp only [List.getElem?_toArray, List.getElem?_cons_zero, List.getElem?_cons_succ] at s0 s1 s2 s3
          go_wp2_with fail
          have hne1 : wr.heap.size ≠ S := by have := HSE.out.lt; omega
          have hne2 : wr.heap.size ≠ S + 1 := by have := HX.out.lt; omega
          have hne3 : ¬ S = wr.heap.size := fun h => hne1 h.symm
          have hne4 : ¬ S + 1 = wr.heap.size := fun h => hne2 h.symm
          go_region
          clear r0 r1 r2 r3 l0 l1 l2 l3 lf s0 s1 s2 s3 sf hne1 hne2 hne3 hne4
          go_wp2_with fail
          go_roundw
          case rel =>
            have hg := HG2.out
            simp [hp] at hg
            refine ⟨k + 1, m + 1, s', l', c', p, b, by omega, by omega, by go_num, (below_set4 ((HB2.out.setCell hSw _).setCell hSw _) (by omega) _ _ _ _).drew, ?_, ?_, hg⟩
            · have := ((HX2.out.far2 (g := S) (i := 1) (j := 3) (by omega) (.string b) (.string b)).set4 ((m : Int) + 1) s' l' c').drew
              rw [show (((m + 1 : Nat)) : Int) = (m : Int) + 1 by omega]; exact this
            · exact ((HSE2.out.set13 b).far (g := S + 1) (by omega) (.int .i64 ((m : Int) + 1)) (.int .i64 s') (.int .i64 l') (.int .i64 c')).drew
          case measure => simp [intOf]; omega
      · have hz' : (e != 0) = true := by simpa using hz
        clear hz
        go_wp2_with fail
        go_roundw
        case rel => exact ⟨k + 1, m, s, l, c, p, q, by omega, by omega, by go_num, HB2.out, HX2.out, HSE2.out, HG.out⟩
        case measure => simp [intOf]; omega
    · obtain rfl : k = n0 := by omega
      have hlm : m < 2 ^ 62 := by omega
      obtain ⟨j, hj⟩ : ∃ j, lost % 4 = j := ⟨_, rfl⟩
      have hj4 : j < 4 := by omega
      have HP := Lib.hid (greatest_pure HG.out j hj4)
      have x0 := hX.c0
      have x1 := hX.c1
      have x2 := hX.c2
      have x3 := hX.c3
      have s0 := hSe.cell 0
      have s1 := hSe.cell 1
      have s2 := hSe.cell 2
      have s3 := hSe.cell 3
      have sf := hSe.fr
      simp only [List.getElem?_toArray, List.getElem?_cons_zero, List.getElem?_cons_succ] at s0 s1 s2 s3
      clear hX hb hSe hG
      rcases (by omega : j = 0 ∨ j = 1 ∨ j = 2 ∨ j = 3) with rfl | rfl | rfl | rfl
      · have hji : (lost : Int) % 4 = 0 := by omega
        clear hj
        go_wp2_with fail
        have HSn := Lib.hid (HSE.out.set0 ⟨#[]⟩)
        have HXn : Hid (Box (wr.setCell ⟨S, 0, none⟩ (.string ⟨#[]⟩)) (S + 1) m s l c) := Lib.hid (HX.out.far1 (by omega) _)
        have HBn : Hid (Below w.heap.size w (wr.setCell ⟨S, 0, none⟩ (.string ⟨#[]⟩))) := Lib.hid (HB.out.setCell hSw _)
        clear x0 x1 x2 x3 s0 s1 s2 s3 sf
        by_cases hm0 : m = 0
        · subst hm0
          have hch := HP.out
          rw [if_pos rfl] at hch
          have HCH := Lib.hid hch
          clear hch
          refine (choose_walk _ 4 4 _ _ _ _ _ _ HCH.out rfl _ (HSn.out.strs (by simpa using HSE.out.lt))).mono ?_; rintro e0 w6 ⟨rfl, hb⟩
          have hX6 := HXn.out.below hb HXn.out.lt
          have HB6 := Lib.hid (step_b HBn.out hb)
          have x0 := hX6.c0
          have x1 := hX6.c1
          have x2 := hX6.c2
          have x3 := hX6.c3
          have xl := hX6.lt
          clear hb hX6
          go_wp2_with fail
          go_ret
          exact ⟨rfl, HB6.out.alloc HB6.out.size _⟩
        · have hch := HP.out
          rw [if_neg hm0] at hch
          have HCH := Lib.hid hch
          have hm0' : ((m : Int) == 0) = false := by simp; omega
          clear hch
          refine (choose_walk _ 4 4 _ _ _ _ _ _ HCH.out rfl _ (HSn.out.strs (by simpa using HSE.out.lt))).mono ?_; rintro e0 w6 ⟨rfl, hb⟩
          have hX6 := HXn.out.below hb HXn.out.lt
          have HB6 := Lib.hid (step_b HBn.out hb)
          have x0 := hX6.c0
          have x1 := hX6.c1
          have x2 := hX6.c2
          have x3 := hX6.c3
          have xl := hX6.lt
          clear hb hX6 hm0
          go_wp2_with fail
          go_ret
          exact ⟨rfl, HB6.out.alloc HB6.out.size _⟩
      · have hji : (lost : Int) % 4 = 1 := by omega
        clear hj
        go_wp2_with fail
        have HSn := Lib.hid (HSE.out.set1 ⟨#[]⟩)
        have HXn : Hid (Box (wr.setCell ⟨S, 1, none⟩ (.string ⟨#[]⟩)) (S + 1) m s l c) := Lib.hid (HX.out.far1 (by omega) _)
        have HBn : Hid (Below w.heap.size w (wr.setCell ⟨S, 1, none⟩ (.string ⟨#[]⟩))) := Lib.hid (HB.out.setCell hSw _)
        clear x0 x1 x2 x3 s0 s1 s2 s3 sf
        by_cases hm0 : m = 0
        · subst hm0
          have hch := HP.out
          rw [if_pos rfl] at hch
          have HCH := Lib.hid hch
          clear hch
          refine (choose_walk _ 4 4 _ _ _ _ _ _ HCH.out rfl _ (HSn.out.strs (by simpa using HSE.out.lt))).mono ?_; rintro e0 w6 ⟨rfl, hb⟩
          have hX6 := HXn.out.below hb HXn.out.lt
          have HB6 := Lib.hid (step_b HBn.out hb)
          have x0 := hX6.c0
          have x1 := hX6.c1
          have x2 := hX6.c2
          have x3 := hX6.c3
          have xl := hX6.lt
          clear hb hX6
          go_wp2_with fail
          go_ret
          exact ⟨rfl, HB6.out.alloc HB6.out.size _⟩
        · have hch := HP.out
          rw [if_neg hm0] at hch
          have HCH := Lib.hid hch
          have hm0' : ((m : Int) == 0) = false := by simp; omega
          clear hch
          refine (choose_walk _ 4 4 _ _ _ _ _ _ HCH.out rfl _ (HSn.out.strs (by simpa using HSE.out.lt))).mono ?_; rintro e0 w6 ⟨rfl, hb⟩
          have hX6 := HXn.out.below hb HXn.out.lt
          have HB6 := Lib.hid (step_b HBn.out hb)
          have x0 := hX6.c0
          have x1 := hX6.c1
          have x2 := hX6.c2
          have x3 := hX6.c3
          have xl := hX6.lt
          clear hb hX6 hm0
          go_wp2_with fail
          go_ret
          exact ⟨rfl, HB6.out.alloc HB6.out.size _⟩
      · have hji : (lost : Int) % 4 = 2 := by omega
        clear hj
        go_wp2_with fail
        have HSn := Lib.hid (HSE.out.set2 ⟨#[]⟩)
        have HXn : Hid (Box (wr.setCell ⟨S, 2, none⟩ (.string ⟨#[]⟩)) (S + 1) m s l c) := Lib.hid (HX.out.far1 (by omega) _)
        have HBn : Hid (Below w.heap.size w (wr.setCell ⟨S, 2, none⟩ (.string ⟨#[]⟩))) := Lib.hid (HB.out.setCell hSw _)
        clear x0 x1 x2 x3 s0 s1 s2 s3 sf
        by_cases hm0 : m = 0
        · subst hm0
          have hch := HP.out
          rw [if_pos rfl] at hch
          have HCH := Lib.hid hch
          clear hch
          refine (choose_walk _ 4 4 _ _ _ _ _ _ HCH.out rfl _ (HSn.out.strs (by simpa using HSE.out.lt))).mono ?_; rintro e0 w6 ⟨rfl, hb⟩
          have hX6 := HXn.out.below hb HXn.out.lt
          have HB6 := Lib.hid (step_b HBn.out hb)
          have x0 := hX6.c0
          have x1 := hX6.c1
          have x2 := hX6.c2
          have x3 := hX6.c3
          have xl := hX6.lt
          clear hb hX6
          go_wp2_with fail
          go_ret
          exact ⟨rfl, HB6.out.alloc HB6.out.size _⟩
        · have hch := HP.out
          rw [if_neg hm0] at hch
          have HCH := Lib.hid hch
          have hm0' : ((m : Int) == 0) = false := by simp; omega
          clear hch
          refine (choose_walk _ 4 4 _ _ _ _ _ _ HCH.out rfl _ (HSn.out.strs (by simpa using HSE.out.lt))).mono ?_; rintro e0 w6 ⟨rfl, hb⟩
          have hX6 := HXn.out.below hb HXn.out.lt
          have HB6 := Lib.hid (step_b HBn.out hb)
          have x0 := hX6.c0
          have x1 := hX6.c1
          have x2 := hX6.c2
          have x3 := hX6.c3
          have xl := hX6.lt
          clear hb hX6 hm0
          go_wp2_with fail
          go_ret
          exact ⟨rfl, HB6.out.alloc HB6.out.size _⟩
      · have hji : (lost : Int) % 4 = 3 := by omega
        clear hj
        go_wp2_with fail
        have HSn := Lib.hid (HSE.out.set3 ⟨#[]⟩)
        have HXn : Hid (Box (wr.setCell ⟨S, 3, none⟩ (.string ⟨#[]⟩)) (S + 1) m s l c) := Lib.hid (HX.out.far1 (by omega) _)
        have HBn : Hid (Below w.heap.size w (wr.setCell ⟨S, 3, none⟩ (.string ⟨#[]⟩))) := Lib.hid (HB.out.setCell hSw _)
        clear x0 x1 x2 x3 s0 s1 s2 s3 sf
        by_cases hm0 : m = 0
        · subst hm0
          have hch := HP.out
          rw [if_pos rfl] at hch
          have HCH := Lib.hid hch
          clear hch
          refine (choose_walk _ 4 4 _ _ _ _ _ _ HCH.out rfl _ (HSn.out.strs (by simpa using HSE.out.lt))).mono ?_; rintro e0 w6 ⟨rfl, hb⟩
          have hX6 := HXn.out.below hb HXn.out.lt
          have HB6 := Lib.hid (step_b HBn.out hb)
          have x0 := hX6.c0
          have x1 := hX6.c1
          have x2 := hX6.c2
          have x3 := hX6.c3
          have xl := hX6.lt
          clear hb hX6
          go_wp2_with fail
          go_ret
          exact ⟨rfl, HB6.out.alloc HB6.out.size _⟩
        · have hch := HP.out
          rw [if_neg hm0] at hch
          have HCH := Lib.hid hch
          have hm0' : ((m : Int) == 0) = false := by simp; omega
          clear hch
          refine (choose_walk _ 4 4 _ _ _ _ _ _ HCH.out rfl _ (HSn.out.strs (by simpa using HSE.out.lt))).mono ?_; rintro e0 w6 ⟨rfl, hb⟩
          have hX6 := HXn.out.below hb HXn.out.lt
          have HB6 := Lib.hid (step_b HBn.out hb)
          have x0 := hX6.c0
          have x1 := hX6.c1
          have x2 := hX6.c2
          have x3 := hX6.c3
          have xl := hX6.lt
          clear hb hX6 hm0
          go_wp2_with fail
          go_ret
          exact ⟨rfl, HB6.out.alloc HB6.out.size _⟩
set_option maxRecDepth 100000 in
theorem greatest_many (A : Option Addr) (c0 n0 lost : Nat) (h8 : 8 < n0) (w : World) : Calls Try.prog 10 #[.slice A n0 c0, .int .u8 lost] w fun e w' => e = .returned (.bool true) ∧ Below w.heap.size w w' := by
  have h8' : (8 : Int) < n0 := by omega
  go_enter Try.func10, Try.ntmps10
  go_wp2_with fail
  refine (awake_walk _).mono ?_; rintro e w0 ⟨rfl, hb⟩
  have HB0 := Lib.hid hb
  clear hb
  go_wp2_with fail
  go_ret
  exact ⟨rfl, HB0.out⟩
theorem cells43 : Try.prog.cellsOf 25 = 4 := by kernel_rfl
section
variable {H : Type} {enc : TypeId × Value → H} {w : World} {base b0 : Nat} {held : Bool}
theorem open_roots {r : Reach} {v : Value} {d : DataW H} {p : List MemPlace} (hv : Value.okWide Try.prog w r b0 43 v) (h : DataW.Trod enc Try.prog w base (fun _ => true) held 43 v d p) : ∃ (A : Option Addr) (n c : Nat) (rs : List (Int × Int × Int × Int)), v = .slice A n c ∧ rs.length = n ∧ Roots w w.heap.size A rs := by
  obtain ⟨fuel, hf⟩ := h
  rcases Deep.open_slice Try.underlying43 hf with ⟨h1, _⟩ | ⟨a, len, cap, m, fu, D, Pl, h1, _, hlc, hcm, hm, _, hel⟩
  · exact ⟨none, 0, 0, [], slice_of Try.underlying43 hv h1, rfl, fun i hi => absurd hi (by simp)⟩
  · rw [cells43] at hel
    have key : ∀ i, i < len → ∃ n s l c : Int, w.cell? (a.add (i * 4)) = some (.int .i64 n) ∧ w.cell? ⟨(a.add (i * 4)).block, (a.add (i * 4)).off + 1, none⟩ = some (.int .i64 s) ∧ w.cell? ⟨(a.add (i * 4)).block, (a.add (i * 4)).off + 2, none⟩ = some (.int .i64 l) ∧ w.cell? ⟨(a.add (i * 4)).block, (a.add (i * 4)).off + 3, none⟩ = some (.int .i64 c) := by
      intro i hi
      obtain ⟨cs', hc, ht⟩ := hel i (by rw [hm, if_pos rfl]; omega)
      obtain ⟨n, s, l, c, rfl⟩ := root_cells ht
      obtain ⟨_, _, hat⟩ := World.cells?_some hc
      have hne : ∀ k, 0 < k → (a.add (i * 4)).add k = ⟨(a.add (i * 4)).block, (a.add (i * 4)).off + k, none⟩ := fun k hk => by
        unfold Addr.add; rw [if_neg (by omega : ¬ k = 0)]
      have h0 := hat 0 (by decide)
      have h1 := hat 1 (by decide)
      have h2 := hat 2 (by decide)
      have h3 := hat 3 (by decide)
      rw [hne 1 (by decide)] at h1
      rw [hne 2 (by decide)] at h2
      rw [hne 3 (by decide)] at h3
      exact ⟨n, s, l, c, by simpa [Addr.add] using h0, by simpa using h1, by simpa using h2, by simpa using h3⟩
    have key' : ∀ i, i < len → ∃ r : Int × Int × Int × Int, w.cell? (a.add (i * 4)) = some (.int .i64 r.1) ∧ w.cell? ⟨(a.add (i * 4)).block, (a.add (i * 4)).off + 1, none⟩ = some (.int .i64 r.2.1) ∧ w.cell? ⟨(a.add (i * 4)).block, (a.add (i * 4)).off + 2, none⟩ = some (.int .i64 r.2.2.1) ∧ w.cell? ⟨(a.add (i * 4)).block, (a.add (i * 4)).off + 3, none⟩ = some (.int .i64 r.2.2.2) := fun i hi => by
      obtain ⟨n, s, l, c, h⟩ := key i hi
      exact ⟨(n, s, l, c), h⟩
    obtain ⟨f, hf⟩ := Deep.choose_lt key'
    refine ⟨some a, len, cap, (List.range len).map f, slice_of Try.underlying43 hv h1, by simp, fun i hi => ?_⟩
    have hi' : i < len := by simpa using hi
    have hg : ((List.range len).map f).getD i (0, 0, 0, 0) = f i := by simp [List.getD, hi']
    rw [hg]
    refine ⟨a, rfl, ?_, hf i hi'⟩
    have := block_lt_of_cell (hf i hi').1
    rwa [add_block] at this
theorem greatest_in {d : DataW H} {p : List MemPlace} (v : Value) (h : DataW.Trod enc Try.prog w base (fun _ => true) held 43 v d p) (hv : Value.okWide Try.prog w .any b0 43 v) (a : Int) (ha : (Lit.int .u8 a).wf = true) : Calls Try.prog 10 #[v, .int .u8 a] w fun e w' => e = .returned (.bool true) ∧ Below w.heap.size w w' := by
  obtain ⟨A, n, c, rs, rfl, hn, hR⟩ := open_roots hv h
  obtain ⟨b, rfl⟩ := u8_of ha
  by_cases h8 : 8 < n
  · exact greatest_many A c n b.toNat h8 w
  · exact greatest_few A c n b.toNat b.toNat_lt rs hn (by omega) w hR
end
end Go.Proofs.Ytonkamdipalbpaa
