import Derived.Test.YtonkamdipalbpaaWn
namespace Go.Proofs.Ytonkamdipalbpaa
open Go.RowKit Go.ChangeShapes Go.WideShapes Go.ChangeAt

theorem eq_at (m b : ByteArray) (D E : List UInt8) (hm : m.data.toList = D) (hb : b.data.toList = E) : (m.toList == b.toList) = decide (D = E) := by
  rw [ByteArray.toList_eq, ByteArray.toList_eq, hm, hb, Bool.eq_iff_iff]; simp
theorem decV_bad (D : List UInt8) (p : Int) (hp : ¬ (p < 0 ∨ 3 < p)) (h : decOK D p = false) : decV D p = ((0, 0, 0, 0), 12) := by
  unfold decV
  rw [if_neg hp]
  by_cases h2 : D.length ≠ 64
  · rw [if_pos h2]
  · rw [if_neg h2, h]; rfl
theorem decV_at {n s l c : Nat} (p : Int) (h : validI n s l c = true) (hp : ¬ (p < 0 ∨ 3 < p)) (hq : (n : Int) % 2 = p % 2) : decV (encL n s l c) p = (((n : Int), (s : Int), (l : Int), (c : Int)), 0) := by
  have := decV_enc p h
  rw [bA_list, if_neg hp, if_pos hq] at this
  exact this
theorem torn_law (n0 s0 l0 c0 n s l c : Int) (k8 : Nat) (hk8 : k8 < 256) (f : Bool) (w : World) : Calls Try.prog 7 #[.agg #[.int .i64 n0, .int .i64 s0, .int .i64 l0, .int .i64 c0], .agg #[.int .i64 n, .int .i64 s, .int .i64 l, .int .i64 c], .int .u8 k8, .bool f] w fun e w' => e = .returned (.bool true) ∧ Below w.heap.size w w' := by
  cases hv0 : validI n0 s0 l0 c0
  · exact torn_skip _ _ _ _ _ _ _ _ _ _ _ _ 1 _ (by unfold encV; rw [hv0]; rfl) rfl (.inl rfl) w
  · have k0 := validI_iff.1 hv0
    obtain ⟨n0, rfl⟩ : ∃ m : Nat, n0 = m := ⟨n0.toNat, by omega⟩
    obtain ⟨s0, rfl⟩ : ∃ m : Nat, s0 = m := ⟨s0.toNat, by omega⟩
    obtain ⟨l0, rfl⟩ : ∃ m : Nat, l0 = m := ⟨l0.toNat, by omega⟩
    obtain ⟨c0, rfl⟩ : ∃ m : Nat, c0 = m := ⟨c0.toNat, by omega⟩
    have e0 := encV_ok hv0
    cases hv : validI n s l c
    · exact torn_skip _ _ _ _ _ _ _ _ _ _ _ _ 0 1 e0 (by unfold encV; rw [hv]; rfl) (.inr (.inl ⟨rfl, rfl⟩)) w
    · have k1 := validI_iff.1 hv
      obtain ⟨n, rfl⟩ : ∃ m : Nat, n = m := ⟨n.toNat, by omega⟩
      obtain ⟨s, rfl⟩ : ∃ m : Nat, s = m := ⟨s.toNat, by omega⟩
      obtain ⟨l, rfl⟩ : ∃ m : Nat, l = m := ⟨l.toNat, by omega⟩
      obtain ⟨c, rfl⟩ : ∃ m : Nat, c = m := ⟨c.toNat, by omega⟩
      have e1 := encV_ok hv
      have hn0 : (1 : Int) ≤ n0 := k0.1
      clear k0 k1
      by_cases hlt : n ≤ n0
      · exact torn_skip _ _ _ _ _ _ _ _ _ _ _ _ 0 0 e0 e1 (.inr (.inr (.inl ⟨rfl, rfl, by omega⟩))) w
      · by_cases hp : (n0 : Int) % 2 = (n : Int) % 2
        · have hk : k8 % 65 = k8 % 65 := rfl
          have hk64 : k8 % 65 ≤ 64 := by omega
          have hlt' : n0 < n := by omega
          have hlti : (n0 : Int) < n := by omega
          have pr : ¬ ((n : Int) % 2 < 0 ∨ 3 < (n : Int) % 2) := by omega
          have pq : (n : Int) % 2 = (n : Int) % 2 % 2 := by omega
          have pq0 : (n0 : Int) % 2 = (n : Int) % 2 % 2 := by omega
          have ts : (bA (encL n s l c)).size = 64 := by rw [bA_size, encL_length]
          have t0 : (bA (encL n0 s0 l0 c0)).size = 64 := by rw [bA_size, encL_length]
          have tl : (bA (encL n s l c)).data.toList = encL n s l c := bA_list _
          have t0l : (bA (encL n0 s0 l0 c0)).data.toList = encL n0 s0 l0 c0 := bA_list _
          cases f
          · have ml := mixB_list (bA (encL n s l c)) (bA (encL n0 s0 l0 c0)) (k8 % 65)
            rw [tl, t0l] at ml
            have q1 := eq_at _ _ _ _ ml tl
            have q2 := eq_at _ _ _ _ ml t0l
            by_cases h1 : (encL n s l c).take (k8 % 65) ++ (encL n0 s0 l0 c0).drop (k8 % 65) = encL n s l c
            · rw [decide_eq_true h1] at q1
              exact torn_t _ _ _ _ _ _ _ _ k8 _ hk hk8 _ _ _ e0 e1 hn0 hlti hp ts t0 rfl q1 (by rw [ml, h1]; exact decV_at _ hv pr pq) w
            · rw [decide_eq_false h1] at q1
              by_cases h2 : (encL n s l c).take (k8 % 65) ++ (encL n0 s0 l0 c0).drop (k8 % 65) = encL n0 s0 l0 c0
              · rw [decide_eq_true h2] at q2
                exact torn_s _ _ _ _ _ _ _ _ k8 _ hk hk8 _ _ _ e0 e1 hn0 hlti hp ts t0 rfl q1 q2 (by rw [ml, h2]; exact decV_at _ hv0 pr pq0) w
              · rw [decide_eq_false h2] at q2
                exact torn_n _ _ _ _ _ _ _ _ k8 _ hk hk8 _ _ _ e0 e1 hn0 hlti hp ts t0 rfl q1 q2 (by rw [ml]; exact decV_bad _ _ pr (torn_old hv0 hv hlt' hk64 h1 h2)) w
          · have zs : (bA (List.replicate 64 0)).size = 64 := by rw [bA_size]; rfl
            have zl : (bA (List.replicate 64 0)).data.toList = List.replicate 64 0 := bA_list _
            have ml := mixB_list (bA (encL n s l c)) (bA (List.replicate 64 0)) (k8 % 65)
            rw [tl, zl] at ml
            have q1 := eq_at _ _ _ _ ml tl
            have q2 := eq_at _ _ _ _ ml zl
            by_cases h1 : (encL n s l c).take (k8 % 65) ++ (List.replicate 64 0).drop (k8 % 65) = encL n s l c
            · rw [decide_eq_true h1] at q1
              exact torn_ft _ _ _ _ _ _ _ _ k8 _ hk hk8 _ _ _ e0 e1 hn0 hlti hp ts _ rfl zs rfl q1 (by rw [ml, h1]; exact decV_at _ hv pr pq) w
            · rw [decide_eq_false h1] at q1
              have hd : decV (mixB (bA (encL n s l c)) (bA (List.replicate 64 0)) (k8 % 65)).data.toList ((n : Int) % 2) = ((0, 0, 0, 0), 12) := by rw [ml]; exact decV_bad _ _ pr (torn_fresh hv hk64 h1)
              by_cases h2 : (encL n s l c).take (k8 % 65) ++ (List.replicate 64 0).drop (k8 % 65) = List.replicate 64 0
              · rw [decide_eq_true h2] at q2
                exact torn_fs _ _ _ _ _ _ _ _ k8 _ hk hk8 _ _ _ e0 e1 hn0 hlti hp ts _ rfl zs rfl q1 q2 hd w
              · rw [decide_eq_false h2] at q2
                exact torn_fn _ _ _ _ _ _ _ _ k8 _ hk hk8 _ _ _ e0 e1 hn0 hlti hp ts _ rfl zs rfl q1 q2 hd w
        · exact torn_skip _ _ _ _ _ _ _ _ _ _ _ _ 0 0 e0 e1 (.inr (.inr (.inr ⟨rfl, rfl, by omega, hn0, hp⟩))) w
section
variable {H : Type} {enc : TypeId × Value → H} {w : World} {base b0 : Nat} {spare : Nat → Bool} {held : Bool}
theorem torn_in {d d' : DataW H} {p p' : List MemPlace} (v : Value) (h : DataW.Trod enc Try.prog w base spare held 25 v d p) (hv : Value.okWide Try.prog w .any b0 25 v) (v' : Value) (h' : DataW.Trod enc Try.prog w base spare held 25 v' d' p') (hv' : Value.okWide Try.prog w .any b0 25 v') (a : Int) (ha : (Lit.int .u8 a).wf = true) (f : Bool) (W : World) : Calls Try.prog 7 #[v, v', .int .u8 a, .bool f] W fun e w' => e = .returned (.bool true) ∧ Below W.heap.size W w' := by
  obtain ⟨n, s, l, c, rfl⟩ := open_root hv h
  obtain ⟨n', s', l', c', rfl⟩ := open_root hv' h'
  have hb : 0 ≤ a ∧ a < 256 := by
    simp [Lit.wf, IntKind.min, IntKind.max, IntKind.signed, IntKind.bits] at ha; omega
  obtain ⟨k, rfl⟩ : ∃ k : Nat, a = k := ⟨a.toNat, by omega⟩
  exact torn_law n s l c n' s' l' c' k (by omega) f W
end
end Go.Proofs.Ytonkamdipalbpaa
