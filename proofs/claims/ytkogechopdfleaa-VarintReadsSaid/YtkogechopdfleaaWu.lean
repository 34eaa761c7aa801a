import Derived.Test.YtkogechopdfleaaWt
namespace Go.Proofs.Ytkogechopdfleaa
open Go.RowKit Go.ChangeShapes Go.WideShapes Go.ChangeAt

theorem bounds_small (a b : ByteArray) (h : a.size + b.size ≤ 100000) : ∀ W, (Op.stringOp .add a b).run Try.prog W = .ok (.string (a ++ b)) W := fun W => run_string_add_sum W a b (by omega)
set_option maxRecDepth 100000 in
set_option maxHeartbeats 8000000 in
theorem inverts_few (A0 A1 A2 : Option Addr) (n0 n1 n2 c0 c1 c2 : Nat) (xs ys : List Int) (ts : List ByteArray) (hxl : xs.length = n0) (hyl : ys.length = n1) (htl : ts.length = n2) (h0 : n0 ≤ 20) (h1 : n1 ≤ 20) (h2 : n2 ≤ 20) (hxb : ∀ i, i < n0 → xs.getD i 0 < 9223372036854775808) (w : World) (hx : Ints w w.heap.size A0 xs) (hy : Ints w w.heap.size A1 ys) (ht : Strs w w.heap.size A2 ts) : Calls Try.prog 7 #[.slice A0 n0 c0, .slice A1 n1 c1, .slice A2 n2 c2] w fun e w' => e = .returned (.bool true) ∧ Below w.heap.size w w' := by
  have HX := Lib.hid hx
  have HY := Lib.hid hy
  have HT := Lib.hid ht
  have HXL := Lib.hid hxl
  have HYL := Lib.hid hyl
  have HTL := Lib.hid htl
  have HXB := Lib.hid hxb
  clear hx hy ht hxl hyl htl hxb
  have n0' : ¬ (20 : Int) < n0 := by omega
  have n1' : ¬ (20 : Int) < n1 := by omega
  have n2' : ¬ (20 : Int) < n2 := by omega
  go_enter Try.func7, Try.ntmps7
  go_wp2_with fail
  refine (awake_walk _).mono ?_; rintro e w0 ⟨rfl, hb⟩
  have HB0 := Lib.hid hb
  clear hb
  go_wp2_with fail
  go_loopw [7, 38] (fun s i wr => ∃ k : Nat, k ≤ n0 ∧ i = .int .i64 k ∧ s = .string (bA (catN (xs.take k))) ∧ Below w.heap.size w wr) (fun _ i _ => n0 - (intOf i).toNat)
  case atStart => exact ⟨0, by omega, rfl, rfl, HB0.out⟩
  case round =>
    obtain ⟨k, hk, rfl, rfl, hb⟩ := hrel
    have HB := Lib.hid hb
    by_cases hlt : k < n0
    · obtain ⟨a, rfl, hab, hca⟩ := (HX.out.below hb (Nat.le_refl _)) k (by rw [HXL.out]; exact hlt)
      obtain ⟨x, hxx⟩ : ∃ x, xs.getD k 0 = x := ⟨_, rfl⟩
      rw [hxx] at hca
      obtain ⟨l, hl⟩ : ∃ l, numB x = l := ⟨_, rfl⟩
      have HC : Hid (x < 9223372036854775808 ∧ numB x = l) := Lib.hid ⟨by rw [← hxx]; exact HXB.out k hlt, hl⟩
      have hll : l.length ≤ 9 := by rw [← hl]; exact numB_le x
      have hol : (catN (xs.take k)).length ≤ 180 := by
        have := flat_le numB 9 (xs.take k) (fun x _ => numB_le x)
        unfold catN; rw [List.length_take] at this; omega
      have HS : Hid (bA (catN (xs.take (k + 1))) = bA (catN (xs.take k)) ++ bA l) := Lib.hid (by
        unfold catN; rw [flat_snoc numB xs k 0 (by rw [HXL.out]; exact hlt), ← bA_app, hxx, hl])
      obtain ⟨o, ho⟩ : ∃ o, bA (catN (xs.take k)) = o := ⟨_, rfl⟩
      obtain ⟨ll, hll2⟩ : ∃ ll, bA l = ll := ⟨_, rfl⟩
      have hos : o.size ≤ 180 := by rw [← ho, bA_size]; exact hol
      have hls : ll.size ≤ 9 := by rw [← hll2, bA_size]; exact hll
      have HCC := Lib.hid (num_hid x l HC)
      rw [ho] at HS ⊢
      rw [hll2] at HS HCC
      clear hb hxx hl hab hll hol hll2 ho
      go_wp2_with fail
      refine (HCC.out _).mono ?_; rintro e w3 ⟨rfl, hb⟩
      have HB3 := Lib.hid (step_b HB.out hb)
      clear hb
      go_wp2_with fail
      go_roundw
      case rel => exact ⟨k + 1, by omega, by go_num, by rw [HS.out], HB3.out⟩
      case measure => simp [intOf]; omega
    · obtain rfl : n0 = k := by omega
      clear hb
      rw [show xs.take n0 = xs by rw [← HXL.out]; exact List.take_length]
      go_wp2_with fail
      go_loopw [7, 49] (fun s i wr => ∃ j : Nat, j ≤ n1 ∧ i = .int .i64 j ∧ s = .string (bA (catN xs ++ catI (ys.take j))) ∧ Below w.heap.size w wr) (fun _ i _ => n1 - (intOf i).toNat)
      case atStart => exact ⟨0, by omega, rfl, by simp [catI], HB.out⟩
      case round =>
        obtain ⟨j, hj, rfl, rfl, hb⟩ := hrel
        have HB := Lib.hid hb
        by_cases hlt : j < n1
        · obtain ⟨a, rfl, hab, hca⟩ := (HY.out.below hb (Nat.le_refl _)) j (by rw [HYL.out]; exact hlt)
          obtain ⟨x, hxx⟩ : ∃ x, ys.getD j 0 = x := ⟨_, rfl⟩
          rw [hxx] at hca
          obtain ⟨l, hl⟩ : ∃ l, intB x = l := ⟨_, rfl⟩
          have HC : Hid (intB x = l) := Lib.hid hl
          have hll : l.length ≤ 9 := by rw [← hl]; exact intB_le x
          have hol : (catN xs ++ catI (ys.take j)).length ≤ 360 := by
            have h1 := flat_le numB 9 xs (fun x _ => numB_le x)
            have h2 := flat_le intB 9 (ys.take j) (fun x _ => intB_le x)
            rw [HXL.out] at h1
            rw [List.length_append]; unfold catN catI; rw [List.length_take] at h2; omega
          have HS : Hid (bA (catN xs ++ catI (ys.take (j + 1))) = bA (catN xs ++ catI (ys.take j)) ++ bA l) := Lib.hid (by
            unfold catI; rw [flat_snoc intB ys j 0 (by rw [HYL.out]; exact hlt), ← List.append_assoc, ← bA_app _ (intB _), hxx, hl])
          obtain ⟨o, ho⟩ : ∃ o, bA (catN xs ++ catI (ys.take j)) = o := ⟨_, rfl⟩
          obtain ⟨ll, hll2⟩ : ∃ ll, bA l = ll := ⟨_, rfl⟩
          have hos : o.size ≤ 360 := by rw [← ho, bA_size]; exact hol
          have hls : ll.size ≤ 9 := by rw [← hll2, bA_size]; exact hll
          have HCC := Lib.hid (int_hid x l HC)
          rw [ho] at HS ⊢
          rw [hll2] at HS HCC
          clear hb hxx hl hab hll hol hll2 ho
          go_wp2_with fail
          refine (HCC.out _).mono ?_; rintro e w3 ⟨rfl, hb⟩
          have HB3 := Lib.hid (step_b HB.out hb)
          clear hb
          go_wp2_with fail
          go_roundw
          case rel => exact ⟨j + 1, by omega, by go_num, by rw [HS.out], HB3.out⟩
          case measure => simp [intOf]; omega
        · obtain rfl : n1 = j := by omega
          clear hb
          rw [show ys.take n1 = ys by rw [← HYL.out]; exact List.take_length]
          go_wp2_with fail
          go_loopw [7, 60] (fun s i wr => ∃ m : Nat, m ≤ n2 ∧ i = .int .i64 m ∧ (∀ q, q < m → (ts.getD q ⟨#[]⟩).size ≤ 100) ∧ s = .string (bA (catN xs ++ (catI ys ++ catT (ts.take m)))) ∧ Below w.heap.size w wr) (fun _ i _ => n2 - (intOf i).toNat)
          case atStart => exact ⟨0, by omega, rfl, fun q hq => absurd hq (by omega), by simp [catT], HB.out⟩
          case round =>
            obtain ⟨m, hm, rfl, hsm, rfl, hb⟩ := hrel
            have HB := Lib.hid hb
            have HSM := Lib.hid hsm
            by_cases hlt : m < n2
            · obtain ⟨a, rfl, hab, hca⟩ := (HT.out.below hb (Nat.le_refl _)) m (by rw [HTL.out]; exact hlt)
              obtain ⟨x, hxx⟩ : ∃ x, ts.getD m ⟨#[]⟩ = x := ⟨_, rfl⟩
              rw [hxx] at hca
              by_cases hx100 : 100 < x.size
              · have hx1 : (100 : Int) < x.size := by omega
                clear hb hxx hab hsm hx100
                go_wp2_with fail
                go_ret
                exact ⟨rfl, HB.out⟩
              · have hx1 : ¬ (100 : Int) < x.size := by omega
                obtain ⟨l, hl⟩ : ∃ l, textL x = l := ⟨_, rfl⟩
                have HC : Hid (x.size ≤ 100 ∧ textL x = l) := Lib.hid ⟨by omega, hl⟩
                have hll : l.length ≤ 109 := by rw [← hl]; have := textL_le x; omega
                have hol : (catN xs ++ (catI ys ++ catT (ts.take m))).length ≤ 2600 := by
                  have h1 := flat_le numB 9 xs (fun x _ => numB_le x)
                  have h2 := flat_le intB 9 ys (fun x _ => intB_le x)
                  have h3 := flat_le textL 109 (ts.take m) (fun t ht => by
                    have h4 := textL_le t
                    obtain ⟨q, hq, rfl⟩ := List.getElem_of_mem ht
                    rw [List.length_take] at hq
                    have h5 := HSM.out q (by omega)
                    rw [List.getElem_take] at h4 ⊢
                    rw [show ts.getD q ⟨#[]⟩ = ts[q] by simp [List.getD, show q < ts.length by omega]] at h5
                    omega)
                  rw [HXL.out] at h1
                  rw [HYL.out] at h2
                  rw [List.length_append, List.length_append]; unfold catN catI catT; rw [List.length_take] at h3; omega
                have HS : Hid (bA (catN xs ++ (catI ys ++ catT (ts.take (m + 1)))) = bA (catN xs ++ (catI ys ++ catT (ts.take m))) ++ bA l) := Lib.hid (by
                  unfold catT; rw [flat_snoc textL ts m ⟨#[]⟩ (by rw [HTL.out]; exact hlt), ← List.append_assoc, ← List.append_assoc, ← bA_app _ (textL _), hxx, hl, List.append_assoc])
                have HSM2 : Hid (∀ q, q < m + 1 → (ts.getD q ⟨#[]⟩).size ≤ 100) := Lib.hid fun q hq => by
                  by_cases e : q = m
                  · subst e; rw [hxx]; omega
                  · exact HSM.out q (by omega)
                obtain ⟨o, ho⟩ : ∃ o, bA (catN xs ++ (catI ys ++ catT (ts.take m))) = o := ⟨_, rfl⟩
                obtain ⟨ll, hll2⟩ : ∃ ll, bA l = ll := ⟨_, rfl⟩
                have hos : o.size ≤ 2600 := by rw [← ho, bA_size]; exact hol
                have hls : ll.size ≤ 109 := by rw [← hll2, bA_size]; exact hll
                have HCC := Lib.hid (text_hid x l HC)
                rw [ho] at HS ⊢
                rw [hll2] at HS HCC
                clear hb hxx hl hab hll hol hll2 ho hsm hx100
                go_wp2_with fail
                refine (HCC.out _).mono ?_; rintro e w3 ⟨rfl, hb⟩
                have HB3 := Lib.hid (step_b HB.out hb)
                clear hb
                go_wp2_with fail
                go_roundw
                case rel => exact ⟨m + 1, by omega, by go_num, HSM2.out, by rw [HS.out], HB3.out⟩
                case measure => simp [intOf]; omega
            · obtain rfl : n2 = m := by omega
              clear hb hsm
              rw [show ts.take n2 = ts by rw [← HTL.out]; exact List.take_length]
              obtain ⟨b, hbb⟩ : ∃ b, bA (catN xs ++ (catI ys ++ catT ts)) = b := ⟨_, rfl⟩
              rw [hbb]
              have HBB := Lib.hid hbb
              clear hbb
              go_wp2_with fail
              refine (new_walk _ _).mono ?_; rintro e w4 ⟨rfl, hi, hf⟩
              obtain ⟨B, hB⟩ : ∃ B, wr.heap.size = B := ⟨_, rfl⟩
              rw [hB] at hi hf ⊢
              have hBw : w.heap.size ≤ B := by rw [← hB]; exact HB.out.size
              have HB4 := Lib.hid (HB.out.trans (hf _ hBw))
              have HI4 : Hid (IsR w4 B (bA (catN xs ++ (catI ys ++ catT ts))) 0) := Lib.hid (by rw [HBB.out]; exact hi)
              clear hi hf hB HBB
              go_wp2_with fail
              go_loopw [78] (fun i wq => ∃ k : Nat, k ≤ n0 ∧ i = .int .i64 k ∧ IsR wq B (bA (catN (xs.drop k) ++ (catI ys ++ catT ts))) 0 ∧ Below w.heap.size w wq) (fun i _ => n0 - (intOf i).toNat)
              case atStart => exact ⟨0, by omega, rfl, HI4.out, HB4.out⟩
              case round =>
                obtain ⟨k, hk, rfl, hi, hb⟩ := hrel
                have HB := Lib.hid hb
                have HIR := Lib.hid hi
                by_cases hlt : k < n0
                · obtain ⟨a, rfl, hab, hca⟩ := (HX.out.below hb (Nat.le_refl _)) k (by rw [HXL.out]; exact hlt)
                  obtain ⟨x, hxx⟩ : ∃ x, xs.getD k 0 = x := ⟨_, rfl⟩
                  rw [hxx] at hca
                  have hcons : catN (xs.drop k) = numB x ++ catN (xs.drop (k + 1)) := by
                    unfold catN; rw [flat_cons numB xs k 0 (by rw [HXL.out]; exact hlt), hxx]
                  by_cases hneg : x < 0
                  · have hdn : decide (0 ≤ x) = false := by simp; omega
                    have HC : Hid (catN (xs.drop k) = catN (xs.drop (k + 1))) := Lib.hid (by rw [hcons, numB_neg x hneg]; rfl)
                    clear hb hi hxx hab hcons hneg
                    go_wp2_with fail
                    go_roundw
                    case rel => exact ⟨k + 1, by omega, by go_num, by rw [← HC.out]; exact HIR.out, HB.out⟩
                    case measure => simp [intOf]; omega
                  · have hx0 : 0 ≤ x := by omega
                    have HR : Hid (readS decN 0 x (bA (catN (xs.drop k) ++ (catI ys ++ catT ts))) 0 = (bA (catN (xs.drop (k + 1)) ++ (catI ys ++ catT ts)), 0, x)) := Lib.hid (by
                      rw [hcons, List.append_assoc]; exact read_n x hx0 (by rw [← hxx]; exact HXB.out k hlt) _)
                    clear hb hi hxx hab hcons hneg
                    go_wp2_with fail
                    refine (rnum_walk B _ 0 x _ 0 x (by exact HR.out) _ (by exact HIR.out)).mono ?_; rintro e w5 ⟨rfl, hi, hf⟩
                    have HB5 := Lib.hid (HB.out.trans (hf _ hBw))
                    have HI5 := Lib.hid hi
                    clear hi hf
                    go_wp2_with fail
                    go_roundw
                    case rel => exact ⟨k + 1, by omega, by go_num, HI5.out, HB5.out⟩
                    case measure => simp [intOf]; omega
                · obtain rfl : n0 = k := by omega
                  have HI : Hid (IsR wr B (bA (catI ys ++ catT ts)) 0) := Lib.hid (by
                    rw [List.drop_of_length_le (by rw [HXL.out]; exact Nat.le_refl _)] at hi; exact hi)
                  clear hb hi
                  go_wp2_with fail
                  go_loopw [94] (fun i wq => ∃ k : Nat, k ≤ n1 ∧ i = .int .i64 k ∧ IsR wq B (bA (catI (ys.drop k) ++ catT ts)) 0 ∧ Below w.heap.size w wq) (fun i _ => n1 - (intOf i).toNat)
                  case atStart => exact ⟨0, by omega, rfl, HI.out, HB.out⟩
                  case round =>
                    obtain ⟨j, hj, rfl, hi, hb⟩ := hrel
                    have HB := Lib.hid hb
                    have HIR := Lib.hid hi
                    by_cases hlt : j < n1
                    · obtain ⟨a, rfl, hab, hca⟩ := (HY.out.below hb (Nat.le_refl _)) j (by rw [HYL.out]; exact hlt)
                      obtain ⟨x, hxx⟩ : ∃ x, ys.getD j 0 = x := ⟨_, rfl⟩
                      rw [hxx] at hca
                      have hcons : catI (ys.drop j) = intB x ++ catI (ys.drop (j + 1)) := by
                        unfold catI; rw [flat_cons intB ys j 0 (by rw [HYL.out]; exact hlt), hxx]
                      by_cases hlo : x < -4611686018427387904
                      · have hdn : decide (-4611686018427387904 ≤ x) = false := by simp; omega
                        have HC : Hid (catI (ys.drop j) = catI (ys.drop (j + 1))) := Lib.hid (by rw [hcons, show intB x = [] by unfold intB; rw [if_pos hlo]]; rfl)
                        clear hb hi hxx hab hcons hlo
                        go_wp2_with fail
                        go_roundw
                        case rel => exact ⟨j + 1, by omega, by go_num, by rw [← HC.out]; exact HIR.out, HB.out⟩
                        case measure => simp [intOf]; omega
                      · by_cases hhi : 4611686018427387904 ≤ x
                        · have hdn : decide (-4611686018427387904 ≤ x) = true := by simp; omega
                          have hdm : decide (x < 4611686018427387904) = false := by simp; omega
                          have HC : Hid (catI (ys.drop j) = catI (ys.drop (j + 1))) := Lib.hid (by rw [hcons, show intB x = [] by unfold intB; rw [if_neg hlo, if_pos hhi]]; rfl)
                          clear hb hi hxx hab hcons hlo hhi
                          go_wp2_with fail
                          go_roundw
                          case rel => exact ⟨j + 1, by omega, by go_num, by rw [← HC.out]; exact HIR.out, HB.out⟩
                          case measure => simp [intOf]; omega
                        · have hdn : decide (-4611686018427387904 ≤ x) = true := by simp; omega
                          have hdm : decide (x < 4611686018427387904) = true := by simp; omega
                          have HR : Hid (readS decI x x (bA (catI (ys.drop j) ++ catT ts)) 0 = (bA (catI (ys.drop (j + 1)) ++ catT ts), 0, x)) := Lib.hid (by
                            rw [hcons, List.append_assoc]; exact read_i x hlo hhi _)
                          clear hb hi hxx hab hcons hlo hhi
                          go_wp2_with fail
                          refine (rint_walk B _ 0 x x _ 0 x (by exact HR.out) _ (by exact HIR.out)).mono ?_; rintro e w5 ⟨rfl, hi, hf⟩
                          have HB5 := Lib.hid (HB.out.trans (hf _ hBw))
                          have HI5 := Lib.hid hi
                          clear hi hf
                          go_wp2_with fail
                          go_roundw
                          case rel => exact ⟨j + 1, by omega, by go_num, HI5.out, HB5.out⟩
                          case measure => simp [intOf]; omega
                    · obtain rfl : n1 = j := by omega
                      have HI : Hid (IsR wr B (bA (catT ts)) 0) := Lib.hid (by
                        rw [List.drop_of_length_le (by rw [HYL.out]; exact Nat.le_refl _)] at hi; exact hi)
                      clear hb hi
                      go_wp2_with fail
                      go_loopw [115] (fun i wq => ∃ k : Nat, k ≤ n2 ∧ i = .int .i64 k ∧ IsR wq B (bA (catT (ts.drop k))) 0 ∧ Below w.heap.size w wq) (fun i _ => n2 - (intOf i).toNat)
                      case atStart => exact ⟨0, by omega, rfl, HI.out, HB.out⟩
                      case round =>
                        obtain ⟨m, hm, rfl, hi, hb⟩ := hrel
                        have HB := Lib.hid hb
                        have HIR := Lib.hid hi
                        by_cases hlt : m < n2
                        · obtain ⟨a, rfl, hab, hca⟩ := (HT.out.below hb (Nat.le_refl _)) m (by rw [HTL.out]; exact hlt)
                          obtain ⟨x, hxx⟩ : ∃ x, ts.getD m ⟨#[]⟩ = x := ⟨_, rfl⟩
                          rw [hxx] at hca
                          have HR : Hid (textS (x.size : Int) (bA (catT (ts.drop m))) 0 = (bA (catT (ts.drop (m + 1))), 0, x)) := Lib.hid (by
                            have hcons : catT (ts.drop m) = textL x ++ catT (ts.drop (m + 1)) := by
                              unfold catT; rw [flat_cons textL ts m ⟨#[]⟩ (by rw [HTL.out]; exact hlt), hxx]
                            rw [hcons]; exact read_t x (by rw [← hxx]; exact HSM.out m hlt) _)
                          clear hb hi hxx hab
                          go_wp2_with fail
                          refine (text_walk B _ 0 (x.size : Int) _ 0 x (by exact HR.out) _ (by exact HIR.out)).mono ?_; rintro e w5 ⟨rfl, hi, hf⟩
                          have HB5 := Lib.hid (HB.out.trans (hf _ hBw))
                          have HI5 := Lib.hid hi
                          clear hi hf
                          go_wp2_with fail
                          go_roundw
                          case rel => exact ⟨m + 1, by omega, by go_num, HI5.out, HB5.out⟩
                          case measure => simp [intOf]; omega
                        · obtain rfl : n2 = m := by omega
                          have HI : Hid (IsR wr B ⟨#[]⟩ 0) := Lib.hid (by
                            rw [List.drop_of_length_le (by rw [HTL.out]; exact Nat.le_refl _)] at hi; exact hi)
                          clear hb hi
                          go_wp2_with fail
                          refine (left_walk B ⟨#[]⟩ 0 _ (by exact HI.out)).mono ?_; rintro e _ ⟨rfl, rfl⟩
                          go_wp2_with fail
                          refine (end_walk B ⟨#[]⟩ 0 0 (by decide +kernel) _ (by exact HI.out)).mono ?_; rintro e w11 ⟨rfl, hi, hf⟩
                          have HB11 := Lib.hid (HB.out.trans (hf _ hBw))
                          clear hi hf
                          go_wp2_with fail
                          go_ret
                          exact ⟨rfl, HB11.out⟩
set_option maxRecDepth 100000 in
set_option maxHeartbeats 1000000 in
theorem inverts_many (A0 A1 A2 : Option Addr) (n0 n1 n2 c0 c1 c2 : Nat) (h : 20 < n0 ∨ 20 < n1 ∨ 20 < n2) (w : World) : Calls Try.prog 7 #[.slice A0 n0 c0, .slice A1 n1 c1, .slice A2 n2 c2] w fun e w' => e = .returned (.bool true) ∧ Below w.heap.size w w' := by
  by_cases h0 : 20 < n0
  · have k0 : (20 : Int) < n0 := by omega
    clear h h0
    go_enter Try.func7, Try.ntmps7
    go_wp2_with fail
    refine (awake_walk _).mono ?_; rintro e w0 ⟨rfl, hb⟩
    have HB0 := Lib.hid hb
    clear hb
    go_wp2_with fail
    go_ret
    exact ⟨rfl, HB0.out⟩
  · have k0 : ¬ (20 : Int) < n0 := by omega
    by_cases h1 : 20 < n1
    · have k1 : (20 : Int) < n1 := by omega
      clear h h0 h1
      go_enter Try.func7, Try.ntmps7
      go_wp2_with fail
      refine (awake_walk _).mono ?_; rintro e w0 ⟨rfl, hb⟩
      have HB0 := Lib.hid hb
      clear hb
      go_wp2_with fail
      go_ret
      exact ⟨rfl, HB0.out⟩
    · have k1 : ¬ (20 : Int) < n1 := by omega
      have k2 : (20 : Int) < n2 := by omega
      clear h h0 h1
      go_enter Try.func7, Try.ntmps7
      go_wp2_with fail
      refine (awake_walk _).mono ?_; rintro e w0 ⟨rfl, hb⟩
      have HB0 := Lib.hid hb
      clear hb
      go_wp2_with fail
      go_ret
      exact ⟨rfl, HB0.out⟩
theorem cells3 : Try.prog.cellsOf 3 = 1 := by kernel_rfl
theorem cells9 : Try.prog.cellsOf 9 = 1 := by kernel_rfl
section
variable {H : Type} {enc : TypeId × Value → H} {w : World} {base b0 : Nat} {held : Bool}
theorem slice_of {P : Program} {r : Reach} {v u : Value} {t e : TypeId} (ht : P.underlying t = some (.slice e)) (hv : Value.okWide P w r b0 t v) (h : v.cells.toList = [u]) : v = u := by
  cases v with
  | agg cs => simp [Value.okWide, ht, Cell.okWide, Cell.ok] at hv
  | _ => simpa [Value.cells] using h
theorem open_texts {r : Reach} {v : Value} {d : DataW H} {p : List MemPlace} (hv : Value.okWide Try.prog w r b0 35 v) (h : DataW.Trod enc Try.prog w base (fun _ => true) held 35 v d p) : ∃ (A : Option Addr) (n c : Nat) (ss : List ByteArray), v = .slice A n c ∧ ss.length = n ∧ Strs w w.heap.size A ss := by
  obtain ⟨fuel, hf⟩ := h
  rcases Deep.open_strs Try.underlying35 Try.underlying9 cells9 hf with ⟨h1, _⟩ | ⟨a, len, cap, m, Sx, h1, _, hlc, _, hm, _, hcell⟩
  · exact ⟨none, 0, 0, [], slice_of Try.underlying35 hv h1, rfl, fun i hi => absurd hi (by simp)⟩
  · refine ⟨some a, len, cap, (List.range len).map Sx, slice_of Try.underlying35 hv h1, by simp, fun i hi => ?_⟩
    have hi' : i < len := by simpa using hi
    have hc := (hcell i (by rw [hm, if_pos rfl]; omega)).1
    refine ⟨a, rfl, ?_, ?_⟩
    · have := block_lt_of_cell hc
      rwa [add_block] at this
    · rw [hc]; simp [List.getD, hi']
theorem open_nums {r : Reach} {v : Value} {d : DataW H} {p : List MemPlace} (hv : Value.okWide Try.prog w r b0 34 v) (h : DataW.Trod enc Try.prog w base (fun _ => true) held 34 v d p) : ∃ (A : Option Addr) (n c : Nat) (zs : List Int), v = .slice A n c ∧ zs.length = n ∧ Ints w w.heap.size A zs ∧ ∀ i, i < n → zs.getD i 0 < 9223372036854775808 := by
  obtain ⟨fuel, hf⟩ := h
  rcases open_ints Try.underlying34 Try.underlying3 cells3 hf with ⟨h1, _⟩ | ⟨a, len, cap, zs, h1, _, hlc, _, hl, _, hcell, hwf⟩
  · exact ⟨none, 0, 0, [], slice_of Try.underlying34 hv h1, rfl, fun i hi => absurd hi (by simp), fun i hi => absurd hi (by omega)⟩
  · rw [if_pos rfl] at hl
    have hg : ∀ i, i < len → (zs.take len).getD i 0 = zs.getD i 0 := fun i hi => by simp [List.getD, List.getElem?_take, hi]
    refine ⟨some a, len, cap, zs.take len, slice_of Try.underlying34 hv h1, by simp; omega, fun i hi => ?_, fun i hi => ?_⟩
    · have hi' : i < len := by have := hi; simp at this; omega
      have hc := hcell i (by omega)
      refine ⟨a, rfl, ?_, ?_⟩
      · have := block_lt_of_cell hc
        rwa [add_block] at this
      · rw [hg i hi']; exact hc
    · rw [hg i hi]
      have hm : zs.getD i 0 ∈ zs := by
        rw [List.getD_eq_getElem?_getD, List.getElem?_eq_getElem (by omega)]; exact List.getElem_mem _
      have := bounds_i64 (hwf _ hm)
      omega
theorem inverts_in {d0 d1 d2 : DataW H} {p0 p1 p2 : List MemPlace} (v0 : Value) (h0 : DataW.Trod enc Try.prog w base (fun _ => true) held 34 v0 d0 p0) (hv0 : Value.okWide Try.prog w .any b0 34 v0) (v1 : Value) (h1 : DataW.Trod enc Try.prog w base (fun _ => true) held 34 v1 d1 p1) (hv1 : Value.okWide Try.prog w .any b0 34 v1) (v2 : Value) (h2 : DataW.Trod enc Try.prog w base (fun _ => true) held 35 v2 d2 p2) (hv2 : Value.okWide Try.prog w .any b0 35 v2) : Calls Try.prog 7 #[v0, v1, v2] w fun e w' => e = .returned (.bool true) ∧ Below w.heap.size w w' := by
  obtain ⟨A0, n0, c0, xs, rfl, hn0, hx, hxb⟩ := open_nums hv0 h0
  obtain ⟨A1, n1, c1, ys, rfl, hn1, hy, _⟩ := open_nums hv1 h1
  obtain ⟨A2, n2, c2, ts, rfl, hn2, ht⟩ := open_texts hv2 h2
  by_cases h : 20 < n0 ∨ 20 < n1 ∨ 20 < n2
  · exact inverts_many A0 A1 A2 n0 n1 n2 c0 c1 c2 h w
  · exact inverts_few A0 A1 A2 n0 n1 n2 c0 c1 c2 xs ys ts hn0 hn1 hn2 (by omega) (by omega) (by omega) hxb w hx hy ht
end
end Go.Proofs.Ytkogechopdfleaa
