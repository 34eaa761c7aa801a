import Derived.Test.YtonkamdipalbpaaWd
import Derived.Test.YtonkamdipalbpaaWe
import Derived.Lib.SlBuf
import Derived.Lib.BufferWrite
import Derived.Laws.CopyOwn
import Derived.Deep.RegionLaw
namespace Go.Proofs.Ytonkamdipalbpaa
open Go.RowKit
attribute [local go_sem ↓] Go.wp_at_zero Go.wp_at_succ

theorem BRow.str {w : World} {B t : Nat} {l : List UInt8} (h : BRow w B t l) (cap n : Nat) (hn : n ≤ l.length) : (convert 37 9 (.slice (some ⟨B, 0, none⟩) n cap)).run Try.prog w = .ok (.string (bA (l.take n))) w := by
  have h1 : (l.take n).length = n := by rw [List.length_take]; omega
  have := run_convert_bytes_back (P := Try.prog) w 37 9 5 ⟨B, 0, none⟩ cap (l.take n) Try.underlying37 Try.underlying5 Try.underlying9 (by
    intro j hj
    have hadd : (⟨B, 0, none⟩ : Addr).add j = ⟨B, j, none⟩ := by unfold Addr.add; split <;> simp_all
    rw [h1] at hj
    rw [hadd, h.cell j (by omega)]
    simp [List.getD, List.getElem?_eq_getElem (show j < l.length by omega)])
  rw [h1] at this
  exact this
def le4V (n : Nat) : List Value := [.int .u8 ((n : Int) % 256), .int .u8 ((n : Int) / 256 % 256), .int .u8 ((n : Int) / 65536 % 256), .int .u8 ((n : Int) / 16777216)]
theorem le4V_row (n : Nat) (hn : n < 2 ^ 32) : (le4V n).toArray = rowC (le4 n) := by
  unfold le4V rowC le4
  simp only [List.map_cons, List.map_nil, UInt8.toNat_ofNat']
  have e1 : ((n : Int) % 256) = ((n % 2 ^ 8 : Nat) : Int) := by omega
  have e2 : ((n : Int) / 256 % 256) = ((n / 256 % 2 ^ 8 : Nat) : Int) := by omega
  have e3 : ((n : Int) / 65536 % 256) = ((n / 65536 % 2 ^ 8 : Nat) : Int) := by omega
  have e4 : ((n : Int) / 16777216) = ((n / 16777216 % 2 ^ 8 : Nat) : Int) := by omega
  rw [e1, e2, e3, e4]
set_option maxRecDepth 100000 in
set_option maxHeartbeats 1000000 in
theorem sum4_walk (B : Nat) (L : List UInt8) (hL : L.length = 64) (n : Nat) (hn : sum (L.take 52) = n) (w : World) (h : BRow w B 46 L) : Calls Try.prog 21 #[.pointer (some ⟨B, 0, none⟩)] w fun e w' =>
    e = .returned (.agg #[.int .u8 ((n : Int) % 256), .int .u8 ((n : Int) / 256 % 256), .int .u8 ((n : Int) / 65536 % 256), .int .u8 ((n : Int) / 16777216)]) ∧ Below w.heap.size w w' := by
  have hnl : n < 2 ^ 32 := by rw [← hn]; exact sum_lt _
  have hlt := h.lt
  have hst : (convert 37 9 (.slice (some ⟨B, 0, none⟩) 52 64)).run Try.prog (w.alloc (.cells #[.int .u8 0, .int .u8 0, .int .u8 0, .int .u8 0] 49)) = .ok (.string (bA (L.take 52))) (w.alloc (.cells #[.int .u8 0, .int .u8 0, .int .u8 0, .int .u8 0] 49)) :=
    BRow.str (w := w.alloc _) (t := 46) (show _ = _ from (Below.heap_alloc w _ B hlt).trans h) 64 52 (by omega)
  have HSUM : Hid (∀ w, Calls Try.prog 30 #[.string (bA (L.take 52))] w fun e w' => e = .returned (.int .u32 (n : Nat)) ∧ w = w') := Lib.hid fun w => by
    have := sum_walk (bA (L.take 52)) (by rw [bA_size, List.length_take]; unfold maxLen; omega) w
    rw [bA_list, hn] at this
    exact this
  obtain ⟨s, hs⟩ : ∃ s, bA (L.take 52) = s := ⟨_, rfl⟩
  rw [hs] at hst HSUM
  have hnl2 : (n : Int) < 4294967296 := by omega
  clear h hs hn hnl
  go_enter Try.func21, Try.ntmps21
  go_wp2_with fail
  refine (HSUM.out _).mono ?_; rintro e _ ⟨rfl, rfl⟩
  go_wp2_with fail
  refine bodyPost_ret (v := .agg #[.int .u8 ((n : Int) % 256), .int .u8 ((n : Int) / 256 % 256), .int .u8 ((n : Int) / 65536 % 256), .int .u8 ((n : Int) / 16777216)]) (by simp [results, Try.results21, go_sem]) rfl ⟨rfl, ?_⟩
  exact (Below.refl _ _).alloc (Nat.le_refl _) _
set_option maxRecDepth 100000 in
set_option maxHeartbeats 1000000 in
theorem enc_bad (n s l c : Int) (h : validI n s l c = false) (w : World) : Calls Try.prog 12 #[.agg #[.int .i64 n, .int .i64 s, .int .i64 l, .int .i64 c]] w fun e w' => e = .returned (.tuple #[.string ⟨#[]⟩, .int .i64 1]) ∧ Below w.heap.size w w' := by
  have HV := Lib.hid h
  clear h
  go_enter Try.func12, Try.ntmps12
  go_wp2_with fail
  refine (valid_walk n s l c _ HV.out _).mono ?_; rintro e w1 ⟨rfl, hb⟩
  have hbx : w1.heap[w.heap.size]? = some (.cells #[.int .i64 n, .int .i64 s, .int .i64 l, .int .i64 c] 25 (0, 0)) := (hb.block w.heap.size (by simp)).trans (heap_alloc_new _ _)
  have hlt : w.heap.size < w1.heap.size := by have := hb.size; simp at this; omega
  have HB := Lib.hid (((Below.refl _ _).alloc (Nat.le_refl _) _).trans (hb.mono (by simp) : Below w.heap.size _ _))
  clear hb
  clear hbx
  go_wp2_with fail
  go_ret2
  exact ⟨rfl, HB.out⟩
/-- the struct of a root in block b -/
def Box (w : World) (b : Nat) (n s l c : Int) : Prop := w.heap[b]? = some (.cells #[.int .i64 n, .int .i64 s, .int .i64 l, .int .i64 c] 25 (0, 0))
theorem Box.c0 {w b n s l c} (h : Box w b n s l c) : w.cell? ⟨b, 0, none⟩ = some (.int .i64 n) := by rw [cell_of_row w b 0 _ _ _ h]; rfl
theorem Box.c1 {w b n s l c} (h : Box w b n s l c) : w.cell? ⟨b, 1, none⟩ = some (.int .i64 s) := by rw [cell_of_row w b 1 _ _ _ h]; rfl
theorem Box.c2 {w b n s l c} (h : Box w b n s l c) : w.cell? ⟨b, 2, none⟩ = some (.int .i64 l) := by rw [cell_of_row w b 2 _ _ _ h]; rfl
theorem Box.c3 {w b n s l c} (h : Box w b n s l c) : w.cell? ⟨b, 3, none⟩ = some (.int .i64 c) := by rw [cell_of_row w b 3 _ _ _ h]; rfl
theorem Box.lt {w b n s l c} (h : Box w b n s l c) : b < w.heap.size := (Array.getElem?_eq_some_iff.1 h).1
theorem Box.below {w w' b n s l c} {N : Nat} (h : Box w b n s l c) (hb : Below N w w') (hN : b < N) : Box w' b n s l c := (hb.block b hN).trans h
theorem Box.alloc {w b n s l c} (h : Box w b n s l c) (o : Obj) : Box (w.alloc o) b n s l c := (Below.heap_alloc w o b h.lt).trans h
theorem BRow.below {w w' : World} {B t N : Nat} {l : List UInt8} (h : BRow w B t l) (hb : Below N w w') (hN : B < N) : BRow w' B t l := (hb.block B hN).trans h
theorem BRow.alloc {w : World} {B t : Nat} {l : List UInt8} (h : BRow w B t l) (o : Obj) : BRow (w.alloc o) B t l := (Below.heap_alloc w o B h.lt).trans h
def stL (n s l c : Nat) : Nat → List UInt8
  | 0 => beN n 8 ++ List.replicate 56 0
  | 1 => beN n 8 ++ (beN s 4 ++ List.replicate 52 0)
  | 2 => beN n 8 ++ (beN s 4 ++ (beN l 4 ++ List.replicate 48 0))
  | _ => beN n 8 ++ (beN s 4 ++ (beN l 4 ++ (beN c 4 ++ List.replicate 44 0)))
theorem stL_last (n s l c : Nat) : stL n s l c 3 = bodyL n s l c ++ List.replicate 12 0 := by
  simp [stL, bodyL]
theorem stL_length (n s l c : Nat) : (stL n s l c 3).length = 64 := by rw [stL_last]; simp [bodyL_length]
theorem stL_take (n s l c : Nat) : (stL n s l c 3).take 52 = bodyL n s l c := by
  rw [stL_last, List.take_append_of_le_length (by rw [bodyL_length]; omega), List.take_of_length_le (by rw [bodyL_length]; omega)]
theorem cells_new (w : World) (cs : List Value) (t : TypeId) (j : Nat) (v : Value) (h : cs[j]? = some v) : ((w.alloc (.cells cs.toArray t)).drew).cell? ((⟨w.heap.size, 0, none⟩ : Addr).add j) = some v := by
  have hadd : (⟨w.heap.size, 0, none⟩ : Addr).add j = ⟨w.heap.size, j, none⟩ := by unfold Addr.add; split <;> simp_all
  rw [hadd]
  exact (cell_of_row _ _ j _ _ _ (heap_alloc_new _ _)).trans (by simpa using h)
def fV (b : UInt8) : Value := .int .u8 ((b.toNat : Nat) : Int)
theorem splice_body (n s l c m : Nat) (hm : sum (bodyL n s l c) = m) : (splice ((stL n s l c 3).map fV) 52 (le4V m)).toArray = rowC (bodyL n s l c ++ (le4 m ++ List.replicate 8 0)) := by
  have h1 : m < 2 ^ 32 := by rw [← hm]; exact sum_lt _
  have h2 := le4V_row m h1
  have h3 : le4V m = (le4 m).map fV := congrArg Array.toList h2
  have h4 : ((bodyL n s l c).map fV).length = 52 := by rw [List.length_map, bodyL_length]
  have h5 : splice ((stL n s l c 3).map fV) 52 (le4V m) = (bodyL n s l c ++ (le4 m ++ List.replicate 8 0)).map fV := by
    unfold splice
    rw [h3, stL_last, List.map_append, List.map_append, List.map_append, List.take_append_of_le_length (by omega), List.take_of_length_le (by omega), List.drop_append, List.drop_of_length_le (by simp [bodyL_length]), List.nil_append]
    congr 2
  rw [h5]; rfl
set_option maxRecDepth 100000 in
set_option maxHeartbeats 4000000 in
theorem enc_ok (n s l c : Nat) (h : validI n s l c = true) (w : World) : Calls Try.prog 12 #[.agg #[.int .i64 n, .int .i64 s, .int .i64 l, .int .i64 c]] w fun e w' => e = .returned (.tuple #[.string (bA (encL n s l c)), .int .i64 0]) ∧ Below w.heap.size w w' := by
  have hb9 := validI_iff.1 h
  have hn : n < 2 ^ 63 := by omega
  have hs : s < 2 ^ 63 := by omega
  have hl : l < 2 ^ 63 := by omega
  have hc : c < 2 ^ 63 := by omega
  have HN := Lib.hid hn
  have HS := Lib.hid hs
  have HL := Lib.hid hl
  have HC := Lib.hid hc
  have HV := Lib.hid h
  have hi0 : ∀ w, (Instr.index 48 (.agg #[.int .i64 s, .int .i64 l, .int .i64 c]) (.int .i64 0)).run Try.prog w = .ok (.int .i64 s) w := fun _ => by kernel_rfl
  have hi1 : ∀ w, (Instr.index 48 (.agg #[.int .i64 s, .int .i64 l, .int .i64 c]) (.int .i64 1)).run Try.prog w = .ok (.int .i64 l) w := fun _ => by kernel_rfl
  have hi2 : ∀ w, (Instr.index 48 (.agg #[.int .i64 s, .int .i64 l, .int .i64 c]) (.int .i64 2)).run Try.prog w = .ok (.int .i64 c) w := fun _ => by kernel_rfl
  clear h hb9 hn hs hl hc
  go_enter Try.func12, Try.ntmps12
  go_wp2_with fail
  refine (valid_walk n s l c _ HV.out _).mono ?_; rintro e w1 ⟨rfl, hb⟩
  have hbx : w1.heap[w.heap.size]? = some (.cells #[.int .i64 n, .int .i64 s, .int .i64 l, .int .i64 c] 25 (0, 0)) := (hb.block w.heap.size (by simp)).trans (heap_alloc_new _ _)
  have hlt : w.heap.size < w1.heap.size := by have := hb.size; simp at this; omega
  have HB := Lib.hid (((Below.refl _ _).alloc (Nat.le_refl _) _).trans (hb.mono (by simp) : Below w.heap.size _ _))
  clear hb
  have HBX : Hid (Box w1 w.heap.size n s l c) := Lib.hid hbx
  have hc0 := HBX.out.c0
  clear hbx
  go_wp2_with fail
  obtain ⟨B, hB⟩ : ∃ B, w1.heap.size = B := ⟨_, rfl⟩
  rw [hB] at hlt ⊢
  have h0 : ∀ cs, BRow (w1.alloc (.cells (rowC cs) 46)) B 46 cs := fun cs => by rw [← hB]; exact heap_alloc_new _ _
  have h1 := h0 ([] ++ (List.replicate 8 0 ++ List.replicate 56 0))
  have HB1 := Lib.hid (HB.out.alloc (by omega : w.heap.size ≤ w1.heap.size) (.cells (rowC ([] ++ (List.replicate 8 0 ++ List.replicate 56 0))) 46))
  have HBX1 : Hid (Box (w1.alloc (.cells (rowC ([] ++ (List.replicate 8 0 ++ List.replicate 56 0))) 46)) w.heap.size n s l c) := Lib.hid (HBX.out.alloc _)
  refine (put_walk B [] (List.replicate 8 0) (List.replicate 56 0) 8 n rfl rfl HN.out (by decide) 0 rfl _ h1).mono ?_; rintro e w2 ⟨rfl, hr, hf⟩
  have HB2 := Lib.hid (HB1.out.trans (hf w.heap.size (by omega)))
  have HBX2 := Lib.hid (HBX1.out.below (hf B (Nat.le_refl _)) hlt)
  have HR2 := Lib.hid hr
  have hc1 := HBX2.out.c1
  have hc2 := HBX2.out.c2
  have hc3 := HBX2.out.c3
  clear hr hf h0 h1 hB hc0
  go_wp2_with fail
  go_loopw [24] (fun i wr => ∃ j : Nat, j ≤ 3 ∧ i = .int .i64 j ∧ BRow wr B 46 (stL n s l c j) ∧ Frm B w2 wr) (fun i _ => 3 - (intOf i).toNat)
  case atStart => exact ⟨0, by omega, rfl, HR2.out, Frm.refl _ _⟩
  case round =>
    obtain ⟨j, hj, rfl, hr, hf⟩ := hrel
    have HR := Lib.hid hr
    have HF := Lib.hid hf
    clear hr hf hc1 hc2 hc3
    rcases (by omega : j = 0 ∨ j = 1 ∨ j = 2 ∨ j = 3) with rfl | rfl | rfl | rfl
    · rw [show ((0 : Nat) : Int) = 0 from rfl]
      go_wp2_with fail
      refine (put_walk B (beN n 8) (List.replicate 4 0) (List.replicate 52 0) 4 s rfl (by simp [beN_length]) HS.out (by decide) _ (by simp [beN_length]) _ (by exact HR.out)).mono ?_; rintro e w3 ⟨rfl, hr, hf⟩
      have HR3 := Lib.hid hr
      have HF3 := Lib.hid (HF.out.trans hf)
      clear hr hf
      go_wp2_with fail
      go_roundw
      case rel => exact ⟨1, by omega, by go_num, HR3.out, HF3.out⟩
      case measure => simp [intOf]
    · rw [show ((1 : Nat) : Int) = 1 from rfl]
      go_wp2_with fail
      refine (put_walk B (beN n 8 ++ beN s 4) (List.replicate 4 0) (List.replicate 48 0) 4 l rfl (by simp [beN_length]) HL.out (by decide) _ (by simp [beN_length]) _ (by rw [List.append_assoc]; exact HR.out)).mono ?_; rintro e w3 ⟨rfl, hr, hf⟩
      rw [List.append_assoc] at hr
      have HR3 := Lib.hid hr
      have HF3 := Lib.hid (HF.out.trans hf)
      clear hr hf
      go_wp2_with fail
      go_roundw
      case rel => exact ⟨2, by omega, by go_num, HR3.out, HF3.out⟩
      case measure => simp [intOf]
    · rw [show ((2 : Nat) : Int) = 2 from rfl]
      go_wp2_with fail
      refine (put_walk B (beN n 8 ++ (beN s 4 ++ beN l 4)) (List.replicate 4 0) (List.replicate 44 0) 4 c rfl (by simp [beN_length]) HC.out (by decide) _ (by simp [beN_length]) _ (by rw [List.append_assoc, List.append_assoc]; exact HR.out)).mono ?_; rintro e w3 ⟨rfl, hr, hf⟩
      rw [List.append_assoc, List.append_assoc] at hr
      have HR3 := Lib.hid hr
      have HF3 := Lib.hid (HF.out.trans hf)
      clear hr hf
      go_wp2_with fail
      go_roundw
      case rel => exact ⟨3, by omega, by go_num, HR3.out, HF3.out⟩
      case measure => simp [intOf]
    · rw [show ((3 : Nat) : Int) = 3 from rfl]
      obtain ⟨m, hm⟩ : ∃ m, sum (bodyL n s l c) = m := ⟨_, rfl⟩
      have HM := Lib.hid hm
      go_wp2_with fail
      refine (sum4_walk B (stL n s l c 3) (stL_length n s l c) m (by rw [stL_take]; exact HM.out) _ (by exact HR.out)).mono ?_; rintro e w4 ⟨rfl, hb⟩
      have HB4 := Lib.hid (step_b (HB2.out.trans (HF.out w.heap.size (by omega))) hb)
      have HF4 : Hid (Below B w2 w4) := Lib.hid ((HF.out B (Nat.le_refl _)).trans (hb.mono (Nat.le_of_lt HR.out.lt)))
      have HR4 := Lib.hid (HR.out.below hb HR.out.lt)
      have hlt4 : B < w4.heap.size := Nat.lt_of_lt_of_le HR.out.lt hb.size
      clear hb hm
      go_wp2_with fail
      have HX : Hid (∀ X, Below B w2 (w4.alloc X).drew) := Lib.hid fun X => (HF4.out.alloc (Nat.le_of_lt hlt4) X).drew
      have HY : Hid (∀ X, BRow (w4.alloc X).drew B 46 (stL n s l c 3)) := Lib.hid fun X => HR4.out.alloc X
      have HZ := Lib.hid (cells_new w4 (le4V m) 49)
      go_region_law ((refine step_copy_splice rfl (.tmp 35) (.tmp 36) 37 37 rfl 5 Try.underlying37 (by kernel_rfl) (some ⟨B, 52, none⟩) (some ⟨w4.heap.size, 0, none⟩) 12 12 4 4 (by simp [Act.eval, Act.put]) (by simp [Act.eval, Act.put]) B 52 ((stL n s l c 3).map fV) 46 (by exact HY.out _) (le4V m) (by rfl) (fun _ => ⟨rfl, _, rfl, by exact HZ.out⟩) (by simp [stL_length, le4V]) (by simp [le4V, Value.oneCell']) B w2 (by exact HX.out _) (Nat.le_refl _) ?_; intro w5 hg5 hb5))
      have HR5 : Hid (BRow w5 B 46 ((bodyL n s l c ++ le4 m) ++ (List.replicate 8 0 ++ []))) := Lib.hid (by
        have := hg5.out
        rw [splice_body n s l c m HM.out] at this
        rw [List.append_nil, List.append_assoc]; exact this)
      have HB5 := Lib.hid (HB2.out.trans (hb5.mono (by omega) : Below w.heap.size _ _))
      have HBX5 := Lib.hid (HBX2.out.below hb5 hlt)
      have hc0 := HBX5.out.c0
      clear hg5 hb5 HX HY HZ
      go_wp2_with fail
      refine (put_walk B (bodyL n s l c ++ le4 m) (List.replicate 8 0) [] 8 n rfl (by simp [bodyL_length, le4_length]) HN.out (by decide) _ (by simp [bodyL_length, le4_length]) _ (by exact HR5.out)).mono ?_; rintro e w6 ⟨rfl, hr, hf⟩
      have hr6 : BRow w6 B 46 (encL n s l c) := by
        rw [List.append_nil, List.append_assoc, ← HM.out] at hr; exact hr
      have hcv := hr6.str 64 64 (by rw [encL_length]; exact Nat.le_refl _)
      rw [List.take_of_length_le (by rw [encL_length]; exact Nat.le_refl _)] at hcv
      have HB6 := Lib.hid (HB5.out.trans (hf w.heap.size (by omega)))
      obtain ⟨x, hx⟩ : ∃ x, bA (encL n s l c) = x := ⟨_, rfl⟩
      rw [hx] at hcv
      have HXX := Lib.hid hx
      clear hr hf hr6 hc0 hx
      go_wp2_with fail
      go_ret2
      exact ⟨by have e := HXX.out; subst e; rfl, HB6.out⟩
end Go.Proofs.Ytonkamdipalbpaa
