/- A part of the proofs of TopCounter and TopStrict: what the functions of the program do, each walked once, and plain laws about it. No condition. -/
import Derived.Test.YtlmjefjimoghcaaGreatA11
namespace Go.Proofs.YtlmjefjimoghcaaGreat
set_option linter.unusedSimpArgs false
set_option linter.unnecessarySimpa false
set_option linter.unusedVariables false
open Go.RowKit
attribute [local go_sem ↓] Go.wp_at_zero Go.wp_at_succ
theorem okC_cases {c : UInt8} (h : okC c = true) : c = 48 ∨ c = 49 ∨ c = 120 ∨ c = 122 := by
 unfold okC at h
 simp only [Bool.or_eq_true, beq_iff_eq] at h
 rcases h with ((h | h) | h) | h <;> simp [h]
theorem codeN_code {c : UInt8} (h : okC c = true) : L.code c.toNat = (codeN c : Int) ∧ codeN c ≤ 3 := by
 rcases okC_cases h with rfl | rfl | rfl | rfl <;> decide
theorem code_okw (c : UInt8) (h : okC c = true) (w : World) : Calls Tryz.prog 120 #[.int .u8 (c.toNat : Int)] w fun e w' => e = .returned (.int .i64 (codeN c : Int)) ∧ w = w' := by
 rw [← (codeN_code h).1]
 exact L.code_walk _ c.toNat_lt w
theorem charN_w (n : Nat) (h : n ≤ 3) (w : World) : Calls Tryz.prog 147 #[.int .i64 (n : Int)] w fun e w' => e = .returned (.tuple #[.int .u8 ((charN n).toNat : Int), .bool true]) ∧ w = w' := by
 have := L.char_walk (n : Int) w
 rcases (by omega : n = 0 ∨ n = 1 ∨ n = 2 ∨ n = 3) with rfl | rfl | rfl | rfl <;> exact this
theorem mixC_ok {a b : UInt8} (ha : okC a = true) (hb : okC b = true) : bits .xor .i64 (codeN a : Int) (codeN b : Int) = ((codeN a ^^^ codeN b : Nat) : Int) ∧ codeN a ^^^ codeN b ≤ 3 ∧ okC (mixC a b) = true := by
 rcases okC_cases ha with rfl | rfl | rfl | rfl <;> rcases okC_cases hb with rfl | rfl | rfl | rfl <;> exact ⟨by decide, by decide, by decide⟩
theorem make_bytes (n : Nat) (hn : n ≤ 1024) (w : World) : ∃ W, (Instr.makeSlice 70 (.int .i64 (n : Int)) (.int .i64 (n : Int))).run Tryz.prog w = .ok (.slice (some ⟨w.heap.size, 0, none⟩) n n) W ∧ V.BRow W w.heap.size (List.replicate n 0) ∧ Below w.heap.size w W ∧ W.heap.size = w.heap.size + 1 :=
 ⟨_, V.make_bytes n hn w, V.BRow.zeros w n, (Below.refl _ _).alloc (Nat.le_refl _) _, by rw [World.size_alloc]⟩
theorem zip_snoc {f : UInt8 → UInt8 → UInt8} {a b : List UInt8} {k : Nat} (ha : k < a.length) (hb : k < b.length) (m : Nat) : (List.zipWith f (a.take k) (b.take k) ++ List.replicate (m + 1) 0).set k (f (a.getD k 0) (b.getD k 0)) = List.zipWith f (a.take (k + 1)) (b.take (k + 1)) ++ List.replicate m 0 := by
 have h1 : (List.zipWith f (a.take k) (b.take k)).length = k := by simp; omega
 rw [List.set_append_right _ _ (Nat.le_of_eq h1), h1, Nat.sub_self, List.replicate_succ, List.set_cons_zero, List.take_succ_eq_append_getElem ha, List.take_succ_eq_append_getElem hb, List.zipWith_append (by simp; omega)]
 simp [List.getD, ha, hb]
set_option maxRecDepth 100000 in
theorem mix_walk (a b : List UInt8) (ha : isV a = true) (hb : isV b = true) (hab : a.length = b.length) (w : World) : Calls Tryz.prog 150 #[.string (sB a), .string (sB b)] w fun e w' => e = .returned (.tuple #[.string (sB (List.zipWith mixC a b)), .int .i64 0]) ∧ Below w.heap.size w w' := by
 obtain ⟨_, h128, hoa⟩ := isV_parts ha
 obtain ⟨_, _, hob⟩ := isV_parts hb
 have HIa := Lib.hid (is_walk a (by unfold maxLen; omega) true ha)
 have HIb := Lib.hid (is_walk b (by unfold maxLen; omega) true hb)
 have sza := sB_size a
 have szb := sB_size b
 rw [← hab] at szb
 have HA := Lib.hid hoa
 have HB := Lib.hid hob
 have HL := Lib.hid hab
 have hl : (a.length : Int) ≤ 128 := by omega
 clear ha hb hab hoa hob
 go_enter Tryz.func150, Tryz.ntmps150
 go_wp2_with fail
 refine (HIa.out _).mono ?_
 rintro x w0 ⟨rfl, hb0⟩
 have HB0 := Lib.hid hb0
 clear hb0
 go_wp2_with fail
 refine (HIb.out _).mono ?_
 rintro x w1 ⟨rfl, hb1⟩
 have HB1 := Lib.hid (bstep HB0.out (Nat.le_refl _) hb1)
 clear hb1
 obtain ⟨W, hrun, hrow, hbel, hsz⟩ := make_bytes a.length (by omega) w1
 have HR := Lib.hid hrow
 have HBW := Lib.hid (bstep HB1.out (Nat.le_refl _) hbel)
 have HBs : Hid (w.heap.size ≤ w1.heap.size) := Lib.hid HB1.out.size
 clear hrow hbel hsz
 go_wp2_with fail
 clear hrun
 go_loopw [26] (fun i wr => ∃ k : Nat, i = .int .i64 (k : Int) ∧ k ≤ a.length ∧ V.BRow wr w1.heap.size (List.zipWith mixC (a.take k) (b.take k) ++ List.replicate (a.length - k) 0) ∧ Below w.heap.size w wr) (fun i _ => ((a.length : Int) - intOf i).toNat)
 case atStart => exact ⟨0, rfl, Nat.zero_le _, HR.out, HBW.out⟩
 case round =>
  obtain ⟨k, rfl, hk, hr, hb⟩ := hrel
  have HBl := Lib.hid hb
  have hlen : (List.zipWith mixC (a.take k) (b.take k) ++ List.replicate (a.length - k) 0).length = a.length := by have := HL.out; simp; omega
  by_cases hlt : k < a.length
  ·have hki : (k : Int) < a.length := by omega
   have hkb : k < b.length := by rw [← HL.out]; exact hlt
   obtain ⟨x, hx⟩ : ∃ x, a.getD k 0 = x := ⟨_, rfl⟩
   obtain ⟨y, hy⟩ : ∃ y, b.getD k 0 = y := ⟨_, rfl⟩
   have hxo : okC x = true := by rw [← hx, List.getD_eq_getElem?_getD, List.getElem?_eq_getElem hlt]; exact List.all_eq_true.1 HA.out _ (List.getElem_mem hlt)
   have hyo : okC y = true := by rw [← hy, List.getD_eq_getElem?_getD, List.getElem?_eq_getElem hkb]; exact List.all_eq_true.1 HB.out _ (List.getElem_mem hkb)
   have GA : Hid (∀ h, (sB a)[k]'h = x) := Lib.hid (fun h => by
    rw [← hx, List.getD_eq_getElem?_getD, List.getElem?_eq_getElem hlt]; rfl)
   have GB : Hid (∀ h, (sB b)[k]'h = y) := Lib.hid (fun h => by
    rw [← hy, List.getD_eq_getElem?_getD, List.getElem?_eq_getElem hkb]; rfl)
   obtain ⟨m1, m2, m3⟩ := mixC_ok hxo hyo
   have HCa := Lib.hid (code_okw x hxo)
   have HCb := Lib.hid (code_okw y hyo)
   have HCm := Lib.hid (charN_w _ m2)
   have HXo := Lib.hid m1
   have c0 := hr.drew.cell k (by rw [hlen]; exact hlt)
   have f0 := hr.drew.frozen k (by rw [hlen]; exact hlt)
   have hset := hr.drew.set_ k (by rw [hlen]; exact hlt) (mixC x y) _ rfl
   have hz : a.length - k = (a.length - (k + 1)) + 1 := by omega
   rw [← hx, ← hy, hz, zip_snoc hlt hkb, hx, hy] at hset
   have HS : Hid (V.BRow ((wr.drew).setCell ⟨w1.heap.size, k, none⟩ (.int .u8 ((charN (codeN x ^^^ codeN y)).toNat : Int))) w1.heap.size (List.zipWith mixC (a.take (k + 1)) (b.take (k + 1)) ++ List.replicate (a.length - (k + 1)) 0)) := Lib.hid hset
   clear hr hb hset hlen hx hy hxo hyo hz hkb m1 m2 m3
   go_upto_region 9 with (fail)
   refine wp_region_noPanic ?_
   refine wp_region_D 17 (fun _ => True) (by kernel_rfl) trivial (fun hU => ?_)
   have hC : (fun _ : World => True) wr.drew := trivial
   clear hU
   refine tk 0 30 16 rfl rfl (.inr hC) ?_
   simp only [Act.put, zA, zB, zC]
   refine tk 1 31 15 rfl rfl (.inr hC) ?_
   simp only [Act.put, zA, zB, zC]
   refine tk 2 32 14 rfl rfl (.inr hC) ?_
   simp only [Act.put, zA, zB, zC]
   refine tk 3 33 13 rfl rfl (.inr hC) ?_
   simp only [Act.put, zA, zB, zC]
   refine tk 6 36 12 rfl rfl (.inr hC) ?_
   simp only [Act.put, zA, zB, zC]
   refine tk 7 37 11 rfl rfl (.inr hC) ?_
   simp only [Act.put, zA, zB, zC]
   refine ry 10 [4, 8] ?_
   refine rn rfl (fun K hK => ?_) ?_
   ·go_simp
    refine shut_C hK ?_ (fun hC => ?_)
    ·trivial
    clear hK K
    try simp only [Act.put, zA, zB, zC]
    refine ry 9 [5, 8] ?_
    refine rn rfl (fun K hK => ?_) ?_
    ·go_simp
     go_at_call 120
     simp only [GA.out]
     with_reducible refine (HCa.out _).mono ?_
     rintro x _ ⟨rfl, rfl⟩
     go_wp2_with fail
     refine shut_C hK ?_ (fun hC => ?_)
     ·trivial
     clear hK K
     try simp only [Act.put, zA, zB, zC]
     refine ry 8 [8] ?_
     refine rn rfl (fun K hK => ?_) ?_
     ·go_simp
      refine shut_C hK ?_ (fun hC => ?_)
      ·trivial
      clear hK K
      try simp only [Act.put, zA, zB, zC]
      refine ry 7 [9] ?_
      refine rn rfl (fun K hK => ?_) ?_
      ·go_simp
       go_at_call 120
       simp only [GB.out]
       with_reducible refine (HCb.out _).mono ?_
       rintro x _ ⟨rfl, rfl⟩
       go_wp2_with fail
       refine shut_C hK ?_ (fun hC => ?_)
       ·trivial
       clear hK K
       try simp only [Act.put, zA, zB, zC]
       refine tk 10 40 6 rfl rfl (.inr hC) ?_
       simp only [Act.put, zA, zB, zC]
       refine ry 5 [11] ?_
       refine rn rfl (fun K hK => ?_) ?_
       ·go_simp
        go_at_call 147
        simp only [HXo.out]
        with_reducible refine (HCm.out _).mono ?_
        rintro x _ ⟨rfl, rfl⟩
        go_wp2_with fail
        refine shut_C hK ?_ (fun hC => ?_)
        ·trivial
        clear hK K
        try simp only [Act.put, zA, zB, zC]
        refine tk 12 29 4 rfl rfl (.inr hC) ?_
        simp only [Act.put, zA, zB, zC]
        refine tk 13 42 3 rfl rfl (.inr hC) ?_
        simp only [Act.put, zA, zB, zC]
        refine tk 14 43 2 rfl rfl (.inr hC) ?_
        simp only [Act.put, zA, zB, zC]
        refine tk 15 44 1 rfl rfl (.inr hC) ?_
        simp only [Act.put, zA, zB, zC]
        refine ry 0 [16] ?_
        refine rn rfl (fun K hK => ?_) ?_
        ·go_simp
         refine shut_C hK ?_ (fun hC => ?_)
         ·trivial
         clear hK K
         try simp only [Act.put, zA, zB, zC]
         refine wpAnyD_done (by kernel_rfl) ?_ _
         refine NoPanic.normal ?_
         go_wp2_with fail
         go_roundw
         case rel => exact ⟨k + 1, by go_num, by omega, HS.out, (HBl.out.drew).setCell (p := ⟨w1.heap.size, k, none⟩) HBs.out _⟩
         case measure => simp [intOf]; omega
        exact rz
       exact rz
      exact rz
     exact rz
    refine rn rfl (fun K hK => ?_) ?_
    ·go_simp
     refine shut_C hK ?_ (fun hC => ?_)
     ·trivial
     clear hK K
     try simp only [Act.put, zA, zB, zC]
     refine ry 8 [5] ?_
     refine rn rfl (fun K hK => ?_) ?_
     ·go_simp
      go_at_call 120
      simp only [GA.out]
      with_reducible refine (HCa.out _).mono ?_
      rintro x _ ⟨rfl, rfl⟩
      go_wp2_with fail
      refine shut_C hK ?_ (fun hC => ?_)
      ·trivial
      clear hK K
      try simp only [Act.put, zA, zB, zC]
      refine ry 7 [9] ?_
      refine rn rfl (fun K hK => ?_) ?_
      ·go_simp
       go_at_call 120
       simp only [GB.out]
       with_reducible refine (HCb.out _).mono ?_
       rintro x _ ⟨rfl, rfl⟩
       go_wp2_with fail
       refine shut_C hK ?_ (fun hC => ?_)
       ·trivial
       clear hK K
       try simp only [Act.put, zA, zB, zC]
       refine tk 10 40 6 rfl rfl (.inr hC) ?_
       simp only [Act.put, zA, zB, zC]
       refine ry 5 [11] ?_
       refine rn rfl (fun K hK => ?_) ?_
       ·go_simp
        go_at_call 147
        simp only [HXo.out]
        with_reducible refine (HCm.out _).mono ?_
        rintro x _ ⟨rfl, rfl⟩
        go_wp2_with fail
        refine shut_C hK ?_ (fun hC => ?_)
        ·trivial
        clear hK K
        try simp only [Act.put, zA, zB, zC]
        refine tk 12 29 4 rfl rfl (.inr hC) ?_
        simp only [Act.put, zA, zB, zC]
        refine tk 13 42 3 rfl rfl (.inr hC) ?_
        simp only [Act.put, zA, zB, zC]
        refine tk 14 43 2 rfl rfl (.inr hC) ?_
        simp only [Act.put, zA, zB, zC]
        refine tk 15 44 1 rfl rfl (.inr hC) ?_
        simp only [Act.put, zA, zB, zC]
        refine ry 0 [16] ?_
        refine rn rfl (fun K hK => ?_) ?_
        ·go_simp
         refine shut_C hK ?_ (fun hC => ?_)
         ·trivial
         clear hK K
         try simp only [Act.put, zA, zB, zC]
         refine wpAnyD_done (by kernel_rfl) ?_ _
         refine NoPanic.normal ?_
         go_wp2_with fail
         go_roundw
         case rel => exact ⟨k + 1, by go_num, by omega, HS.out, (HBl.out.drew).setCell (p := ⟨w1.heap.size, k, none⟩) HBs.out _⟩
         case measure => simp [intOf]; omega
        exact rz
       exact rz
      exact rz
     exact rz
    exact rz
   refine rn rfl (fun K hK => ?_) ?_
   ·go_simp
    refine shut_C hK ?_ (fun hC => ?_)
    ·trivial
    clear hK K
    try simp only [Act.put, zA, zB, zC]
    refine ry 9 [4] ?_
    refine rn rfl (fun K hK => ?_) ?_
    ·go_simp
     refine shut_C hK ?_ (fun hC => ?_)
     ·trivial
     clear hK K
     try simp only [Act.put, zA, zB, zC]
     refine ry 8 [5] ?_
     refine rn rfl (fun K hK => ?_) ?_
     ·go_simp
      go_at_call 120
      simp only [GA.out]
      with_reducible refine (HCa.out _).mono ?_
      rintro x _ ⟨rfl, rfl⟩
      go_wp2_with fail
      refine shut_C hK ?_ (fun hC => ?_)
      ·trivial
      clear hK K
      try simp only [Act.put, zA, zB, zC]
      refine ry 7 [9] ?_
      refine rn rfl (fun K hK => ?_) ?_
      ·go_simp
       go_at_call 120
       simp only [GB.out]
       with_reducible refine (HCb.out _).mono ?_
       rintro x _ ⟨rfl, rfl⟩
       go_wp2_with fail
       refine shut_C hK ?_ (fun hC => ?_)
       ·trivial
       clear hK K
       try simp only [Act.put, zA, zB, zC]
       refine tk 10 40 6 rfl rfl (.inr hC) ?_
       simp only [Act.put, zA, zB, zC]
       refine ry 5 [11] ?_
       refine rn rfl (fun K hK => ?_) ?_
       ·go_simp
        go_at_call 147
        simp only [HXo.out]
        with_reducible refine (HCm.out _).mono ?_
        rintro x _ ⟨rfl, rfl⟩
        go_wp2_with fail
        refine shut_C hK ?_ (fun hC => ?_)
        ·trivial
        clear hK K
        try simp only [Act.put, zA, zB, zC]
        refine tk 12 29 4 rfl rfl (.inr hC) ?_
        simp only [Act.put, zA, zB, zC]
        refine tk 13 42 3 rfl rfl (.inr hC) ?_
        simp only [Act.put, zA, zB, zC]
        refine tk 14 43 2 rfl rfl (.inr hC) ?_
        simp only [Act.put, zA, zB, zC]
        refine tk 15 44 1 rfl rfl (.inr hC) ?_
        simp only [Act.put, zA, zB, zC]
        refine ry 0 [16] ?_
        refine rn rfl (fun K hK => ?_) ?_
        ·go_simp
         refine shut_C hK ?_ (fun hC => ?_)
         ·trivial
         clear hK K
         try simp only [Act.put, zA, zB, zC]
         refine wpAnyD_done (by kernel_rfl) ?_ _
         refine NoPanic.normal ?_
         go_wp2_with fail
         go_roundw
         case rel => exact ⟨k + 1, by go_num, by omega, HS.out, (HBl.out.drew).setCell (p := ⟨w1.heap.size, k, none⟩) HBs.out _⟩
         case measure => simp [intOf]; omega
        exact rz
       exact rz
      exact rz
     exact rz
    exact rz
   exact rz
  ·obtain rfl : k = a.length := by omega
   have hstr := hr.str a.length a.length hlen.symm
   rw [List.take_length, show b.take a.length = b by rw [HL.out]; exact List.take_length, Nat.sub_self, List.replicate_zero, List.append_nil] at hstr
   clear hr hb hlen
   go_wp2_with fail
   go_ret2
   exact ⟨rfl, HBl.out⟩
theorem repeatL_one (c : UInt8) (n : Nat) : Lib.repeatL [c] n = List.replicate n c := by
 induction n with
 | zero => rfl
 | succ n ih => simp [Lib.repeatL, ih, List.replicate_succ] <;> rfl
theorem repeat_walk (c : UInt8) (n : Nat) (hn : n ≤ 1000) (w : World) : Calls Tryz.prog 173 #[.string (sB [c]), .int .i64 (n : Int)] w fun e w' => e = .returned (.string (sB (List.replicate n c))) ∧ Below w.heap.size w w' := by
 have := Tryz.strings_Repeat (sB [c]) n w (by omega) (by rw [sB_size]; simp; omega)
 rw [sB_data, repeatL_one] at this
 exact this
theorem conv_one (w : World) (c : UInt8) : (convert 70 9 (.slice (some ⟨w.heap.size, 0, none⟩) 1 1)).run Tryz.prog (w.alloc (.cells #[.int .u8 (c.toNat : Int)] 5)) = .ok (.string (sB [c])) (w.alloc (.cells #[.int .u8 (c.toNat : Int)] 5)) :=
 CRow.str (w := w.alloc (.cells #[.int .u8 (c.toNat : Int)] 5)) (B := w.heap.size) (t := 5) (l := [c]) (heap_alloc_new _ _) 1 1 (Nat.le_refl _)
set_option maxRecDepth 100000 in
theorem all_walk (n : Nat) (h1 : 1 ≤ n) (h128 : n ≤ 128) (w : World) : Calls Tryz.prog 149 #[.int .i64 (n : Int), .int .u8 48] w fun e w' => e = .returned (.string (sB (List.replicate n 48))) ∧ Below w.heap.size w w' := by
 have HR := Lib.hid (repeat_walk 48 n (by omega))
 have HV : Hid (∀ w : World, Calls Tryz.prog 172 #[.int .u8 48] w fun e w' => e = .returned (.bool true) ∧ w = w') := Lib.hid (fun w => L.valid_walk 48 (by decide) w)
 have h1i : (1 : Int) ≤ n := by omega
 have h2i : (n : Int) ≤ 128 := by omega
 clear h1 h128
 go_enter Tryz.func149, Tryz.ntmps149
 go_wp2_with fail
 refine (HV.out _).mono ?_
 rintro x _ ⟨rfl, rfl⟩
 have hcv : (convert 70 9 (.slice (some ⟨w.heap.size, 0, none⟩) 1 1)).run Tryz.prog (w.alloc (.cells #[.int .u8 48] 5)) = .ok (.string (sB [48])) (w.alloc (.cells #[.int .u8 48] 5)) := conv_one w 48
 go_wp2_with fail
 refine (HR.out _).mono ?_
 rintro x w2 ⟨rfl, hb2⟩
 have HB2 := Lib.hid (bstep ((Below.refl w.heap.size w).alloc (Nat.le_refl _) _) (Nat.le_refl _) hb2)
 clear hb2 hcv
 go_wp2_with fail
 go_ret
 exact ⟨rfl, HB2.out⟩
set_option maxRecDepth 100000 in
theorem ext_walk (n : Nat) (h1 : 1 ≤ n) (h128 : n ≤ 128) (d : List UInt8) (hd : d.length ≤ maxLen) (w : World) : Calls Tryz.prog 171 #[.int .i64 (n : Int), .string (sB d)] w fun e w' => e = .returned (.tuple #[.string (sB (extV n d).1), .int .i64 (extV n d).2]) ∧ Below w.heap.size w w' := by
 have h1i : (1 : Int) ≤ n := by omega
 have h2i : (n : Int) ≤ 128 := by omega
 have hsz := sB_size d
 have ht := sB_toList d
 obtain ⟨n0, h0⟩ : ∃ n, L.cnt d 0 = n := ⟨_, rfl⟩
 obtain ⟨n1, h1'⟩ : ∃ n, L.cnt d 1 = n := ⟨_, rfl⟩
 obtain ⟨n2, h2⟩ : ∃ n, L.cnt d 2 = n := ⟨_, rfl⟩
 obtain ⟨n3, h3⟩ : ∃ n, L.cnt d 3 = n := ⟨_, rfl⟩
 have hle := cnt_le4 d
 have hal := cnt_all d
 rw [h0, h1', h2, h3] at hle hal
 have HC := Lib.hid (count_at d hd n0 n1 n2 n3 ⟨h0, h1', h2, h3⟩)
 unfold maxLen at hd
 have hdi : (d.length : Int) ≤ 9223372036854775807 := by omega
 have hlei : (n0 : Int) + n1 + n2 + n3 ≤ d.length := by omega
 clear h0 h1' h2 h3 hd hle
 have hw0 : ¬ ((n : Int) < 1 ∨ 128 < (n : Int)) := by omega
 by_cases hne : d = []
 ·have HX : Hid (extV n d = ([], 3)) := Lib.hid (by unfold extV; rw [if_neg hw0, hne]; rfl)
  have hte : (sB d).toList = [] := by rw [ht, hne]
  have hz : sB d = ⟨#[]⟩ := by rw [hne]; rfl
  rw [hz] at HC ⊢
  clear hsz ht hne hal hte hz hw0
  go_enter Tryz.func171, Tryz.ntmps171
  go_wp2_with fail
  refine (HC.out _).mono ?_
  rintro x w1 ⟨rfl, hb1⟩
  have HB1 := Lib.hid (alloc_fresh hb1 (Nat.le_refl _) (.cells #[.int .i64 (n0 : Int), .int .i64 (n1 : Int), .int .i64 (n2 : Int), .int .i64 (n3 : Int)] 60))
  clear hb1
  go_wp2_with fail
  go_ret2
  rw [HX.out]
  exact ⟨rfl, HB1.out⟩
 ·have hie : d.isEmpty = false := by cases d with | nil => exact absurd rfl hne | cons => rfl
  cases hok : d.all okC with
  | false =>
   have HX : Hid (extV n d = ([], 3)) := Lib.hid (by unfold extV; rw [if_neg hw0, hok, hie]; rfl)
   have hnn : n0 + n1 + n2 + n3 ≠ d.length := fun e => by rw [hal, hok] at e; cases e
   have hnb : ((n0 : Int) + n1 + n2 + n3 != d.length) = true := by simp [bne]; omega
   clear hal hok hnn hw0
   go_enter Tryz.func171, Tryz.ntmps171
   go_wp2_with fail
   refine (HC.out _).mono ?_
   rintro x w1 ⟨rfl, hb1⟩
   have HB1 := Lib.hid (alloc_fresh hb1 (Nat.le_refl _) (.cells #[.int .i64 (n0 : Int), .int .i64 (n1 : Int), .int .i64 (n2 : Int), .int .i64 (n3 : Int)] 60))
   clear hb1
   go_wp2_with fail
   go_ret2
   rw [HX.out]
   exact ⟨rfl, HB1.out⟩
  | true =>
   have hnn : n0 + n1 + n2 + n3 = d.length := by rw [hal]; exact hok
   have hnb : ((n0 : Int) + n1 + n2 + n3 != d.length) = false := by simp [bne]; omega
   by_cases hlw : (n : Int) < d.length
   ·have HX : Hid (extV n d = ([], 8)) := Lib.hid (by unfold extV; rw [if_neg hw0, hok, hie, if_pos hlw]; rfl)
    clear hal hok hnn hw0
    go_enter Tryz.func171, Tryz.ntmps171
    go_wp2_with fail
    refine (HC.out _).mono ?_
    rintro x w1 ⟨rfl, hb1⟩
    have HB1 := Lib.hid (alloc_fresh hb1 (Nat.le_refl _) (.cells #[.int .i64 (n0 : Int), .int .i64 (n1 : Int), .int .i64 (n2 : Int), .int .i64 (n3 : Int)] 60))
    clear hb1
    go_wp2_with fail
    go_ret2
    rw [HX.out]
    exact ⟨rfl, HB1.out⟩
   ·obtain ⟨c, hc⟩ : ∃ c, d.getD 0 0 = c := ⟨_, rfl⟩
    obtain ⟨m, hm⟩ : ∃ m, n - d.length = m := ⟨_, rfl⟩
    have hmi : (n : Int) - (d.length : Int) = (m : Int) := by omega
    have HX : Hid (extV n d = (List.replicate m (extC c) ++ d, 0)) := Lib.hid (by unfold extV; rw [if_neg hw0, hok, hie, if_neg hlw, hc, Int.toNat_natCast, hm]; rfl)
    have hdl : 0 < d.length := by cases d with | nil => exact absurd rfl hne | cons => simp
    have G0 : ∀ h, (sB d)[0]'h = c := fun h => by
     rw [← hc, List.getD_eq_getElem?_getD, List.getElem?_eq_getElem hdl]; rfl
    have HRp := Lib.hid (repeat_walk (extC c) m (by omega))
    have HMi := Lib.hid hmi
    have hm128 : m ≤ 128 := by omega
    have hq : ((c.toNat : Int) == 49) = (c == 49) := beq_u8 (y := 49)
    have hlw' : (d.length : Int) ≤ n := by omega
    clear hal hok hnn hw0 hmi hm hc
    cases h49 : (c == 49) with
    | true =>
     have he : extC c = 48 := by unfold extC; rw [h49]; rfl
     rw [h49] at hq
     rw [he] at HX HRp
     clear he h49
     go_enter Tryz.func171, Tryz.ntmps171
     go_wp2_with fail
     refine (HC.out _).mono ?_
     rintro x w1 ⟨rfl, hb1⟩
     have HB1 := Lib.hid (alloc_fresh hb1 (Nat.le_refl _) (.cells #[.int .i64 (n0 : Int), .int .i64 (n1 : Int), .int .i64 (n2 : Int), .int .i64 (n3 : Int)] 60))
     clear hb1
     have hcv := conv_one (w1.alloc (.cells #[.int .i64 (n0 : Int), .int .i64 (n1 : Int), .int .i64 (n2 : Int), .int .i64 (n3 : Int)] 60)) 48
     rw [World.size_alloc] at hcv
     have hz : (((48 : UInt8)).toNat : Int) = 48 := rfl
     rw [hz] at hcv
     clear hz
     have z1 : (sB (List.replicate m 48)).size ≤ 128 := by rw [sB_size, List.length_replicate]; omega
     have z2 : d.length ≤ 128 := by omega
     go_wp2_with fail
     rw [HMi.out]
     refine (HRp.out _).mono ?_
     rintro x w2 ⟨rfl, hb2⟩
     have HB2 := Lib.hid (bstep (alloc_fresh HB1.out (Nat.le_refl _) _) (Nat.le_refl _) hb2)
     clear hb2 hcv
     go_wp2_with fail
     go_ret2
     rw [HX.out, sB_app]
     exact ⟨rfl, HB2.out⟩
    | false =>
     have he : extC c = c := by unfold extC; rw [h49]; rfl
     rw [h49] at hq
     rw [he] at HX HRp
     clear he h49
     go_enter Tryz.func171, Tryz.ntmps171
     go_wp2_with fail
     refine (HC.out _).mono ?_
     rintro x w1 ⟨rfl, hb1⟩
     have HB1 := Lib.hid (alloc_fresh hb1 (Nat.le_refl _) (.cells #[.int .i64 (n0 : Int), .int .i64 (n1 : Int), .int .i64 (n2 : Int), .int .i64 (n3 : Int)] 60))
     clear hb1
     have hcv := conv_one (w1.alloc (.cells #[.int .i64 (n0 : Int), .int .i64 (n1 : Int), .int .i64 (n2 : Int), .int .i64 (n3 : Int)] 60)) c
     rw [World.size_alloc] at hcv
     have hz : (((c : UInt8)).toNat : Int) = (c.toNat : Int) := rfl
     rw [hz] at hcv
     clear hz
     have z1 : (sB (List.replicate m c)).size ≤ 128 := by rw [sB_size, List.length_replicate]; omega
     have z2 : d.length ≤ 128 := by omega
     go_wp2_with fail
     rw [HMi.out]
     refine (HRp.out _).mono ?_
     rintro x w2 ⟨rfl, hb2⟩
     have HB2 := Lib.hid (bstep (alloc_fresh HB1.out (Nat.le_refl _) _) (Nat.le_refl _) hb2)
     clear hb2 hcv
     go_wp2_with fail
     go_ret2
     rw [HX.out, sB_app]
     exact ⟨rfl, HB2.out⟩
end Go.Proofs.YtlmjefjimoghcaaGreat
