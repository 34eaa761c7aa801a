import Derived.Test.YtglchdcpkjabaaaWm
namespace Go.Proofs.Ytglchdcpkjabaaa
open Go.RowKit

theorem burst_byte (v : UInt8) (c k : Nat) : bits .xor .u8 (v.toNat : Int) ((c : Int) / 2 ^ (8 * k) % 256) = ((v ^^^ UInt8.ofNat (c / 2 ^ (8 * k))).toNat : Int) := by
  have hv := v.toNat_lt
  have e : (c : Int) / 2 ^ (8 * k) % 256 = ((c / 2 ^ (8 * k) % 256 : Nat) : Int) := by simp
  have hm : c / 2 ^ (8 * k) % 256 < 256 := Nat.mod_lt _ (by decide)
  rw [e, u8_xor_nat _ _ (by omega) hm, UInt8.toNat_xor, UInt8.toNat_ofNat']
set_option maxHeartbeats 1000000 in
theorem bursts_law (s : ByteArray) (a c : Nat) (ha : a < 2 ^ 16) (hc : c < 2 ^ 32) (w : World) : Calls Try.prog 5 #[.string s, .int .u16 a, .int .u32 c] w fun e w' => e = .returned (.bool true) ∧ Below w.heap.size w w' := by
  by_cases h1 : 500 < s.size
  · have h1' : (500 : Int) < s.size := by omega
    go_enter Try.func5, Try.ntmps5
    go_wp2_with (go_at_call 10; refine (awake_walk _).mono ?_; rintro e w0 ⟨rfl, hb0⟩)
    go_ret
    exact ⟨rfl, hb0⟩
  · obtain ⟨t, ht⟩ : ∃ t, sealB s = t := ⟨_, rfl⟩
    have hsz : t.size = s.size + 4 := by rw [← ht, sealB_size]
    have ht4 : 4 ≤ t.size := by omega
    have ht504 : t.size ≤ 504 := by omega
    have HSZ := Lib.hid hsz
    have HT := Lib.hid ht
    obtain ⟨i, hi⟩ : ∃ i, i = a % (t.size - 3) := ⟨_, rfl⟩
    have hit : i + 3 < t.size := by have := Nat.mod_lt a (show 0 < t.size - 3 by omega); omega
    have hci : (a : Int) % ((t.size : Int) - 3) = i := by
      rw [hi, show ((t.size : Int) - 3) = ((t.size - 3 : Nat) : Int) by omega]; simp
    have HCI := Lib.hid hci
    have hcv := fun W => run_bytes_of_string (P := Try.prog) W 9 35 5 t Try.underlying9 Try.underlying35 Try.underlying5
    clear hi ht hsz hci
    go_enter Try.func5, Try.ntmps5
    go_wp2_with (first
        | (go_at_call 10; refine (awake_walk _).mono ?_; rintro e w0 ⟨rfl, hb0⟩)
        | (go_at_call 17; refine (seal_at s t (by omega) HT.out _).mono ?_; rintro e w1 ⟨rfl, hb1⟩))
    rw [HCI.out]
    generalize hcap : grownCap w1 t.size 0 5 = cap
    have HB1 := Lib.hid (bstep hb0 (Nat.le_refl _) hb1)
    have HTL : Hid (t.data.toList.length = t.size) := Lib.hid (by simp)
    clear hb0 hb1 hcap hcv
    go_loopw [29] (fun x wr => ∃ k : Nat, k ≤ 4 ∧ x = .int .i64 k ∧ Below w.heap.size w wr ∧ BRow wr w1.heap.size (bl t.data.toList i c k)) (fun x _ => 4 - (intOf x).toNat)
    case atStart => exact ⟨0, by omega, rfl, (HB1.out.alloc HB1.out.size _).drew, (BRow.new w1 t cap _ rfl).drew⟩
    case round =>
      obtain ⟨k, hk, rfl, hb, hR⟩ := hrel
      have HB := Lib.hid hb
      have HR := Lib.hid hR
      by_cases hlt : k < 4
      · have hlen : i + k < (bl t.data.toList i c k).length := by rw [bl_length, HTL.out]; omega
        obtain ⟨v, hv⟩ : ∃ v : UInt8, v = (bl t.data.toList i c k).getD (i + k) 0 := ⟨_, rfl⟩
        have hcell := hR.cell (i + k) hlen
        rw [← hv] at hcell
        have hfz := hR.frozen (i + k) hlen
        have hvl : (v.toNat : Int) < 256 := by have := v.toNat_lt; omega
        have HV := Lib.hid hv
        have hk2 : (k : Int) < 4 := by omega
        have hik : (i : Int) + (k : Int) < t.size := by omega
        clear hv hb hR hlen
        go_wp2_with fail
        go_region
        all_goals go_wp2_with fail
        go_roundw
        case rel => exact ⟨k + 1, by omega, by go_num, (HB.out.setCell HB1.out.size _).drew, (HR.out.set_ (i + k) (by rw [bl_length, HTL.out]; omega) _ _ (by rw [burst_byte, HV.out])).drew⟩
        case measure => simp [intOf]; omega
      · obtain rfl : k = 4 := by omega
        obtain ⟨u, hu⟩ : ∃ u : ByteArray, (⟨(bl t.data.toList i c 4).toArray⟩ : ByteArray) = u := ⟨_, rfl⟩
        have hul : u.data.toList = bl t.data.toList i c 4 := by rw [← hu]
        have hus : u.size = t.size := by rw [← HTL.out, ← bl_length t.data.toList i c 4, ← hul]; simp
        have hback := hR.str cap t.size (by rw [bl_length, HTL.out])
        rw [hu] at hback
        have hul4 : u.size ≤ 1048576 := by omega
        have HUL := Lib.hid hul
        have HUS := Lib.hid hus
        have HSO : Hid (opens t.data.toList = true) := Lib.hid (by rw [← HT.out]; exact opens_sealed s)
        have HSF : Hid (t.extract 0 (t.size - 4) = s) := Lib.hid (by rw [← HT.out]; exact seal_front4 s)
        clear hb hR hu hul hus
        by_cases hc0 : c = 0
        · subst hc0
          have hut : u = t := by
            apply ext_list
            rw [HUL.out, burst_zero]
          subst hut
          go_wp2_with fail
          refine (open_at u s hul4 HSO.out HSF.out _).mono ?_; rintro e _ ⟨rfl, rfl⟩
          go_wp2_with fail
          go_ret
          exact ⟨rfl, HB.out⟩
        · have hcb : ((c : Int) == 0) = false := by simp; omega
          have HON : Hid (opens u.data.toList = false) := Lib.hid (by
            rw [HUL.out]
            exact burst_noticed _ i c (by rw [HTL.out]; omega) hc hc0 HSO.out)
          clear hc0
          go_wp2_with fail
          refine (open_no u hul4 HON.out _).mono ?_; rintro e _ ⟨rfl, rfl⟩
          go_wp2_with fail
          go_ret
          exact ⟨rfl, HB.out⟩
theorem bursts_in (s : ByteArray) (_ : s.size ≤ maxLen) (a : Int) (wa : (Lit.int .u16 a).wf = true) (c : Int) (wc : (Lit.int .u32 c).wf = true) (w : World) : Calls Try.prog 5 #[.string s, .int .u16 a, .int .u32 c] w fun e w' => e = .returned (.bool true) ∧ Below w.heap.size w w' := by
  obtain ⟨m, rfl, hm⟩ := u16_nat wa
  obtain ⟨n, rfl, hn⟩ := u32_nat wc
  exact bursts_law s m n hm hn w
end Go.Proofs.Ytglchdcpkjabaaa
