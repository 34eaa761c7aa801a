import Derived.Test.YtagfnobchdfhfaaXg
namespace Go.Proofs.Ytagfnobchdfhfaa
set_option linter.unusedSimpArgs false
set_option linter.unnecessarySimpa false
set_option linter.unusedVariables false
open Go.RowKit Go.ChangeShapes Go.WideShapes Go.ChangeAt
attribute [local go_sem ↓] Go.wp_at_zero Go.wp_at_succ

/-- an operation, on its disk -/
def stepO (d : DM) (o : OpM) : (ByteArray × Int) × DM :=
  if o.kind % 7 = 0 then readF d o.n
  else if o.kind % 7 = 1 then ((⟨#[]⟩, (writeF d o.n o.data).1), (writeF d o.n o.data).2)
  else if o.kind % 7 = 2 then ((⟨#[]⟩, (syncF d).1), (syncF d).2)
  else if o.kind % 7 = 3 then ((⟨#[]⟩, 0), crashF d o.sv)
  else if o.kind % 7 = 4 then ((⟨#[]⟩, 0), failF d o.n)
  else if o.kind % 7 = 5 then ((⟨#[]⟩, (badF d o.n o.bad).1), (badF d o.n o.bad).2)
  else ((⟨#[]⟩, (damF d o.n o.at_ o.mask).1), (damF d o.n o.at_ o.mask).2)
def opV (o : OpM) : Value := .agg #[.int .u8 (o.kind : Int), .int .i64 o.n, .int .i64 o.at_, .string o.data, .int .u8 (o.mask.toNat : Int), .bool o.bad, .slice o.sA o.sv.length o.sc]
section
variable {S : Nat → Prop} {D : Nat} {d : DM} {w : World} {vd vb vp : Value} {dl : List Value}
theorem do_walk (o : OpM) (hkd : o.kind < 256) (h : DkO S D d w vd vb vp dl) (hS : ∀ k, S k → k < w.heap.size) (ha : d.after ≤ 9223372036854775807) (hp : d.pend.length ≤ 1000) (hA : ∀ i, i < o.sv.length → ∃ a, o.sA = some a ∧ ¬ S a.block ∧ w.cell? (a.add i) = some (.int .i64 (o.sv.getD i 0))) (r : (ByteArray × Int) × DM) (hr : stepO d o = r) :
    Calls Try.prog 27 #[.pointer (some ⟨D, 0, none⟩), opV o] w fun e w' => e = .returned (.tuple #[.string r.1.1, .int .i64 r.1.2]) ∧ Touch S w w' ∧ Dk (grow S w w') D r.2 w' := by
  have h1 : DkO S D d (w.alloc (.cells #[.int .u8 (o.kind : Int), .int .i64 o.n, .int .i64 o.at_, .string o.data, .int .u8 (o.mask.toNat : Int), .bool o.bad, .slice o.sA o.sv.length o.sc] 42)) vd vb vp dl := h.frame fun k _ hlt => Below.heap_alloc _ _ k hlt
  have H1 := Lib.hid h1
  have HT1 : Hid (Touch S w (w.alloc (.cells #[.int .u8 (o.kind : Int), .int .i64 o.n, .int .i64 o.at_, .string o.data, .int .u8 (o.mask.toNat : Int), .bool o.bad, .slice o.sA o.sv.length o.sc] 42))) := Lib.hid ((Touch.refl _ _).alloc _)
  have hm := o.mask.toNat_lt
  have hlt7 : o.kind % 7 < 7 := Nat.mod_lt _ (by decide)
  unfold opV
  rcases (by omega : o.kind % 7 = 0 ∨ o.kind % 7 = 1 ∨ o.kind % 7 = 2 ∨ o.kind % 7 = 3 ∨ o.kind % 7 = 4 ∨ o.kind % 7 = 5 ∨ o.kind % 7 = 6) with hk | hk | hk | hk | hk | hk | hk
  · have hkk : ((o.kind : Int) % 7) = 0 := by omega
    have HR := Lib.hid (show r = readF d o.n by rw [← hr]; unfold stepO; rw [if_pos hk])
    clear hr hk h h1 hA hS hlt7
    have hx0 := hkk
    go_enter Try.func27, Try.ntmps27
    go_wp2_with fail
    refine (read_walk _ H1.out hp _ rfl).mono ?_; rintro e w2 ⟨rfl, ht, hd⟩
    have HT := Lib.hid ht
    have HD := Lib.hid hd
    clear ht hd
    go_wp2_with fail
    go_ret2
    rw [HR.out]
    exact ⟨rfl, HT1.out.trans HT.out (fun _ _ h => h), _, _, _, _, HD.out.mono fun k hk => .inl hk⟩
  · have hkk : ((o.kind : Int) % 7) = 1 := by omega
    have HR := Lib.hid (show r = ((⟨#[]⟩, (writeF d o.n o.data).1), (writeF d o.n o.data).2) by rw [← hr]; unfold stepO; rw [if_neg (by omega)]; rw [if_pos hk])
    clear hA
    clear hr hk h h1 hS hlt7
    have hx0 := hkk
    go_enter Try.func27, Try.ntmps27
    go_wp2_with fail
    refine (write_walk o.n o.data H1.out ha hp (writeF d o.n o.data).1 (writeF d o.n o.data).2 rfl).mono ?_; rintro e w2 ⟨rfl, ht, hd⟩
    have HT := Lib.hid ht
    have HD := Lib.hid hd
    clear ht hd
    go_wp2_with fail
    go_ret2
    rw [HR.out]
    exact ⟨rfl, HT1.out.trans HT.out (fun _ _ h => h), HD.out.mono fun k hk => hk.elim (fun hk => .inl hk) fun ⟨a, b⟩ => .inr ⟨Nat.le_trans HT1.out.size a, b⟩⟩
  · have hkk : ((o.kind : Int) % 7) = 2 := by omega
    have HR := Lib.hid (show r = ((⟨#[]⟩, (syncF d).1), (syncF d).2) by rw [← hr]; unfold stepO; rw [if_neg (by omega)]; rw [if_neg (by omega)]; rw [if_pos hk])
    clear hA
    clear hr hk h h1 hS hlt7
    have hx0 := hkk
    go_enter Try.func27, Try.ntmps27
    go_wp2_with fail
    refine (sync_walk H1.out ha hp (syncF d).1 (syncF d).2 rfl).mono ?_; rintro e w2 ⟨rfl, ht, hd⟩
    have HT := Lib.hid ht
    have HD := Lib.hid hd
    clear ht hd
    go_wp2_with fail
    go_ret2
    rw [HR.out]
    exact ⟨rfl, HT1.out.trans HT.out (fun _ _ h => h), HD.out.mono fun k hk => .inl hk⟩
  · have hkk : ((o.kind : Int) % 7) = 3 := by omega
    have HR := Lib.hid (show r = ((⟨#[]⟩, 0), crashF d o.sv) by rw [← hr]; unfold stepO; rw [if_neg (by omega)]; rw [if_neg (by omega)]; rw [if_neg (by omega)]; rw [if_pos hk])
    have HA := Lib.hid (show ∀ i, i < o.sv.length → ∃ a, o.sA = some a ∧ ¬ S a.block ∧ (w.alloc (.cells #[.int .u8 (o.kind : Int), .int .i64 o.n, .int .i64 o.at_, .string o.data, .int .u8 (o.mask.toNat : Int), .bool o.bad, .slice o.sA o.sv.length o.sc] 42)).cell? (a.add i) = some (.int .i64 (o.sv.getD i 0)) from fun i hi => by
      obtain ⟨a, e1, e2, e3⟩ := hA i hi
      exact ⟨a, e1, e2, by rw [World.cell?_of_block (Below.heap_alloc w _ _ (World.block_lt_of_cell? w _ e3))]; exact e3⟩)
    have HSS := Lib.hid (show ∀ k, S k → k < (w.alloc (.cells #[.int .u8 (o.kind : Int), .int .i64 o.n, .int .i64 o.at_, .string o.data, .int .u8 (o.mask.toNat : Int), .bool o.bad, .slice o.sA o.sv.length o.sc] 42)).heap.size from fun k hk => by have := hS k hk; simp; omega)
    clear hA
    clear hr hk h h1 hS hlt7
    have hx0 := hkk
    go_enter Try.func27, Try.ntmps27
    go_wp2_with fail
    refine (crash_walk o.sv o.sA o.sc H1.out hp HA.out HSS.out).mono ?_; rintro e w2 ⟨rfl, ht, hd⟩
    have HT := Lib.hid ht
    have HD := Lib.hid hd
    clear ht hd
    go_wp2_with fail
    go_ret2
    rw [HR.out]
    exact ⟨rfl, HT1.out.trans HT.out (fun _ _ h => h), HD.out.mono fun k hk => .inl hk⟩
  · have hkk : ((o.kind : Int) % 7) = 4 := by omega
    have HR := Lib.hid (show r = ((⟨#[]⟩, 0), failF d o.n) by rw [← hr]; unfold stepO; rw [if_neg (by omega)]; rw [if_neg (by omega)]; rw [if_neg (by omega)]; rw [if_neg (by omega)]; rw [if_pos hk])
    clear hA
    clear hr hk h h1 hS hlt7
    have hx0 := hkk
    go_enter Try.func27, Try.ntmps27
    go_wp2_with fail
    refine (failAfter_walk o.n H1.out).mono ?_; rintro e w2 ⟨rfl, ht, hd⟩
    have HT := Lib.hid ht
    have HD := Lib.hid hd
    clear ht hd
    go_wp2_with fail
    go_ret2
    rw [HR.out]
    exact ⟨rfl, HT1.out.trans HT.out (fun _ _ h => h), _, _, _, _, HD.out.mono fun k hk => .inl hk⟩
  · have hkk : ((o.kind : Int) % 7) = 5 := by omega
    have HR := Lib.hid (show r = ((⟨#[]⟩, (badF d o.n o.bad).1), (badF d o.n o.bad).2) by rw [← hr]; unfold stepO; rw [if_neg (by omega)]; rw [if_neg (by omega)]; rw [if_neg (by omega)]; rw [if_neg (by omega)]; rw [if_neg (by omega)]; rw [if_pos hk])
    clear hA
    clear hr hk h h1 hS hlt7
    have hx0 := hkk
    go_enter Try.func27, Try.ntmps27
    go_wp2_with fail
    refine (setBad_walk o.n o.bad H1.out (badF d o.n o.bad).1 (badF d o.n o.bad).2 rfl).mono ?_; rintro e w2 ⟨rfl, ht, hd⟩
    have HT := Lib.hid ht
    have HD := Lib.hid hd
    clear ht hd
    go_wp2_with fail
    go_ret2
    rw [HR.out]
    exact ⟨rfl, HT1.out.trans HT.out (fun _ _ h => h), _, _, _, _, HD.out.mono fun k hk => .inl hk⟩
  · have hkk : ((o.kind : Int) % 7) = 6 := by omega
    have HR := Lib.hid (show r = ((⟨#[]⟩, (damF d o.n o.at_ o.mask).1), (damF d o.n o.at_ o.mask).2) by rw [← hr]; unfold stepO; rw [if_neg (by omega)]; rw [if_neg (by omega)]; rw [if_neg (by omega)]; rw [if_neg (by omega)]; rw [if_neg (by omega)]; rw [if_neg (by omega)])
    clear hA
    clear hr hk h h1 hS hlt7
    have hx0 := hkk
    go_enter Try.func27, Try.ntmps27
    go_wp2_with fail
    refine (damage_walk o.n o.at_ o.mask H1.out (damF d o.n o.at_ o.mask).1 (damF d o.n o.at_ o.mask).2 rfl).mono ?_; rintro e w2 ⟨rfl, ht, hd⟩
    have HT := Lib.hid ht
    have HD := Lib.hid hd
    clear ht hd
    go_wp2_with fail
    go_ret2
    rw [HR.out]
    exact ⟨rfl, HT1.out.trans HT.out (fun _ _ h => h), _, _, _, _, HD.out.mono fun k hk => .inl hk⟩
end
end Go.Proofs.Ytagfnobchdfhfaa
