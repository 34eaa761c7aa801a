import Derived.Test.YtagfnobchdfhfaaWn
namespace Go.Proofs.Ytagfnobchdfhfaa
set_option linter.unusedSimpArgs false
set_option linter.unnecessarySimpa false
set_option linter.unusedVariables false
open Go.RowKit
attribute [local go_sem ↓] Go.wp_at_zero Go.wp_at_succ

theorem DkO.bound {S : Nat → Prop} {D : Nat} {d : DM} {w : World} {vd vb vp : Value} {dl : List Value} (h : DkO S D d w vd vb vp dl) : DkO (fun k => S k ∧ k < w.heap.size) D d w vd vb vp dl :=
  ⟨h.obj, ⟨h.sD, h.lt⟩, h.rd, fun k hk => ⟨h.sd k hk, (h.rd.lt k hk).2⟩, h.rb, fun k hk => ⟨h.sb k hk, (h.rb.lt k hk).2⟩, h.rp, fun k hk => ⟨h.sp k hk, (h.rp.lt k hk).2⟩, fun i b hb => by
    obtain ⟨v, h1, h2, g, h3, h4⟩ := h.sec i b hb
    exact ⟨v, h1, h2, g, h3, h4, (h2.lt g h3).2⟩, h.inj, h.len, h.fit⟩
theorem Dk.bound {S : Nat → Prop} {D : Nat} {d : DM} {w : World} (h : Dk S D d w) : Dk (fun k => S k ∧ k < w.heap.size) D d w := by
  obtain ⟨_, _, _, _, h⟩ := h
  exact ⟨_, _, _, _, h.bound⟩
theorem Dk.mono {S S' : Nat → Prop} {D : Nat} {d : DM} {w : World} (h : Dk S D d w) (hS : ∀ k, S k → S' k) : Dk S' D d w := by
  obtain ⟨_, _, _, _, h⟩ := h
  exact ⟨_, _, _, _, h.mono hS⟩
theorem Dk.frame {S : Nat → Prop} {D : Nat} {d : DM} {w w' : World} (h : Dk S D d w) (hf : ∀ k, S k → k < w.heap.size → w'.heap[k]? = w.heap[k]?) : Dk S D d w' := by
  obtain ⟨_, _, _, _, h⟩ := h
  exact ⟨_, _, _, _, h.frame hf⟩
theorem Rf.bound {T : Nat → Prop} {d : DM} {w : World} {v : Value} (h : Rf T d w v) : Rf (fun k => T k ∧ k < w.heap.size) d w v := by
  obtain ⟨vd, vb, vp, e, h⟩ := h
  exact ⟨vd, vb, vp, e, h.rd, fun k hk => ⟨h.sd k hk, (h.rd.lt k hk).2⟩, h.rb, fun k hk => ⟨h.sb k hk, (h.rb.lt k hk).2⟩, h.rp, fun k hk => ⟨h.sp k hk, (h.rp.lt k hk).2⟩, h.l64, h.len, h.fit⟩
/-- a law that began in w0 holds a disk -/
structure StS (w0 : World) (S : Nat → Prop) (D : Nat) (d : DM) (w : World) : Prop where
  dk : Dk S D d w
  bel : Below w0.heap.size w0 w
  bd : ∀ k, S k → w0.heap.size ≤ k ∧ k < w.heap.size
section
variable {w0 : World} {S : Nat → Prop} {D : Nat} {d d' : DM} {w w' : World}
theorem StS.next (h : StS w0 S D d w) (ht : Touch S w w') (hd : Dk (grow S w w') D d' w') : StS w0 (grow S w w') D d' w' := by
  refine ⟨hd, h.bel.trans (ht.below _ h.bel.size fun i hi => (h.bd i hi).1), fun k hk => ?_⟩
  have h1 := ht.size
  have h2 := h.bel.size
  rcases hk with hk | ⟨hk1, hk2⟩
  · have := h.bd k hk; omega
  · omega
theorem StS.same (h : StS w0 S D d w) (hb : Below w.heap.size w w') : StS w0 S D d w' :=
  ⟨h.dk.frame fun k _ hk => hb.block k hk, h.bel.trans (hb.mono h.bel.size), fun k hk => by
    have := h.bd k hk
    have := hb.size
    omega⟩
def St (w0 : World) (D : Nat) (d : DM) (w : World) : Prop := ∃ S, StS w0 S D d w
theorem StS.st (h : StS w0 S D d w) : St w0 D d w := ⟨S, h⟩
theorem St.below (h : St w0 D d w) : Below w0.heap.size w0 w := by
  obtain ⟨S, h⟩ := h
  exact h.bel
theorem St.same (h : St w0 D d w) (hb : Below w.heap.size w w') : St w0 D d w' := by
  obtain ⟨S, h⟩ := h
  exact ⟨S, h.same hb⟩
theorem St.alloc (h : St w0 D d w) (o : Obj) : St w0 D d (w.alloc o) := h.same ((Below.refl _ _).alloc (Nat.le_refl _) o)
theorem St.set8 (h : St w0 D d w) (o : Obj) (v0 v1 v2 v3 v4 v5 v6 v7 : Value) : St w0 D d (set8 (w.alloc o) w.heap.size v0 v1 v2 v3 v4 v5 v6 v7) :=
  h.same ((((((((((Below.refl _ _).alloc (Nat.le_refl _) o).setCell (Nat.le_refl _) _).setCell (Nat.le_refl _) _).setCell (Nat.le_refl _) _).setCell (Nat.le_refl _) _).setCell (Nat.le_refl _) _).setCell (Nat.le_refl _) _).setCell (Nat.le_refl _) _).setCell (Nat.le_refl _) _)
theorem st_write (n : Int) (s : ByteArray) (h : St w0 D d w) (ha : d.after ≤ 9223372036854775807) (hp : d.pend.length ≤ 1000) (r : Int) (d' : DM) (hr : writeF d n s = (r, d')) : Calls Try.prog 14 #[.pointer (some ⟨D, 0, none⟩), .int .i64 n, .string s] w fun e w' => e = .returned (.int .i64 r) ∧ St w0 D d' w' := by
  obtain ⟨S, h⟩ := h
  obtain ⟨_, _, _, _, hk⟩ := h.dk
  exact (write_walk n s hk ha hp r d' hr).mono fun _ _ ⟨he, ht, hd⟩ => ⟨he, (h.next ht hd).st⟩
theorem st_sync (h : St w0 D d w) (ha : d.after ≤ 9223372036854775807) (hp : d.pend.length ≤ 1000) (r : Int) (d' : DM) (hr : syncF d = (r, d')) : Calls Try.prog 15 #[.pointer (some ⟨D, 0, none⟩)] w fun e w' => e = .returned (.int .i64 r) ∧ St w0 D d' w' := by
  obtain ⟨S, h⟩ := h
  obtain ⟨_, _, _, _, hk⟩ := h.dk
  exact (sync_walk hk ha hp r d' hr).mono fun _ _ ⟨he, ht, hd⟩ => ⟨he, (h.next ht (hd.mono fun k hk => .inl hk)).st⟩
theorem st_crash (sv : List Int) (A : Option Addr) (c : Nat) (h : St w0 D d w) (hp : d.pend.length ≤ 1000) (hA : ∀ i, i < sv.length → ∃ a, A = some a ∧ a.block < w0.heap.size ∧ w0.cell? (a.add i) = some (.int .i64 (sv.getD i 0))) :
    Calls Try.prog 17 #[.pointer (some ⟨D, 0, none⟩), .slice A sv.length c] w fun e w' => e = .returned (.tuple #[]) ∧ St w0 D (crashF d sv) w' := by
  obtain ⟨S, h⟩ := h
  obtain ⟨_, _, _, _, hk⟩ := h.dk
  refine (crash_walk sv A c hk hp (fun i hi => ?_) (fun k hk => (h.bd k hk).2)).mono fun _ _ ⟨he, ht, hd⟩ => ⟨he, (h.next ht (hd.mono fun k hk => .inl hk)).st⟩
  obtain ⟨a, h1, h2, h3⟩ := hA i hi
  have hb : (a.add i).block = a.block := by unfold Addr.add; split <;> rfl
  exact ⟨a, h1, fun hs => absurd (h.bd _ hs).1 (by omega), (h.bel.cell (p := a.add i) (by rw [hb]; exact h2)).trans h3⟩
theorem st_read (n : Int) (h : St w0 D d w) (hp : d.pend.length ≤ 1000) (r : (ByteArray × Int) × DM) (hr : readF d n = r) : Calls Try.prog 18 #[.pointer (some ⟨D, 0, none⟩), .int .i64 n] w fun e w' => e = .returned (.tuple #[.string r.1.1, .int .i64 r.1.2]) ∧ St w0 D r.2 w' := by
  obtain ⟨S, h⟩ := h
  obtain ⟨_, _, _, _, hk⟩ := h.dk
  exact (read_walk n hk hp r hr).mono fun _ _ ⟨he, ht, hd⟩ => ⟨he, (h.next ht ⟨_, _, _, _, hd.mono fun k hk => .inl hk⟩).st⟩
theorem st_failAfter (n : Int) (h : St w0 D d w) : Calls Try.prog 22 #[.pointer (some ⟨D, 0, none⟩), .int .i64 n] w fun e w' => e = .returned (.tuple #[]) ∧ St w0 D (failF d n) w' := by
  obtain ⟨S, h⟩ := h
  obtain ⟨_, _, _, _, hk⟩ := h.dk
  exact (failAfter_walk n hk).mono fun _ _ ⟨he, ht, hd⟩ => ⟨he, (h.next ht ⟨_, _, _, _, hd.mono fun k hk => .inl hk⟩).st⟩
theorem st_setBad (n : Int) (b : Bool) (h : St w0 D d w) (r : Int) (d' : DM) (hr : badF d n b = (r, d')) : Calls Try.prog 24 #[.pointer (some ⟨D, 0, none⟩), .int .i64 n, .bool b] w fun e w' => e = .returned (.int .i64 r) ∧ St w0 D d' w' := by
  obtain ⟨S, h⟩ := h
  obtain ⟨_, _, _, _, hk⟩ := h.dk
  exact (setBad_walk n b hk r d' hr).mono fun _ _ ⟨he, ht, hd⟩ => ⟨he, (h.next ht ⟨_, _, _, _, hd.mono fun k hk => .inl hk⟩).st⟩
theorem st_damage (n at_ : Int) (m : UInt8) (h : St w0 D d w) (r : Int) (d' : DM) (hr : damF d n at_ m = (r, d')) : Calls Try.prog 25 #[.pointer (some ⟨D, 0, none⟩), .int .i64 n, .int .i64 at_, .int .u8 (m.toNat : Int)] w fun e w' => e = .returned (.int .i64 r) ∧ St w0 D d' w' := by
  obtain ⟨S, h⟩ := h
  obtain ⟨_, _, _, _, hk⟩ := h.dk
  exact (damage_walk n at_ m hk r d' hr).mono fun _ _ ⟨he, ht, hd⟩ => ⟨he, (h.next ht ⟨_, _, _, _, hd.mono fun k hk => .inl hk⟩).st⟩
theorem st_pending (h : St w0 D d w) : Calls Try.prog 16 #[.pointer (some ⟨D, 0, none⟩)] w fun e w' => e = .returned (.int .i64 (d.pend.length : Nat)) ∧ w = w' := by
  obtain ⟨S, h⟩ := h
  obtain ⟨_, _, _, _, hk⟩ := h.dk
  exact pending_walk hk
theorem st_failed (h : St w0 D d w) : Calls Try.prog 23 #[.pointer (some ⟨D, 0, none⟩)] w fun e w' => e = .returned (.bool d.failed) ∧ w = w' := by
  obtain ⟨S, h⟩ := h
  obtain ⟨_, _, _, _, hk⟩ := h.dk
  exact failed_walk hk
theorem st_counts (h : St w0 D d w) : Calls Try.prog 29 #[.pointer (some ⟨D, 0, none⟩)] w fun e w' => e = .returned (.agg #[.int .i64 d.r, .int .i64 d.wn, .int .i64 d.sy]) ∧ St w0 D d w' := by
  obtain ⟨S, h⟩ := h
  obtain ⟨_, _, _, _, hk⟩ := h.dk
  exact (counts_walk hk).mono fun _ _ ⟨he, hb⟩ => ⟨he, (h.same hb).st⟩
end
/-- what begin gives -/
def Begun (n : Nat) (w : World) (e : Ending) (w' : World) : Prop := ∃ (D : Nat) (v : Value) (S T : Nat → Prop), e = .returned (.tuple #[.pointer (some ⟨D, 0, none⟩), v, .bool true]) ∧ StS w S D (dm0 n) w' ∧ Rf T (dm0 n) w' v ∧ (∀ k, T k → w.heap.size ≤ k ∧ k < w'.heap.size) ∧ ∀ k, S k → ¬ T k
theorem z33 {w : World} {B : Nat} (h : w.heap[B]? = some (.cells zr33 33 (0, 0))) : w.cell? ⟨B, 0, none⟩ = some (.slice none 0 0) ∧ w.cell? ⟨B, 1, none⟩ = some (.slice none 0 0) ∧ w.cell? ⟨B, 2, none⟩ = some (.slice none 0 0) ∧ w.cell? ⟨B, 3, none⟩ = some (.int .i64 0) ∧ w.cell? ⟨B, 4, none⟩ = some (.bool false) ∧ w.cell? ⟨B, 5, none⟩ = some (.int .i64 0) ∧ w.cell? ⟨B, 6, none⟩ = some (.int .i64 0) ∧ w.cell? ⟨B, 7, none⟩ = some (.int .i64 0) ∧ ∀ i, w.frozen? ⟨B, i, none⟩ = false := by
  have z : ∀ i (_ : i < 8), w.cell? ⟨B, i, none⟩ = zr33[i]? := fun i _ => by rw [cell_of_row w _ i _ _ _ h]
  exact ⟨z 0 (by decide), z 1 (by decide), z 2 (by decide), z 3 (by decide), z 4 (by decide), z 5 (by decide), z 6 (by decide), z 7 (by decide), fun i => by simp [World.frozen?, h]⟩
theorem begin_walk (s n : Nat) (hs : s < 256) (hn : 1 + s % 6 = n) (w : World) : Calls Try.prog 12 #[.int .u8 (s : Int)] w (Begun n w) := by
  have H1 := Lib.hid (new_walk n (by omega) (by omega))
  have H2 := Lib.hid (refNew_walk n (by omega) (by omega))
  have hn6 : n ≤ 6 := by omega
  have hn0 : 0 < n := by omega
  have hm : (((s % 6 : Nat) : Int) : Int) < 6 := by omega
  have HE : Hid ((1 + (s : Int) % 6) = (n : Int)) := Lib.hid (by omega)
  go_enter Try.func12, Try.ntmps12
  go_wp2_with fail
  rw [HE.out]
  refine (H1.out _).mono ?_; rintro e w1 ⟨rfl, hb1, hd1⟩
  have HB1 := Lib.hid hb1
  have HD1 := Lib.hid hd1
  clear hb1 hd1
  go_wp2_with fail
  refine (H2.out _).mono ?_; rintro e w2 ⟨v, rfl, hb2, hv2⟩
  obtain ⟨vd, vb, vp, rfl, hrf⟩ := hv2
  obtain ⟨ad, cd, rfl⟩ := row_slice hrf.rd
  obtain ⟨ab, cb, rfl⟩ := row_slice hrf.rb
  obtain ⟨ap, cp, rfl⟩ := row_slice hrf.rp
  have HB2 := Lib.hid hb2
  have HRF := Lib.hid hrf
  have hl1 : w.heap.size < w1.heap.size := by have := HB1.out.size; simp at this; omega
  have hl2 : w1.heap.size ≤ w2.heap.size := hb2.size
  have HZ : Hid (w2.heap[w.heap.size]? = some (.cells zr33 33 (0, 0))) := Lib.hid (by
    rw [hb2.block _ hl1, HB1.out.block _ (by simp)]; exact heap_alloc_new w _)
  have hz := HZ.out
  have hz2 : (w2.alloc (.cells #[.slice ad n cd, .slice ab n cb, .slice ap 0 cp, .int .i64 (-1), .bool false, .int .i64 0, .int .i64 0, .int .i64 0] 33)).heap[w.heap.size]? = some (.cells zr33 33 (0, 0)) := by rw [Below.heap_alloc _ _ _ (by omega)]; exact hz
  obtain ⟨z0, z1, z2, z3, z4, z5, z6, z7, zf⟩ := z33 hz2
  clear hb2 hrf hz hz2
  simp only [rv, dm0]
  go_wp2_with fail
  go_region
  go_wp2_with fail
  refine bodyPost_ret (v := .tuple #[.pointer (some ⟨w.heap.size + 1 + 1, 0, none⟩), .agg #[.slice ad n cd, .slice ab n cb, .slice ap 0 cp, .int .i64 (-1), .bool false, .int .i64 0, .int .i64 0, .int .i64 0], .bool true]) (by simp [results, Try.results12, go_sem, z0, z1, z2, z3, z4, z5, z6, z7]) rfl ?_
  have hB1 := HB1.out
  have hD1 := HD1.out.bound
  have hR := HRF.out
  have hsz : (w.alloc (.cells #[.slice none 0 0, .slice none 0 0, .slice none 0 0, .int .i64 0, .bool false, .int .i64 0, .int .i64 0, .int .i64 0] 33)).heap.size = w.heap.size + 1 := by simp
  rw [hsz] at hB1 hD1
  obtain ⟨W, hW⟩ : ∃ W, set8 (w2.alloc (.cells #[.slice ad n cd, .slice ab n cb, .slice ap 0 cp, .int .i64 (-1), .bool false, .int .i64 0, .int .i64 0, .int .i64 0] 33)) w.heap.size (.slice ad n cd) (.slice ab n cb) (.slice ap 0 cp) (.int .i64 (-1)) (.bool false) (.int .i64 0) (.int .i64 0) (.int .i64 0) = W := ⟨_, rfl⟩
  have far : ∀ k, k ≠ w.heap.size → k < w2.heap.size → W.heap[k]? = w2.heap[k]? := fun k hk hl => by
    rw [← hW, set8_far _ _ _ _ _ _ _ _ _ _ _ hk, Below.heap_alloc _ _ _ hl]
  have b2 : Below w.heap.size w w2 := ((Below.refl w.heap.size w).alloc (Nat.le_refl _) (.cells #[.slice none 0 0, .slice none 0 0, .slice none 0 0, .int .i64 0, .bool false, .int .i64 0, .int .i64 0, .int .i64 0] 33)).trans ((hB1.mono (Nat.le_succ _)).trans (HB2.out.mono (by omega)))
  have bW : Below w.heap.size w W := by
    rw [← hW]
    exact ((((((((b2.alloc (by omega) _).setCell (Nat.le_refl _) _).setCell (Nat.le_refl _) _).setCell (Nat.le_refl _) _).setCell (Nat.le_refl _) _).setCell (Nat.le_refl _) _).setCell (Nat.le_refl _) _).setCell (Nat.le_refl _) _).setCell (Nat.le_refl _) _
  have sW : w2.heap.size ≤ W.heap.size := by rw [← hW]; simp [set8]
  suffices key : Begun n w (.returned (.tuple #[.pointer (some ⟨w.heap.size + 1 + 1, 0, none⟩), .agg #[.slice ad n cd, .slice ab n cb, .slice ap 0 cp, .int .i64 (-1), .bool false, .int .i64 0, .int .i64 0, .int .i64 0], .bool true])) W.drew by
    rw [← hW] at key; exact key
  refine ⟨w.heap.size + 1 + 1, _, (fun k => w.heap.size + 1 ≤ k ∧ k < w1.heap.size), (fun k => w1.heap.size ≤ k ∧ k < w2.heap.size), rfl, ⟨?_, below_drewN bW 1, fun k hk => ?_⟩, ?_, fun k hk => ?_, fun k hk hk' => ?_⟩
  · exact hD1.frame (w' := W.drew) fun k hk hl => (far k (by omega) (by omega)).trans (HB2.out.block k hl)
  · show w.heap.size ≤ k ∧ k < W.heap.size
    omega
  · have hR2 : Rf (fun k => w1.heap.size ≤ k) (dm0 n) w2 (rv (dm0 n) (.slice ad (dm0 n).secs.length cd) (.slice ab (dm0 n).secs.length cb) (.slice ap (dm0 n).pend.length cp)) := ⟨_, _, _, rfl, hR⟩
    have e : rv (dm0 n) (.slice ad (dm0 n).secs.length cd) (.slice ab (dm0 n).secs.length cb) (.slice ap (dm0 n).pend.length cp) = .agg #[.slice ad n cd, .slice ab n cb, .slice ap 0 cp, .int .i64 (-1), .bool false, .int .i64 0, .int .i64 0, .int .i64 0] := by simp [rv, dm0]
    rw [e] at hR2
    exact hR2.bound.frame (w' := W.drew) fun k hk hl => far k (by omega) hl
  · show w.heap.size ≤ k ∧ k < W.heap.size
    omega
  · omega
end Go.Proofs.Ytagfnobchdfhfaa
