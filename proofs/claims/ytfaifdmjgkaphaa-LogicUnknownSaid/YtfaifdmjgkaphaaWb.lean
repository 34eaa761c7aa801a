import Derived.Test.YtfaifdmjgkaphaaWa
import Derived.Test.YtfaifdmjgkaphaaRun
import Derived.Deep.QuietTactic
import Derived.BigQuiet
namespace Go.Proofs.Ytfaifdmjgkaphaa
open Go.RowKit

def kn (c : Nat) : Nat := if c = 48 then 0 else if c = 49 then 1 else if c = 122 then 3 else 2

theorem kn_cast (c : Nat) : ((kn c : Nat) : Int) = if c = 48 then 0 else if c = 49 then 1 else if c = 122 then 3 else 2 := by
  unfold kn; (repeat' split) <;> rfl
theorem known_walk (c : Nat) (hc : c < 256) (w : World) : Calls Try.prog 36 #[.int .u8 c] w fun e w' => e = .returned (.int .i64 (kn c)) ∧ w = w' := by
  by_cases h : 0 ≤ code c
  · have HK : Hid (code c = kn c) := Lib.hid (by rw [kn_cast]; unfold code at *; omega)
    go_enter Try.func36, Try.ntmps36
    go_wp2_with (go_at_call 33; refine (code_walk c hc _).mono ?_; rintro e w' ⟨rfl, rfl⟩)
    go_ret
    exact ⟨ret_int HK.out, rfl⟩
  · have HK : Hid ((2 : Int) = kn c) := Lib.hid (by rw [kn_cast]; unfold code at *; omega)
    go_enter Try.func36, Try.ntmps36
    go_wp2_with (go_at_call 33; refine (code_walk c hc _).mono ?_; rintro e w' ⟨rfl, rfl⟩)
    go_ret
    exact ⟨ret_int HK.out, rfl⟩
theorem kn_lt (c : Nat) : kn c < 4 := by unfold kn; (repeat' split) <;> omega

theorem use1_walk (T : Nat → Nat → Nat) (a b B : Nat) (ha : a < 256) (hb : b < 256) (w : World)
    (hT : ∀ i j, i < 4 → j < 4 → w.cell? ⟨B, i * 4 + j, none⟩ = some (.int .u8 (T i j))) :
    Calls Try.prog 40 #[.int .u8 a, .int .u8 b, .pointer (some ⟨B, 0, none⟩)] w fun e w' => e = .returned (.int .u8 (T (kn a) (kn b))) ∧ ∃ n, w' = w.drewN n := by
  have hab := hT (kn a) (kn b) (kn_lt a) (kn_lt b)
  clear hT
  have h1 : ((kn a : Nat) : Int) < 4 := by have := kn_lt a; omega
  have h2 : ((kn b : Nat) : Int) < 4 := by have := kn_lt b; omega
  go_enter Try.func40, Try.ntmps40
  go_wp2
  go_quiet ((go_at_call 36; exact Calls.quiet_of_same ((known_walk _ (by assumption) _).mono fun _ _ h => ⟨h.1, h.2.symm⟩)))
  go_wp2
  go_ret
  exact ⟨rfl, _, rfl⟩


def t0 : List Nat := [48, 48, 48, 48, 48, 49, 120, 120, 48, 120, 120, 120, 48, 120, 120, 120]
def t1 : List Nat := [48, 49, 120, 120, 49, 49, 49, 49, 120, 49, 120, 120, 120, 49, 120, 120]
def t2 : List Nat := [48, 49, 120, 120, 49, 48, 120, 120, 120, 120, 120, 120, 120, 120, 120, 120]
def t3 : List Nat := [48, 120, 120, 48, 120, 49, 120, 49, 120, 120, 120, 120, 48, 49, 120, 122]
def cellsOf8 (l : List Nat) : Array Value := (l.map fun n => Value.int .u8 (n : Nat)).toArray
theorem info45 : (Try.prog.info? 45).map (·.size) = some 64 := by kernel_rfl

theorem all64 : (cellsOf8 (t0 ++ t1 ++ t2 ++ t3)).all (·.oneCell') = true := by kernel_rfl
theorem built45 : Try.prog.built 45 [(0, .agg (cellsOf8 t0)), (1, .agg (cellsOf8 t1)), (2, .agg (cellsOf8 t2)), (3, .agg (cellsOf8 t3))] = some (cellsOf8 (t0 ++ t1 ++ t2 ++ t3)) := by kernel_rfl

theorem tables_walk (w : World) :
    Calls Try.prog 39 #[] w fun e w' => e = .returned (.agg (cellsOf8 (t0 ++ t1 ++ t2 ++ t3))) ∧ Below w.heap.size w w' := by
  go_enter Try.func39, Try.ntmps39
  go_wp2_with (first | (refine wpList_front (l := _ :: _ :: _) 21 (fun a => (a.eval (.tmp 0), a.eval (.tmp 21), a.defers)) (.pointer (some ⟨w.heap.size, 0, none⟩), .agg (cellsOf8 (t0 ++ t1 ++ t2 ++ t3)), []) ?_ ?_))
  · kernel_rfl
  · rintro ⟨tm, df⟩ h
    simp only [Prod.mk.injEq] at h
    obtain ⟨h0, h21, rfl⟩ := h
    change wpList _ _ _ (_ :: []) _ _
    refine wpList_store_row rfl 45 _ _ rfl w.heap.size (cellsOf8 (t0 ++ t1 ++ t2 ++ t3)) h0 h21 45 _ (heap_alloc_new _ _) info45 rfl all64 ?_
    rw [setRow_alloc]
    have hi : (Try.prog.info? 45).map (·.size) = some (cellsOf8 (t0 ++ t1 ++ t2 ++ t3)).size := by kernel_rfl
    generalize hcs : cellsOf8 (t0 ++ t1 ++ t2 ++ t3) = cs at *
    have HC := Lib.hid hcs
    clear hcs
    have hi := Lib.hid hi
    go_wp2
    refine bodyPost_ret (results_cell_row rfl _ _ w.heap.size 45 cs (0, 0) _ h0 (heap_alloc_new _ _) Try.underlying45 rfl hi.out) rfl ⟨by rw [HC.out], (Below.refl _ _).alloc (Nat.le_refl _) _⟩

theorem index45_0 (w : World) : (Instr.index 45 (.agg (cellsOf8 (t0 ++ t1 ++ t2 ++ t3))) (.int .i64 0)).run Try.prog w = .ok (.agg (cellsOf8 t0)) w := by kernel_rfl
theorem index45_1 (w : World) : (Instr.index 45 (.agg (cellsOf8 (t0 ++ t1 ++ t2 ++ t3))) (.int .i64 1)).run Try.prog w = .ok (.agg (cellsOf8 t1)) w := by kernel_rfl
theorem index45_2 (w : World) : (Instr.index 45 (.agg (cellsOf8 (t0 ++ t1 ++ t2 ++ t3))) (.int .i64 2)).run Try.prog w = .ok (.agg (cellsOf8 t2)) w := by kernel_rfl
theorem index45_3 (w : World) : (Instr.index 45 (.agg (cellsOf8 (t0 ++ t1 ++ t2 ++ t3))) (.int .i64 3)).run Try.prog w = .ok (.agg (cellsOf8 t3)) w := by kernel_rfl
theorem info44 : (Try.prog.info? 44).map (·.size) = some 16 := by kernel_rfl

/-- the four tables -/
def tab (n : Nat) : List Nat := if n = 0 then t0 else if n = 1 then t1 else if n = 2 then t2 else t3
theorem use_walk (n : Nat) (cs tb : Array Value) (w : World) (hidx : ∀ w, (Instr.index 45 (.agg cs) (.int .i64 n)).run Try.prog w = .ok (.agg tb) w)
    (htb : tb.size = 16) (h1 : tb.all (·.oneCell') = true)
    (htab : ∀ w, Calls Try.prog 39 #[] w fun e w' => e = .returned (.agg cs) ∧ Below w.heap.size w w') :
    Calls Try.prog 35 #[.int .i64 n] w fun e w' => ∃ B, w.heap.size ≤ B ∧ e = .returned (.func (Fn.func 40) #[] #[.pointer (some ⟨B, 0, none⟩)]) ∧ Below w.heap.size w w' ∧ w'.heap[B]? = some (.cells tb 44 (0, 0)) := by
  have HT := Lib.hid htab
  have H1 := Lib.hid h1
  have HI : Hid ((Try.prog.info? 44).map (·.size) = some tb.size) := Lib.hid (by rw [htb]; exact info44)
  have HS : Hid (16 = tb.size) := Lib.hid htb.symm
  clear htab h1 htb
  go_enter Try.func35, Try.ntmps35
  go_wp2_with (first | (go_at_call 39; refine (HT.out _).mono ?_; rintro e w1 ⟨rfl, hb⟩) | (refine wpList_store_row rfl 44 (.tmp 3) (.tmp 6) rfl w1.heap.size tb rfl rfl 44 _ (heap_alloc_new _ _) HI.out HS.out H1.out ?_; rw [setRow_alloc]))
  go_ret
  exact ⟨w1.heap.size, hb.size, rfl, hb.alloc hb.size _, heap_alloc_new _ _⟩
end Go.Proofs.Ytfaifdmjgkaphaa
