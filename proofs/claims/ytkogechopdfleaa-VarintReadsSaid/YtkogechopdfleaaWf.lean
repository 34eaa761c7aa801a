import Derived.Test.YtkogechopdfleaaVe
namespace Go.Proofs.Ytkogechopdfleaa
open Go.RowKit

/-- block B is a reader with these bytes left and this error -/
def IsR (w : World) (B : Nat) (b : ByteArray) (er : Int) : Prop := w.heap[B]? = some (.cells #[.string b, .int .i64 er] 53 (0, 0))
theorem IsR.cell0 {w B b er} (h : IsR w B b er) : w.cell? ⟨B, 0, none⟩ = some (.string b) := by
  rw [cell_of_row w B 0 _ _ _ h]; rfl
theorem IsR.cell1 {w B b er} (h : IsR w B b er) : w.cell? ⟨B, 1, none⟩ = some (.int .i64 er) := by
  rw [cell_of_row w B 1 _ _ _ h]; rfl
theorem IsR.frozen {w B b er} (h : IsR w B b er) (i : Nat) : w.frozen? ⟨B, i, none⟩ = false := by
  have h' : w.heap[B]? = some (.cells #[.string b, .int .i64 er] 53 (0, 0)) := h
  simp only [World.frozen?, h']
  simp
theorem IsR.set0 {w B b er} (h : IsR w B b er) (c : ByteArray) : IsR (w.setCell ⟨B, 0, none⟩ (.string c)) B c er := by
  have := heap_setCell_any w B 0 _ _ _ (.string c) h
  exact this
theorem IsR.set1 {w B b er} (h : IsR w B b er) (c : Int) : IsR (w.setCell ⟨B, 1, none⟩ (.int .i64 c)) B b c := by
  have := heap_setCell_any w B 1 _ _ _ (.int .i64 c) h
  exact this
theorem IsR.new (w : World) (b er) : IsR (w.alloc (.cells #[.string b, .int .i64 er] 53)) w.heap.size b er := heap_alloc_new _ _
/-- nothing below B is changed -/
def Frm (B : Nat) (w w' : World) : Prop := ∀ N, N ≤ B → Below N w w'
theorem Frm.refl (B w) : Frm B w w := fun _ _ => Below.refl _ _

theorem fail_walk (B b er) (x : Int) (w : World) (h : IsR w B b er) : Calls Try.prog 33 #[.pointer (some ⟨B, 0, none⟩), .int .i64 x] w fun e w' => e = .returned (.tuple #[]) ∧ IsR w' B b x ∧ Frm B w w' := by
  have HR := Lib.hid h
  have hc := h.cell1
  have hf := h.frozen 1
  clear h
  go_enter Try.func33, Try.ntmps33
  go_wp2_with fail
  go_end0
  exact ⟨rfl, HR.out.set1 x, fun N hN => (Below.refl _ _).setCell hN _⟩
theorem left_walk (B b er) (w : World) (h : IsR w B b er) : Calls Try.prog 20 #[.pointer (some ⟨B, 0, none⟩)] w fun e w' => e = .returned (.int .i64 b.size) ∧ w = w' := by
  have hc := h.cell0
  clear h
  go_enter Try.func20, Try.ntmps20
  go_wp2_with fail
  go_ret
  exact ⟨rfl, rfl⟩
theorem err_walk (B b er) (w : World) (h : IsR w B b er) : Calls Try.prog 22 #[.pointer (some ⟨B, 0, none⟩)] w fun e w' => e = .returned (.int .i64 er) ∧ w = w' := by
  have hc := h.cell1
  clear h
  go_enter Try.func22, Try.ntmps22
  go_wp2_with fail
  go_ret
  exact ⟨rfl, rfl⟩
theorem new_walk (b) (w : World) : Calls Try.prog 19 #[.string b] w fun e w' => e = .returned (.pointer (some ⟨w.heap.size, 0, none⟩)) ∧ IsR w' w.heap.size b 0 ∧ Frm w.heap.size w w' := by
  go_enter Try.func19, Try.ntmps19
  go_wp2_with fail
  go_ret
  exact ⟨rfl, IsR.new _ _ _, fun N hN => (Below.refl _ _).alloc hN _⟩
end Go.Proofs.Ytkogechopdfleaa
