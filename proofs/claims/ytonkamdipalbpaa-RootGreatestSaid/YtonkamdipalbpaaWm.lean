import Derived.Test.YtonkamdipalbpaaWl
import Derived.ChangeOld
import Derived.ShutString
namespace Go.Proofs.Ytonkamdipalbpaa
open Go.RowKit Go.ChangeShapes Go.WideShapes Go.ChangeAt

theorem cells25 : Try.prog.cellsOf 25 = 4 := by kernel_rfl
theorem cells23 : Try.prog.cellsOf 23 = 3 := by kernel_rfl
theorem cells3 : Try.prog.cellsOf 3 = 1 := by kernel_rfl
section
variable {H : Type} {enc : TypeId × Value → H} {w : World} {base b0 : Nat} {spare : Nat → Bool} {held : Bool}
theorem root_cells {fuel : Nat} {cs : List Value} {x : DataW H × List MemPlace} (h : DataW.trod enc Try.prog w base spare held fuel 25 cs = some x) : ∃ n s l c : Int, cs = [.int .i64 n, .int .i64 s, .int .i64 l, .int .i64 c] := by
  obtain ⟨xs, n, _, _, hl, hx, hg⟩ := DataW.trod_struct Try.underlying25 h
  rw [cells25] at hl
  match cs, hl with
  | [c0, c1, c2, c3], _ =>
    have h0 := hg 0 _ rfl
    have h1 := hg 1 _ rfl
    match xs, hx with
    | [y0, y1], _ =>
      simp only [List.getElem?_cons_zero, List.getElem?_cons_succ] at h0 h1
      obtain ⟨a, ha, _⟩ := DataW.trod_int Try.underlying3 h0
      obtain ⟨zs, m, _, _, _, hz, hk⟩ := DataW.trod_struct Try.underlying23 h1
      match zs, hz with
      | [z0, z1, z2], _ =>
        have k0 := hk 0 _ rfl
        have k1 := hk 1 _ rfl
        have k2 := hk 2 _ rfl
        simp only [List.getElem?_cons_zero, List.getElem?_cons_succ] at k0 k1 k2
        obtain ⟨b, hb, _⟩ := DataW.trod_int Try.underlying3 k0
        obtain ⟨c, hc, _⟩ := DataW.trod_int Try.underlying3 k1
        obtain ⟨d, hd, _⟩ := DataW.trod_int Try.underlying3 k2
        simp [cells3, cells23] at ha hb hc hd
        exact ⟨a, b, c, d, by simp [ha, hb, hc, hd]⟩
theorem open_root {r : Reach} {v : Value} {d : DataW H} {p : List MemPlace} (hv : Value.okWide Try.prog w r b0 25 v) (h : DataW.Trod enc Try.prog w base spare held 25 v d p) : ∃ n s l c : Int, v = .agg #[.int .i64 n, .int .i64 s, .int .i64 l, .int .i64 c] := by
  obtain ⟨cs, rfl, _⟩ := okWide_struct Try.underlying25 hv
  obtain ⟨fuel, hf⟩ := h
  obtain ⟨n, s, l, c, e⟩ := root_cells hf
  refine ⟨n, s, l, c, ?_⟩
  obtain ⟨k⟩ := cs
  simp [Value.cells] at e
  simp [e]
theorem form_in {d : DataW H} {p : List MemPlace} (v : Value) (h : DataW.Trod enc Try.prog w base spare held 25 v d p) (hv : Value.okWide Try.prog w .any b0 25 v) (W : World) : Calls Try.prog 3 #[v] W fun e w' => e = .returned (.bool true) ∧ Below W.heap.size W w' := by
  obtain ⟨n, s, l, c, rfl⟩ := open_root hv h
  exact form_law n s l c W
theorem returns_in {d : DataW H} {p : List MemPlace} (v : Value) (h : DataW.Trod enc Try.prog w base spare held 25 v d p) (hv : Value.okWide Try.prog w .any b0 25 v) (a : Int) (_ : (Lit.int .i64 a).wf = true) (W : World) : Calls Try.prog 5 #[v, .int .i64 a] W fun e w' => e = .returned (.bool true) ∧ Below W.heap.size W w' := by
  obtain ⟨n, s, l, c, rfl⟩ := open_root hv h
  exact returns_law n s l c a W
end
theorem decodes_in (s : ByteArray) (_ : s.size ≤ maxLen) (a : Int) (_ : (Lit.int .i64 a).wf = true) (W : World) : Calls Try.prog 4 #[.string s, .int .i64 a] W fun e w' => e = .returned (.bool true) ∧ Below W.heap.size W w' := decodes_law s a W
theorem strict_in (s : ByteArray) (_ : s.size ≤ maxLen) (a : Int) (_ : (Lit.int .i64 a).wf = true) (W : World) : Calls Try.prog 6 #[.string s, .int .i64 a] W fun e w' => e = .returned (.bool true) ∧ Below W.heap.size W w' := strict_law s a W
end Go.Proofs.Ytonkamdipalbpaa
