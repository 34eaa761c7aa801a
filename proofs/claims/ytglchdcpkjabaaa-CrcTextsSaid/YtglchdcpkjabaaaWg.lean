import Derived.Test.YtglchdcpkjabaaaWf
namespace Go.Proofs.Ytglchdcpkjabaaa
open Go.RowKit

/-- block B is eight numbers, the first k are g -/
def Mat8 (w : World) (B : Nat) (g : Nat → Nat) (k : Nat) : Prop := ∃ cs : Array Value, w.heap[B]? = some (.cells cs 45 (0, 0)) ∧ cs.size = 8 ∧ ∀ i, i < k → cs[i]? = some (.int .u32 (g i))
theorem Mat8.cell {w : World} {B : Nat} {g : Nat → Nat} {k : Nat} (h : Mat8 w B g k) (i : Nat) (hi : i < k) : w.cell? ⟨B, i, none⟩ = some (.int .u32 (g i)) := by
  obtain ⟨cs, h1, h2, h3⟩ := h
  rw [cell_of_row w B i cs _ _ h1, h3 i hi]
theorem Mat8.some_cell {w : World} {B : Nat} {g : Nat → Nat} {k : Nat} (h : Mat8 w B g k) (i : Nat) (hi : i < 8) : ∃ v, w.cell? ⟨B, i, none⟩ = some v := by
  obtain ⟨cs, h1, h2, h3⟩ := h
  rw [cell_of_row w B i cs _ _ h1, Array.getElem?_eq_getElem (by omega)]
  exact ⟨_, rfl⟩
theorem Mat8.frozen {w : World} {B : Nat} {g : Nat → Nat} {k : Nat} (h : Mat8 w B g k) (i : Nat) : w.frozen? ⟨B, i, none⟩ = false := by
  obtain ⟨cs, h1, h2, h3⟩ := h
  exact frozen_of_row w B i cs _ h1
theorem Mat8.set_ {w : World} {B : Nat} {g : Nat → Nat} {k : Nat} (h : Mat8 w B g k) (hk : k < 8) : Mat8 (w.setCell ⟨B, k, none⟩ (.int .u32 (g k))) B g (k + 1) := by
  obtain ⟨cs, h1, h2, h3⟩ := h
  refine ⟨_, heap_setCell_same w B k cs _ _ h1, by simp [h2], fun i hi => ?_⟩
  rw [Array.getElem?_setIfInBounds]
  by_cases hik : k = i
  · subst hik; simp [h2, hk]
  · rw [if_neg hik]; exact h3 i (by omega)
theorem Mat8.drewN {w : World} {B : Nat} {g : Nat → Nat} {k : Nat} (h : Mat8 w B g k) (n : Nat) : Mat8 (w.drewN n) B g k := h
theorem Mat8.far {w : World} {B : Nat} {g : Nat → Nat} {k : Nat} (h : Mat8 w B g k) {a : Addr} (ha : B ≠ a.block) (v : Value) : Mat8 (w.setCell a v) B g k := by
  obtain ⟨cs, h1, h2, h3⟩ := h
  exact ⟨cs, by rw [heap_setCell_other w a B v ha]; exact h1, h2, h3⟩
theorem Mat8.lt {w : World} {B : Nat} {g : Nat → Nat} {k : Nat} (h : Mat8 w B g k) : B < w.heap.size := by
  obtain ⟨cs, h1, _⟩ := h
  exact (Array.getElem?_eq_some_iff.1 h1).1
theorem Mat8.alloc {w : World} {B : Nat} {g : Nat → Nat} {k : Nat} (h : Mat8 w B g k) (o : Obj) : Mat8 (w.alloc o) B g k := by
  have hl := h.lt
  obtain ⟨cs, h1, h2, h3⟩ := h
  exact ⟨cs, by rw [Below.heap_alloc w o B hl]; exact h1, h2, h3⟩

theorem Mat8.cells {w : World} {B : Nat} {g : Nat → Nat} (h : Mat8 w B g 8) : ∃ cs : Array Value, w.heap[B]? = some (.cells cs 45 (0, 0)) ∧ (Try.prog.info? 45).map (·.size) = some cs.size ∧ 8 = cs.size ∧ cs.all (·.oneCell') = true ∧
    ∀ w' B', w'.heap[B']? = some (.cells cs 45 (0, 0)) → Mat8 w' B' g 8 := by
  obtain ⟨cs, h1, h2, h3⟩ := h
  refine ⟨cs, h1, by rw [h2]; kernel_rfl, h2.symm, ?_, fun w' B' hw => ⟨cs, hw, h2, h3⟩⟩
  rw [Array.all_eq_true]
  intro i hi
  have h4 := h3 i (by omega)
  rw [Array.getElem?_eq_getElem hi] at h4
  injection h4 with h4
  rw [h4]; rfl

theorem agg8 (g : Nat → Nat) (cs : Array Value) (hsz : cs.size = 8) (h : ∀ i, i < 8 → cs[i]? = some (.int .u32 (g i))) :
    cs = #[.int .u32 (g 0), .int .u32 (g 1), .int .u32 (g 2), .int .u32 (g 3), .int .u32 (g 4), .int .u32 (g 5), .int .u32 (g 6), .int .u32 (g 7)] := by
  apply Array.ext
  · rw [hsz]; rfl
  · intro i h1 h2
    have h3 := h i (by omega)
    rw [Array.getElem?_eq_getElem h1] at h3
    injection h3 with h3
    rw [h3]
    have : i < 8 := by omega
    rcases (by omega : i = 0 ∨ i = 1 ∨ i = 2 ∨ i = 3 ∨ i = 4 ∨ i = 5 ∨ i = 6 ∨ i = 7) with rfl | rfl | rfl | rfl | rfl | rfl | rfl | rfl <;> rfl
theorem mat8_zero {w : World} {B : Nat} {g g' : Nat → Nat} {k : Nat} (h : Mat8 w B g k) : Mat8 w B g' 0 := by
  obtain ⟨cs, h1, h2, _⟩ := h
  exact ⟨cs, h1, h2, fun i hi => absurd hi (by omega)⟩
theorem Mat8.lit {w : World} {B : Nat} {g : Nat → Nat} (h : Mat8 w B g 8) : w.heap[B]? = some (.cells #[.int .u32 (g 0), .int .u32 (g 1), .int .u32 (g 2), .int .u32 (g 3), .int .u32 (g 4), .int .u32 (g 5), .int .u32 (g 6), .int .u32 (g 7)] 45 (0, 0)) := by
  obtain ⟨cs, h1, h2, h3⟩ := h
  rw [h1, agg8 g cs h2 h3]
theorem Mat8.congr {w : World} {B : Nat} {g g' : Nat → Nat} {k : Nat} (h : Mat8 w B g k) (e : ∀ i, i < k → g i = g' i) : Mat8 w B g' k := by
  obtain ⟨cs, h1, h2, h3⟩ := h
  exact ⟨cs, h1, h2, fun i hi => by rw [h3 i hi, e i hi]⟩
theorem idx8 (g : Nat → Nat) (k : Nat) (hk : k < 8) (w : World) :
    (Instr.index 45 (.agg #[.int .u32 (g 0), .int .u32 (g 1), .int .u32 (g 2), .int .u32 (g 3), .int .u32 (g 4), .int .u32 (g 5), .int .u32 (g 6), .int .u32 (g 7)]) (.int .i64 (k : Int))).run Try.prog w = .ok (.int .u32 (g k)) w := by
  rcases (by omega : k = 0 ∨ k = 1 ∨ k = 2 ∨ k = 3 ∨ k = 4 ∨ k = 5 ∨ k = 6 ∨ k = 7) with rfl | rfl | rfl | rfl | rfl | rfl | rfl | rfl <;> kernel_rfl

/-- the bit whose change makes a text a sealed one -/
noncomputable def loc (l : List UInt8) : Option Nat := open Classical in if h : 4 ≤ l.length ∧ l.length ≤ 4096 ∧ ∃ n, wrongAt l n then some h.2.2.choose else none
theorem loc_some {l : List UInt8} {n : Nat} (h4 : 4 ≤ l.length) (hm : l.length ≤ 4096) (h : wrongAt l n) : loc l = some n := by
  unfold loc
  have hx : 4 ≤ l.length ∧ l.length ≤ 4096 ∧ ∃ n, wrongAt l n := ⟨h4, hm, n, h⟩
  rw [dif_pos hx]
  exact congrArg some (wrongAt_inj hm hx.2.2.choose_spec h)
theorem loc_none {l : List UInt8} (h : ∀ n, ¬ wrongAt l n) : loc l = none := by
  unfold loc
  rw [dif_neg]
  rintro ⟨_, _, n, hn⟩
  exact h n hn
theorem loc_short {l : List UInt8} (h : ¬ (4 ≤ l.length ∧ l.length ≤ 4096)) : loc l = none := by
  unfold loc
  rw [dif_neg]
  rintro ⟨h1, h2, _⟩
  exact h ⟨h1, h2⟩
theorem loc_wrong {l : List UInt8} {n : Nat} (h : loc l = some n) : 4 ≤ l.length ∧ l.length ≤ 4096 ∧ wrongAt l n := by
  unfold loc at h
  split at h
  · rename_i hx
    injection h with h
    exact ⟨hx.1, hx.2.1, h ▸ hx.2.2.choose_spec⟩
  · cases h

/-- a bit of the sum -/
theorem wrong_low {l : List UInt8} (h4 : 4 ≤ l.length) {i : Nat} (hi : i < 32) : wrongAt l (8 * (l.length - 4 + i / 8) + 7 - i % 8) ↔ syn l = 2 ^ i := by
  have hd : (8 * (l.length - 4 + i / 8) + 7 - i % 8) / 8 = l.length - 4 + i / 8 := by omega
  have hm : 7 - (8 * (l.length - 4 + i / 8) + 7 - i % 8) % 8 = i % 8 := by omega
  have he : eff l.length (8 * (l.length - 4 + i / 8) + 7 - i % 8) = sh 32 (2 ^ i) := by
    unfold eff
    rw [hd, hm, show 32 = 8 * (i / 8) + 8 * (l.length - (l.length - 4 + i / 8)) by omega, sh_add]
    congr 1
    have := sh_pow (8 * (i / 8)) (i % 8)
    rw [show 8 * (i / 8) + i % 8 = i by omega] at this
    exact this.symm
  unfold wrongAt
  rw [he]
  constructor
  · intro ⟨_, h⟩
    exact (sh_inj 32 (Nat.pow_lt_pow_right (by decide) hi) (syn_lt l) h).symm
  · intro h
    exact ⟨by omega, by rw [h]⟩
/-- a bit of the data -/
theorem wrong_high {l : List UInt8} (h4 : 4 ≤ l.length) {p i : Nat} (hi : i < 8) (hp : p < l.length - 4) : wrongAt l (8 * p + 7 - i) ↔ sh (8 * (l.length - 4 - p)) (2 ^ i) = syn l := by
  have he : eff l.length (8 * p + 7 - i) = sh 32 (sh (8 * (l.length - 4 - p)) (2 ^ i)) := by
    unfold eff
    rw [show (8 * p + 7 - i) / 8 = p by omega, show 7 - (8 * p + 7 - i) % 8 = i by omega, ← sh_add]
    congr 1; omega
  unfold wrongAt
  rw [he]
  constructor
  · intro ⟨_, h⟩
    exact sh_inj 32 (sh_lt _ (Nat.pow_lt_pow_right (by decide) (by omega))) (syn_lt l) h
  · intro h
    exact ⟨by omega, by rw [h]⟩
def NoLow (l : List UInt8) (k : Nat) : Prop := ∀ i, i < k → syn l ≠ 2 ^ i
def NoHigh (l : List UInt8) (at_ : Nat) : Prop := ∀ p i, at_ ≤ p → p < l.length - 4 → i < 8 → sh (8 * (l.length - 4 - p)) (2 ^ i) ≠ syn l
def NoAt (l : List UInt8) (p k : Nat) : Prop := ∀ i, i < k → sh (8 * (l.length - 4 - p)) (2 ^ i) ≠ syn l
theorem NoLow.succ {l : List UInt8} {k : Nat} (h : NoLow l k) (h1 : syn l ≠ 2 ^ k) : NoLow l (k + 1) := fun i hi => by
  by_cases e : i = k
  · subst e; exact h1
  · exact h i (by omega)
theorem NoAt.succ {l : List UInt8} {p k : Nat} (h : NoAt l p k) (h1 : sh (8 * (l.length - 4 - p)) (2 ^ k) ≠ syn l) : NoAt l p (k + 1) := fun i hi => by
  by_cases e : i = k
  · subst e; exact h1
  · exact h i (by omega)
theorem NoHigh.down {l : List UInt8} {p : Nat} (h : NoHigh l (p + 1)) (h1 : NoAt l p 8) : NoHigh l p := fun q i hq hl hi => by
  by_cases e : q = p
  · subst e; exact h1 i hi
  · exact h q i (by omega) hl hi
theorem loc_no {l : List UInt8} (h4 : 4 ≤ l.length) (h1 : NoLow l 32) (h2 : NoHigh l 0) : loc l = none := by
  apply loc_none
  intro n hn
  have hlt := hn.1
  by_cases hk : n / 8 < l.length - 4
  · have e : n = 8 * (n / 8) + 7 - (7 - n % 8) := by omega
    rw [e] at hn
    exact h2 (n / 8) (7 - n % 8) (by omega) hk (by omega) ((wrong_high h4 (by omega) hk).1 hn)
  · have e : n = 8 * (l.length - 4 + (8 * (n / 8 - (l.length - 4)) + (7 - n % 8)) / 8) + 7 - (8 * (n / 8 - (l.length - 4)) + (7 - n % 8)) % 8 := by omega
    rw [e] at hn
    exact h1 _ (by omega) ((wrong_low h4 (by omega)).1 hn)
end Go.Proofs.Ytglchdcpkjabaaa
