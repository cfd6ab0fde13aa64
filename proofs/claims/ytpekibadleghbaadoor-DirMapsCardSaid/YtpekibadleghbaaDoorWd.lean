/-
  Rows of words.
-/
import Derived.Test.YtpekibadleghbaaDoorN0
namespace Go.Proofs.YtpekibadleghbaaDoor
open Go.RowKit
set_option linter.unusedVariables false
set_option linter.unusedSimpArgs false
/-- A row of n words. -/
def Ws (n : Nat) (f : Nat → Word) : Array Value := ((List.range n).map fun i => W (f i)).toArray
def updW (f : Nat → Word) (i : Nat) (v : Word) : Nat → Word := fun j => if j = i then v else f j
theorem updW_same (f : Nat → Word) (i : Nat) (v : Word) : updW f i v i = v := by simp [updW]
theorem updW_other (f : Nat → Word) (i j : Nat) (v : Word) (h : j ≠ i) : updW f i v j = f j := by simp [updW, h]

theorem Ws_size (n : Nat) (f : Nat → Word) : (Ws n f).size = n := by simp [Ws]
theorem Ws_get (n : Nat) (f : Nat → Word) (i : Nat) (h : i < n) : (Ws n f)[i]? = some (W (f i)) := by simp [Ws, h]
theorem Ws_set (n : Nat) (f : Nat → Word) (i : Nat) (v : Word) : (Ws n f).setIfInBounds i (W v) = Ws n (updW f i v) := by
  unfold Ws updW
  rw [List.setIfInBounds_toArray]
  congr 1
  apply List.ext_getElem
  · simp
  · intro j h1 h2
    simp only [List.length_set, List.length_map, List.length_range] at h1
    simp only [List.getElem_set, List.getElem_map, List.getElem_range]
    by_cases h : i = j
    · subst h; simp
    · simp [h, Ne.symm h]
theorem Ws_congr {n : Nat} {f g : Nat → Word} (h : ∀ i, i < n → f i = g i) : Ws n f = Ws n g := by
  unfold Ws; congr 1; apply List.map_congr_left; intro i hi; rw [h i (by simpa using hi)]

/-- The block g of w is a row of n words of type t. -/
abbrev RowW (w : World) (g t n : Nat) (f : Nat → Word) : Prop := w.heap[g]? = some (.cells (Ws n f) t (0, 0))

theorem RowW.cell {w : World} {g t n : Nat} {f : Nat → Word} (h : RowW w g t n f) {i : Nat} (hi : i < n) : w.cell? ⟨g, i, none⟩ = some (W (f i)) := by
  rw [cell_of_row w g i _ t _ h, Ws_get n f i hi]
theorem RowW.free {w : World} {g t n : Nat} {f : Nat → Word} (h : RowW w g t n f) (i : Nat) : w.frozen? ⟨g, i, none⟩ = false := frozen_of_row w g i _ t h
theorem RowW.set {w : World} {g t n : Nat} {f : Nat → Word} (h : RowW w g t n f) (i : Nat) (v : Word) : RowW (w.setCell ⟨g, i, none⟩ (W v)) g t n (updW f i v) := by
  unfold RowW
  rw [heap_setCell_same w g i _ t _ h, Ws_set]
theorem RowW.other {w : World} {g t n : Nat} {f : Nat → Word} (h : RowW w g t n f) {p : Addr} (hp : g ≠ p.block) (u : Value) : RowW (w.setCell p u) g t n f := by
  unfold RowW
  rw [heap_setCell_other w p g u hp]; exact h
theorem RowW.congr {w : World} {g t n : Nat} {f f' : Nat → Word} (h : RowW w g t n f) (e : ∀ i, i < n → f i = f' i) : RowW w g t n f' := by
  unfold RowW; rw [← Ws_congr e]; exact h

theorem Ws_one (n : Nat) (f : Nat → Word) : (Ws n f).all (·.oneCell') = true := by
  rw [Array.all_eq_true_iff_forall_mem]
  intro v hv
  unfold Ws at hv
  simp only [List.mem_toArray, List.mem_map] at hv
  obtain ⟨i, _, rfl⟩ := hv
  rfl
theorem RowW.row {w : World} {g t n : Nat} {f f' : Nat → Word} (h : RowW w g t n f) : RowW (w.setRow g (Ws n f')) g t n f' := setRow_heap w g _ _ t _ h
theorem RowW.rowOther {w : World} {g g' t n : Nat} {f : Nat → Word} (h : RowW w g t n f) (hne : g ≠ g') (cs : Array Value) : RowW (w.setRow g' cs) g t n f := by
  unfold RowW; rw [setRow_other w g' g cs hne]; exact h



theorem RowW.alloc {w : World} {g t n : Nat} {f : Nat → Word} (h : RowW w g t n f) (o : Obj) : RowW (w.alloc o) g t n f := by
  unfold RowW; rw [Below.heap_alloc w o g (lt_of_at h)]; exact h
theorem RowW.new (w : World) (t n : Nat) (f : Nat → Word) : RowW (w.alloc (.cells (Ws n f) t)) w.heap.size t n f := heap_alloc_new w _
theorem RowW.lt {w : World} {g t n : Nat} {f : Nat → Word} (h : RowW w g t n f) : g < w.heap.size := lt_of_at h
end Go.Proofs.YtpekibadleghbaaDoor
