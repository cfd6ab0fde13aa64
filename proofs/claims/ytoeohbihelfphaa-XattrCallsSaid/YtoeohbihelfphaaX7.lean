/-
  Attributes' rows, for Insert and Delete.
-/
import Derived.Test.YtoeohbihelfphaaX6
namespace Go.Proofs.Ytoeohbihelfphaa
open Go.RowKit
set_option linter.unusedVariables false
set_option linter.unusedSimpArgs false
theorem ListC.cells {w : World} {g o n : Nat} {xs : List Xc} (h : ∀ i, i < n → XAt w g (o + i * 2) (nthC xs i)) (hn : xs.length = n) : ∀ j u, (flat xcl xs)[j]? = some u → w.cell? ((⟨g, o, none⟩ : Addr).add j) = some u := by
  intro j u hj
  rw [Addr.add_lit]
  have hlt : j < (flat xcl xs).length := (List.getElem?_eq_some_iff.1 hj).1
  rw [flat_length xcl_len] at hlt
  have hi : j / 2 < xs.length := by omega
  have hg := flat_get (cells := xcl) xcl_len xs [] (j / 2) (j % 2) hi (by omega)
  rw [List.append_nil, show j / 2 * 2 + j % 2 = j by omega, hj, nthC_eq xs _ hi] at hg
  have hu := h (j / 2) (by omega)
  have : j % 2 = 0 ∨ j % 2 = 1 := by omega
  rcases this with e | e <;> rw [e] at hg <;> simp [xcl] at hg <;> rw [show o + j = o + j / 2 * 2 + j % 2 by omega, e, hg]
  · exact hu.1
  · exact hu.2
theorem Blk.at {w : World} {g : Nat} {xs : List Xc} {r : List Value} (h : Blk w g 26 (flat xcl xs ++ r)) {i : Nat} (hi : i < xs.length) : XAt w g (i * 2) (nthC xs i) := by
  have key : ∀ j, j < 2 → w.cell? ⟨g, i * 2 + j, none⟩ = (xcl (nthC xs i))[j]? := fun j hj => by
    rw [h.cell, flat_get (cells := xcl) xcl_len xs r i j hi hj, nthC_eq xs i hi]
  exact ⟨by have := key 0 (by omega); simpa [xcl] using this, by have := key 1 (by omega); simpa [xcl] using this⟩
end Go.Proofs.Ytoeohbihelfphaa
