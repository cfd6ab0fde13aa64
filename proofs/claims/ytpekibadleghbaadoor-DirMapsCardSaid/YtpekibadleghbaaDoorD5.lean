/-
  Entries' cells as one row.
-/
import Derived.Test.YtpekibadleghbaaDoorDA
import Derived.Test.YtpekibadleghbaaDoorS0
namespace Go.Proofs.YtpekibadleghbaaDoor
open Go.RowKit
set_option linter.unusedVariables false
set_option linter.unusedSimpArgs false
theorem ListE.cells {w : World} {g o n : Nat} {xs : List En} (h : ∀ i, i < n → EAt w g (o + i * 2) (nthE xs i)) (hn : xs.length = n) : ∀ j u, (flat ecl xs)[j]? = some u → w.cell? ((⟨g, o, none⟩ : Addr).add j) = some u := by
  intro j u hj
  rw [Addr.add_lit]
  have hlt : j < (flat ecl xs).length := (List.getElem?_eq_some_iff.1 hj).1
  rw [flat_length ecl_len] at hlt
  have hi : j / 2 < xs.length := by omega
  have hg := flat_get (cells := ecl) ecl_len xs [] (j / 2) (j % 2) hi (by omega)
  rw [List.append_nil, show j / 2 * 2 + j % 2 = j by omega, hj, nthE_eq xs _ hi] at hg
  have hu := h (j / 2) (by omega)
  have : j % 2 = 0 ∨ j % 2 = 1 := by omega
  rcases this with e | e <;> rw [e] at hg <;> simp [ecl] at hg <;> rw [show o + j = o + j / 2 * 2 + j % 2 by omega, e, hg]
  · exact hu.1
  · exact hu.2
theorem Blk.at {w : World} {g : Nat} {xs : List En} {r : List Value} (h : Blk w g 68 (flat ecl xs ++ r)) {i : Nat} (hi : i < xs.length) : EAt w g (i * 2) (nthE xs i) := by
  have key : ∀ j, j < 2 → w.cell? ⟨g, i * 2 + j, none⟩ = (ecl (nthE xs i))[j]? := fun j hj => by
    rw [h.cell, flat_get (cells := ecl) ecl_len xs r i j hi hj, nthE_eq xs i hi]
  exact ⟨by have := key 0 (by omega); simpa [ecl] using this, by have := key 1 (by omega); simpa [ecl] using this⟩
end Go.Proofs.YtpekibadleghbaaDoor
