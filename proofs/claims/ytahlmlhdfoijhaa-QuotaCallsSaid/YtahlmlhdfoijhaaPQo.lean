/-
  A list of usages that comes in, as the printed texts read it.
-/
import Derived.Test.YtahlmlhdfoijhaaPQg
namespace Go.Proofs.Ytahlmlhdfoijhaa.PQ
open Go.RowKit Go.Proofs.YtahlmlhdfoijhaaW.PrintWords
def listOf (len : Nat) (Z : Nat → Nat → Int) : List S29 := (List.range len).map fun i => ⟨Z i 0, Z i 1, Z i 2, Z i 3, Z i 4⟩
theorem listOf_len (len : Nat) (Z : Nat → Nat → Int) : (listOf len Z).length = len := by simp [listOf]
theorem C_of_cells {w : World} {a : Option Addr} {len : Nat} {Z : Nat → Nat → Int} (h : len = 0 ∨ ∃ ad, a = some ad ∧ ∀ i, i < len → ∀ j, j < 5 → w.cell? (ad.add (i * 5 + j)) = some (.int .i64 (Z i j))) (hn : len ≤ 9223372036854775807) :
    Kd.C k29 w a len (listOf len Z) := by
  refine ⟨listOf_len _ _, hn, fun h0 => ?_⟩
  obtain ⟨ad, ha, hc⟩ := h.resolve_left (by omega)
  refine ⟨ad, ha, fun j p hj => ?_⟩
  have hjl : j < len := by have := (List.getElem?_eq_some_iff.1 hj).1; rwa [listOf_len] at this
  have hp : p = ⟨Z j 0, Z j 1, Z j 2, Z j 3, Z j 4⟩ := by
    have := (List.getElem?_eq_some_iff.1 hj).2
    simp [listOf] at this; exact this.symm
  subst hp
  refine ⟨_, rfl, k29_mk w _, fun i u hi => ?_⟩
  have hil : i < 5 := by have := (List.getElem?_eq_some_iff.1 hi).1; simpa using this
  have h1 := hc j hjl i hil
  have : i = 0 ∨ i = 1 ∨ i = 2 ∨ i = 3 ∨ i = 4 := by omega
  rcases this with rfl | rfl | rfl | rfl | rfl <;> simp at hi <;> subst hi <;> exact h1
end Go.Proofs.Ytahlmlhdfoijhaa.PQ
