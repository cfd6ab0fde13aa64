/-
  The reference's crypt.
-/
import Derived.Test.YtgjkeeejcebhhaaR3
import Derived.Test.YtgjkeeejcebhhaaA10
namespace Go.Proofs.Ytgjkeeejcebhhaa
open Go.RowKit
/-- A byte of a column, mixed by products. -/
def mixB (t : Nat → Byte) (i : Nat) : Byte := times 2#8 (t i) ^^^ times 3#8 (t (4 * (i / 4) + (i + 1) % 4)) ^^^ t (4 * (i / 4) + (i + 2) % 4) ^^^ t (4 * (i / 4) + (i + 3) % 4)
def mixR (t : Nat → Byte) (k : Nat) : Nat → Byte := fun i => if i < k then mixB t i else t i
theorem mixR_upd (t : Nat → Byte) (k : Nat) : upd (mixR t k) k (mixB t k) = mixR t (k + 1) := by
  funext i; unfold upd mixR
  by_cases h : i = k
  · subst h; simp
  · rw [if_neg h]
    by_cases h2 : i < k
    · rw [if_pos h2, if_pos (by omega)]
    · rw [if_neg h2, if_neg (by omega)]
theorem mixB_m1 (t : Nat → Byte) (i : Nat) : mixB t i = m1 (t i) (t (4 * (i / 4) + (i + 1) % 4)) (t (4 * (i / 4) + (i + 2) % 4)) (t (4 * (i / 4) + (i + 3) % 4)) := by
  unfold mixB m1
  have e2 : ∀ x : Byte, times 2#8 x = twice x := fun x => times_2x x.toFin
  have e3 : ∀ x : Byte, times 3#8 x = twice x ^^^ x := fun x => times_3x x.toFin
  rw [e2, e3, twice_xor]
  generalize t i = a
  generalize t (4 * (i / 4) + (i + 1) % 4) = b
  simp only [BitVec.xor_assoc, xc, xs]
  ac_rfl
theorem mixR_mix (t : Nat → Byte) : Agree 16 (mixR t 16) (mixTo t 4) := fun i hi => by
  unfold mixR
  rw [if_pos hi, mixTo_is, if_pos (by omega), mixB_m1]
  have a := mixAt_m1 t (4 * (i / 4))
  rcases (show i = 4 * (i / 4) ∨ i = 4 * (i / 4) + 1 ∨ i = 4 * (i / 4) + 2 ∨ i = 4 * (i / 4) + 3 by omega) with e | e | e | e
  · rw [show mixAt t (4 * (i / 4)) i = mixAt t (4 * (i / 4)) (4 * (i / 4)) by rw [← e], a.1]
    rw [show (i + 1) % 4 = 1 by omega, show (i + 2) % 4 = 2 by omega, show (i + 3) % 4 = 3 by omega, show t i = t (4 * (i / 4)) by rw [← e]]
  · rw [show mixAt t (4 * (i / 4)) i = mixAt t (4 * (i / 4)) (4 * (i / 4) + 1) by rw [← e], a.2.1]
    rw [show (i + 1) % 4 = 2 by omega, show (i + 2) % 4 = 3 by omega, show (i + 3) % 4 = 0 by omega, show t i = t (4 * (i / 4) + 1) by rw [← e]]; rfl
  · rw [show mixAt t (4 * (i / 4)) i = mixAt t (4 * (i / 4)) (4 * (i / 4) + 2) by rw [← e], a.2.2.1]
    rw [show (i + 1) % 4 = 3 by omega, show (i + 2) % 4 = 0 by omega, show (i + 3) % 4 = 1 by omega, show t i = t (4 * (i / 4) + 2) by rw [← e]]; rfl
  · rw [show mixAt t (4 * (i / 4)) i = mixAt t (4 * (i / 4)) (4 * (i / 4) + 3) by rw [← e], a.2.2.2]
    rw [show (i + 1) % 4 = 0 by omega, show (i + 2) % 4 = 1 by omega, show (i + 3) % 4 = 2 by omega, show t i = t (4 * (i / 4) + 3) by rw [← e]]; rfl
end Go.Proofs.Ytgjkeeejcebhhaa
