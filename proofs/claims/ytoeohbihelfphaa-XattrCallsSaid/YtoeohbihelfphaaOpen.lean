/-
  An array of bytes by value, as it comes in.
-/
import Derived.Test.YtoeohbihelfphaaRows
import Derived.Test.YtoeohbihelfphaaMem
import Derived.ProofKit
import Derived.OpenShut
import Derived.ShutString
import Derived.ChangeOld
import Derived.Below
namespace Go.Proofs.Ytoeohbihelfphaa
open Go.ChangeShapes Go.WideShapes Go.ChangeAt Go.RowKit
set_option linter.unusedVariables false
set_option linter.unusedSimpArgs false
section
variable {H : Type} {enc : TypeId × Value → H} {P : Program} {w : World} {base : Nat} {spare : Nat → Bool} {held : Bool}
theorem open_bytes_row {r : Reach} {b0 : Nat} {t e n : Nat} {v : Value} {d : DataW H} {p : List MemPlace} (ht : P.underlying t = some (.array n e)) (he : P.underlying e = some (.int .u8)) (hc : P.cellsOf t = n) (he1 : P.cellsOf e = 1)
    (hv : Value.okWide P w r b0 t v) (h : DataW.Trod enc P w base spare held t v d p) : ∃ f, v = .agg (Fs n f) := by
  unfold Value.okWide at hv
  simp only [ht] at hv
  obtain ⟨cs, rfl, hsz, _⟩ := hv
  obtain ⟨fuel, hf⟩ := h
  obtain ⟨xs, m, rfl, _, _, hl, hx⟩ := DataW.trod_array ht hf
  have hcell : ∀ i, i < n → ∃ b : Byte, cs[i]? = some (B b) := fun i hi => by
    have h1 := hx i hi
    rw [he1, Nat.mul_one, List.getElem?_eq_getElem (by omega)] at h1
    have hi2 : i < cs.size := by omega
    have e1 : ((Value.agg cs).cells.toList.drop i).take 1 = [cs[i]] := by
      show (cs.toList.drop i).take 1 = _
      rw [List.drop_eq_getElem_cons (by simpa using hi2)]; simp
    rw [e1] at h1
    obtain ⟨a, e2, _, wa⟩ := DataW.trod_int he h1
    have bd := bounds_u8 wa
    obtain ⟨b, hb⟩ := byte_of a bd.1 (by omega)
    simp only [List.cons.injEq, and_true] at e2
    exact ⟨b, by rw [Array.getElem?_eq_getElem hi2, e2, hb]⟩
  obtain ⟨f, hf2⟩ : ∃ f : Nat → Byte, ∀ i, i < n → cs[i]? = some (B (f i)) := by
    refine ⟨fun i => if h : i < n then Classical.choose (hcell i h) else 0#8, fun i hi => ?_⟩
    simp only [dif_pos hi]
    exact Classical.choose_spec (hcell i hi)
  refine ⟨f, ?_⟩
  congr 1
  apply Array.ext
  · rw [Fs_size]; omega
  · intro i h1 h2
    have e3 := hf2 i (by omega)
    have e4 := Fs_get n f i (by omega)
    rw [Array.getElem?_eq_getElem h1] at e3
    rw [Array.getElem?_eq_getElem h2] at e4
    have := e3.trans e4.symm
    simpa using this
end
end Go.Proofs.Ytoeohbihelfphaa
