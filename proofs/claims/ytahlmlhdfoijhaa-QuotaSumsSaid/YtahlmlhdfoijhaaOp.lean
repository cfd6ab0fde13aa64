/-
  A slice of structs of whole numbers, as it comes in.
-/
import Derived.Test.YtahlmlhdfoijhaaRows
import Derived.ProofKit
import Derived.OpenShut
import Derived.ShutString
import Derived.ChangeOld
import Derived.Below
import Derived.WalkKit
import Derived.SizedLaws
import Derived.Deep.Slices
import Derived.ChangeSame
namespace Go.Proofs.Ytahlmlhdfoijhaa
open Go.ChangeShapes Go.WideShapes Go.ChangeAt Go.RowKit
section
variable {H : Type} {enc : TypeId × Value → H} {P : Program} {w : World}
theorem open_int_structs {t e k len cap : Nat} {a : Option Addr} {d : DataW H} {p : List MemPlace} {fs : Array Field} (ht : P.underlying t = some (.slice e)) (he : P.underlying e = some (.struct fs)) (hk : fs.size = k) (hc : P.cellsOf e = k)
    (hf : ∀ (j : Nat) (f : Field), fs[j]? = some f → f.offset = j ∧ P.cellsOf f.type = 1 ∧ P.underlying f.type = some (.int .i64))
    (h : DataW.Trod enc P w 0 (fun _ => true) true t (.slice a len cap) d p) :
    ∃ Z : Nat → Nat → Int, (len = 0 ∨ ∃ ad, a = some ad ∧ ∀ i, i < len → ∀ j, j < k → w.cell? (ad.add (i * k + j)) = some (.int .i64 (Z i j))) ∧ (a = none → len = 0) ∧ len ≤ cap ∧ cap ≤ maxLen ∧ (cap = 0 ∨ ∃ es sp, d = .slice es sp ∧ es.length + sp.length = cap) := by
  obtain ⟨fuel, hfu⟩ := h
  rcases Deep.open_slice ht hfu with ⟨hcs, _⟩ | ⟨ad, l, c, m, n, D, Pl, hcs, _, hl, hm, hmm, hx, hcell⟩
  · simp [Value.cells] at hcs
    obtain ⟨rfl, rfl, rfl⟩ := hcs
    exact ⟨fun _ _ => 0, .inl rfl, fun _ => rfl, Nat.le_refl _, by unfold maxLen; omega, .inl rfl⟩
  · simp [Value.cells] at hcs
    obtain ⟨rfl, rfl, rfl⟩ := hcs
    simp only [if_true] at hmm
    subst hmm
    have each : ∀ i, i < m → ∃ z : Nat → Int, ∀ j, j < k → w.cell? (ad.add (i * k + j)) = some (.int .i64 (z j)) := by
      intro i hi
      obtain ⟨cs', h1, h2⟩ := hcell i hi
      rw [hc] at h1
      obtain ⟨_, hlen, hce⟩ := World.cells?_some h1
      obtain ⟨xs, k', hk', hxy, _, hxl, hff⟩ := DataW.trod_struct he h2
      refine ⟨fun j => match cs'[j]? with | some (.int .i64 z) => z | _ => 0, fun j hj => ?_⟩
      have hj2 : j < fs.size := by omega
      have hfj := hff j fs[j] (Array.getElem?_eq_getElem hj2)
      obtain ⟨o1, o2, o3⟩ := hf j fs[j] (Array.getElem?_eq_getElem hj2)
      rw [o1, o2, List.getElem?_eq_getElem (by omega)] at hfj
      obtain ⟨z, hz, _⟩ := DataW.trod_int o3 hfj
      have hz2 : cs'[j]? = some (.int .i64 z) := by
        have : ((cs'.drop j).take 1)[0]? = some (.int .i64 z) := by rw [hz]; rfl
        simpa using this
      have h3 := hce j (by omega)
      have hadd : (ad.add (i * k)).add j = ad.add (i * k + j) := by
        unfold Addr.add
        by_cases h0 : i * k = 0
        · simp [h0]
        · by_cases hj0 : j = 0
          · simp [h0, hj0]
          · simp [h0, hj0, Nat.add_assoc]
      rw [hadd, hz2] at h3
      rw [h3]; simp only [hz2]
    have hch : ∀ i, ∃ z : Nat → Int, i < m → ∀ j, j < k → w.cell? (ad.add (i * k + j)) = some (.int .i64 (z j)) := fun i => by
      by_cases hi : i < m
      · obtain ⟨z, hz⟩ := each i hi
        exact ⟨z, fun _ => hz⟩
      · exact ⟨fun _ => 0, fun h => absurd h hi⟩
    refine ⟨fun i => (hch i).choose, .inr ⟨ad, rfl, fun i hi => (hch i).choose_spec (by omega)⟩, (fun h => by cases h), hl, hm, .inr ⟨_, _, congrArg Prod.fst hx, by simp; omega⟩⟩
end
end Go.Proofs.Ytahlmlhdfoijhaa
