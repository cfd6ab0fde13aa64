/-
  The reference's Set of attributes.
-/
import Derived.Test.YtoeohbihelfphaaX15
namespace Go.Proofs.Ytoeohbihelfphaa
open Go.RowKit
set_option linter.unusedVariables false
set_option linter.unusedSimpArgs false
/-- What the reference's loop has made of the first j. -/
def FoldX (e : Xa) (xs : List Xa) (j : Nat) (d : Bool) (out : List Xa) : Prop :=
  (d = false ∧ out = xs.take j ∧ ∀ m, m < j → ltN (nthA xs m).nm e.nm = true) ∨ (d = true ∧ out = insX e (xs.take j) ∧ ∃ m, m < j ∧ ltN (nthA xs m).nm e.nm = false)
theorem FoldX.start (e : Xa) (xs : List Xa) : FoldX e xs 0 false [] := .inl ⟨rfl, by simp, fun m hm => by omega⟩
theorem take_snoc (xs : List Xa) (j : Nat) (h : j < xs.length) : xs.take (j + 1) = xs.take j ++ [nthA xs j] := by rw [List.take_succ_eq_append_getElem h, nthA_eq xs j h]
theorem insX_snoc (e x : Xa) : ∀ l : List Xa, (∃ y ∈ l, ltN y.nm e.nm = false) → insX e (l ++ [x]) = insX e l ++ [x]
  | [], h => by obtain ⟨y, hy, _⟩ := h; cases hy
  | z :: l, h => by
    rw [List.cons_append]
    unfold insX
    by_cases h1 : ltN e.nm z.nm = true
    · simp [h1]
    · rw [if_neg h1, if_neg h1]
      by_cases h2 : (e.nm.toList == z.nm.toList) = true
      · simp [h2]
      · rw [if_neg h2, if_neg h2]
        obtain ⟨y, hy, hl⟩ := h
        rcases List.mem_cons.1 hy with rfl | hy
        · rcases ltN_tri e.nm y.nm with q | q | q
          · exact absurd (by rw [q]; simp) h2
          · exact absurd q h1
          · rw [q] at hl; cases hl
        · rw [insX_snoc e x l ⟨y, hy, hl⟩]; rfl
/-- Not yet laid, and the j-th is before it: the j-th alone comes. -/
theorem FoldX.before {e : Xa} {xs : List Xa} {j : Nat} {out : List Xa} (h : FoldX e xs j false out) (hj : j < xs.length) (hl : ltN (nthA xs j).nm e.nm = true) : FoldX e xs (j + 1) false (out ++ [nthA xs j]) := by
  rcases h with ⟨_, rfl, h3⟩ | ⟨h1, _⟩
  · refine .inl ⟨rfl, (take_snoc xs j hj).symm, fun m hm => ?_⟩
    by_cases e1 : m = j
    · rw [e1]; exact hl
    · exact h3 m (by omega)
  · cases h1
/-- Laid before the j-th, which is another's. -/
theorem FoldX.lay {e : Xa} {xs : List Xa} {j : Nat} {out : List Xa} (h : FoldX e xs j false out) (hj : j < xs.length) (hl : ltN e.nm (nthA xs j).nm = true) : FoldX e xs (j + 1) true (out ++ [e] ++ [nthA xs j]) := by
  rcases h with ⟨_, rfl, h3⟩ | ⟨h1, _⟩
  · refine .inr ⟨rfl, ?_, j, by omega, ltN_asymm hl⟩
    rw [take_snoc xs j hj]
    have hlen : (xs.take j).length = j := by simp; omega
    have hn : ∀ m, m < j → nthA (xs.take j ++ [nthA xs j]) m = nthA xs m := fun m hm => by
      rw [nthA_snoc, if_pos (by omega), nthA_take xs j m hm]
    have hn2 : nthA (xs.take j ++ [nthA xs j]) j = nthA xs j := by rw [nthA_snoc, if_neg (by omega), if_pos (by omega)]
    rw [insX_at e _ j (by simp; omega) (fun m hm => by rw [hn m hm]; exact h3 m hm) (fun _ => by rw [hn2]; exact hl)]
    clear hn hn2 h3
    generalize xs.take j = l at *
    subst hlen
    simp
  · cases h1
/-- Laid in the j-th's place. -/
theorem FoldX.same {e : Xa} {xs : List Xa} {j : Nat} {out : List Xa} (h : FoldX e xs j false out) (hj : j < xs.length) (hl : e.nm = (nthA xs j).nm) : FoldX e xs (j + 1) true (out ++ [e]) := by
  rcases h with ⟨_, rfl, h3⟩ | ⟨h1, _⟩
  · refine .inr ⟨rfl, ?_, j, by omega, by rw [hl]; exact ltN_irr _⟩
    rw [take_snoc xs j hj]
    have hlen : (xs.take j).length = j := by simp; omega
    have hn : ∀ m, m < j → nthA (xs.take j ++ [nthA xs j]) m = nthA xs m := fun m hm => by
      rw [nthA_snoc, if_pos (by omega), nthA_take xs j m hm]
    have hn2 : nthA (xs.take j ++ [nthA xs j]) j = nthA xs j := by rw [nthA_snoc, if_neg (by omega), if_pos (by omega)]
    rw [insX_set e _ j (by simp; omega) (fun m hm => by rw [hn m hm]; exact h3 m hm) (by rw [hn2]; exact hl.symm), List.set_append_right _ _ (by omega), hlen]
    simp
  · cases h1
/-- Laid already: the j-th comes behind, and is another's. -/
theorem FoldX.after {e : Xa} {xs : List Xa} {j : Nat} {out : List Xa} (h : FoldX e xs j true out) (hs : SortedX (nthA xs) xs.length) (hj : j < xs.length) : ltN e.nm (nthA xs j).nm = true ∧ FoldX e xs (j + 1) true (out ++ [nthA xs j]) := by
  rcases h with ⟨h1, _⟩ | ⟨_, rfl, m, hm, hl⟩
  · cases h1
  · have hmj := hs m j hm hj
    refine ⟨?_, .inr ⟨rfl, ?_, m, by omega, hl⟩⟩
    · rcases ltN_tri e.nm (nthA xs m).nm with q | q | q
      · rw [q]; exact hmj
      · exact ltN_trans q hmj
      · rw [q] at hl; cases hl
    · rw [take_snoc xs j hj, insX_snoc e _ _ ⟨nthA xs m, ?_, hl⟩]
      rw [← nthA_take xs j m hm, ← nthA_eq (xs.take j) m (by simp; omega)]
      exact List.getElem_mem _
theorem FoldX.ends {e : Xa} {xs : List Xa} {out : List Xa} (h : FoldX e xs xs.length false out) : out ++ [e] = insX e xs := by
  rcases h with ⟨_, rfl, h3⟩ | ⟨h1, _⟩
  · rw [insX_at e xs xs.length (by omega) h3 (fun h => by omega)]; simp
  · cases h1
theorem FoldX.ended {e : Xa} {xs : List Xa} {out : List Xa} (h : FoldX e xs xs.length true out) : out = insX e xs := by
  rcases h with ⟨h1, _⟩ | ⟨_, rfl, _⟩
  · cases h1
  · rw [List.take_length]
theorem FoldX.len {e : Xa} {xs : List Xa} {j : Nat} {d : Bool} {out : List Xa} (h : FoldX e xs j d out) : out.length ≤ j + 1 := by
  rcases h with ⟨_, rfl, _⟩ | ⟨_, rfl, _⟩
  · simp; omega
  · have := insX_len (e := e) (xs := xs.take j); simp at this; omega
end Go.Proofs.Ytoeohbihelfphaa
