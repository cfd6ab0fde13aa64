/-
  Bytes of one's own, made others; what stays.
-/
import Derived.Test.YtoeohbihelfphaaX18
namespace Go.Proofs.Ytoeohbihelfphaa
open Go.RowKit
set_option linter.unusedVariables false
set_option linter.unusedSimpArgs false
def IsB (w : World) (k : Nat) : Prop := ∃ cur, w.heap[k]? = some (.cells cur 5 (0, 0))
/-- An unfrozen row of bytes, n of them at least. -/
def Bytey (w : World) (k n : Nat) : Prop := ∃ cur, w.heap[k]? = some (.cells cur 5 (0, 0)) ∧ ∀ j, j < n → ∃ z : Int, cur[j]? = some (.int .u8 z)
theorem Bytey.cell {w : World} {k n j : Nat} (h : Bytey w k n) (hj : j < n) : ∃ z : Int, w.cell? ⟨k, j, none⟩ = some (.int .u8 z) := by
  obtain ⟨cur, h1, h2⟩ := h
  obtain ⟨z, hz⟩ := h2 j hj
  exact ⟨z, by rw [cell_of_row w k j cur 5 _ h1]; exact hz⟩
theorem Bytey.free {w : World} {k n : Nat} (h : Bytey w k n) (j : Nat) : w.frozen? ⟨k, j, none⟩ = false := by
  obtain ⟨cur, h1, _⟩ := h
  exact frozen_of_row w k j cur 5 h1
theorem Bytey.set {w : World} {k n : Nat} (h : Bytey w k n) (k' j : Nat) (z : Int) : Bytey (w.setCell ⟨k', j, none⟩ (.int .u8 z)) k n := by
  obtain ⟨cur, h1, h2⟩ := h
  by_cases e : k = k'
  · subst e
    refine ⟨_, heap_setCell_same w k j _ 5 _ h1, fun i hi => ?_⟩
    rw [Array.getElem?_setIfInBounds]
    by_cases q : j = i
    · subst q
      have hlt : j < cur.size := by
        obtain ⟨z', hz'⟩ := h2 j hi
        exact (Array.getElem?_eq_some_iff.1 hz').1
      rw [if_pos rfl, if_pos hlt]
      exact ⟨z, rfl⟩
    · rw [if_neg q]; exact h2 i hi
  · exact ⟨cur, by rw [heap_setCell_other w _ k _ e]; exact h1, h2⟩
/-- Bytes behind z may be others; nothing else is. -/
structure Shook (z : Nat) (w w' : World) : Prop where
  kept : Kept (fun k => z ≤ k ∧ IsB w k) w w'
  bytes : ∀ k n, Bytey w k n → Bytey w' k n
theorem Shook.refl (z : Nat) (w : World) : Shook z w w := ⟨Kept.refl _ w, fun _ _ h => h⟩
theorem Shook.set {z : Nat} {w w' : World} (h : Shook z w w') {k : Nat} (hz : z ≤ k) (hb : IsB w k) (j : Nat) (x : Int) : Shook z w (w'.setCell ⟨k, j, none⟩ (.int .u8 x)) :=
  ⟨h.kept.setCell (fun _ => ⟨hz, hb⟩) _, fun k' n hk => (h.bytes k' n hk).set k j x⟩
theorem Shook.drew {z : Nat} {w w' : World} (h : Shook z w w') : Shook z w w'.drew := ⟨h.kept.drew, h.bytes⟩
theorem Shook.below {z : Nat} {w w' w0 : World} (h : Shook z w w') (h0 : Kept (fun _ => False) w0 w) (hz : w0.heap.size ≤ z) : Kept (fun _ => False) w0 w' := h0.trans h.kept (fun i hi hk => by have := hk.1; omega)
/-- Bytes of one's own are such. -/
theorem OwnL.bytey {w : World} {base : Nat} {a : Option Addr} {n c : Nat} {L : List Byte} (ho : OwnL w base (.slice a n c) n L) (hn : 0 < n) : ∃ k, a = some ⟨k, 0, none⟩ ∧ base ≤ k ∧ IsB w k ∧ Bytey w k n := by
  have hl := ho.len
  rcases ho.2 with ⟨h1, h0⟩ | ⟨g, cap, cur, h1, hb, hg, hn', hc, hs, ht⟩
  · omega
  · injection h1 with e1 e2 e3
    subst e1
    refine ⟨g, rfl, hb, ⟨cur, hg⟩, cur, hg, fun i hi => ⟨iB (L.getD i 0#8), ?_⟩⟩
    have h6 : cur.toList[i]? = some (B (L.getD i 0#8)) := by
      have e : (cur.toList.take (n * 1))[i]? = cur.toList[i]? := by rw [List.getElem?_take, if_pos (by omega)]
      rw [← e, ht]
      simp [show i < L.length by omega]
    simpa using h6
/-- A row of attributes and their bytes, where bytes were made others. -/
theorem CopyOk.shaken {z : Nat} {w w' : World} {base : Nat} {v : Value} {L : List Xc} {xs : List Xa} (h : CopyOk w base v L xs) (hs : Shook z w w') : ∃ a c, v = .slice a xs.length c ∧ ListC w' a xs.length (nthC L) := by
  have ho := h.own.keptX hs.kept (fun k hk hb => by
    obtain ⟨_, _, cur, hh⟩ := h.own.blk hk
    obtain ⟨_, cur', hh'⟩ := hb
    rw [hh] at hh'
    have := Option.some.inj hh'
    injection this with _ h3 _
    exact absurd h3 (by decide))
  obtain ⟨_, a, c, hv, _, _, hl⟩ := ho.form
  exact ⟨a, c, hv, hl⟩
/-- The i-th of them, and the j-th of its bytes. -/
theorem CopyOk.shakenAt {z : Nat} {w w' : World} {base : Nat} {a : Option Addr} {c : Nat} {L : List Xc} {xs : List Xa} (h : CopyOk w base (.slice a xs.length c) L xs) (hs : Shook z w w') (hz : z ≤ base) {i : Nat} (hi : i < xs.length) :
    ∃ g, a = some ⟨g, 0, none⟩ ∧ w'.cell? ⟨g, i * 2 + 1, none⟩ = some (.slice (nthC L i).a (nthC L i).n (nthC L i).c) ∧
      ∀ j, j < (nthC L i).n → ∃ k, (nthC L i).a = some ⟨k, 0, none⟩ ∧ z ≤ k ∧ IsB w k ∧ Bytey w' k (nthC L i).n := by
  have ho := h.own.keptX hs.kept (fun k hk hb => by
    obtain ⟨_, _, cur, hh⟩ := h.own.blk hk
    obtain ⟨_, cur', hh'⟩ := hb
    rw [hh] at hh'
    have := Option.some.inj hh'
    injection this with _ h3 _
    exact absurd h3 (by decide))
  obtain ⟨_, a', c', hv, _, _, hl⟩ := ho.form
  have ha : ∃ g, a = some ⟨g, 0, none⟩ := by
    rcases ho.2 with ⟨h1, h0⟩ | ⟨g, cap, cur, h1, _⟩
    · omega
    · injection h1 with e1; exact ⟨g, e1⟩
  obtain ⟨g, rfl⟩ := ha
  injection hv with e1
  obtain ⟨g', o', hg', hc⟩ := hl.resolve_left (by omega)
  rw [← e1] at hg'
  obtain ⟨rfl, rfl⟩ : g = g' ∧ 0 = o' := by simpa using hg'
  have hx := (hc i hi).2
  rw [Nat.zero_add] at hx
  refine ⟨g, rfl, hx, fun j hj => ?_⟩
  obtain ⟨k, k1, k2, k3, k4⟩ := (h.val i hi).bytey (by omega)
  exact ⟨k, k1, by omega, k3, hs.bytes _ _ k4⟩
end Go.Proofs.Ytoeohbihelfphaa
