/-
  Rows of structs: pieces laid anew.
-/
import Derived.Test.YtoeohbihelfphaaBts
import Derived.Test.YtoeohbihelfphaaS0
import Derived.Test.YtoeohbihelfphaaBts
import Derived.Test.YtoeohbihelfphaaS0
import Derived.Lib.SliceRun
import Derived.Lib.AppendZeros
import Derived.Lib.Overlaps
import Derived.Lib.AppendZerosOnto
namespace Go.Proofs.Ytoeohbihelfphaa
open Go.RowKit
set_option linter.unusedVariables false
set_option linter.unusedSimpArgs false
theorem spl_cut {α : Type} {cells : α → List Value} {k : Nat} (hk : ∀ x, (cells x).length = k) (ys : List α) (r zs : List Value) (i : Nat) (hi : i ≤ ys.length) (hz : zs.length = (ys.length - i) * k) :
    spl (flat cells ys ++ r) (i * k) zs = flat cells (ys.take i) ++ (zs ++ r) := by
  have h1 : i * k ≤ ys.length * k := Nat.mul_le_mul_right k hi
  have h2 : i * k + zs.length = (flat cells ys).length := by rw [hz, flat_length hk, Nat.sub_mul]; omega
  unfold spl
  rw [List.take_append_of_le_length (by rw [flat_length hk]; omega), flat_take hk, h2, List.drop_append_of_le_length (Nat.le_refl _), List.drop_length]
  simp
theorem Kept.grown {w w' : World} {row : Option Nat} (h : w.grownBy w' row) : Kept (fun k => row = some k) w w' :=
  ⟨h.os, h.tape, h.output, h.size, fun k hk hn => h.block k hk (fun e => hn e.symm)⟩
theorem Blk.shape {w : World} {g : Nat} {t : TypeId} {cs : List Value} (h : Blk w g t cs) : w.shape? g = some (t, cs.length) := by
  unfold Blk at h; simp [World.shape?, h]
theorem shift_row {α : Type} {cells : α → List Value} {k : Nat} (hk : ∀ x, (cells x).length = k) (xs : List α) (u : α) (rest : List Value) (i : Nat) (hi : i < xs.length) :
    spl (spl (flat cells xs ++ rest) ((i + 1) * k) (flat cells (xs.drop i))) (i * k) (cells u) = flat cells (xs.take i ++ u :: xs.drop i) ++ rest.drop k := by
  have h1 : spl (flat cells xs ++ rest) ((i + 1) * k) (flat cells (xs.drop i)) = flat cells (xs.take (i + 1)) ++ (flat cells (xs.drop i) ++ rest.drop k) := by
    have hle : (i + 1) * k ≤ xs.length * k := Nat.mul_le_mul_right k hi
    have e : (i + 1) * k + (flat cells (xs.drop i)).length = (flat cells xs).length + k := by
      rw [flat_length hk, flat_length hk, List.length_drop, Nat.sub_mul, Nat.add_mul]
      have : i * k ≤ xs.length * k := Nat.mul_le_mul_right k (by omega)
      omega
    unfold spl
    rw [List.take_append_of_le_length (by rw [flat_length hk]; exact hle), flat_take hk, e, List.drop_append]
    have hd1 : (flat cells xs).drop ((flat cells xs).length + k) = [] := List.drop_eq_nil_of_le (by omega)
    rw [hd1, show (flat cells xs).length + k - (flat cells xs).length = k by omega]
    simp
  rw [h1]
  unfold spl
  have h2 : (flat cells (xs.take (i + 1))).length = (i + 1) * k := by rw [flat_length hk, List.length_take, Nat.min_eq_left (by omega)]
  have h3 : i * k ≤ (i + 1) * k := Nat.mul_le_mul_right k (by omega)
  rw [List.take_append_of_le_length (by omega), flat_take hk, List.take_take, Nat.min_eq_left (by omega), hk, show i * k + k = (i + 1) * k by rw [Nat.add_mul]; omega, ← h2, List.drop_append_of_le_length (Nat.le_refl _), List.drop_length, flat_append, flat_cons]
  simp
theorem Blk.owns {w : World} {g : Nat} {e : TypeId} {k n cap base : Nat} {L r : List Value} (h : Blk w g e (L ++ r)) (hL : L.length = n * k) (hl : (L ++ r).length = cap * k) (hb : base ≤ g) (hn : n ≤ cap) (hc : cap ≤ maxLen) :
    w.ownsRow base e k (.slice (some ⟨g, 0, none⟩) n cap) n L :=
  ⟨hL, .inr ⟨g, cap, _, rfl, hb, h, hn, hc, by simpa using hl, by simp [← hL]⟩⟩
theorem owns_blk {w : World} {g : Nat} {e : TypeId} {k n cap base : Nat} {L : List Value} (h : w.ownsRow base e k (.slice (some ⟨g, 0, none⟩) n cap) n L) : ∃ r, Blk w g e (L ++ r) ∧ (L ++ r).length = cap * k ∧ L.length = n * k ∧ n ≤ cap ∧ cap ≤ maxLen ∧ base ≤ g := by
  obtain ⟨hL, h | ⟨g', cap', cur, hv, hb, hg, hn, hc, hs, ht⟩⟩ := h
  · simp at h
  · injection hv with h1 h2 h3
    injection h1 with h1
    injection h1 with h1
    subst h1 h3
    refine ⟨cur.toList.drop (n * k), ?_, ?_, hL, hn, hc, hb⟩
    · unfold Blk; rw [← ht, List.take_append_drop]; simpa using hg
    · rw [← ht, List.take_append_drop]; simpa using hs
theorem grow_row {α : Type} {cells : α → List Value} {k : Nat} (hk : ∀ x, (cells x).length = k) (xs : List α) (u : α) (z r : List Value) (i : Nat) (hi : i < xs.length) (hz : z.length = (xs.length + 1 - i) * k) :
    spl (spl (flat cells (xs.take i) ++ z ++ r) (i * k) (cells u)) ((i + 1) * k) (flat cells (xs.drop i)) = flat cells (xs.take i ++ u :: xs.drop i) ++ r := by
  have hl0 : (flat cells (xs.take i)).length = i * k := by rw [flat_length hk, List.length_take, Nat.min_eq_left (by omega)]
  have hik : (xs.length + 1 - i) * k = k + (xs.length - i) * k := by rw [show xs.length + 1 - i = (xs.length - i) + 1 by omega, Nat.add_mul]; omega
  have h1 : spl (flat cells (xs.take i) ++ z ++ r) (i * k) (cells u) = flat cells (xs.take i) ++ cells u ++ (z ++ r).drop k := by
    unfold spl
    rw [List.append_assoc (flat cells (xs.take i)) z r, ← hl0, List.take_append_of_le_length (Nat.le_refl _), List.take_length, hk, List.drop_append]
    have hd1 : (flat cells (xs.take i)).drop ((flat cells (xs.take i)).length + k) = [] := List.drop_eq_nil_of_le (by omega)
    rw [hd1, show (flat cells (xs.take i)).length + k - (flat cells (xs.take i)).length = k by omega]
    simp
  have hl1 : (flat cells (xs.take i) ++ cells u).length = (i + 1) * k := by rw [List.length_append, hl0, hk, Nat.add_mul]; omega
  rw [h1]
  unfold spl
  rw [← hl1, List.take_append_of_le_length (Nat.le_refl _), List.take_length, List.drop_append]
  have hd1 : (flat cells (xs.take i) ++ cells u).drop ((flat cells (xs.take i) ++ cells u).length + (flat cells (xs.drop i)).length) = [] := List.drop_eq_nil_of_le (by omega)
  have hl2 : (flat cells (xs.drop i)).length = (xs.length - i) * k := by rw [flat_length hk, List.length_drop]
  rw [hd1, Nat.add_sub_cancel_left, List.drop_drop, List.drop_append, hl2]
  have hd2 : z.drop (k + (xs.length - i) * k) = [] := List.drop_eq_nil_of_le (by omega)
  rw [hd2, hz, hik, Nat.sub_self, flat_append, flat_cons]
  simp
theorem setCells_row {w : World} {g : Nat} {t : TypeId} {cur : List Value} (h : Blk w g t cur) (o : Nat) (vs : List Value) (hf : o + vs.length ≤ cur.length) (h1 : ∀ v ∈ vs, v.oneCell' = true) :
    w.setCells g o vs = w.setRow g (spl cur o vs).toArray := by
  have a := run_storeCells_at Try.prog g o t vs 0 cur.toArray w h (by simpa using hf) h1
  have b := run_storeCells_cells (P := Try.prog) g o vs 0 w (fun j hj => by rw [h.cell, List.getElem?_eq_getElem (by omega)]; rfl) (fun j _ => h.free _) h1
  rw [b] at a
  simp only [Nat.add_zero, Result.ok.injEq, true_and] at a
  exact a
theorem del_row {α : Type} {cells : α → List Value} {k : Nat} (hk : ∀ x, (cells x).length = k) (xs : List α) (rest z : List Value) (i : Nat) (hi : i < xs.length) (hz : z.length = k) :
    spl (spl (flat cells xs ++ rest) (i * k) (flat cells (xs.drop (i + 1)))) ((xs.length - 1) * k) z = flat cells (xs.take i ++ xs.drop (i + 1)) ++ (z ++ rest) := by
  have hA : (flat cells (xs.take i)).length = i * k := by rw [flat_length hk, List.length_take, Nat.min_eq_left (by omega)]
  have hD : (flat cells (xs.drop (i + 1))).length = (xs.length - (i + 1)) * k := by rw [flat_length hk, List.length_drop]
  have hn : i * k + (xs.length - (i + 1)) * k = (xs.length - 1) * k := by rw [← Nat.add_mul]; congr 1; omega
  have hT : (flat cells (xs.drop (xs.length - 1))).length = k := by rw [flat_length hk, List.length_drop, show xs.length - (xs.length - 1) = 1 by omega, Nat.one_mul]
  have hle : i * k ≤ (flat cells xs).length := by rw [flat_length hk]; exact Nat.mul_le_mul_right k (by omega)
  have hle2 : (xs.length - 1) * k ≤ (flat cells xs).length := by rw [flat_length hk]; exact Nat.mul_le_mul_right k (by omega)
  have h1 : spl (flat cells xs ++ rest) (i * k) (flat cells (xs.drop (i + 1))) = (flat cells (xs.take i) ++ flat cells (xs.drop (i + 1))) ++ (flat cells (xs.drop (xs.length - 1)) ++ rest) := by
    unfold spl
    rw [List.take_append_of_le_length hle, flat_take hk, hD, hn, List.drop_append_of_le_length hle2, flat_drop hk]
  rw [h1]
  unfold spl
  have hAD : (flat cells (xs.take i) ++ flat cells (xs.drop (i + 1))).length = (xs.length - 1) * k := by rw [List.length_append, hA, hD, hn]
  rw [hz, flat_append, List.take_append_of_le_length (by omega), List.take_of_length_le (by omega), List.drop_append, List.drop_eq_nil_of_le (by omega : (flat cells (xs.take i) ++ flat cells (xs.drop (i + 1))).length ≤ (xs.length - 1) * k + k), hAD, Nat.add_sub_cancel_left, List.nil_append, List.drop_append_of_le_length (by omega), List.drop_eq_nil_of_le (by omega : (flat cells (xs.drop (xs.length - 1))).length ≤ k), List.nil_append, List.append_assoc]
end Go.Proofs.Ytoeohbihelfphaa
