/-
  What the printed functions of quota's own package come to.
-/
import Derived.Test.YtahlmlhdfoijhaaPQp
import Derived.Test.YtahlmlhdfoijhaaPQx9
import Derived.Test.YtahlmlhdfoijhaaPQx6
namespace Go.Proofs.Ytahlmlhdfoijhaa.PQ
open Go.RowKit
theorem wrap_small {x : Int} (h0 : -9223372036854775808 ≤ x) (h1 : x ≤ 9223372036854775807) : wrap64 x = x := by unfold wrap64; omega
def getT (u : U) : Int × Int × Int × Int × Int := (u.uid, u.bl, u.ino, u.mb, u.mi)
theorem rd_nat (l : List S29) (i : Nat) : rd_T29 l (i : Int) = l.getD i z29 := by unfold rd_T29; simp
theorem drop_cons (l : List S29) (i : Nat) (h : i < l.length) : l.drop i = l.getD i z29 :: l.drop (i + 1) := by
  rw [List.drop_eq_getElem_cons h]; simp [h]
theorem get_loop (l : List S29) (uid : Int) (hl : l.length ≤ 140737488351232) : ∀ (d k i : Nat), l.length - i = d → i ≤ l.length → d < k → quota_Get.l0 k uid l (l.length : Int) (i : Int) = some (getT (find uid ((l.drop i).map toU))) := by
  intro d
  induction d with
  | zero =>
    intro k i hd hi hk
    obtain ⟨k, rfl⟩ : ∃ m, k = m + 1 := ⟨k - 1, by omega⟩
    simp only [quota_Get.l0]
    rw [if_neg (by omega), List.drop_eq_nil_of_le (by omega)]
    rfl
  | succ d ih =>
    intro k i hd hi hk
    obtain ⟨k, rfl⟩ : ∃ m, k = m + 1 := ⟨k - 1, by omega⟩
    simp only [quota_Get.l0]
    rw [if_pos (by omega), if_pos (by omega), if_pos (by omega), rd_nat, drop_cons l i (by omega), List.map_cons]
    by_cases h : (l.getD i z29).f0 = uid
    · rw [if_pos h]
      simp only [find]
      rw [if_pos (show (toU (l.getD i z29)).uid = uid from h)]
      rfl
    · rw [if_neg h]
      simp only [find]
      rw [if_neg (show ¬ (toU (l.getD i z29)).uid = uid from h), wrap_small (by omega) (by omega)]
      exact ih k (i + 1) (by omega) (by omega) (by omega)
theorem get_eq (l : List S29) (uid : Int) (k : Nat) (hl : l.length ≤ 140737488351232) (hk : l.length < k) : quota_Get.f k l uid = some (getT (find uid (l.map toU))) := by
  unfold quota_Get.f
  have := get_loop l uid hl l.length k 0 (by omega) (by omega) hk
  simpa using this
instance : DecidableEq S29 := fun a b => decidable_of_iff (a.f0 = b.f0 ∧ a.f1 = b.f1 ∧ a.f2 = b.f2 ∧ a.f3 = b.f3 ∧ a.f4 = b.f4) (by
  cases a; cases b; simp)
theorem same_loop (a b : List S29) (hl : a.length ≤ 140737488351232) (hab : a.length = b.length) : ∀ (d k i : Nat), a.length - i = d → i ≤ a.length → d < k → cloisterlaw20_same.l0 k a b (a.length : Int) (i : Int) = some (decide (a.drop i = b.drop i)) := by
  intro d
  induction d with
  | zero =>
    intro k i hd hi hk
    obtain ⟨k, rfl⟩ : ∃ m, k = m + 1 := ⟨k - 1, by omega⟩
    simp only [cloisterlaw20_same.l0]
    rw [if_neg (by omega), List.drop_eq_nil_of_le (by omega), List.drop_eq_nil_of_le (by omega)]
    rfl
  | succ d ih =>
    intro k i hd hi hk
    obtain ⟨k, rfl⟩ : ∃ m, k = m + 1 := ⟨k - 1, by omega⟩
    simp only [cloisterlaw20_same.l0]
    rw [if_pos (by omega), if_pos (by omega), if_pos (by omega), if_pos (by omega), rd_nat, rd_nat, drop_cons a i (by omega), drop_cons b i (by omega)]
    generalize a.getD i z29 = x
    generalize b.getD i z29 = y
    by_cases h : x = y
    · subst h
      rw [if_neg (by simp), wrap_small (by omega) (by omega)]
      have := ih k (i + 1) (by omega) (by omega) (by omega)
      rw [show ((i + 1 : Nat) : Int) = (i : Int) + 1 by omega] at this
      rw [this]
      congr 1
      simp
    · rw [if_pos]
      · simp [h]
      · cases x; cases y
        simp at h ⊢
        grind
theorem same_eq (a b : List S29) (k : Nat) (hl : a.length ≤ 140737488351232) (hk : a.length < k) : cloisterlaw20_same.f k a b = some (decide (a = b)) := by
  unfold cloisterlaw20_same.f
  by_cases h : a.length = b.length
  · rw [if_pos (by omega)]
    have := same_loop a b hl h a.length k 0 (by omega) (by omega) hk
    simpa using this
  · rw [if_neg (by omega)]
    have : a ≠ b := fun e => h (by rw [e])
    simp [this]
theorem outL_nil (e : Int) : outL ([], e) = ([], e) := rfl
end Go.Proofs.Ytahlmlhdfoijhaa.PQ
