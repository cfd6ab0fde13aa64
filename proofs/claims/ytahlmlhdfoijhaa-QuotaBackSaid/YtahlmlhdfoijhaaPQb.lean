/-
  The plain law of QuotaBack.
-/
import Derived.Test.YtahlmlhdfoijhaaPQq
import Derived.Test.YtahlmlhdfoijhaaPQf
import Derived.Test.YtahlmlhdfoijhaaPQx10
import Derived.Test.YtahlmlhdfoijhaaPQo
namespace Go.Proofs.Ytahlmlhdfoijhaa.PQ
open Go.RowKit
theorem there_loop (uid : Int) (m : List S29) (hm : m.length ≤ 8) (x0 x1 x2 x3 x4 : Int) : ∀ (d k i : Nat) (t : Bool), m.length - i = d → i ≤ m.length → d < k →
    cloisterlaw20_QuotaBack.l0 k uid t m (m.length : Int) (i : Int) x0 x1 x2 x3 x4 = some ((t || (m.drop i).any (fun x => x.f0 == uid)) == (decide (x1 > 0) || decide (x2 > 0))) := by
  intro d
  induction d with
  | zero =>
    intro k i t hd hi hk
    obtain ⟨k, rfl⟩ : ∃ m, k = m + 1 := ⟨k - 1, by omega⟩
    simp only [cloisterlaw20_QuotaBack.l0]
    rw [if_neg (by omega), List.drop_eq_nil_of_le (by omega)]
    by_cases h : x1 > 0
    · simp [h]
    · simp [h]
  | succ d ih =>
    intro k i t hd hi hk
    obtain ⟨k, rfl⟩ : ∃ m, k = m + 1 := ⟨k - 1, by omega⟩
    simp only [cloisterlaw20_QuotaBack.l0]
    rw [if_pos (by omega), if_pos (by omega), if_pos (by omega), rd_nat, drop_cons m i (by omega), wrap_small (by omega) (by omega)]
    have e : (i : Int) + 1 = ((i + 1 : Nat) : Int) := by omega
    rw [e]
    by_cases ht : t = true
    · rw [if_pos ht, ih k (i + 1) true (by omega) (by omega) (by omega), ht]
      simp
    · rw [if_neg ht, ih k (i + 1) _ (by omega) (by omega) (by omega)]
      simp at ht
      simp [ht]
theorem back_true (l : List S29) (uid b n : Int) : ∃ k, cloisterlaw20_QuotaBack.f k l uid b n = some true := by
  refine ⟨30, ?_⟩
  unfold cloisterlaw20_QuotaBack.f
  rw [fixed_eq 30 (by omega)]
  simp only [Option.bind_some, if_true, quota_Check.f]
  by_cases hR : RightL l
  · rw [if_pos hR]
    have hg := (right_iff _).1 hR
    have hl8 : l.length ≤ 8 := by have := hg.1; rwa [List.length_map] at this
    show cloisterlaw20_QuotaBack.j0 30 l uid b n false = some true
    simp only [cloisterlaw20_QuotaBack.j0, Bool.false_eq_true, if_false, quota_Charge.f, Option.bind_some]
    rcases charge_cases (l.map toU) uid b n with ⟨ys, he, hc⟩ | ⟨e, he, hne⟩
    · rw [he]
      simp only [outL, if_true, map_toU_ofU]
      have w1 : wrap64 (-b) = -b := by have := hc.b0; have := hc.b1; exact wrap_small (by omega) (by omega)
      have w2 : wrap64 (-n) = -n := by have := hc.n0; have := hc.n1; exact wrap_small (by omega) (by omega)
      rw [w1, w2]
      rcases back_eq hc with hb | ⟨hb, hneg⟩
      · rw [hb]
        simp only [if_true, map_ofU_toU]
        rw [get_eq l uid 29 (by omega) (by omega)]
        simp only [Option.bind_some, quota_Limit.f, getT]
        obtain ⟨f, hf, hf8, hfa⟩ := lift_eq hR hc.uid0 hc.uid1
        rw [hf]
        simp only [outL, if_true]
        rw [same_eq l l 29 (by omega) (by omega)]
        simp only [Option.bind_some, decide_true, Bool.not_true, cloisterlaw20_QuotaBack.j1, Bool.false_eq_true, if_false]
        have hl : (f.map ofU).length ≤ 8 := by rw [List.length_map]; exact hf8
        have := there_loop uid (f.map ofU) hl (find uid (l.map toU)).uid (find uid (l.map toU)).bl (find uid (l.map toU)).ino (find uid (l.map toU)).mb (find uid (l.map toU)).mi (f.map ofU).length 28 0 false (by omega) (by omega) (by omega)
        rw [show ((0 : Nat) : Int) = 0 from rfl] at this
        rw [this, List.drop_zero, List.any_map]
        have ha : f.any ((fun x => x.f0 == uid) ∘ ofU) = f.any (fun x => x.uid == uid) := rfl
        rw [ha, hfa]
        simp
      · rw [hb]
        simp only [if_neg (show ¬ (52 : Int) = 0 by omega), if_true]
        by_cases hbn : b < 0
        · rw [if_pos hbn]
        · rw [if_neg hbn]
          have : n < 0 := by omega
          simp [this]
    · rw [he]
      simp [outL, hne]
  · rw [if_neg hR]
    show cloisterlaw20_QuotaBack.j0 30 l uid b n true = some true
    simp only [cloisterlaw20_QuotaBack.j0, if_true, fixed_eq 29 (by omega), Option.bind_some]
theorem back_walk (a : Option Addr) (len cap : Nat) (Z : Nat → Nat → Int) (uid b n : Int) (W : World) (hc : len = 0 ∨ ∃ ad, a = some ad ∧ ∀ i, i < len → ∀ j, j < 5 → W.cell? (ad.add (i * 5 + j)) = some (.int .i64 (Z i j))) (_hn : a = none → len = 0) (hl : len ≤ cap) (hm : cap * 40 ≤ 140737488351232) :
    Calls Try.prog 3 #[.slice a len cap, .int .i64 uid, .int .i64 b, .int .i64 n] W fun e w' => e = .returned (.bool true) ∧ Below W.heap.size W w' := by
  have hC := C_of_cells (w := W) hc (by omega)
  have hlen := listOf_len len Z
  generalize listOf len Z = l at *
  subst hlen
  obtain ⟨k, hk⟩ := back_true l uid b n
  exact cloisterlaw20_QuotaBack.calls k a cap l uid b n true W hC hl hk
end Go.Proofs.Ytahlmlhdfoijhaa.PQ
