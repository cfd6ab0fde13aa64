/-
  The plain law of QuotaCalls.
-/
import Derived.Test.YtahlmlhdfoijhaaPQf
import Derived.Test.YtahlmlhdfoijhaaPQh
import Derived.Test.YtahlmlhdfoijhaaPQo
import Derived.Test.YtahlmlhdfoijhaaPQx13
namespace Go.Proofs.Ytahlmlhdfoijhaa.PQ
open Go.RowKit
theorem getR_loop (l : List S29) (uid : Int) (hl : l.length ≤ 140737488351232) : ∀ (d k i : Nat), l.length - i = d → i ≤ l.length → d < k → cloisterref20_Get.l0 k l uid (i : Int) = some (getT (find uid ((l.drop i).map toU))) := by
  intro d
  induction d with
  | zero =>
    intro k i hd hi hk
    obtain ⟨k, rfl⟩ : ∃ m, k = m + 1 := ⟨k - 1, by omega⟩
    simp only [cloisterref20_Get.l0]
    rw [if_neg (by omega), List.drop_eq_nil_of_le (by omega)]
    rfl
  | succ d ih =>
    intro k i hd hi hk
    obtain ⟨k, rfl⟩ : ∃ m, k = m + 1 := ⟨k - 1, by omega⟩
    simp only [cloisterref20_Get.l0]
    rw [if_pos (by omega), if_pos (by omega), rd_nat, drop_cons l i (by omega), List.map_cons]
    by_cases h : (l.getD i z29).f0 = uid
    · rw [if_pos h]
      simp only [find]
      rw [if_pos (show (toU (l.getD i z29)).uid = uid from h)]
      rfl
    · rw [if_neg h]
      simp only [find]
      rw [if_neg (show ¬ (toU (l.getD i z29)).uid = uid from h), wrap_small (by omega) (by omega)]
      exact ih k (i + 1) (by omega) (by omega) (by omega)
theorem getR_eq (l : List S29) (uid : Int) (k : Nat) (hl : l.length ≤ 140737488351232) (hk : l.length < k) : cloisterref20_Get.f k l uid = some (getT (find uid (l.map toU))) := by
  unfold cloisterref20_Get.f
  have := getR_loop l uid hl l.length k 0 (by omega) (by omega) hk
  simpa using this
theorem out_len (r : List U × Int) (h : r.1.length ≤ 8) : (outL r).1.length ≤ 8 := by unfold outL; simpa using h
theorem putU_len (xs : List U) (u : U) : (putU xs u).1.length ≤ 8 := by
  unfold putU; split
  · assumption
  · simp
theorem limitU_len (xs : List U) (a b c : Int) : (limitU xs a b c).1.length ≤ 8 := by
  unfold limitU
  split
  · split
    · exact putU_len _ _
    · simp
  · simp
theorem chargeU_len (xs : List U) (a b c : Int) : (chargeU xs a b c).1.length ≤ 8 := by
  unfold chargeU
  split
  · split
    · split
      · split
        · simp
        · exact putU_len _ _
      · simp
    · simp
  · simp
theorem calls_true (l : List S29) (uid b n : Int) (hl : l.length * 40 ≤ 140737488351232) : ∃ k, cloisterlaw20_QuotaCalls.f k l uid b n = some true := by
  refine ⟨l.length + 30, ?_⟩
  generalize hK : l.length + 30 = K
  unfold cloisterlaw20_QuotaCalls.f
  simp only [Option.bind_some, List.nil_append, List.length_nil]
  rw [if_pos (by omega)]
  simp only [quota_Limit.f, quota_Charge.f, cloisterref20_Limit.f, cloisterref20_Charge.f, Option.bind_some, fixed_eq K (by omega), if_true, quota_Check.f, rightR_eq l K (by omega)]
  have hlim := out_len _ (limitU_len (l.map toU) uid b n)
  have hchg := out_len _ (chargeU_len (l.map toU) uid b n)
  have hc : ((if RightL l then (0 : Int) else 3) == 0) = decide (RightU (l.map toU)) := by
    by_cases h : RightL l
    · rw [if_pos h, decide_eq_true (show RightU (l.map toU) from h)]; rfl
    · rw [if_neg h, decide_eq_false (show ¬ RightU (l.map toU) from h)]; rfl
  rw [hc]
  simp only [beq_self_eq_true, if_true, get_eq l uid K (by omega) (by omega), getR_eq l uid K (by omega) (by omega), Option.bind_some, Bool.and_self]
  rw [same_eq _ _ K (by omega) (by omega), same_eq _ _ K (by omega) (by omega), same_eq _ _ K (by omega) (by omega)]
  simp
theorem calls_walk (a : Option Addr) (len cap : Nat) (Z : Nat → Nat → Int) (uid b n : Int) (W : World) (hc : len = 0 ∨ ∃ ad, a = some ad ∧ ∀ i, i < len → ∀ j, j < 5 → W.cell? (ad.add (i * 5 + j)) = some (.int .i64 (Z i j))) (_hn : a = none → len = 0) (hl : len ≤ cap) (hm : cap * 40 ≤ 140737488351232) :
    Calls Try.prog 4 #[.slice a len cap, .int .i64 uid, .int .i64 b, .int .i64 n] W fun e w' => e = .returned (.bool true) ∧ Below W.heap.size W w' := by
  have hC := C_of_cells (w := W) hc (by omega)
  have hlen := listOf_len len Z
  generalize listOf len Z = l at *
  subst hlen
  obtain ⟨k, hk⟩ := calls_true l uid b n (by omega)
  exact cloisterlaw20_QuotaCalls.calls k a cap l uid b n true W hC hl hk
end Go.Proofs.Ytahlmlhdfoijhaa.PQ
