/-
  The walks of cmp.Compare, cmp.Or and names.Order.
-/
import Derived.Test.YtpekibadleghbaaDoorN11
namespace Go.Proofs.YtpekibadleghbaaDoor
open Go.RowKit
set_option linter.unusedVariables false
set_option linter.unusedSimpArgs false
/-- The order of two numbers. -/
def cmpI (x y : Int) : Int := if x < y then -1 else if y < x then 1 else 0
set_option maxRecDepth 100000 in
set_option maxHeartbeats 2000000 in
theorem nan32_any (x : Int) (w : World) : Calls Tryd.prog 55 #[.int .u32 x] w fun r w' => r = .returned (.bool false) ∧ w' = w := by
  go_enter Tryd.func55, Tryd.ntmps55
  go_wp2_with fail
  go_ret
  exact ⟨by simp, rfl⟩
set_option maxRecDepth 100000 in
set_option maxHeartbeats 2000000 in
theorem nanStr_any (x : ByteArray) (w : World) : Calls Tryd.prog 56 #[.string x] w fun r w' => r = .returned (.bool false) ∧ w' = w := by
  go_enter Tryd.func56, Tryd.ntmps56
  go_wp2_with fail
  go_ret
  exact ⟨by simp, rfl⟩
set_option maxRecDepth 100000 in
set_option maxHeartbeats 2000000 in
theorem cmp32_any (x y : Int) (w : World) : Calls Tryd.prog 40 #[.int .u32 x, .int .u32 y] w fun r w' => r = .returned (.int .i64 (cmpI x y)) ∧ w' = w := by
  go_enter Tryd.func40, Tryd.ntmps40
  by_cases h1 : x < y
  · go_wp2_with (first | (refine (nan32_any _ _).mono ?_; rintro r w' ⟨rfl, hw⟩; replace hw := hw.symm; subst hw))
    go_ret
    exact ⟨by unfold cmpI; rw [if_pos h1]; rfl, rfl⟩
  · by_cases h2 : y < x
    · go_wp2_with (first | (refine (nan32_any _ _).mono ?_; rintro r w' ⟨rfl, hw⟩; replace hw := hw.symm; subst hw))
      go_ret
      exact ⟨by unfold cmpI; rw [if_neg (by omega), if_pos h2]; rfl, rfl⟩
    · go_wp2_with (first | (refine (nan32_any _ _).mono ?_; rintro r w' ⟨rfl, hw⟩; replace hw := hw.symm; subst hw))
      go_ret
      exact ⟨by unfold cmpI; rw [if_neg (by omega), if_neg (by omega)]; rfl, rfl⟩
/-- The order of two strings. -/
def cmpS (x y : ByteArray) : Int := if Op.bytesLess x.toList y.toList = true then -1 else if (x.toList == y.toList) = true then 0 else 1
set_option maxRecDepth 100000 in
set_option maxHeartbeats 2000000 in
theorem cmpStr_any (x y : ByteArray) (w : World) : Calls Tryd.prog 41 #[.string x, .string y] w fun r w' => r = .returned (.int .i64 (cmpS x y)) ∧ w' = w := by
  obtain ⟨z, hz⟩ : ∃ z, z = cmpS x y := ⟨_, rfl⟩
  rw [← hz]
  unfold cmpS at hz
  go_enter Tryd.func41, Tryd.ntmps41
  go_wp2_with (first | (refine (nanStr_any _ _).mono ?_; rintro r w' ⟨rfl, hw⟩; replace hw := hw.symm; subst hw))
  all_goals go_ret
  all_goals (refine ⟨?_, rfl⟩; show Ending.returned (Value.int .i64 _) = _; congr 2; rw [hz])
  · rename_i h; rw [if_pos h]
  · rw [if_neg (by simp [*]), if_neg (by simp_all)]
  · rw [if_neg (by simp [*]), if_pos (by simp_all)]
set_option maxRecDepth 100000 in
set_option maxHeartbeats 4000000 in
theorem or_any (g c : Nat) (x y : Int) (w : World) (h0 : w.cell? ⟨g, 0, none⟩ = some (.int .i64 x)) (h1 : w.cell? ⟨g, 1, none⟩ = some (.int .i64 y)) :
    Calls Tryd.prog 39 #[.slice (some ⟨g, 0, none⟩) 2 c] w fun r w' => r = .returned (.int .i64 (if x = 0 then y else x)) ∧ Kept (fun _ => False) w w' := by
  go_enter Tryd.func39, Tryd.ntmps39
  go_wp2_with fail
  go_loopg [8] 2 (fun k i wr => ∃ n : Nat, n + k = 2 ∧ n ≤ 2 ∧ i = .int .i64 (n : Int) ∧ (1 ≤ n → x = 0) ∧ (2 ≤ n → y = 0) ∧ wr.cell? ⟨g, 0, none⟩ = some (.int .i64 x) ∧ wr.cell? ⟨g, 1, none⟩ = some (.int .i64 y) ∧ Kept (fun _ => False) w wr)
  case atStart => exact ⟨0, by omega, by omega, rfl, by omega, by omega, h0, h1, Kept.refl _ w⟩
  case round =>
    clear h0 h1
    obtain ⟨n, hn, hn2, rfl, hx, hy, h0, h1, hK⟩ := hrel
    have Hn := Lib.hid hn
    clear hn
    have hcase : n = 0 ∨ n = 1 ∨ n = 2 := by omega
    rcases hcase with rfl | rfl | rfl
    · by_cases h : x = 0
      · have Hx := Lib.hid h
        subst h
        go_wp2_with fail
        go_roundg (gk - 1)
        case measure => have := Hn.out; omega
        case rel =>
          have := Hn.out
          exact ⟨1, by omega, by omega, rfl, by simp, by omega, h0, h1, hK⟩
      · go_wp2_with fail
        go_ret
        exact ⟨rfl, hK⟩
    · have hx0 : x = 0 := hx (by omega)
      subst hx0
      by_cases h : y = 0
      · subst h
        go_wp2_with fail
        go_roundg (gk - 1)
        case measure => have := Hn.out; omega
        case rel =>
          have := Hn.out
          exact ⟨2, by omega, by omega, rfl, by simp, by simp, h0, h1, hK⟩
      · go_wp2_with fail
        go_ret
        exact ⟨by simp, hK⟩
    · have hx0 : x = 0 := hx (by omega)
      have hy0 : y = 0 := hy (by omega)
      subst hx0 hy0
      go_wp2_with fail
      go_ret
      exact ⟨by simp, hK⟩
end Go.Proofs.YtpekibadleghbaaDoor
