/-
  ValidRune.
-/
import Derived.Test.YtpekibadleghbaaDoorN15
namespace Go.Proofs.YtpekibadleghbaaDoor
open Go.RowKit
set_option linter.unusedVariables false
set_option linter.unusedSimpArgs false
set_option maxRecDepth 100000 in
set_option maxHeartbeats 4000000 in
theorem validRune_any (r : Int) (hr : 0 ≤ r) (w : World) : Calls Tryd.prog 73 #[.int .i32 r] w fun e w' => e = .returned (.bool (decide (r < 55296) || (decide (57343 < r) && decide (r ≤ 1114111)))) ∧ w' = w := by
  go_enter Tryd.func73, Tryd.ntmps73
  by_cases h1 : r < 55296
  · go_wp2_with fail
    go_ret
    exact ⟨by simp [h1], rfl⟩
  · by_cases h2 : 57343 < r
    · by_cases h3 : r ≤ 1114111
      · go_wp2_with fail
        go_ret
        exact ⟨by simp [h1, h2, h3], rfl⟩
      · go_wp2_with fail
        go_ret
        exact ⟨by simp [h1, h2, h3], rfl⟩
    · go_wp2_with fail
      go_ret
      exact ⟨by simp [h1]; omega, rfl⟩
end Go.Proofs.YtpekibadleghbaaDoor
