/-
  Walks of small functions of quota.
-/
import Derived.Test.YtahlmlhdfoijhaaRows
import Derived.Test.YtahlmlhdfoijhaaReg
import Derived.Deep.QuietTactic
import Derived.BigQuiet
namespace Go.Proofs.Ytahlmlhdfoijhaa
open Go.RowKit
/-- A usage. -/
structure U where
  uid : Int
  bl : Int
  ino : Int
  mb : Int
  mi : Int
deriving DecidableEq
def inr (n low : Int) : Bool := decide (low ≤ n) && decide (n ≤ 65535)
def idleB (u : U) : Bool := decide (u.bl = 0) && decide (u.ino = 0) && decide (u.mb = -1) && decide (u.mi = -1)
def overB (b u l : Int) : Bool := decide (0 < b) && decide (0 ≤ l) && decide (l < u)
abbrev U.v (u : U) : Value := .agg #[.int .i64 u.uid, .int .i64 u.bl, .int .i64 u.ino, .int .i64 u.mb, .int .i64 u.mi]
theorem within_any (n l : Int) (w : World) : Calls Try.prog 16 #[.int .i64 n, .int .i64 l] w fun r w' => r = .returned (.bool (inr n l)) ∧ w' = w := by
  by_cases h : l ≤ n
  · by_cases h2 : n ≤ 65535
    · rw [show inr n l = true by simp [inr, h, h2]]
      go_enter Try.func16, Try.ntmps16
      go_wp2
      go_ret
      exact ⟨rfl, rfl⟩
    · rw [show inr n l = false by simp [inr, h2]]
      have h3 : 65535 < n := by omega
      go_enter Try.func16, Try.ntmps16
      go_wp2
      go_ret
      exact ⟨rfl, rfl⟩
  · rw [show inr n l = false by simp [inr, h]]
    have h3 : n < l := by omega
    go_enter Try.func16, Try.ntmps16
    go_wp2
    go_ret
    exact ⟨rfl, rfl⟩
theorem in_any (n l : Int) (w : World) : Calls Try.prog 20 #[.int .i64 n, .int .i64 l] w fun r w' => r = .returned (.bool (inr n l)) ∧ w' = w := by
  by_cases h : l ≤ n
  · by_cases h2 : n ≤ 65535
    · rw [show inr n l = true by simp [inr, h, h2]]
      go_enter Try.func20, Try.ntmps20
      go_wp2
      go_ret
      exact ⟨rfl, rfl⟩
    · rw [show inr n l = false by simp [inr, h2]]
      have h3 : 65535 < n := by omega
      go_enter Try.func20, Try.ntmps20
      go_wp2
      go_ret
      exact ⟨rfl, rfl⟩
  · rw [show inr n l = false by simp [inr, h]]
    have h3 : n < l := by omega
    go_enter Try.func20, Try.ntmps20
    go_wp2
    go_ret
    exact ⟨rfl, rfl⟩
theorem idle_any (u : U) (w : World) : Calls Try.prog 17 #[u.v] w fun r w' => r = .returned (.bool (idleB u)) ∧ Kept (fun _ => False) w w' := by
  go_enter Try.func17, Try.ntmps17
  go_wp2_with fail
  all_goals
    go_ret
    exact ⟨by congr 2; simp_all [idleB] <;> (first | rfl | (intros; omega)), (Kept.refl _ w).alloc _⟩
theorem over_any (b u l : Int) (w : World) : Calls Try.prog 18 #[.int .i64 b, .int .i64 u, .int .i64 l] w fun r w' => r = .returned (.bool (overB b u l)) ∧ w' = w := by
  go_enter Try.func18, Try.ntmps18
  go_wp2_with fail
  all_goals
    go_ret
    exact ⟨by congr 2; simp_all [overB] <;> (first | rfl | (intros; omega)), rfl⟩
end Go.Proofs.Ytahlmlhdfoijhaa
