/-
  Turned words: math/bits.RotateLeft32 and the reference's right, at the counts that are used.
-/
import Derived.Test.YtpekibadleghbaaDoorWd
import Derived.Test.YtpekibadleghbaaDoorRows
namespace Go.Proofs.YtpekibadleghbaaDoor
open Go.RowKit
set_option linter.unusedVariables false
set_option linter.unusedSimpArgs false
theorem ro2 (x : Word) : bits .or .u32 (iW x * (1073741824 : Int) % (4294967296 : Int)) (iW x / (4 : Int)) = iW (ror x 2) := by
  have h1 := shlW x 30
  have h2 := shrW x 2
  rw [show (1073741824 : Int) = ((2 ^ 30 : Nat) : Int) by decide, show (4 : Int) = ((2 ^ 2 : Nat) : Int) by decide, h1, h2, orW]
  unfold ror
  rw [BitVec.or_comm]
theorem rr2 (x : Word) : bits .or .u32 (iW x / (4 : Int)) (iW x * (1073741824 : Int) % (4294967296 : Int)) = iW (ror x 2) := by
  rw [show (1073741824 : Int) = ((2 ^ 30 : Nat) : Int) by decide, show (4 : Int) = ((2 ^ 2 : Nat) : Int) by decide, shlW, shrW, orW]
  rfl
theorem ro6 (x : Word) : bits .or .u32 (iW x * (67108864 : Int) % (4294967296 : Int)) (iW x / (64 : Int)) = iW (ror x 6) := by
  have h1 := shlW x 26
  have h2 := shrW x 6
  rw [show (67108864 : Int) = ((2 ^ 26 : Nat) : Int) by decide, show (64 : Int) = ((2 ^ 6 : Nat) : Int) by decide, h1, h2, orW]
  unfold ror
  rw [BitVec.or_comm]
theorem rr6 (x : Word) : bits .or .u32 (iW x / (64 : Int)) (iW x * (67108864 : Int) % (4294967296 : Int)) = iW (ror x 6) := by
  rw [show (67108864 : Int) = ((2 ^ 26 : Nat) : Int) by decide, show (64 : Int) = ((2 ^ 6 : Nat) : Int) by decide, shlW, shrW, orW]
  rfl
theorem ro7 (x : Word) : bits .or .u32 (iW x * (33554432 : Int) % (4294967296 : Int)) (iW x / (128 : Int)) = iW (ror x 7) := by
  have h1 := shlW x 25
  have h2 := shrW x 7
  rw [show (33554432 : Int) = ((2 ^ 25 : Nat) : Int) by decide, show (128 : Int) = ((2 ^ 7 : Nat) : Int) by decide, h1, h2, orW]
  unfold ror
  rw [BitVec.or_comm]
theorem rr7 (x : Word) : bits .or .u32 (iW x / (128 : Int)) (iW x * (33554432 : Int) % (4294967296 : Int)) = iW (ror x 7) := by
  rw [show (33554432 : Int) = ((2 ^ 25 : Nat) : Int) by decide, show (128 : Int) = ((2 ^ 7 : Nat) : Int) by decide, shlW, shrW, orW]
  rfl
theorem ro11 (x : Word) : bits .or .u32 (iW x * (2097152 : Int) % (4294967296 : Int)) (iW x / (2048 : Int)) = iW (ror x 11) := by
  have h1 := shlW x 21
  have h2 := shrW x 11
  rw [show (2097152 : Int) = ((2 ^ 21 : Nat) : Int) by decide, show (2048 : Int) = ((2 ^ 11 : Nat) : Int) by decide, h1, h2, orW]
  unfold ror
  rw [BitVec.or_comm]
theorem rr11 (x : Word) : bits .or .u32 (iW x / (2048 : Int)) (iW x * (2097152 : Int) % (4294967296 : Int)) = iW (ror x 11) := by
  rw [show (2097152 : Int) = ((2 ^ 21 : Nat) : Int) by decide, show (2048 : Int) = ((2 ^ 11 : Nat) : Int) by decide, shlW, shrW, orW]
  rfl
theorem ro13 (x : Word) : bits .or .u32 (iW x * (524288 : Int) % (4294967296 : Int)) (iW x / (8192 : Int)) = iW (ror x 13) := by
  have h1 := shlW x 19
  have h2 := shrW x 13
  rw [show (524288 : Int) = ((2 ^ 19 : Nat) : Int) by decide, show (8192 : Int) = ((2 ^ 13 : Nat) : Int) by decide, h1, h2, orW]
  unfold ror
  rw [BitVec.or_comm]
theorem rr13 (x : Word) : bits .or .u32 (iW x / (8192 : Int)) (iW x * (524288 : Int) % (4294967296 : Int)) = iW (ror x 13) := by
  rw [show (524288 : Int) = ((2 ^ 19 : Nat) : Int) by decide, show (8192 : Int) = ((2 ^ 13 : Nat) : Int) by decide, shlW, shrW, orW]
  rfl
theorem ro17 (x : Word) : bits .or .u32 (iW x * (32768 : Int) % (4294967296 : Int)) (iW x / (131072 : Int)) = iW (ror x 17) := by
  have h1 := shlW x 15
  have h2 := shrW x 17
  rw [show (32768 : Int) = ((2 ^ 15 : Nat) : Int) by decide, show (131072 : Int) = ((2 ^ 17 : Nat) : Int) by decide, h1, h2, orW]
  unfold ror
  rw [BitVec.or_comm]
theorem rr17 (x : Word) : bits .or .u32 (iW x / (131072 : Int)) (iW x * (32768 : Int) % (4294967296 : Int)) = iW (ror x 17) := by
  rw [show (32768 : Int) = ((2 ^ 15 : Nat) : Int) by decide, show (131072 : Int) = ((2 ^ 17 : Nat) : Int) by decide, shlW, shrW, orW]
  rfl
theorem ro18 (x : Word) : bits .or .u32 (iW x * (16384 : Int) % (4294967296 : Int)) (iW x / (262144 : Int)) = iW (ror x 18) := by
  have h1 := shlW x 14
  have h2 := shrW x 18
  rw [show (16384 : Int) = ((2 ^ 14 : Nat) : Int) by decide, show (262144 : Int) = ((2 ^ 18 : Nat) : Int) by decide, h1, h2, orW]
  unfold ror
  rw [BitVec.or_comm]
theorem rr18 (x : Word) : bits .or .u32 (iW x / (262144 : Int)) (iW x * (16384 : Int) % (4294967296 : Int)) = iW (ror x 18) := by
  rw [show (16384 : Int) = ((2 ^ 14 : Nat) : Int) by decide, show (262144 : Int) = ((2 ^ 18 : Nat) : Int) by decide, shlW, shrW, orW]
  rfl
theorem ro19 (x : Word) : bits .or .u32 (iW x * (8192 : Int) % (4294967296 : Int)) (iW x / (524288 : Int)) = iW (ror x 19) := by
  have h1 := shlW x 13
  have h2 := shrW x 19
  rw [show (8192 : Int) = ((2 ^ 13 : Nat) : Int) by decide, show (524288 : Int) = ((2 ^ 19 : Nat) : Int) by decide, h1, h2, orW]
  unfold ror
  rw [BitVec.or_comm]
theorem rr19 (x : Word) : bits .or .u32 (iW x / (524288 : Int)) (iW x * (8192 : Int) % (4294967296 : Int)) = iW (ror x 19) := by
  rw [show (8192 : Int) = ((2 ^ 13 : Nat) : Int) by decide, show (524288 : Int) = ((2 ^ 19 : Nat) : Int) by decide, shlW, shrW, orW]
  rfl
theorem ro22 (x : Word) : bits .or .u32 (iW x * (1024 : Int) % (4294967296 : Int)) (iW x / (4194304 : Int)) = iW (ror x 22) := by
  have h1 := shlW x 10
  have h2 := shrW x 22
  rw [show (1024 : Int) = ((2 ^ 10 : Nat) : Int) by decide, show (4194304 : Int) = ((2 ^ 22 : Nat) : Int) by decide, h1, h2, orW]
  unfold ror
  rw [BitVec.or_comm]
theorem rr22 (x : Word) : bits .or .u32 (iW x / (4194304 : Int)) (iW x * (1024 : Int) % (4294967296 : Int)) = iW (ror x 22) := by
  rw [show (1024 : Int) = ((2 ^ 10 : Nat) : Int) by decide, show (4194304 : Int) = ((2 ^ 22 : Nat) : Int) by decide, shlW, shrW, orW]
  rfl
theorem ro25 (x : Word) : bits .or .u32 (iW x * (128 : Int) % (4294967296 : Int)) (iW x / (33554432 : Int)) = iW (ror x 25) := by
  have h1 := shlW x 7
  have h2 := shrW x 25
  rw [show (128 : Int) = ((2 ^ 7 : Nat) : Int) by decide, show (33554432 : Int) = ((2 ^ 25 : Nat) : Int) by decide, h1, h2, orW]
  unfold ror
  rw [BitVec.or_comm]
theorem rr25 (x : Word) : bits .or .u32 (iW x / (33554432 : Int)) (iW x * (128 : Int) % (4294967296 : Int)) = iW (ror x 25) := by
  rw [show (128 : Int) = ((2 ^ 7 : Nat) : Int) by decide, show (33554432 : Int) = ((2 ^ 25 : Nat) : Int) by decide, shlW, shrW, orW]
  rfl
theorem mk2 : bits .and .u64 (IntKind.u64.wrap (-2)) 31 = 30 := by kernel_rfl
theorem mk6 : bits .and .u64 (IntKind.u64.wrap (-6)) 31 = 26 := by kernel_rfl
theorem mk7 : bits .and .u64 (IntKind.u64.wrap (-7)) 31 = 25 := by kernel_rfl
theorem mk11 : bits .and .u64 (IntKind.u64.wrap (-11)) 31 = 21 := by kernel_rfl
theorem mk13 : bits .and .u64 (IntKind.u64.wrap (-13)) 31 = 19 := by kernel_rfl
theorem mk17 : bits .and .u64 (IntKind.u64.wrap (-17)) 31 = 15 := by kernel_rfl
theorem mk18 : bits .and .u64 (IntKind.u64.wrap (-18)) 31 = 14 := by kernel_rfl
theorem mk19 : bits .and .u64 (IntKind.u64.wrap (-19)) 31 = 13 := by kernel_rfl
theorem mk22 : bits .and .u64 (IntKind.u64.wrap (-22)) 31 = 10 := by kernel_rfl
theorem mk25 : bits .and .u64 (IntKind.u64.wrap (-25)) 31 = 7 := by kernel_rfl
attribute [local go_sem] mk2 mk6 mk7 mk11 mk13 mk17 mk18 mk19 mk22 mk25 ro2 rr2 ro6 rr6 ro7 rr7 ro11 rr11 ro13 rr13 ro17 rr17 ro18 rr18 ro19 rr19 ro22 rr22 ro25 rr25
theorem rot_2 (x : Word) (w : World) : Calls Tryd.prog 71 #[W x, .int .i64 (-2)] w fun r w' => r = .returned (W (ror x 2)) ∧ w' = w := by
  go_enter Tryd.func71, Tryd.ntmps71
  go_wp2
  go_ret
  exact ⟨rfl, rfl⟩
theorem right_2 (x : Word) (w : World) : Calls Tryd.prog 64 #[W x, .int .u64 2] w fun r w' => r = .returned (W (ror x 2)) ∧ w' = w := by
  go_enter Tryd.func64, Tryd.ntmps64
  go_wp2
  go_ret
  exact ⟨rfl, rfl⟩
theorem rot_6 (x : Word) (w : World) : Calls Tryd.prog 71 #[W x, .int .i64 (-6)] w fun r w' => r = .returned (W (ror x 6)) ∧ w' = w := by
  go_enter Tryd.func71, Tryd.ntmps71
  go_wp2
  go_ret
  exact ⟨rfl, rfl⟩
theorem right_6 (x : Word) (w : World) : Calls Tryd.prog 64 #[W x, .int .u64 6] w fun r w' => r = .returned (W (ror x 6)) ∧ w' = w := by
  go_enter Tryd.func64, Tryd.ntmps64
  go_wp2
  go_ret
  exact ⟨rfl, rfl⟩
theorem rot_7 (x : Word) (w : World) : Calls Tryd.prog 71 #[W x, .int .i64 (-7)] w fun r w' => r = .returned (W (ror x 7)) ∧ w' = w := by
  go_enter Tryd.func71, Tryd.ntmps71
  go_wp2
  go_ret
  exact ⟨rfl, rfl⟩
theorem right_7 (x : Word) (w : World) : Calls Tryd.prog 64 #[W x, .int .u64 7] w fun r w' => r = .returned (W (ror x 7)) ∧ w' = w := by
  go_enter Tryd.func64, Tryd.ntmps64
  go_wp2
  go_ret
  exact ⟨rfl, rfl⟩
theorem rot_11 (x : Word) (w : World) : Calls Tryd.prog 71 #[W x, .int .i64 (-11)] w fun r w' => r = .returned (W (ror x 11)) ∧ w' = w := by
  go_enter Tryd.func71, Tryd.ntmps71
  go_wp2
  go_ret
  exact ⟨rfl, rfl⟩
theorem right_11 (x : Word) (w : World) : Calls Tryd.prog 64 #[W x, .int .u64 11] w fun r w' => r = .returned (W (ror x 11)) ∧ w' = w := by
  go_enter Tryd.func64, Tryd.ntmps64
  go_wp2
  go_ret
  exact ⟨rfl, rfl⟩
theorem rot_13 (x : Word) (w : World) : Calls Tryd.prog 71 #[W x, .int .i64 (-13)] w fun r w' => r = .returned (W (ror x 13)) ∧ w' = w := by
  go_enter Tryd.func71, Tryd.ntmps71
  go_wp2
  go_ret
  exact ⟨rfl, rfl⟩
theorem right_13 (x : Word) (w : World) : Calls Tryd.prog 64 #[W x, .int .u64 13] w fun r w' => r = .returned (W (ror x 13)) ∧ w' = w := by
  go_enter Tryd.func64, Tryd.ntmps64
  go_wp2
  go_ret
  exact ⟨rfl, rfl⟩
theorem rot_17 (x : Word) (w : World) : Calls Tryd.prog 71 #[W x, .int .i64 (-17)] w fun r w' => r = .returned (W (ror x 17)) ∧ w' = w := by
  go_enter Tryd.func71, Tryd.ntmps71
  go_wp2
  go_ret
  exact ⟨rfl, rfl⟩
theorem right_17 (x : Word) (w : World) : Calls Tryd.prog 64 #[W x, .int .u64 17] w fun r w' => r = .returned (W (ror x 17)) ∧ w' = w := by
  go_enter Tryd.func64, Tryd.ntmps64
  go_wp2
  go_ret
  exact ⟨rfl, rfl⟩
theorem rot_18 (x : Word) (w : World) : Calls Tryd.prog 71 #[W x, .int .i64 (-18)] w fun r w' => r = .returned (W (ror x 18)) ∧ w' = w := by
  go_enter Tryd.func71, Tryd.ntmps71
  go_wp2
  go_ret
  exact ⟨rfl, rfl⟩
theorem right_18 (x : Word) (w : World) : Calls Tryd.prog 64 #[W x, .int .u64 18] w fun r w' => r = .returned (W (ror x 18)) ∧ w' = w := by
  go_enter Tryd.func64, Tryd.ntmps64
  go_wp2
  go_ret
  exact ⟨rfl, rfl⟩
theorem rot_19 (x : Word) (w : World) : Calls Tryd.prog 71 #[W x, .int .i64 (-19)] w fun r w' => r = .returned (W (ror x 19)) ∧ w' = w := by
  go_enter Tryd.func71, Tryd.ntmps71
  go_wp2
  go_ret
  exact ⟨rfl, rfl⟩
theorem right_19 (x : Word) (w : World) : Calls Tryd.prog 64 #[W x, .int .u64 19] w fun r w' => r = .returned (W (ror x 19)) ∧ w' = w := by
  go_enter Tryd.func64, Tryd.ntmps64
  go_wp2
  go_ret
  exact ⟨rfl, rfl⟩
theorem rot_22 (x : Word) (w : World) : Calls Tryd.prog 71 #[W x, .int .i64 (-22)] w fun r w' => r = .returned (W (ror x 22)) ∧ w' = w := by
  go_enter Tryd.func71, Tryd.ntmps71
  go_wp2
  go_ret
  exact ⟨rfl, rfl⟩
theorem right_22 (x : Word) (w : World) : Calls Tryd.prog 64 #[W x, .int .u64 22] w fun r w' => r = .returned (W (ror x 22)) ∧ w' = w := by
  go_enter Tryd.func64, Tryd.ntmps64
  go_wp2
  go_ret
  exact ⟨rfl, rfl⟩
theorem rot_25 (x : Word) (w : World) : Calls Tryd.prog 71 #[W x, .int .i64 (-25)] w fun r w' => r = .returned (W (ror x 25)) ∧ w' = w := by
  go_enter Tryd.func71, Tryd.ntmps71
  go_wp2
  go_ret
  exact ⟨rfl, rfl⟩
theorem right_25 (x : Word) (w : World) : Calls Tryd.prog 64 #[W x, .int .u64 25] w fun r w' => r = .returned (W (ror x 25)) ∧ w' = w := by
  go_enter Tryd.func64, Tryd.ntmps64
  go_wp2
  go_ret
  exact ⟨rfl, rfl⟩
end Go.Proofs.YtpekibadleghbaaDoor
