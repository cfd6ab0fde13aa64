/-
  Walks of small functions of aes: twice, RotateLeft8, mix.
-/
import Derived.Test.YtgjkeeejcebhhaaRows
import Derived.Test.YtgjkeeejcebhhaaA0
import Derived.StillTailTactics
import Derived.Deep.LoopGhost
namespace Go.Proofs.Ytgjkeeejcebhhaa
open Go.RowKit

theorem twice_hi (b : Byte) (h : 128 ≤ iB b) : bits .xor .u8 (iB b * (2 : Int) % (256 : Int)) 27 = iB (twice b) := by
  have e : iB b * (2 : Int) % (256 : Int) = iB (b <<< 1) := by
    unfold iB; rw [BitVec.toNat_shiftLeft]; simp [Nat.shiftLeft_eq]
  have e2 : (27 : Int) = iB 27#8 := rfl
  rw [e, e2, xorB]
  unfold iB at h
  unfold twice
  rw [if_pos (by omega)]
theorem twice_lo (b : Byte) (h : iB b < 128) : iB b * (2 : Int) = iB (twice b) := by
  unfold iB at *
  unfold twice
  rw [if_neg (by omega), BitVec.toNat_shiftLeft]
  simp [Nat.shiftLeft_eq]; omega

set_option maxHeartbeats 400000 in
theorem twice_int (n : Int) (w : World) (h0 : 0 ≤ n) (h1 : n < 256) :
    Calls Try.prog 19 #[.int .u8 n] w fun e w' => (128 ≤ n → e = .returned (.int .u8 (bits .xor .u8 (n * 2 % 256) 27))) ∧ (n < 128 → e = .returned (.int .u8 (n * 2))) ∧ w' = w := by
  go_enter Try.func19, Try.ntmps19
  go_wp2
  · go_ret
    exact ⟨fun _ => rfl, fun h => by omega, rfl⟩
  · go_ret
    exact ⟨fun h => by omega, fun _ => rfl, rfl⟩
theorem twice_any (b : Byte) (w : World) : Calls Try.prog 19 #[B b] w fun e w' => e = .returned (B (twice b)) ∧ w' = w := by
  refine (twice_int (iB b) w (iB_ge b) (iB_lt b)).mono ?_
  rintro e w' ⟨h1, h2, rfl⟩
  refine ⟨?_, rfl⟩
  rcases Int.lt_or_le (iB b) 128 with h | h
  · rw [h2 h]; exact congrArg (fun n => Ending.returned (.int .u8 n)) (twice_lo b h)
  · rw [h1 h]; exact congrArg (fun n => Ending.returned (.int .u8 n)) (twice_hi b h)


theorem rot_eq1 : ∀ b : Fin 256, bits .or .u8 ((b.val : Int) * 2 % 256) ((b.val : Int) / 128) = (((BitVec.ofFin b : Byte).rotateLeft 1).toNat : Int) := by decide +kernel
set_option maxHeartbeats 400000 in
theorem rot_int1 (n : Int) (w : World) : Calls Try.prog 23 #[.int .u8 n, .int .i64 1] w fun e w' => e = .returned (.int .u8 (bits .or .u8 (n * 2 % 256) (n / 128))) ∧ w' = w := by
  have a1 : bits .and .u64 1 7 = 1 := by decide +kernel
  go_enter Try.func23, Try.ntmps23
  go_wp2
  go_ret
  exact ⟨rfl, rfl⟩
theorem rot1 (b : Byte) (w : World) : Calls Try.prog 23 #[B b, .int .i64 1] w fun e w' => e = .returned (B (b.rotateLeft 1)) ∧ w' = w := by
  refine (rot_int1 (iB b) w).mono ?_
  rintro e w' ⟨rfl, rfl⟩
  exact ⟨congrArg (fun n => Ending.returned (.int .u8 n)) (rot_eq1 b.toFin), rfl⟩

theorem rot_eq2 : ∀ b : Fin 256, bits .or .u8 ((b.val : Int) * 4 % 256) ((b.val : Int) / 64) = (((BitVec.ofFin b : Byte).rotateLeft 2).toNat : Int) := by decide +kernel
set_option maxHeartbeats 400000 in
theorem rot_int2 (n : Int) (w : World) : Calls Try.prog 23 #[.int .u8 n, .int .i64 2] w fun e w' => e = .returned (.int .u8 (bits .or .u8 (n * 4 % 256) (n / 64))) ∧ w' = w := by
  have a1 : bits .and .u64 2 7 = 2 := by decide +kernel
  go_enter Try.func23, Try.ntmps23
  go_wp2
  go_ret
  exact ⟨rfl, rfl⟩
theorem rot2 (b : Byte) (w : World) : Calls Try.prog 23 #[B b, .int .i64 2] w fun e w' => e = .returned (B (b.rotateLeft 2)) ∧ w' = w := by
  refine (rot_int2 (iB b) w).mono ?_
  rintro e w' ⟨rfl, rfl⟩
  exact ⟨congrArg (fun n => Ending.returned (.int .u8 n)) (rot_eq2 b.toFin), rfl⟩

theorem rot_eq3 : ∀ b : Fin 256, bits .or .u8 ((b.val : Int) * 8 % 256) ((b.val : Int) / 32) = (((BitVec.ofFin b : Byte).rotateLeft 3).toNat : Int) := by decide +kernel
set_option maxHeartbeats 400000 in
theorem rot_int3 (n : Int) (w : World) : Calls Try.prog 23 #[.int .u8 n, .int .i64 3] w fun e w' => e = .returned (.int .u8 (bits .or .u8 (n * 8 % 256) (n / 32))) ∧ w' = w := by
  have a1 : bits .and .u64 3 7 = 3 := by decide +kernel
  go_enter Try.func23, Try.ntmps23
  go_wp2
  go_ret
  exact ⟨rfl, rfl⟩
theorem rot3 (b : Byte) (w : World) : Calls Try.prog 23 #[B b, .int .i64 3] w fun e w' => e = .returned (B (b.rotateLeft 3)) ∧ w' = w := by
  refine (rot_int3 (iB b) w).mono ?_
  rintro e w' ⟨rfl, rfl⟩
  exact ⟨congrArg (fun n => Ending.returned (.int .u8 n)) (rot_eq3 b.toFin), rfl⟩

theorem rot_eq4 : ∀ b : Fin 256, bits .or .u8 ((b.val : Int) * 16 % 256) ((b.val : Int) / 16) = (((BitVec.ofFin b : Byte).rotateLeft 4).toNat : Int) := by decide +kernel
set_option maxHeartbeats 400000 in
theorem rot_int4 (n : Int) (w : World) : Calls Try.prog 23 #[.int .u8 n, .int .i64 4] w fun e w' => e = .returned (.int .u8 (bits .or .u8 (n * 16 % 256) (n / 16))) ∧ w' = w := by
  have a1 : bits .and .u64 4 7 = 4 := by decide +kernel
  go_enter Try.func23, Try.ntmps23
  go_wp2
  go_ret
  exact ⟨rfl, rfl⟩
theorem rot4 (b : Byte) (w : World) : Calls Try.prog 23 #[B b, .int .i64 4] w fun e w' => e = .returned (B (b.rotateLeft 4)) ∧ w' = w := by
  refine (rot_int4 (iB b) w).mono ?_
  rintro e w' ⟨rfl, rfl⟩
  exact ⟨congrArg (fun n => Ending.returned (.int .u8 n)) (rot_eq4 b.toFin), rfl⟩

/-- A column mixed: at off .. off + 3. -/
def mixAt (f : Nat → Byte) (o : Nat) : Nat → Byte :=
  let all := f o ^^^ f (o + 1) ^^^ f (o + 2) ^^^ f (o + 3)
  fun i =>
    if i = o + 3 then f (o + 3) ^^^ (all ^^^ twice (f (o + 3) ^^^ f o))
    else if i = o + 2 then f (o + 2) ^^^ (all ^^^ twice (f (o + 2) ^^^ f (o + 3)))
    else if i = o + 1 then f (o + 1) ^^^ (all ^^^ twice (f (o + 1) ^^^ f (o + 2)))
    else if i = o then f o ^^^ (all ^^^ twice (f o ^^^ f (o + 1)))
    else f i
attribute [local go_sem] xorB
set_option maxHeartbeats 1000000 in
theorem mix_any (g n o cap : Nat) (f : Nat → Byte) (w : World) (hr : Row w g 22 n f) (ho : o + 4 ≤ n) :
    Calls Try.prog 21 #[.slice (some ⟨g, o, none⟩) 4 cap] w fun e w' => e = .returned (.tuple #[]) ∧ Row w' g 22 n (mixAt f o) ∧ Kept (fun k => k = g) w w' := by
  have c0 := hr.cell (i := o) (by omega)
  have c1 := hr.cell (i := o + 1) (by omega)
  have c2 := hr.cell (i := o + 2) (by omega)
  have c3 := hr.cell (i := o + 3) (by omega)
  have f0 := hr.free o
  have f1 := hr.free (o + 1)
  have f2 := hr.free (o + 2)
  have f3 := hr.free (o + 3)
  go_enter Try.func21, Try.ntmps21
  go_wp2
  refine region_still (by kernel_rfl) (by kernel_rfl) ?_
  repeat (refine wpStill_step (fun K hK => ?_); go_simp; (try go_bits); refine hK _ ?_; clear hK K)
  refine wpStill_nil ?_
  go_wp2
  refine region_tail 11 (by kernel_rfl) (by kernel_rfl) ?_
  simp only [List.take_succ_cons, List.take_zero, List.drop_succ_cons, List.drop_zero]
  repeat (refine wpStill_step (fun K hK => ?_); go_simp; (try go_bits); refine hK _ ?_; clear hK K)
  (refine wpStill_step (fun K hK => ?_); go_simp; refine ⟨_, twice_any _ _, hK _ ?_⟩; clear hK K)
  repeat (refine wpStill_step (fun K hK => ?_); go_simp; (try go_bits); refine hK _ ?_; clear hK K)
  refine wpStill_nil ?_
  go_wp2
  refine region_tail 11 (by kernel_rfl) (by kernel_rfl) ?_
  simp only [List.take_succ_cons, List.take_zero, List.drop_succ_cons, List.drop_zero]
  repeat (refine wpStill_step (fun K hK => ?_); go_simp; (try go_bits); refine hK _ ?_; clear hK K)
  (refine wpStill_step (fun K hK => ?_); go_simp; refine ⟨_, twice_any _ _, hK _ ?_⟩; clear hK K)
  repeat (refine wpStill_step (fun K hK => ?_); go_simp; (try go_bits); refine hK _ ?_; clear hK K)
  refine wpStill_nil ?_
  go_wp2
  refine region_tail 11 (by kernel_rfl) (by kernel_rfl) ?_
  simp only [List.take_succ_cons, List.take_zero, List.drop_succ_cons, List.drop_zero]
  repeat (refine wpStill_step (fun K hK => ?_); go_simp; (try go_bits); refine hK _ ?_; clear hK K)
  (refine wpStill_step (fun K hK => ?_); go_simp; refine ⟨_, twice_any _ _, hK _ ?_⟩; clear hK K)
  repeat (refine wpStill_step (fun K hK => ?_); go_simp; (try go_bits); refine hK _ ?_; clear hK K)
  refine wpStill_nil ?_
  go_wp2
  refine region_tail 11 (by kernel_rfl) (by kernel_rfl) ?_
  simp only [List.take_succ_cons, List.take_zero, List.drop_succ_cons, List.drop_zero]
  repeat (refine wpStill_step (fun K hK => ?_); go_simp; (try go_bits); refine hK _ ?_; clear hK K)
  (refine wpStill_step (fun K hK => ?_); go_simp; refine ⟨_, twice_any _ _, hK _ ?_⟩; clear hK K)
  repeat (refine wpStill_step (fun K hK => ?_); go_simp; (try go_bits); refine hK _ ?_; clear hK K)
  refine wpStill_nil ?_
  go_wp2
  go_end0
  refine ⟨rfl, ?_, ?_⟩
  · exact ((((hr.set o _).set (o + 1) _).set (o + 2) _).set (o + 3) _).congr fun i _ => by
      unfold mixAt upd
      repeat' split
      all_goals first | rfl | omega
  · exact (((((Kept.refl (fun k => k = g) w).setCell (fun _ => rfl) _).setCell (fun _ => rfl) _).setCell (fun _ => rfl) _).setCell (fun _ => rfl) _).drew.drew.drew.drew.drew
end Go.Proofs.Ytgjkeeejcebhhaa
