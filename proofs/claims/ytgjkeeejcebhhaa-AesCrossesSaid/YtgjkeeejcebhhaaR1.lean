/-
  The reference's product of two bytes.
-/
import Derived.Test.YtgjkeeejcebhhaaA3
namespace Go.Proofs.Ytgjkeeejcebhhaa
open Go.RowKit
def tstep (s : Byte × Byte × Byte) : Byte × Byte × Byte := (twice s.1, s.2.1 >>> 1, if s.2.1.toNat % 2 = 1 then s.2.2 ^^^ s.1 else s.2.2)
def tst (a b : Byte) : Nat → Byte × Byte × Byte
  | 0 => (a, b, 0#8)
  | n + 1 => tstep (tst a b n)
def times (a b : Byte) : Byte := (tst a b 8).2.2
theorem half (b : Byte) : iB b / (2 : Int) = iB (b >>> 1) := by unfold iB; rw [BitVec.toNat_ushiftRight]; simp [Nat.shiftRight_eq_div_pow]
theorem times_x3 : ∀ x : Fin 256, times (BitVec.ofFin x) 3#8 = twice (BitVec.ofFin x) ^^^ (BitVec.ofFin x : Byte) := by decide +kernel
theorem times_3x : ∀ x : Fin 256, times 3#8 (BitVec.ofFin x) = twice (BitVec.ofFin x) ^^^ (BitVec.ofFin x : Byte) := by decide +kernel
theorem times_2x : ∀ x : Fin 256, times 2#8 (BitVec.ofFin x) = twice (BitVec.ofFin x) := by decide +kernel
theorem times_x2 : ∀ x : Fin 256, times (BitVec.ofFin x) 2#8 = twice (BitVec.ofFin x) := by decide +kernel
attribute [local go_sem] xorB
set_option maxRecDepth 100000 in
set_option maxHeartbeats 1000000 in
theorem times_any (a b : Byte) (w : World) : Calls Try.prog 22 #[B a, B b] w fun e w' => e = .returned (B (times a b)) ∧ w' = w := by
  go_enter Try.func22, Try.ntmps22
  go_wp2_with fail
  go_loopg [0, 1, 5, 6] 8 (fun k x y o i wr => ∃ n : Nat, n + k = 8 ∧ i = .int .i64 n ∧ x = B (tst a b n).1 ∧ y = B (tst a b n).2.1 ∧ o = B (tst a b n).2.2 ∧ wr = w)
  case atStart => exact ⟨0, rfl, rfl, rfl, rfl, rfl, rfl⟩
  case round =>
    obtain ⟨n, hn, rfl, rfl, rfl, rfl, rfl⟩ := hrel
    have Hn := Lib.hid hn
    have hn' : n ≤ 8 := by omega
    clear hn
    by_cases hlt : n < 8
    · have q : (n : Int) < 8 := by omega
      have hnext : tst a b (n + 1) = tstep (tst a b n) := rfl
      have HN := Lib.hid hnext
      clear hnext
      obtain ⟨x, y, o, hx⟩ : ∃ x y o, tst a b n = (x, y, o) := ⟨_, _, _, rfl⟩
      have e1 : (tst a b n).1 = x := by rw [hx]
      have e2 : (tst a b n).2.1 = y := by rw [hx]
      have e3 : (tst a b n).2.2 = o := by rw [hx]
      rw [e1, e2, e3]
      have HX := Lib.hid hx
      clear hx e1 e2 e3
      have i0 := iB_ge x
      have i1 := iB_lt x
      have j0 := iB_ge y
      have j1 := iB_lt y
      have fin : ∀ (X Y O : Int), X = iB (twice x) → Y = iB (y >>> 1) → O = iB (if y.toNat % 2 = 1 then o ^^^ x else o) →
          (.int .u8 X : Value) = B (tst a b (n + 1)).1 ∧ (.int .u8 Y : Value) = B (tst a b (n + 1)).2.1 ∧ (.int .u8 O : Value) = B (tst a b (n + 1)).2.2 := by
        rintro X Y O rfl rfl rfl
        rw [HN.out, HX.out]
        exact ⟨rfl, rfl, rfl⟩
      have FIN := Lib.hid fin
      clear fin
      by_cases hy : y.toNat % 2 = 1
      · have hyb : (iB y % 2 == 1) = true := by unfold iB; simp; omega
        have HY := Lib.hid hy
        clear hy
        rcases Int.lt_or_le (iB x) 128 with hx | hx
        all_goals
          go_wp2_with fail
          go_roundg (gk - 1)
          case measure => have := Hn.out; omega
          case rel =>
            have := Hn.out
            have F := FIN.out _ _ _ (by first | exact twice_lo x hx | exact twice_hi x hx) (half y) (show iB (o ^^^ x) = _ by rw [if_pos HY.out])
            exact ⟨n + 1, by omega, by go_num, F.1, F.2.1, F.2.2, rfl⟩
      · have hyb : (iB y % 2 == 1) = false := by unfold iB; simp; omega
        have HY := Lib.hid hy
        clear hy
        rcases Int.lt_or_le (iB x) 128 with hx | hx
        all_goals
          go_wp2_with fail
          go_roundg (gk - 1)
          case measure => have := Hn.out; omega
          case rel =>
            have := Hn.out
            have F := FIN.out _ _ _ (by first | exact twice_lo x hx | exact twice_hi x hx) (half y) (show iB o = _ by rw [if_neg HY.out])
            exact ⟨n + 1, by omega, by go_num, F.1, F.2.1, F.2.2, rfl⟩
    · have H8 := Lib.hid (show n = 8 by omega)
      have hr : (tst a b n).2.2 = times a b := by rw [H8.out]; rfl
      rw [hr]
      clear hr
      go_wp2_with fail
      go_ret
      exact ⟨rfl, rfl⟩
end Go.Proofs.Ytgjkeeejcebhhaa
