/-
  Walks of small functions of aes.
-/
import Derived.Test.YtgjkeeejcebhhaaRows
import Derived.Test.YtgjkeeejcebhhaaMem
import Derived.StillTailTactics
import Derived.Deep.QuietTactic
import Derived.BigQuiet
namespace Go.Proofs.Ytgjkeeejcebhhaa
open Go.RowKit

/-- A round's key over a block. -/
def addTo (c b : Nat → Byte) (r k : Nat) : Nat → Byte := fun i => if i < k then b i ^^^ c (256 + 16 * r + i) else b i
theorem addTo_upd (c b : Nat → Byte) (r k : Nat) : upd (addTo c b r k) k (addTo c b r k k ^^^ c (256 + 16 * r + k)) = addTo c b r (k + 1) := by
  funext i
  unfold upd addTo
  by_cases h : i = k
  · subst h; simp
  · rw [if_neg h]
    by_cases h2 : i < k
    · rw [if_pos h2, if_pos (by omega)]
    · rw [if_neg h2, if_neg (by omega)]

set_option maxHeartbeats 400000 in
theorem add_any (gc gb : Nat) (c b : Nat → Byte) (r : Nat) (w : World) (hr : r ≤ 10) (hc : Row w gc 49 432 c) (hb : Row w gb 22 16 b) (hne : gb ≠ gc) :
    Calls Try.prog 20 #[.pointer (some ⟨gc, 0, none⟩), .pointer (some ⟨gb, 0, none⟩), .int .i64 r] w fun e w' =>
      e = .returned (.tuple #[]) ∧ Row w' gb 22 16 (addTo c b r 16) ∧ Kept (fun k => k = gb) w w' := by
  go_enter Try.func20, Try.ntmps20
  go_wp2
  go_loopw [7] (fun i wr => ∃ k : Nat, k ≤ 16 ∧ i = .int .i64 k ∧ Row wr gb 22 16 (addTo c b r k) ∧ Kept (fun k => k = gb) w wr)
    (fun i _ => 16 - (intOf i).toNat)
  case atStart => exact ⟨0, by omega, rfl, hb.congr (by intro i _; simp [addTo]), Kept.refl _ _⟩
  case round =>
    obtain ⟨k, hk, rfl, hrow, hkept⟩ := hrel
    by_cases hlt : k < 16
    · have hb1 := hrow.cell (i := k) hlt
      have hb2 := hrow.free k
      have hc1 : wr.cell? ⟨gc, 256 + (4 * r + k / 4) * 4 + k % 4, none⟩ = some (B (c (256 + 16 * r + k))) := by
        rw [show 256 + (4 * r + k / 4) * 4 + k % 4 = 256 + 16 * r + k by omega]
        exact (show Row wr gc 49 432 c from hkept.at hc (by simpa using Ne.symm hne)).cell (by omega)
      have q0 : 0 ≤ 4 * (r : Int) + (k : Int) / 4 := by omega
      have q1 : 4 * (r : Int) + (k : Int) / 4 < 44 := by omega
      have q2 : 0 ≤ (k : Int) % 4 := by omega
      have q3 : (k : Int) % 4 < 4 := by omega
      go_wp2
      refine wp_region_still_tail 21 (by kernel_rfl) (by kernel_rfl) ?_
      simp only [List.take_succ_cons, List.take_zero, List.drop_succ_cons, List.drop_zero]
      repeat (refine wpStill_step (fun K hK => ?_); go_simp; (try go_bits); refine hK _ ?_; clear hK K)
      try refine wpStill_nil ?_
      go_wp2
      go_roundw
      case rel =>
        refine ⟨k + 1, by omega, by go_num, ?_, ?_⟩
        · rw [xorB]
          exact ((show Row wr.drew gb 22 16 _ from hrow).set k _).congr fun i _ => by rw [addTo_upd]
        · exact hkept.drew.setCell (fun _ => rfl) _
      case measure => simp [intOf]; omega
    · go_wp2
      go_end0
      obtain rfl : k = 16 := by omega
      exact ⟨rfl, hrow, hkept⟩

end Go.Proofs.Ytgjkeeejcebhhaa
