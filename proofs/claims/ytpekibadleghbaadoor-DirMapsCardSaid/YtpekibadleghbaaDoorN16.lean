/-
  IndexRune in the two bytes.
-/
import Derived.Test.YtpekibadleghbaaDoorN17
import Derived.Scope
import Derived.Test.YtpekibadleghbaaDoorShelf
import Derived.Laws.RangeString
namespace Go.Proofs.YtpekibadleghbaaDoor
open Go.RowKit
set_option linter.unusedVariables false
set_option linter.unusedSimpArgs false
/-- What stands for a rune from 128 on: two bytes, the second from 128 on, or three and more. -/
theorem encode_high (r : Int) (hr : 128 ≤ r) : 3 ≤ (Utf8.encode r).size ∨ ∃ x y : UInt8, Utf8.encode r = ⟨#[x, y]⟩ ∧ 128 ≤ y.toNat := by
  unfold Utf8.encode
  have hc : 128 ≤ (if Utf8.valid r = true then r.toNat else Utf8.runeError) := by
    split
    · omega
    · decide
  simp only []
  generalize (if Utf8.valid r = true then r.toNat else Utf8.runeError) = c at hc ⊢
  rw [if_neg (by omega)]
  split
  · right
    refine ⟨_, _, rfl, ?_⟩
    rw [UInt8.toNat_ofNat']
    omega
  · left
    split
    · exact Nat.le_refl 3
    · exact Nat.le_succ 3
theorem encode_le (r : Int) : (Utf8.encode r).size ≤ 4 := by
  unfold Utf8.encode
  simp only []
  generalize (if Utf8.valid r = true then r.toNat else Utf8.runeError) = c
  split
  · exact Nat.le_of_ble_eq_true rfl
  · split
    · exact Nat.le_of_ble_eq_true rfl
    · split
      · exact Nat.le_of_ble_eq_true rfl
      · exact Nat.le_refl 4
set_option maxRecDepth 100000 in
set_option maxHeartbeats 4000000 in
theorem rune_any (r : Int) (hr : 128 ≤ r) (w : World) : Calls Tryd.prog 65 #[.string ⟨#[47, 0]⟩, .int .i32 r] w fun e w' => (∃ n : Int, e = .returned (.int .i64 n) ∧ n < 0) ∧ Kept (fun _ => False) w w' := by
  go_enter Tryd.func65, Tryd.ntmps65
  by_cases h0 : r = 65533
  · subst h0
    have h47 : (((⟨#[47, 0]⟩ : ByteArray)[0]'(Nat.le_add_left 1 1)).toNat : Int) = 47 := rfl
    have n0 : ∀ (w : World) ty, _ := fun w ty => run_next_ascii (P := Tryd.prog) w ⟨#[47, 0]⟩ 0 ty (by decide) (by decide)
    have n1 : ∀ (w : World) ty, _ := fun w ty => run_next_ascii (P := Tryd.prog) w ⟨#[47, 0]⟩ 1 ty (by decide) (by decide)
    have n2 : ∀ (w : World) ty, _ := fun w ty => run_next_end (P := Tryd.prog) w ⟨#[47, 0]⟩ 2 ty (by decide)
    go_wp2_with fail
    go_loopg [5, 6] 2 (fun k _ _ wr => ∃ i : Nat, i + k = 2 ∧ wr = w.iter ⟨#[47, 0]⟩ i)
    case atStart => exact ⟨0, rfl, rfl⟩
    case round =>
      obtain ⟨i, hi, rfl⟩ := hrel
      have hc : (i = 0 ∧ gk = 2) ∨ (i = 1 ∧ gk = 1) ∨ (i = 2 ∧ gk = 0) := by omega
      clear hi
      rcases hc with ⟨rfl, rfl⟩ | ⟨rfl, rfl⟩ | ⟨rfl, rfl⟩
      · go_wp2_with fail
        go_roundg 1
        case measure => omega
        case rel => exact ⟨1, rfl, rfl⟩
      · go_wp2_with fail
        go_roundg 0
        case measure => omega
        case rel => exact ⟨2, rfl, rfl⟩
      · go_wp2_with fail
        go_ret
        exact ⟨⟨-1, rfl, by omega⟩, Kept.alloc (Kept.refl _ w) _⟩
  · have h0b : (r == 65533) = false := by simpa using h0
    go_wp2_with (first | (refine (Tryd.utf8_ValidRune _ _).mono ?_; rintro e w' ⟨rfl, hw⟩; replace hw := hw.symm; subst hw))
    · go_ret
      exact ⟨⟨-1, rfl, by omega⟩, Kept.refl _ w⟩
    · refine wp_scope_straight ?_
      obtain ⟨E, hE⟩ : ∃ E, E = Utf8.encode r := ⟨_, rfl⟩
      rcases encode_high r hr with h3 | ⟨x, y, he, hy⟩
      · obtain ⟨z, hz⟩ : ∃ z : Int, z = ((Utf8.encode r).size : Int) - 1 := ⟨_, rfl⟩
        go_wp2_with fail
        go_loopg [9] 0 (fun k i wr => i = .int .i64 (wrap64 (((Utf8.encode r).size : Int) - 1)) ∧ wr = w)
        case atStart => exact ⟨rfl, rfl⟩
        case round =>
          obtain ⟨rfl, hw⟩ := hrel
          subst hw
          have hsz : (Utf8.encode r).size ≤ 4 := encode_le r
          have hwz : wrap64 (((Utf8.encode r).size : Int) - 1) = ((Utf8.encode r).size : Int) - 1 := by unfold wrap64; omega
          have q3 : ¬ ((Utf8.encode r).size : Int) - 1 < 2 := by omega
          go_wp2_with fail
          go_ret
          exact ⟨⟨-1, rfl, by omega⟩, Kept.refl _ _⟩
      · go_wp2_with fail
        go_loopg [9] 0 (fun k i wr => i = .int .i64 1 ∧ wr = w)
        case atStart => exact ⟨rfl, rfl⟩
        case round =>
          obtain ⟨rfl, hw⟩ := hrel
          subst hw
          go_wp2_with fail
          refine wp_scope_straight ?_
          have hy0 : ((0 : Int) == (y.toNat : Int)) = false := by simp; omega
          have hy1 : ((y.toNat : Int) == (0 : Int)) = false := by simp; omega
          go_wp2_with fail
          refine region_still (by kernel_rfl) (by kernel_rfl) ?_
          repeat (refine wpStill_step (fun K hK => ?_); go_simp; (try go_bits); refine hK _ ?_; clear hK K)
          refine wpStill_nil ?_
          go_wp2_with fail
          · skip
            refine region_tail 7 (by kernel_rfl) (by kernel_rfl) ?_
            simp only [List.take_succ_cons, List.take_zero, List.drop_succ_cons, List.drop_zero]
            repeat (refine wpStill_step (fun K hK => ?_); go_simp; (try go_bits); refine hK _ ?_; clear hK K)
            refine wpStill_nil ?_
            go_wp2_with fail
            refine (Tryd.strings_IndexByte _ _ _).mono ?_
            rintro e w' ⟨rfl, hw⟩
            replace hw := hw.symm
            subst hw
            have hi : Lib.indexByte ByteArray.empty.data.toList (((⟨#[x, y]⟩ : ByteArray)[1]'(Nat.le_refl 2)).toNat : Int).toNat.toUInt8 = -1 := rfl
            rw [hi]
            clear hi
            go_wp2_with fail
            rw [Exit.noGoto_ret]
            go_wp2_with fail
            rw [Exit.noGoto_ret]
            go_ret
            exact ⟨⟨-1, rfl, by omega⟩, (Kept.refl _ _).drew.drew⟩
          · have h : (((⟨#[47, 0]⟩ : ByteArray)[1]'(Nat.le_refl 2)).toNat != (((⟨#[x, y]⟩ : ByteArray)[1]'(Nat.le_refl 2)).toNat : Int)) = false := by assumption
            exact absurd (show ((0 : Int) != (y.toNat : Int)) = false from h) (by simp; omega)
end Go.Proofs.YtpekibadleghbaaDoor
