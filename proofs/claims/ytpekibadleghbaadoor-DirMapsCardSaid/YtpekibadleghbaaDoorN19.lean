/-
  The program's Valid.
-/
import Derived.Test.YtpekibadleghbaaDoorN18
import Derived.Deep.WholeRow
namespace Go.Proofs.YtpekibadleghbaaDoor
open Go.RowKit
set_option linter.unusedVariables false
set_option linter.unusedSimpArgs false
theorem contains_bad (b : Nat) (h : b < 256) : (⟨#[47, 0]⟩ : ByteArray).data.toList.contains (UInt8.ofNat b) = (decide (b = 0) || decide (b = 47)) := by
  revert b
  decide +kernel
theorem first_bad (s : ByteArray) : ∀ n, noBad s n = false → ∃ i, i < n ∧ noBad s i = true ∧ badB (sB s i) = true
  | 0, h => by cases h
  | n + 1, h => by
    by_cases e : noBad s n = true
    · refine ⟨n, by omega, e, ?_⟩
      unfold noBad at h
      rw [e] at h
      simpa using h
    · obtain ⟨i, hi, h1, h2⟩ := first_bad s n (Bool.eq_false_iff.2 e)
      exact ⟨i, by omega, h1, h2⟩
theorem noBad_at (s : ByteArray) : ∀ n, noBad s n = true → ∀ i, i < n → badB (sB s i) = false
  | 0, _, i, hi => by omega
  | n + 1, h, i, hi => by
    unfold noBad at h
    rw [Bool.and_eq_true] at h
    by_cases e : i = n
    · subst e; simpa using h.2
    · exact noBad_at s n h.1 i (by omega)
theorem bad_contains (s : ByteArray) (j : Nat) (b : UInt8) (hb : s.data.toList[j]? = some b) : (⟨#[47, 0]⟩ : ByteArray).data.toList.contains b = badB (sB s j) := by
  have hj : j < s.size := by
    have := (List.getElem?_eq_some_iff.1 hb).1
    simpa using this
  have e : b = s[j]'hj := by
    have := (List.getElem?_eq_some_iff.1 hb).2
    rw [← this]; rfl
  rw [badB_eq s j hj, ← e, ← contains_bad b.toNat (UInt8.toNat_lt b), UInt8.ofNat_toNat]
theorem noAny_of (s : ByteArray) (n : Nat) (h : noBad s n = true) : Lib.NoAny s.data.toList (⟨#[47, 0]⟩ : ByteArray).data.toList n := fun j b hj hb => by
  rw [bad_contains s j b hb]
  exact noBad_at s n h j hj
theorem indexAny_bad (s : ByteArray) : decide ((0 : Int) ≤ Lib.indexAny s.data.toList (⟨#[47, 0]⟩ : ByteArray).data.toList) = !noBad s s.size := by
  by_cases h : noBad s s.size = true
  · have hl : s.data.toList.length = s.size := by simp
    rw [Lib.indexAny_none (by rw [hl]; exact noAny_of s _ h), h]
    rfl
  · have h := Bool.eq_false_iff.2 h
    obtain ⟨i, hi, h1, h2⟩ := first_bad s _ h
    have hx : s.data.toList[i]? = some (s[i]'hi) := by
      rw [List.getElem?_eq_some_iff]
      exact ⟨by simpa using hi, rfl⟩
    rw [Lib.indexAny_hit (noAny_of s i h1) hx (by rw [bad_contains s i _ hx]; exact h2), h]
    exact decide_eq_true (Int.natCast_nonneg i)
theorem idx_any (s : ByteArray) (w : World) (h : s.size ≤ 24) : Calls Tryd.prog 54 #[.string s, .string ⟨#[47, 0]⟩] w (IdxPost (!noBad s s.size) w) := by
  by_cases h8 : s.size ≤ 8
  · exact idxShort_any s w h8
  · refine (Tryd.strings_IndexAny_long (zero_of_info (n := 256) (by kernel_rfl)).1 s ⟨#[47, 0]⟩ w (by decide) (by omega) (by omega) (by decide) ?_).mono ?_
    · intro j b hb
      have := (List.getElem?_eq_some_iff.1 hb)
      obtain ⟨hj, hb⟩ := this
      have hj : j < 2 := hj
      obtain rfl | rfl : j = 0 ∨ j = 1 := by omega
      · rw [← hb]; show UInt8.toNat 47 < 128; decide
      · rw [← hb]; show UInt8.toNat 0 < 128; decide
    · rintro e w' ⟨rfl, rfl⟩
      exact ⟨_, rfl, indexAny_bad s, ((Kept.refl _ w).alloc _).alloc _⟩
set_option maxRecDepth 100000 in
set_option maxHeartbeats 4000000 in
theorem contains_any (s : ByteArray) (w : World) (h : s.size ≤ 24) : Calls Tryd.prog 38 #[.string s, .string ⟨#[47, 0]⟩] w fun e w' => e = .returned (.bool (!noBad s s.size)) ∧ Kept (fun _ => False) w w' := by
  obtain ⟨z, hz⟩ : ∃ z, z = !noBad s s.size := ⟨_, rfl⟩
  have hc := idx_any s w h
  rw [← hz] at hc ⊢
  have HC := Lib.hid hc
  clear hc hz
  go_enter Tryd.func38, Tryd.ntmps38
  go_wp2_with (first | ((with_reducible refine (HC.out).mono ?_); rintro e w' ⟨n, rfl, hn, hk⟩))
  go_ret
  exact ⟨by rw [← hn]; rfl, hk⟩
set_option maxRecDepth 100000 in
set_option maxHeartbeats 4000000 in
theorem valid_any (s : ByteArray) (w : World) : Calls Tryd.prog 13 #[.string s] w fun e w' => e = .returned (.bool (validB s)) ∧ Kept (fun _ => False) w w' := by
  obtain ⟨z, hz⟩ : ∃ z, z = validB s := ⟨_, rfl⟩
  rw [← hz]
  have HZ := Lib.hid hz
  clear hz
  go_enter Tryd.func13, Tryd.ntmps13
  by_cases h0 : (s.size : Int) < 1
  · have e : z = false := by rw [HZ.out]; unfold validB; simp [h0]
    subst e
    go_wp2_with fail
    go_ret
    exact ⟨rfl, Kept.refl _ w⟩
  by_cases h1 : 24 < (s.size : Int)
  · have e : z = false := by rw [HZ.out]; unfold validB; simp [h1]
    subst e
    go_wp2_with fail
    go_ret
    exact ⟨rfl, Kept.refl _ w⟩
  by_cases h2 : (s.toList == [46]) = true
  · have e : z = false := by rw [HZ.out]; unfold validB; rw [h2]; simp
    subst e
    go_wp2_with fail
    go_ret
    exact ⟨rfl, Kept.refl _ w⟩
  have h2 : (s.toList == [46]) = false := by simpa using h2
  by_cases h3 : (s.toList == [46, 46]) = true
  · have e : z = false := by rw [HZ.out]; unfold validB; rw [h3]; simp
    subst e
    go_wp2_with fail
    go_ret
    exact ⟨rfl, Kept.refl _ w⟩
  have h3 : (s.toList == [46, 46]) = false := by simpa using h3
  have hz : z = noBad s s.size := by rw [HZ.out]; unfold validB; rw [h2, h3]; simp [h0, h1]
  have hsz : s.size ≤ 24 := by omega
  have hc := fun w => contains_any s w hsz
  rw [← hz] at hc
  have HC := Lib.hid hc
  clear hc hz HZ
  go_wp2_with (first | ((with_reducible refine (HC.out _).mono ?_); rintro e w' ⟨rfl, hk⟩))
  go_ret
  exact ⟨by simp, hk⟩
end Go.Proofs.YtpekibadleghbaaDoor
