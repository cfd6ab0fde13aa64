/-
  The reference's Valid.
-/
import Derived.Test.YtpekibadleghbaaDoorN11
namespace Go.Proofs.YtpekibadleghbaaDoor
open Go.RowKit
set_option linter.unusedVariables false
set_option linter.unusedSimpArgs false
def badB (b : Byte) : Bool := b == 0#8 || b == 47#8
def noBad (s : ByteArray) : Nat → Bool
  | 0 => true
  | n + 1 => noBad s n && !badB (sB s n)
theorem noBad_false (s : ByteArray) (i : Nat) (h : badB (sB s i) = true) : ∀ n, i < n → noBad s n = false
  | 0, hi => by omega
  | n + 1, hi => by
    unfold noBad
    by_cases e : i = n
    · subst e; simp [h]
    · rw [noBad_false s i h n (by omega)]; rfl
theorem badB_eq (s : ByteArray) (n : Nat) (h : n < s.size) : badB (sB s n) = (decide ((s[n]'h).toNat = 0) || decide ((s[n]'h).toNat = 47)) := by
  have hd : n < s.data.size := h
  have e : sB s n = BitVec.ofNat 8 (s[n]'h).toNat := by
    unfold sB
    rw [Array.getElem?_eq_getElem hd]; rfl
  have hl := UInt8.toNat_lt (s[n]'h)
  rw [e]
  generalize (s[n]'h).toNat = c at hl
  revert c
  unfold badB
  decide +kernel
def validB (s : ByteArray) : Bool := !(decide ((s.size : Int) < 1) || decide (24 < (s.size : Int)) || s.toList == [46] || s.toList == [46, 46]) && noBad s s.size
set_option maxRecDepth 100000 in
set_option maxHeartbeats 4000000 in
theorem refValid_any (s : ByteArray) (w : World) : Calls Tryd.prog 14 #[.string s] w fun r w' => r = .returned (.bool (validB s)) ∧ Kept (fun _ => False) w w' := by
  obtain ⟨z, hz⟩ : ∃ z, z = validB s := ⟨_, rfl⟩
  rw [← hz]
  have HZ := Lib.hid hz
  clear hz
  go_enter Tryd.func14, Tryd.ntmps14
  by_cases h0 : (s.size : Int) < 1
  · have e : z = false := by rw [HZ.out]; unfold validB; simp [h0]
    subst e
    go_wp2_with fail
    go_ret
    exact ⟨rfl, Kept.refl _ w⟩
  by_cases h1 : 24 < (s.size : Int)
  · have e : z = false := by rw [HZ.out]; unfold validB; simp [h1]
    subst e
    go_wp2_with fail
    go_ret
    exact ⟨rfl, Kept.refl _ w⟩
  by_cases h2 : (s.toList == [46]) = true
  · have e : z = false := by rw [HZ.out]; unfold validB; rw [h2]; simp
    subst e
    go_wp2_with fail
    go_ret
    exact ⟨rfl, Kept.refl _ w⟩
  have h2 : (s.toList == [46]) = false := by simpa using h2
  by_cases h3 : (s.toList == [46, 46]) = true
  · have e : z = false := by rw [HZ.out]; unfold validB; rw [h3]; simp
    subst e
    go_wp2_with fail
    go_ret
    exact ⟨rfl, Kept.refl _ w⟩
  have h3 : (s.toList == [46, 46]) = false := by simpa using h3
  have hz : z = noBad s s.size := by rw [HZ.out]; unfold validB; rw [h2, h3]; simp [h0, h1]
  have HZ2 := Lib.hid hz
  clear hz HZ
  have hsz : s.size ≤ 24 := by omega
  go_wp2_with fail
  go_loopg [3] 24 (fun k i wr => ∃ n : Nat, n + k = 24 ∧ n ≤ s.size ∧ i = .int .i64 (n : Int) ∧ noBad s n = true ∧ Kept (fun _ => False) w wr)
  case atStart => exact ⟨0, by omega, by omega, rfl, rfl, Kept.refl _ w⟩
  case round =>
    obtain ⟨n, hn, hn2, rfl, hb, hK⟩ := hrel
    have Hn := Lib.hid hn
    have HB := Lib.hid hb
    clear hn hb
    by_cases hlt : n < s.size
    · have q : (n : Int) < s.size := by omega
      have q0 : (0 : Int) ≤ n := by omega
      obtain ⟨c, hc⟩ : ∃ c : Nat, c = (s[n]'hlt).toNat := ⟨_, rfl⟩
      have hb := badB_eq s n hlt
      rw [← hc] at hb
      have HB2 := Lib.hid hb
      clear hb
      by_cases hz : c = 0
      · have e : z = false := by
          rw [HZ2.out]; exact noBad_false s n (by rw [HB2.out, hz]; rfl) _ hlt
        subst e
        have hc' : ((s[n]'hlt).toNat : Int) = 0 := by omega
        have hc'' : (((s[n]'hlt).toNat : Int) == 0) = true := by simpa using hc'
        clear hc
        go_wp2_with fail
        go_ret
        exact ⟨rfl, hK⟩
      · by_cases hy : c = 47
        · have e : z = false := by
            rw [HZ2.out]; exact noBad_false s n (by rw [HB2.out, hy]; rfl) _ hlt
          subst e
          have hc' : ((s[n]'hlt).toNat : Int) = 47 := by omega
          clear hc
          go_wp2_with fail
          go_ret
          exact ⟨rfl, hK⟩
        · have h1 : (((s[n]'hlt).toNat : Int) == 0) = false := by simp; omega
          have h2 : (((s[n]'hlt).toNat : Int) == 47) = false := by simp; omega
          clear hc
          go_wp2_with fail
          go_roundg (gk - 1)
          case measure => have := Hn.out; omega
          case rel =>
            have := Hn.out
            refine ⟨n + 1, by omega, by omega, by go_num, ?_, hK⟩
            unfold noBad
            rw [HB.out, HB2.out]
            simp [hz, hy]
    · have hE : n = s.size := by omega
      have q : ¬ (n : Int) < s.size := by omega
      have e : z = true := by rw [HZ2.out, ← hE]; exact HB.out
      subst e
      go_wp2_with fail
      go_ret
      exact ⟨rfl, hK⟩
end Go.Proofs.YtpekibadleghbaaDoor
