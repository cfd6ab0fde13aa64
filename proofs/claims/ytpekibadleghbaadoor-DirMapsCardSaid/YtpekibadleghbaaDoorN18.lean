/-
  Does a string have one of the two bytes?
-/
import Derived.Test.YtpekibadleghbaaDoorN16
import Derived.Test.YtpekibadleghbaaDoorN15
import Derived.Laws.RangeAny
namespace Go.Proofs.YtpekibadleghbaaDoor
open Go.RowKit
set_option linter.unusedVariables false
set_option linter.unusedSimpArgs false
theorem badB_get (s : ByteArray) (j : Nat) (h : j < s.size) : badB (sB s j) = (decide ((s.get! j).toNat = 0) || decide ((s.get! j).toNat = 47)) := by
  rw [badB_eq s j h]
  have e : s.get! j = s[j]'h := by
    simp [ByteArray.get!, getElem!_pos, h]
    rfl
  rw [e]
theorem noBad_add (s : ByteArray) (i : Nat) (h : noBad s i = true) : ∀ n, (∀ j, i ≤ j → j < i + n → badB (sB s j) = false) → noBad s (i + n) = true
  | 0, _ => h
  | n + 1, hb => by
    have ih := noBad_add s i h n (fun j hj hj2 => hb j hj (by omega))
    show noBad s (i + n + 1) = true
    unfold noBad
    rw [ih, hb (i + n) (by omega) (by omega)]
    rfl
theorem idx_bad (b : Nat) (h : b < 256) : decide ((0 : Int) ≤ Lib.indexByte (⟨#[47, 0]⟩ : ByteArray).data.toList (b : Int).toNat.toUInt8) = (decide (b = 0) || decide (b = 47)) := by
  revert b
  decide +kernel
def IdxPost (z : Bool) (w : World) (e : Ending) (w' : World) : Prop := ∃ n : Int, e = .returned (.int .i64 n) ∧ decide (0 ≤ n) = z ∧ Kept (fun _ => False) w w'
/-- The iterator g stands at p. -/
def itSet (w : World) (g : Nat) (s : ByteArray) (p : Nat) : World := { w with heap := w.heap.setIfInBounds g (.stringIter s p) }
theorem itSet_size (w : World) (g : Nat) (s : ByteArray) (p : Nat) : (itSet w g s p).heap.size = w.heap.size := by simp [itSet]
theorem itSet_at {w : World} {g : Nat} {o : Obj} (hg : w.heap[g]? = some o) (s : ByteArray) (p : Nat) : (itSet w g s p).heap[g]? = some (.stringIter s p) := by
  have h := lt_of_at hg
  simp [itSet, h]
theorem Kept.itSet {S : Nat → Prop} {a w : World} (h : Kept S a w) {g : Nat} (hg : a.heap.size ≤ g) (s : ByteArray) (p : Nat) : Kept S a (itSet w g s p) :=
  h.trans (S' := fun k => k = g) ⟨rfl, rfl, rfl, by rw [itSet_size]; omega, fun k _ hn => by
    show (w.heap.setIfInBounds g (.stringIter s p))[k]? = _
    exact Array.getElem?_setIfInBounds_ne (fun e => hn e.symm)⟩ (fun i hi e => by omega)
theorem next_any (w : World) (g : Nat) (s : ByteArray) (pos : Nat) (hg : w.heap[g]? = some (.stringIter s pos)) (h : pos < s.size) (ty : TypeId) :
    (Instr.next (.pointer (some ⟨g, 0, none⟩)) true ty).run Tryd.prog w = .ok (.tuple #[.bool true, .int .i64 pos, .int .i32 (Utf8.decode s pos).1]) (itSet w g s (pos + (Utf8.decode s pos).2)) := by
  simp only [Instr.next, getObj, setObj, Sem.run_bind, Sem.run, hg, Result.andThen, h, if_true]
  simp [goInt, itSet]
theorem next_end (w : World) (g : Nat) (s : ByteArray) (pos : Nat) (hg : w.heap[g]? = some (.stringIter s pos)) (h : ¬ pos < s.size) (ty : TypeId) :
    (Instr.next (.pointer (some ⟨g, 0, none⟩)) true ty).run Tryd.prog w = .ok (.tuple #[.bool false]) w := by
  simp [Instr.next, getObj, Sem.run, hg, h]
theorem rune_lo (c : Nat) (h : c < 128) (w : World) : Calls Tryd.prog 65 #[.string ⟨#[47, 0]⟩, .int .i32 c] w fun e w' => (∃ m : Int, e = .returned (.int .i64 m) ∧ decide (0 ≤ m) = (decide (c = 0) || decide (c = 47))) ∧ w' = w :=
  (Tryd.strings_IndexRune_ascii ⟨#[47, 0]⟩ c w (by omega) (by omega)).mono fun e w' ⟨he, hw⟩ => ⟨⟨_, he, idx_bad c (by omega)⟩, hw⟩
set_option maxRecDepth 100000 in
set_option maxHeartbeats 4000000 in
theorem idxShort_any (s : ByteArray) (w : World) (h8 : s.size ≤ 8) : Calls Tryd.prog 54 #[.string s, .string ⟨#[47, 0]⟩] w (IdxPost (!noBad s s.size) w) := by
  have h8z : decide ((8 : Int) < (s.size : Int)) = false := decide_eq_false (by omega)
  go_enter Tryd.func54, Tryd.ntmps54
  go_wp2_with (first | ((with_reducible refine (Tryd.strings_shouldUseASCIISet _ _).mono ?_); rintro e w' ⟨rfl, hw⟩; rw [h8z]; replace hw := hw.symm; subst hw))
  go_loopg [9, 10] s.size (fun k _ _ wx => ∃ i : Nat, i ≤ s.size ∧ s.size ≤ i + k ∧ noBad s i = true ∧ wx.heap[w.heap.size]? = some (.stringIter s i) ∧ Kept (fun _ => False) w wx)
  case atStart => exact ⟨0, by omega, by omega, rfl, World.iter_heap w s 0, (Kept.refl _ w).alloc _⟩
  case round =>
    obtain ⟨i, hi, hik, hno, hg, hK⟩ := hrel
    have HN := Lib.hid hno
    clear hno
    by_cases hlt : i < s.size
    · have hnx := next_any wr w.heap.size s i hg hlt
      have hg2 := itSet_at hg s (i + (Utf8.decode s i).2)
      have HG := Lib.hid hg2
      clear hg hg2
      obtain ⟨d1, d2, d3⟩ := decode_taken s i hlt
      have hbb := badB_get s i hlt
      have eg : s.get! i = s[i]'hlt := by
        simp [ByteArray.get!, getElem!_pos, hlt]
        rfl
      by_cases ha : (s[i]'hlt).toNat < 128
      · have hda := decode_ascii s i hlt ha
        obtain ⟨c, hc⟩ : ∃ c : Nat, c = (s[i]'hlt).toNat := ⟨_, rfl⟩
        rw [eg, ← hc] at hbb
        have hcl : c < 128 := by omega
        rw [hda] at hnx HG d1 d2 d3
        simp only [] at hnx HG
        rw [← hc] at hnx
        have HB := Lib.hid hbb
        clear hbb hda d1 d2 d3 hc
        by_cases hz : badB (sB s i) = true
        · have hnb := noBad_false s i hz s.size hlt
          have HNB := Lib.hid hnb
          have HZ := Lib.hid hz
          clear hnb hz
          go_wp2_with (first | ((with_reducible refine (rune_lo _ hcl _).mono ?_); rintro e w' ⟨⟨m, rfl, hm⟩, hw⟩; replace hw := hw.symm; subst hw; have hm0 : 0 ≤ m := of_decide_eq_true (hm.trans (HB.out.symm.trans HZ.out)); clear hm))
          go_ret
          exact ⟨_, rfl, by rw [HNB.out]; simp [hm0], hK.itSet (Nat.le_refl _) _ _⟩
        · have hzf := Bool.eq_false_iff.2 hz
          have HZ := Lib.hid hzf
          clear hz hzf
          go_wp2_with (first | ((with_reducible refine (rune_lo _ hcl _).mono ?_); rintro e w' ⟨⟨m, rfl, hm⟩, hw⟩; replace hw := hw.symm; subst hw; have hm0 : ¬ 0 ≤ m := of_decide_eq_false (hm.trans (HB.out.symm.trans HZ.out)); clear hm))
          go_roundg (gk - 1)
          case measure => omega
          case rel => exact ⟨i + 1, by omega, by omega, by unfold noBad; rw [HN.out, HZ.out]; rfl, HG.out, hK.itSet (Nat.le_refl _) _ _⟩
      · obtain ⟨dh, dl⟩ := decode_high s i hlt (by omega)
        obtain ⟨c, hc⟩ : ∃ c : Int, c = ((Utf8.decode s i).1 : Int) := ⟨_, rfl⟩
        have hc128 : 128 ≤ c := by omega
        rw [← hc] at hnx
        have hadd : noBad s (i + (Utf8.decode s i).2) = true := by
          refine noBad_add s i HN.out _ (fun j hj hj2 => ?_)
          rw [badB_get s j (by omega)]
          have hx : 128 ≤ (s.get! j).toNat := by
            by_cases e : j = i
            · subst e; rw [eg]; omega
            · have := d3 (j - i) (by omega) (by omega)
              rw [show i + (j - i) = j from by omega] at this
              exact this
          rw [decide_eq_false (by omega), decide_eq_false (by omega)]
          rfl
        obtain ⟨n, hn⟩ : ∃ n : Nat, n = (Utf8.decode s i).2 := ⟨_, rfl⟩
        rw [← hn] at hnx HG d1 d2 hadd
        have HD := Lib.hid hadd
        clear hadd hbb eg d3 dh dl hc hn
        obtain ⟨w0, hw0⟩ : ∃ w0, w0 = itSet wr w.heap.size s (i + n) := ⟨_, rfl⟩
        have hK0 : Kept (fun _ => False) w w0 := by rw [hw0]; exact hK.itSet (Nat.le_refl _) _ _
        rw [← hw0] at hnx HG
        clear hw0
        go_wp2_with (first | ((with_reducible refine (rune_any _ (by omega) _).mono ?_); rintro e w1 ⟨⟨m, rfl, hm⟩, hk1⟩))
        go_roundg (gk - 1)
        case measure => omega
        case rel => exact ⟨i + n, by omega, by omega, HD.out, hk1.at HG.out (fun h => h), hK0.trans hk1 (fun _ _ h => h)⟩
    · have hnx := next_end wr w.heap.size s i hg hlt
      obtain rfl : i = s.size := by omega
      have HG := Lib.hid hg
      clear hg
      go_wp2_with fail
      go_ret
      exact ⟨-1, rfl, by rw [HN.out]; rfl, hK⟩
end Go.Proofs.YtpekibadleghbaaDoor
