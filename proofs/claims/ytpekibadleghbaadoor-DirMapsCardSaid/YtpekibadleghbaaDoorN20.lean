/-
  The reference's padded.
-/
import Derived.Test.YtpekibadleghbaaDoorN19
namespace Go.Proofs.YtpekibadleghbaaDoor
open Go.RowKit
set_option linter.unusedVariables false
set_option linter.unusedSimpArgs false
/-- A word of 64 bits as a number; closed to the walk's own words. -/
def iQ (b : BitVec 64) : Int := (b.toNat : Int)
theorem iQ_ge (b : BitVec 64) : 0 ≤ iQ b := Int.natCast_nonneg _
theorem iQ_lt (b : BitVec 64) : iQ b < (18446744073709551616 : Int) := by have := b.isLt; unfold iQ; omega
theorem shlQ8 (b : BitVec 64) : iQ b * (256 : Int) % (18446744073709551616 : Int) = iQ (b <<< 8) := by
  unfold iQ
  rw [BitVec.toNat_shiftLeft, Nat.shiftLeft_eq]
  omega
theorem shrQ56 (b : BitVec 64) : iQ b / (72057594037927936 : Int) % (256 : Int) = iB ((b >>> 56).setWidth 8) := by
  unfold iQ iB
  rw [BitVec.toNat_setWidth, BitVec.toNat_ushiftRight, Nat.shiftRight_eq_div_pow]
  omega
def lenQ (len j : Nat) : BitVec 64 := BitVec.ofNat 64 (len * 8) <<< (8 * j)
theorem lenQ_succ (len j : Nat) : lenQ len j <<< 8 = lenQ len (j + 1) := by
  unfold lenQ
  rw [← BitVec.shiftLeft_add]
  rfl
theorem lenQ_zero (len : Nat) (h : len ≤ 140737488355328) : iQ (lenQ len 0) = (len : Int) * 8 := by
  unfold lenQ iQ
  rw [BitVec.toNat_shiftLeft, BitVec.toNat_ofNat, Nat.shiftLeft_eq]
  omega
theorem lenQ_byte (len j : Nat) (hj : j < 8) (h : len ≤ 140737488355328) : ((lenQ len j) >>> 56).setWidth 8 = lenByte len j := by
  apply BitVec.eq_of_toNat_eq
  unfold lenQ lenByte
  rw [BitVec.toNat_setWidth, BitVec.toNat_ushiftRight, Nat.shiftRight_eq_div_pow, BitVec.toNat_shiftLeft, BitVec.toNat_ofNat, Nat.shiftLeft_eq, BitVec.toNat_ofNat]
  have hc : j = 0 ∨ j = 1 ∨ j = 2 ∨ j = 3 ∨ j = 4 ∨ j = 5 ∨ j = 6 ∨ j = 7 := by omega
  rcases hc with rfl | rfl | rfl | rfl | rfl | rfl | rfl | rfl <;> simp only [Nat.reduceMul, Nat.reducePow, Nat.reduceSub] <;> omega
attribute [local go_sem] shlQ8 shrQ56
def PadPost (len : Nat) (f : Nat → Byte) (w : World) (r : Ending) (w' : World) : Prop :=
  ∃ g cap, r = .returned (.slice (some ⟨g, 0, none⟩) (padLen len) cap) ∧ w.heap.size ≤ g ∧ g < w'.heap.size ∧ BytesAt w' (some ⟨g, 0, none⟩) (padLen len) (padB f len) ∧ padLen len ≤ cap ∧ Kept (fun _ => False) w w'
theorem kept_push {w0 w w' : World} {base n m cap : Nat} {a a' : Option Addr} {f : Nat → Byte} (hb : base = w0.heap.size) (hK : Kept (fun _ => False) w0 w) (ho : OwnB w base a n cap f) (p : Pushed a m a' w w') : Kept (fun _ => False) w0 w' := by
  subst hb
  refine hK.trans p.kept (fun i hi e => ?_)
  subst e
  have := ho.base_le
  omega
set_option maxRecDepth 100000 in
set_option maxHeartbeats 8000000 in
theorem refPadded_any (a : Option Addr) (len cap : Nat) (f : Nat → Byte) (w : World) (hc : BytesAt w a len f) (hlen : len + 72 ≤ 140737488355328) :
    Calls Tryd.prog 63 #[.slice a len cap] w (PadPost len f w) := by
  have hE : OwnB (w.alloc (.cells #[] 5)) w.heap.size (some ⟨w.heap.size, 0, none⟩) 0 0 f := OwnB.new (Row.new w 5 0 f) (by omega) (by omega)
  have hKE : Kept (fun _ => False) w (w.alloc (.cells #[] 5)) := (Kept.refl _ w).alloc _
  have hcE := hc.kept hKE
  go_enter Tryd.func63, Tryd.ntmps63
  go_upto_region 2 with (first | (refine appendA rfl (.tmp 6) (.tmp 7) rfl w.heap.size (some ⟨w.heap.size, 0, none⟩) 0 0 f rfl hE a len cap f rfl hcE (by omega) (by rw [size_alloc]; omega) ?_))
  intro a1 cap1 w1 hO hP _
  have hO1 : OwnB w1 w.heap.size a1 len cap1 f := by
    have := hO.congr (f' := f) (fun i _ => by unfold glue; rw [if_neg (by omega)]; rfl)
    simpa using this
  have hK1 := kept_push rfl hKE hE hP
  clear hO hP hE hKE hcE
  go_upto_region 3 with (first | (refine append1 rfl (.tmp 9) (.tmp 10) rfl w.heap.size a1 len cap1 f rfl (hO1.alloc _) w1.heap.size 1 128#8 rfl (by simp; rfl) (by omega) (by simp; have := hK1.size; omega) ?_))
  intro a2 cap2 w2 hO hP
  have hO2 : OwnB w2 w.heap.size a2 (len + 1) cap2 (padB f len) := hO.congr (fun i hi => by
    unfold upd padB
    by_cases h1 : i < len
    · rw [if_neg (by omega), if_pos h1]
    · rw [if_pos (by omega), if_neg h1, if_pos (by omega)])
  have hK2 := kept_push rfl (hK1.alloc _) (hO1.alloc _) hP
  clear hO hP hO1 hK1
  have hpl : padLen len = 64 * ((len + 8) / 64 + 1) := rfl
  have HPL := Lib.hid hpl
  have hp1 : len + 1 ≤ padLen len - 8 := by omega
  have hp2 : padLen len ≤ len + 72 := by omega
  have hp3 : 64 ≤ padLen len := by omega
  clear hpl
  go_upto_region 3 with fail
  go_loopg [3] (padLen len - 8 - (len + 1)) (fun k s wr => ∃ (m : Nat) (ad : Option Addr) (cp : Nat), m + k = padLen len - 8 ∧ len + 1 ≤ m ∧ m ≤ padLen len - 8 ∧ s = .slice ad m cp ∧ OwnB wr w.heap.size ad m cp (padB f len) ∧ Kept (fun _ => False) w wr)
  case atStart => exact ⟨len + 1, a2, cap2, by omega, by omega, by omega, rfl, hO2, hK2⟩
  case round =>
    clear hO2 hK2
    obtain ⟨m, ad, cp, hm, hm1, hm2, rfl, hO, hK⟩ := hrel
    have Hm := Lib.hid hm
    clear hm
    have hz := hK.size
    have hpl := HPL.out
    by_cases hlt : m % 64 = 56
    · have q3 : (m : Int) % 64 = 56 := by omega
      have hmE : m = padLen len - 8 := by omega
      have q8 : (len : Int) ≤ 140737488355328 := by omega
      have q9 : (0 : Int) ≤ len := by omega
      clear hpl hlt hm1 hm2 Hm
      go_upto_region 7 with fail
      subst hmE
      generalize hbb : ((((padLen len - 8 : Nat) : Int) % 64) != 56) = bb
      clear q3 hbb
      go_loopg [3, 4, 5] 8 (fun k s u i wr => ∃ (j : Nat) (ad : Option Addr) (cp : Nat), j + k = 8 ∧ j ≤ 8 ∧ i = .int .i64 (j : Int) ∧ u = .int .u64 (iQ (lenQ len j)) ∧ s = .slice ad (padLen len - 8 + j) cp ∧ OwnB wr w.heap.size ad (padLen len - 8 + j) cp (padB f len) ∧ Kept (fun _ => False) w wr)
      case atStart => exact ⟨0, ad, cp, by omega, by omega, rfl, by rw [lenQ_zero len (by omega)], rfl, hO, hK⟩
      case round =>
        clear hO hK
        obtain ⟨j, ad, cp, hj, hj2, rfl, rfl, rfl, hO, hK⟩ := hrel
        have Hj := Lib.hid hj
        clear hj
        have hz := hK.size
        by_cases hlt : j < 8
        · have q4 : (j : Int) < 8 := by omega
          have HL := Lib.hid (lenQ_byte len j hlt (by omega))
          have HS := Lib.hid (lenQ_succ len j)
          generalize lenQ len j = u at HL HS ⊢
          go_upto_region 9 with fail
          go_wp2_with (first | (refine append1 rfl (.tmp 27) (.tmp 31) rfl w.heap.size ad (padLen len - 8 + j) cp (padB f len) rfl (hO.alloc _) wr.heap.size 1 ((u >>> 56).setWidth 8) rfl (by first | (simp; done) | (simp; rfl)) (by omega) (by simp; omega) ?_))
          intro a' cap' w' hO' hP
          have hO' := hO'.congr (f' := padB f len) (fun i hi => by
            unfold upd
            by_cases h1 : i = padLen len - 8 + j
            · rw [if_pos h1, HL.out]; unfold padB; rw [if_neg (by omega), if_neg (by omega), if_neg (by omega), show i - (padLen len - 8) = j by omega]
            · rw [if_neg h1])
          have hK' := kept_push rfl (hK.alloc _) (hO.alloc _) hP
          clear hO hK hP
          go_wp2_with fail
          go_roundg (gk - 1)
          case measure => have := Hj.out; omega
          case rel =>
            have := Hj.out
            exact ⟨j + 1, a', cap', by omega, by omega, by go_num, by rw [← HS.out, IntKind.wrap_u64, shlQ8], by rw [Nat.add_assoc], hO', hK'⟩
        · have q4 : ¬ (j : Int) < 8 := by omega
          obtain rfl : j = 8 := by omega
          clear q4 hlt Hj hj2
          have hL : padLen len - 8 + 8 = padLen len := by omega
          rw [hL] at hO ⊢
          have hcap : padLen len ≤ cp := hO.le_cap
          have hb0 : BytesAt wr ad (padLen len) (padB f len) := hO.bytes
          obtain ⟨g, rfl, hg1, hg2, _⟩ := hO.cell (by omega)
          clear hL
          go_wp2_with fail
          go_ret
          exact ⟨g, cp, rfl, hg1, hg2, hb0, hcap, hK⟩
    · have q3 : (m : Int) % 64 ≠ 56 := by omega
      have hmE : m < padLen len - 8 := by omega
      clear hpl hlt hm2
      have q3b : (((m : Int) % 64) != 56) = true := by simpa using q3
      go_wp2_with (first | (refine append1 rfl (.tmp 16) (.tmp 17) rfl w.heap.size ad m cp (padB f len) rfl (hO.alloc _) wr.heap.size 1 0#8 rfl (by simp; rfl) (by omega) (by simp; omega) ?_))
      intro a' cap' w' hO' hP
      have hO' := hO'.congr (f' := padB f len) (fun i hi => by
        unfold upd
        by_cases h1 : i = m
        · rw [if_pos h1]; unfold padB; rw [if_neg (by omega), if_neg (by omega), if_pos (by omega)]
        · rw [if_neg h1])
      have hK' := kept_push rfl (hK.alloc _) (hO.alloc _) hP
      clear hO hK hP
      go_wp2_with fail
      go_roundg (gk - 1)
      case measure => have := Hm.out; omega
      case rel =>
        have := Hm.out
        exact ⟨m + 1, a', cap', by omega, by omega, by omega, rfl, hO', hK'⟩
end Go.Proofs.YtpekibadleghbaaDoor
