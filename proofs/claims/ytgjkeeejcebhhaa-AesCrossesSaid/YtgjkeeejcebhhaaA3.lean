/-
  The walk of aes.boxes.
-/
import Derived.Test.YtgjkeeejcebhhaaA2

namespace Go.Proofs.Ytgjkeeejcebhhaa
open Go.RowKit
def sh1 (q : Byte) : Byte := q ^^^ (q <<< 1)
def sh2 (q : Byte) : Byte := q ^^^ (q <<< 2)
def sh4 (q : Byte) : Byte := q ^^^ (q <<< 4)
theorem shl1 (b : Byte) : iB b * (2:Int) % (256:Int) = iB (b <<< 1) := by unfold iB; rw [BitVec.toNat_shiftLeft]; simp [Nat.shiftLeft_eq]
theorem shl2 (b : Byte) : iB b * (4:Int) % (256:Int) = iB (b <<< 2) := by unfold iB; rw [BitVec.toNat_shiftLeft]; simp [Nat.shiftLeft_eq]
theorem shl4 (b : Byte) : iB b * (16:Int) % (256:Int) = iB (b <<< 4) := by unfold iB; rw [BitVec.toNat_shiftLeft]; simp [Nat.shiftLeft_eq]
theorem xs1 (b : Byte) : bits .xor .u8 (iB b) (iB b * (2:Int) % (256:Int)) = iB (sh1 b) := by rw [shl1, xorB]; rfl
theorem xs2 (b : Byte) : bits .xor .u8 (iB b) (iB b * (4:Int) % (256:Int)) = iB (sh2 b) := by rw [shl2, xorB]; rfl
theorem xs4 (b : Byte) : bits .xor .u8 (iB b) (iB b * (16:Int) % (256:Int)) = iB (sh4 b) := by rw [shl4, xorB]; rfl
theorem xor99 (b : Byte) : bits .xor .u8 (iB b) 99 = iB (b ^^^ 99#8) := xorB b 99#8
theorem xor9 (b : Byte) : bits .xor .u8 (iB b) 9 = iB (b ^^^ 9#8) := xorB b 9#8
attribute [local go_sem] xorB xs1 xs2 xs4 xor99 xor9
theorem bnext_hi (q : Byte) (h : 128 ≤ iB (sh4 (sh2 (sh1 q)))) : sh4 (sh2 (sh1 q)) ^^^ 9#8 = bnext q := by
  have h' : 128 ≤ (sh4 (sh2 (sh1 q))).toNat := by unfold iB at h; omega
  exact (if_pos h').symm
theorem bnext_lo (q : Byte) (h : iB (sh4 (sh2 (sh1 q))) < 128) : sh4 (sh2 (sh1 q)) = bnext q := by
  have h' : ¬ 128 ≤ (sh4 (sh2 (sh1 q))).toNat := by unfold iB at h; omega
  exact (if_neg h').symm
theorem zero44 (w : World) : (zeroValue 44).run Try.prog w = .ok (.agg (Fs 256 fun _ => 0)) w := by kernel_rfl
theorem zero22 (w : World) : (zeroValue 22).run Try.prog w = .ok (.agg (Fs 16 fun _ => 0)) w := by kernel_rfl
theorem info44 : (Try.prog.info? 44).map (·.size) = some 256 := by kernel_rfl
theorem info22 : (Try.prog.info? 22).map (·.size) = some 16 := by kernel_rfl
attribute [local go_sem] zero44 zero22
set_option maxRecDepth 100000 in
set_option maxHeartbeats 400000 in
theorem boxes_any (w : World) :
    Calls Try.prog 18 #[] w fun e w' => e = .returned (.agg (Fs 256 sbox)) ∧ Kept (fun _ => False) w w' := by
  go_enter Try.func18, Try.ntmps18
  go_wp2_with fail
  go_loopg [2, 3] 255 (fun k p q wr => ∃ n : Nat, n + k = 255 ∧ 0 < k ∧ p = B (bp n) ∧ q = B (bq n) ∧ Row wr (w.heap.size + 1) 44 256 (bs n) ∧ Row wr w.heap.size 44 256 (fun _ => 0) ∧ Kept (fun _ => False) w wr)
  case atStart => 
    exact ⟨0, rfl, by omega, rfl, rfl, heap_alloc2_new w _ _, heap_alloc2_old w _ _, ((Kept.refl _ w).alloc _).alloc _⟩
  case round =>
    obtain ⟨n, hn, hk, rfl, rfl, hs, hr, hkept⟩ := hrel
    have hp := (bp_next n (by omega)).symm
    have i0 := iB_ge (bp (n + 1))
    have i1 := iB_lt (bp (n + 1))
    have hc := hs.cell (i := (bp (n + 1)).toNat) (bp (n + 1)).isLt
    have hf := hs.free (bp (n + 1)).toNat
    have hc0 := fun v => (hs.set (bp (n + 1)).toNat v).cell (i := 0) (by omega)
    have hf0 := hs.free 0
    rw [← iB_toNat] at hc hf hc0
    have hqq : (128 ≤ iB (sh4 (sh2 (sh1 (bq n)))) ∧ sh4 (sh2 (sh1 (bq n))) ^^^ 9#8 = bq (n + 1)) ∨ (iB (bq (n + 1)) < 128 ∧ sh4 (sh2 (sh1 (bq n))) = bq (n + 1)) := by
      rcases Int.lt_or_le (iB (sh4 (sh2 (sh1 (bq n))))) 128 with h | h
      · have e := bnext_lo _ h
        rw [← bq_next n (by omega)] at e
        exact .inr ⟨by rw [← e]; exact h, e⟩
      · exact .inl ⟨h, by rw [bq_next n (by omega), bnext_hi _ h]⟩
    have Hn := Lib.hid hn; clear hn
    by_cases hlast : n + 1 = 255
    · have hb : (iB (bp (n + 1)) == 1) = true := by rw [hlast, bp_end]; rfl
      have Hl := Lib.hid hlast; clear hlast
      rcases hqq with ⟨q1, q2⟩ | ⟨q1, q2⟩
      all_goals
        go_wp2_with fail
        refine (twice_any _ _).mono ?_
        rintro e w' ⟨rfl, rfl⟩
        go_wp2_with fail
        refine (rot1 _ _).mono ?_
        rintro e w' ⟨rfl, rfl⟩
        go_wp2_with fail
        refine (rot2 _ _).mono ?_
        rintro e w' ⟨rfl, rfl⟩
        go_wp2_with fail
        refine (rot3 _ _).mono ?_
        rintro e w' ⟨rfl, rfl⟩
        go_wp2_with fail
        refine (rot4 _ _).mono ?_
        rintro e w' ⟨rfl, rfl⟩
        go_upto_region 12 with fail
        generalize hW : World.setCell (World.setCell w' _ _) _ _ = w2
        have HR : Row w2 (w.heap.size + 1) 44 256 sbox := by
          rw [← hW]
          refine ((hs.set _ _).set 0 99#8).congr fun i hi => ?_
          rw [← bs_box i hi, ← Hl.out]
          rfl
        have HR2 : Row w2 w.heap.size 44 256 (fun _ => 0) := by rw [← hW]; exact (hr.other (by simp) _).other (by simp) _
        have HK : Kept (fun _ => False) w w2 := by rw [← hW]; exact (hkept.setNew (by simp) _).setNew (by simp) _
        clear hW hc hf hc0 hf0 hs hr hkept hp q1 q2
        go_wp2_with (first | (refine wpList_load_row rfl 44 (.tmp 1) rfl (w.heap.size + 1) rfl 44 (Fs 256 sbox) (0, 0) _ HR Try.underlying44 rfl (by rw [Fs_size]; exact info44) ?_) | (refine wpList_store_row rfl 44 (.tmp 0) (.tmp 43) rfl w.heap.size (Fs 256 sbox) rfl rfl 44 _ HR2 (by rw [Fs_size]; exact info44) (by simp only [Fs_size]) (Fs_one _ _) ?_))
        exact bodyPost_ret (v := .agg (Fs 256 sbox)) (results_cell_row rfl _ _ w.heap.size 44 _ (0, 0) _ rfl HR2.row Try.underlying44 rfl (by rw [Fs_size]; exact info44)) rfl ⟨rfl, HK.setRowNew (Nat.le_refl _) _⟩
    · have hb : (iB (bp (n + 1)) == 1) = false := by
        have h1 := bp_one n (by have := Hn.out; omega)
        simp only [beq_eq_false_iff_ne, ne_eq]
        intro h
        exact h1 (iB_inj (h.trans rfl))
      have Hl := Lib.hid hlast; clear hlast
      rcases hqq with ⟨q1, q2⟩ | ⟨q1, q2⟩
      all_goals
        go_wp2_with fail
        refine (twice_any _ _).mono ?_
        rintro e w' ⟨rfl, rfl⟩
        go_wp2_with fail
        refine (rot1 _ _).mono ?_
        rintro e w' ⟨rfl, rfl⟩
        go_wp2_with fail
        refine (rot2 _ _).mono ?_
        rintro e w' ⟨rfl, rfl⟩
        go_wp2_with fail
        refine (rot3 _ _).mono ?_
        rintro e w' ⟨rfl, rfl⟩
        go_wp2_with fail
        refine (rot4 _ _).mono ?_
        rintro e w' ⟨rfl, rfl⟩
        go_wp2_with fail
        go_roundg (gk - 1)
        case measure => omega
        case rel =>
          have hn := Hn.out
          have hl := Hl.out
          exact ⟨n + 1, by omega, by omega, rfl, rfl, (hs.set _ _), hr.other (by simp) _, hkept.setNew (by simp) _⟩
end Go.Proofs.Ytgjkeeejcebhhaa
