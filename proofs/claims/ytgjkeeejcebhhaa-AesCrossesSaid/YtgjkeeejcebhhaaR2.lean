/-
  The reference's Box.
-/
import Derived.Test.YtgjkeeejcebhhaaR1
import Derived.Test.YtgjkeeejcebhhaaOwn
import Derived.Test.YtgjkeeejcebhhaaA12
namespace Go.Proofs.Ytgjkeeejcebhhaa
open Go.RowKit
/-- The inverses behind n rounds. -/
def iv : Nat → Nat → Byte
  | 0 => fun _ => 0#8
  | n + 1 => upd (iv n) (bp n).toNat (bp ((255 - n) % 255))
def il (c : Byte) : Nat → Byte × Byte
  | 0 => (c, c)
  | n + 1 => ((il c n).1.rotateLeft 1, (il c n).2 ^^^ (il c n).1.rotateLeft 1)
def bx (b : Nat) : Byte := (il (iv 255 b) 4).2 ^^^ 99#8
theorem bx_box : ∀ b, b < 256 → bx b = sbox b := by decide +kernel
theorem bp_times (n : Nat) (h : n < 255) : times (bp n) 3#8 = bp (n + 1) := by
  rw [bp_next n h, BitVec.xor_comm]; exact times_x3 (bp n).toFin
def bxTo (n : Nat) : Nat → Byte := fun i => if i < n then sbox i else 0#8
theorem bxTo_upd (n : Nat) : upd (bxTo n) n (sbox n) = bxTo (n + 1) := by
  funext i; unfold upd bxTo
  by_cases h : i = n
  · subst h; simp
  · rw [if_neg h]
    by_cases h2 : i < n
    · rw [if_pos h2, if_pos (by omega)]
    · rw [if_neg h2, if_neg (by omega)]
theorem rotL (b : Byte) : bits .or .u8 (iB b * (2 : Int) % (256 : Int)) (iB b / (128 : Int)) = iB (b.rotateLeft 1) := rot_eq1 b.toFin
theorem make256 (w : World) : (Instr.makeSlice 28 (.int .i64 256) (.int .i64 256)).run Try.prog w = .ok (.slice (some ⟨w.heap.size, 0, none⟩) 256 256) (w.alloc (.cells (Fs 256 fun _ => 0#8) 5)) := make28 256 (by omega) w
attribute [local go_sem] xorB xor99 rotL make256
set_option maxRecDepth 100000 in
set_option maxHeartbeats 4000000 in
theorem box_any (w : World) : Calls Try.prog 14 #[] w fun e w' => ∃ g, e = .returned (.slice (some ⟨g, 0, none⟩) 256 256) ∧ w.heap.size ≤ g ∧ Row w' g 5 256 sbox ∧ Kept (fun _ => False) w w' := by
  go_enter Try.func14, Try.ntmps14
  go_wp2_with fail
  go_loopg [1, 2] 255 (fun k v i wr => ∃ n a cap, 1 ≤ n ∧ n + k = 256 ∧ i = .int .i64 (n : Int) ∧ v = .slice a n cap ∧ OwnB wr w.heap.size a n cap bp ∧ Kept (fun _ => False) w wr ∧ n ≤ 255)
  case atStart =>
    refine ⟨1, some ⟨w.heap.size, 0, none⟩, 1, by omega, by omega, rfl, rfl, ?_, (Kept.refl _ w).alloc _, by omega⟩
    exact OwnB.new (show Row (w.alloc _) w.heap.size 5 1 bp from heap_alloc_new w _) (Nat.le_refl _) (by omega)
  case round =>
    obtain ⟨n, a, cap, hn1, hn, rfl, rfl, hO, hK, hn2⟩ := hrel
    obtain ⟨gn, rfl⟩ : ∃ g : Nat, g = gk := ⟨_, rfl⟩
    have Hn := Lib.hid hn
    clear hn
    by_cases hlt : n < 255
    · have q : (n : Int) < 255 := by omega
      have q1 : (1 : Int) ≤ n := by omega
      have hz := hK.size
      obtain ⟨g, ha, hg, hgl, hc, _⟩ := hO.cell (by omega)
      subst ha
      have c1 := hc (n - 1) (by omega)
      clear hc
      go_wp2_with fail
      refine (times_any (bp (n - 1)) 3#8 _).mono ?_
      rintro r w' ⟨rfl, rfl⟩
      rw [bp_times (n - 1) (by omega), show n - 1 + 1 = n by omega]
      go_wp2_with (refine append1 rfl (.tmp 15) (.tmp 22) rfl w.heap.size (some ⟨g, 0, none⟩) n cap bp rfl (hO.alloc _) w'.heap.size 1 (bp n) rfl (by simp) (by omega) (by simp; omega) ?_)
      intro a' cap' w2 hO2 hk2
      have hO2 := hO2.congr (f' := bp) (fun i _ => by unfold upd; split <;> simp_all)
      have hK2 : Kept (fun _ => False) w w2 := (hK.alloc _).trans hk2.kept (fun i hi h => by have := some_eq h; omega)
      clear hk2 hO hK c1
      go_wp2_with fail
      go_roundg (gn - 1)
      case measure => have := Hn.out; omega
      case rel =>
        have := Hn.out
        exact ⟨n + 1, a', cap', by omega, by omega, by go_num, rfl, hO2, hK2, by omega⟩
    · have h255 : n = 255 := by omega
      subst h255
      obtain ⟨gp, ha, hgp, hgpl, hcp, _⟩ := hO.cell (by omega)
      subst ha
      have hz := hK.size
      go_wp2_with fail
      obtain ⟨wp, rfl⟩ : ∃ wp : World, wp = wr := ⟨_, rfl⟩
      have hI0 : Row (wp.alloc (.cells (Fs 256 fun _ => 0#8) 5)) wp.heap.size 5 256 (fun _ => 0#8) := Row.new wp _ _ _
      have hP0 : ∀ i, i < 255 → (wp.alloc (.cells (Fs 256 fun _ => 0#8) 5)).cell? ⟨gp, i, none⟩ = some (B (bp i)) := fun i hi => by
        rw [World.cell?_alloc_past _ _ _ hgpl]; exact hcp i hi
      have hK0 : Kept (fun _ => False) w (wp.alloc (.cells (Fs 256 fun _ => 0#8) 5)) := hK.alloc _
      clear hcp hO hK
      go_loopg [4] 255 (fun k i wr => ∃ m : Nat, m + k = 255 ∧ i = .int .i64 (m : Int) ∧ Row wr wp.heap.size 5 256 (iv m) ∧ (∀ i, i < 255 → wr.cell? ⟨gp, i, none⟩ = some (B (bp i))) ∧ Kept (fun _ => False) w wr)
      case atStart => exact ⟨0, rfl, rfl, hI0, hP0, hK0⟩
      case round =>
        clear hI0 hP0 hK0
        obtain ⟨m, hm, rfl, hI, hP, hK⟩ := hrel
        have Hm := Lib.hid hm
        have hm2 : m ≤ 255 := by omega
        clear hm
        by_cases hlm : m < 255
        · have q2 : (m : Int) < 255 := by omega
          have q3 : (m : Int) ≤ 255 := by omega
          obtain ⟨r, hr1, hr2, hr3⟩ : ∃ r : Nat, (-(m : Int)) % 255 = (r : Int) ∧ r < 255 ∧ r = (255 - m) % 255 := ⟨(255 - m) % 255, by omega, by omega, rfl⟩
          have q5 : (r : Int) < 255 := by omega
          have c1 := hP m hlm
          have c2 := hP r hr2
          have HR3 := Lib.hid hr3
          clear hr3
          have i0 := iB_ge (bp m)
          have i1 := iB_lt (bp m)
          have c3 := hI.cell (i := (bp m).toNat) (bp m).isLt
          have f3 := hI.free (bp m).toNat
          rw [← iB_toNat] at c3 f3
          have HP := Lib.hid hP
          clear hP
          go_wp2_with fail
          refine region_tail 12 (by kernel_rfl) (by kernel_rfl) ?_
          simp only [List.take_succ_cons, List.take_zero, List.drop_succ_cons, List.drop_zero]
          repeat (refine wpStill_step (fun K hK => ?_); go_simp; (try go_bits); refine hK _ ?_; clear hK K)
          refine wpStill_nil ?_
          go_wp2_with fail
          go_roundg (gk - 1)
          case measure => have := Hm.out; omega
          case rel =>
            have := Hm.out
            refine ⟨m + 1, by omega, by go_num, ?_, fun i hi => ?_, (hK.setNew (by simp; omega) _).drew⟩
            · show Row _ _ _ _ (upd (iv m) (bp m).toNat (bp ((255 - m) % 255)))
              rw [← HR3.out]
              exact (show Row wr.drew _ _ _ _ from hI).set (bp m).toNat _
            · exact (cell_apart wr.drew _ _ (by simp; omega)).trans (HP.out i hi)
        · have h255 : m = 255 := by omega
          subst h255
          have hz2 := hK.size
          have hil := hI.lt
          clear hP
          go_wp2_with fail
          obtain ⟨wq, rfl⟩ : ∃ wq : World, wq = wr := ⟨_, rfl⟩
          have hO0 : Row (wq.alloc (.cells (Fs 256 fun _ => 0#8) 5)) wq.heap.size 5 256 (fun _ => 0#8) := Row.new wq _ _ _
          have hI0 : Row (wq.alloc (.cells (Fs 256 fun _ => 0#8) 5)) wp.heap.size 5 256 (iv 255) := hI.alloc _
          have hK0 : Kept (fun _ => False) w (wq.alloc (.cells (Fs 256 fun _ => 0#8) 5)) := hK.alloc _
          clear hI hK
          go_loopg [6] 256 (fun k i wr => ∃ m : Nat, m + k = 256 ∧ i = .int .i64 (m : Int) ∧ Row wr wq.heap.size 5 256 (bxTo m) ∧ Row wr wp.heap.size 5 256 (iv 255) ∧ Kept (fun _ => False) w wr)
          case atStart => exact ⟨0, rfl, rfl, hO0.congr fun i _ => by unfold bxTo; rw [if_neg (by omega)], hI0, hK0⟩
          case round =>
            clear hI0 hO0 hK0
            obtain ⟨m, hm, rfl, hO, hI, hK⟩ := hrel
            obtain ⟨gm, rfl⟩ : ∃ g : Nat, g = gk := ⟨_, rfl⟩
            have Hm := Lib.hid hm
            have hm2 : m ≤ 256 := by omega
            clear hm
            by_cases hlm : m < 256
            · have q2 : (m : Int) < 256 := by omega
              obtain ⟨c, hc⟩ : ∃ c, c = iv 255 m := ⟨_, rfl⟩
              have c1 : wr.cell? ⟨wp.heap.size, m, none⟩ = some (B c) := by rw [hc]; exact hI.cell hlm
              have c3 := hO.cell (i := m) hlm
              have f3 := hO.free m
              have HC := Lib.hid hc
              clear hc
              go_wp2_with fail
              go_loopg [7, 8, 9] 4 (fun k x y i wz => ∃ j : Nat, j + k = 4 ∧ i = .int .i64 (j : Int) ∧ x = B (il c j).1 ∧ y = B (il c j).2 ∧ wz = wr)
              case atStart => exact ⟨0, rfl, rfl, rfl, rfl, rfl⟩
              case round =>
                obtain ⟨j, hj, rfl, rfl, rfl, hwz⟩ := hrel
                subst hwz
                have Hj := Lib.hid hj
                have hj2 : j ≤ 4 := by omega
                clear hj
                by_cases hlj : j < 4
                · have q9 : (j : Int) < 4 := by omega
                  have hn1 : (il c j).1.rotateLeft 1 = (il c (j + 1)).1 := rfl
                  have hn2 : (il c j).2 ^^^ (il c (j + 1)).1 = (il c (j + 1)).2 := rfl
                  go_wp2_with fail
                  go_roundg (gk - 1)
                  case measure => have := Hj.out; omega
                  case rel =>
                    have := Hj.out
                    exact ⟨j + 1, by omega, by go_num, rfl, rfl, rfl⟩
                · have h4 : j = 4 := by omega
                  subst h4
                  go_wp2_with fail
                  go_roundg (gm - 1)
                  case measure => have := Hm.out; omega
                  case rel =>
                    have := Hm.out
                    refine ⟨m + 1, by omega, by go_num, ?_, hI.other (by simp; omega) _, hK.setNew (by simp; omega) _⟩
                    rw [← bxTo_upd, ← bx_box m hlm, bx, ← HC.out]
                    exact hO.set m _
            · have h256 := Lib.hid (show m = 256 by omega)
              have hO : Row wr wq.heap.size 5 256 sbox := hO.congr fun i hi => by unfold bxTo; rw [if_pos (by rw [h256.out]; exact hi)]
              go_wp2_with fail
              go_ret
              exact ⟨_, rfl, by omega, hO, hK⟩
end Go.Proofs.Ytgjkeeejcebhhaa
