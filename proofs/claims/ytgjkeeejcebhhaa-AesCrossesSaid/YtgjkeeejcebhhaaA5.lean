/-
  A block's rounds, and the walk of (*cipher).block.
-/
import Derived.Test.YtgjkeeejcebhhaaA1
import Derived.Test.YtgjkeeejcebhhaaA4
namespace Go.Proofs.Ytgjkeeejcebhhaa
open Go.RowKit
def subTo (c b : Nat → Byte) (m : Nat) : Nat → Byte := fun i => if i < m then c (b ((i + 4 * (i % 4)) % 16)).toNat else 0#8
def mixTo (t : Nat → Byte) : Nat → Nat → Byte
  | 0 => t
  | j + 1 => mixAt (mixTo t j) (4 * j)
def roundOf (c b : Nat → Byte) (r : Nat) : Nat → Byte := addTo c (if r < 10 then mixTo (subTo c b 16) 4 else subTo c b 16) r 16
def enc (c b : Nat → Byte) : Nat → Nat → Byte
  | 0 => addTo c b 0 16
  | r + 1 => roundOf c (enc c b r) (r + 1)
theorem subTo_upd (c b : Nat → Byte) (m : Nat) : upd (subTo c b m) m (c (b ((m + 4 * (m % 4)) % 16)).toNat) = subTo c b (m + 1) := by
  funext i; unfold upd subTo
  by_cases h : i = m
  · subst h; simp
  · rw [if_neg h]
    by_cases h2 : i < m
    · rw [if_pos h2, if_pos (by omega)]
    · rw [if_neg h2, if_neg (by omega)]
theorem slice_col (g : Nat) (j : Nat) (hj : j < 4) (W : World) : (Instr.sliceAt 22 (.pointer (some ⟨g, 0, none⟩)) (some (.int .i64 (4 * (j : Int)))) (some (.int .i64 (4 * (j : Int) + 4))) none).run Try.prog W = .ok (.slice (some ⟨g, 4 * j, none⟩) 4 (16 - 4 * j)) W := by
  obtain rfl | rfl | rfl | rfl : j = 0 ∨ j = 1 ∨ j = 2 ∨ j = 3 := by omega
  all_goals kernel_rfl
attribute [local go_sem] xorB zero22
set_option maxRecDepth 100000 in
set_option maxHeartbeats 2000000 in
theorem block_any (gc : Nat) (c b : Nat → Byte) (w : World) (hc : Row w gc 49 432 c) :
    Calls Try.prog 13 #[.pointer (some ⟨gc, 0, none⟩), .agg (Fs 16 b)] w fun e w' => e = .returned (.agg (Fs 16 (enc c b 10))) ∧ Kept (fun _ => False) w w' := by
  have hlc := hc.lt
  go_enter Try.func13, Try.ntmps13
  go_wp2_with fail
  have hB : Row ((w.alloc (.cells (Fs 16 b) 22)).alloc (.cells (Fs 16 fun _ => 0#8) 22)) w.heap.size 22 16 b := (Row.new w 22 16 b).alloc _
  have hR : Row ((w.alloc (.cells (Fs 16 b) 22)).alloc (.cells (Fs 16 fun _ => 0#8) 22)) (w.heap.size + 1) 22 16 (fun _ => 0#8) := heap_alloc2_new w _ _
  refine (add_any gc w.heap.size c b 0 _ (by omega) ((hc.alloc _).alloc _) hB (by omega)).mono ?_
  rintro e w1 ⟨rfl, hB1, hk1⟩
  have hR1 : Row w1 (w.heap.size + 1) 22 16 (fun _ => 0#8) := hk1.at hR (by simp)
  have hK1 : Kept (fun _ => False) w w1 := (((Kept.refl (fun _ => False) w).alloc _).alloc _).trans hk1 (fun i hi e => by have e' : i = w.heap.size := e; omega)
  clear hB hR hk1
  go_wp2_with fail
  go_loopg [5] 11 (fun k i wr => ∃ r : Nat, 1 ≤ r ∧ r ≤ 11 ∧ r + k = 12 ∧ i = .int .i64 r ∧ Row wr w.heap.size 22 16 (enc c b (r - 1)) ∧ Row wr (w.heap.size + 1) 22 16 (fun _ => 0#8) ∧ Kept (fun _ => False) w wr)
  case atStart => exact ⟨1, by omega, by omega, rfl, rfl, hB1, hR1, hK1⟩
  case round =>
    clear hB1 hR1 hK1
    obtain ⟨r, hr1, hr2, hn, rfl, hB, hR, hK⟩ := hrel
    obtain ⟨gn, rfl⟩ : ∃ g : Nat, g = gk := ⟨_, rfl⟩
    have Hn := Lib.hid hn
    clear hn
    by_cases hlt : r ≤ 10
    · have q0 : (r : Int) ≤ 10 := by omega
      obtain ⟨b', hb'⟩ : ∃ f, f = enc c b (r - 1) := ⟨_, rfl⟩
      rw [← hb'] at hB
      have HB := Lib.hid hb'
      clear hb'
      have hz0 := hR.lt
      go_wp2_with fail
      obtain ⟨wo, rfl⟩ : ∃ wo : World, wo = wr := ⟨_, rfl⟩
      go_loopg [15] 16 (fun k i wp => ∃ m : Nat, m + k = 16 ∧ i = .int .i64 m ∧ Row wp wo.heap.size 22 16 (subTo c b' m) ∧ Row wp w.heap.size 22 16 b' ∧ Row wp (w.heap.size + 1) 22 16 (fun _ => 0#8) ∧ Kept (fun _ => False) w wp)
      case atStart => exact ⟨0, rfl, rfl, (Row.new wo 22 16 (fun _ => 0#8)).congr fun i _ => by simp [subTo], hB.alloc _, hR.alloc _, hK.alloc _⟩
      case round =>
        clear hB hR hK
        obtain ⟨m, hm, rfl, hT, hB, hR, hK⟩ := hrel
        have Hmk := Lib.hid hm
        have hm2 : m ≤ 16 := by omega
        clear hm
        by_cases hlm : m < 16
        · have q1 : (m : Int) < 16 := by omega
          have q2 : 0 ≤ ((m : Int) + 4 * ((m : Int) % 4)) % 16 := by omega
          have q3 : ((m : Int) + 4 * ((m : Int) % 4)) % 16 < 16 := by omega
          obtain ⟨x, hx⟩ : ∃ x, x = b' ((m + 4 * (m % 4)) % 16) := ⟨_, rfl⟩
          have c1 : wr.cell? ⟨w.heap.size, (m + 4 * (m % 4)) % 16, none⟩ = some (B x) := by rw [hx]; exact hB.cell (by omega)
          have c2 : wr.cell? ⟨gc, (iB x).toNat, none⟩ = some (B (c x.toNat)) := by
            rw [iB_toNat]; exact (show Row wr gc 49 432 c from hK.at hc (fun h => h)).cell (by have := x.isLt; omega)
          have c3 := hT.cell (i := m) hlm
          have c4 := hT.free m
          have i0 := iB_ge x
          have i1 := iB_lt x
          have HX := Lib.hid hx
          clear hx
          go_wp2
          refine region_tail 15 (by kernel_rfl) (by kernel_rfl) ?_
          simp only [List.take_succ_cons, List.take_zero, List.drop_succ_cons, List.drop_zero]
          repeat (refine wpStill_step (fun K hK => ?_); go_simp; (try go_bits); refine hK _ ?_; clear hK K)
          refine wpStill_nil ?_
          go_wp2
          go_roundg (gk - 1)
          case measure => have := Hmk.out; omega
          case rel =>
            have := Hmk.out
            refine ⟨m + 1, by omega, by go_num, ?_, hB.other (by simp; omega) _, hR.other (by simp; omega) _, (hK.setNew (by simp; omega) _).drew⟩
            rw [← subTo_upd, ← HX.out]
            exact (show Row wr.drew _ _ _ _ from hT).set _ _
        · have H16 := Lib.hid (show m = 16 by omega)
          have hT : Row wr wo.heap.size 22 16 (subTo c b' 16) := by have e := hT; rw [H16.out] at e; exact e
          by_cases hr10 : r < 10
          · have q10 : (r : Int) < 10 := by omega
            go_wp2_with fail
            obtain ⟨wn, rfl⟩ : ∃ wn : World, wn = wr := ⟨_, rfl⟩
            go_loopg [8] 4 (fun k i wr => ∃ j : Nat, j + k = 4 ∧ i = .int .i64 (4 * (j : Int)) ∧ Row wr wo.heap.size 22 16 (mixTo (subTo c b' 16) j) ∧ Row wr w.heap.size 22 16 b' ∧ Row wr (w.heap.size + 1) 22 16 (fun _ => 0#8) ∧ Kept (fun _ => False) w wr)
            case atStart => exact ⟨0, rfl, rfl, hT, hB, hR, hK⟩
            case round =>
              clear hT hB hR hK
              obtain ⟨j, hj, rfl, hT, hB, hR, hK⟩ := hrel
              have Hj := Lib.hid hj
              have hj2 : j ≤ 4 := by omega
              clear hj
              by_cases hlj : j < 4
              · have q5 : (j : Int) < 4 := by omega
                have hsl := slice_col wo.heap.size j hlj
                go_wp2_with fail
                refine (mix_any wo.heap.size 16 (4 * j) _ _ _ hT (by omega)).mono ?_
                rintro e w2 ⟨rfl, hT2, hk2⟩
                have hB2 : Row w2 w.heap.size 22 16 b' := hk2.at hB (by omega)
                have hR2 : Row w2 (w.heap.size + 1) 22 16 (fun _ => 0#8) := hk2.at hR (by omega)
                have hK2 : Kept (fun _ => False) w w2 := hK.trans hk2 (fun i hi e => by have e' : i = wo.heap.size := e; omega)
                clear hT hB hR hK hk2 hsl
                go_wp2_with fail
                go_roundg (gk - 1)
                case measure => have := Hj.out; omega
                case rel =>
                  have := Hj.out
                  exact ⟨j + 1, by omega, by go_num, hT2, hB2, hR2, hK2⟩
              · have H4 := Lib.hid (show j = 4 by omega)
                have hT : Row wr wo.heap.size 22 16 (mixTo (subTo c b' 16) 4) := by have e := hT; rw [H4.out] at e; exact e
                go_wp2_with (first | (refine wpList_load_row rfl 22 (.tmp 6) rfl wo.heap.size rfl 22 (Fs 16 (mixTo (subTo c b' 16) 4)) (0, 0) _ hT Try.underlying22 rfl (by rw [Fs_size]; exact info22) ?_) | (refine wpList_store_row rfl 22 (.tmp 3) (.tmp 45) rfl w.heap.size (Fs 16 (mixTo (subTo c b' 16) 4)) rfl rfl 22 _ hB (by rw [Fs_size]; exact info22) (by simp only [Fs_size]) (Fs_one _ _) ?_) | (go_at_call 20; fail))
                refine (add_any gc w.heap.size c (mixTo (subTo c b' 16) 4) r _ (by omega) (show Row _ gc 49 432 c from (show Row wr gc 49 432 c from hK.at hc (fun h => h)).rowOther (by omega) _) hB.row (by omega)).mono ?_
                rintro e w2 ⟨rfl, hB2, hk2⟩
                have hR2 : Row w2 (w.heap.size + 1) 22 16 (fun _ => 0#8) := hk2.at (hR.rowOther (by simp) _) (by simp)
                have hK2 : Kept (fun _ => False) w w2 := (hK.setRowNew (Nat.le_refl _) _).trans hk2 (fun i hi e => by have e' : i = w.heap.size := e; omega)
                clear hT hB hR hK hk2
                go_wp2_with fail
                go_roundg (gn - 1)
                case measure => have := Hn.out; omega
                case rel =>
                  have := Hn.out
                  refine ⟨r + 1, by omega, by omega, by omega, by go_num, ?_, hR2, hK2⟩
                  refine hB2.congr fun i _ => ?_
                  rw [show r + 1 - 1 = (r - 1) + 1 by omega]
                  show _ = roundOf c (enc c b (r - 1)) (r - 1 + 1) i
                  rw [← HB.out, show r - 1 + 1 = r by omega]
                  unfold roundOf
                  rw [if_pos hr10]
          · have q10 : (10 : Int) ≤ r := by omega
            go_wp2_with (first | (refine wpList_load_row rfl 22 (.tmp 6) rfl wo.heap.size rfl 22 (Fs 16 (subTo c b' 16)) (0, 0) _ hT Try.underlying22 rfl (by rw [Fs_size]; exact info22) ?_) | (refine wpList_store_row rfl 22 (.tmp 3) (.tmp 45) rfl w.heap.size (Fs 16 (subTo c b' 16)) rfl rfl 22 _ hB (by rw [Fs_size]; exact info22) (by simp only [Fs_size]) (Fs_one _ _) ?_) | (go_at_call 20; fail))
            refine (add_any gc w.heap.size c (subTo c b' 16) r _ (by omega) (show Row _ gc 49 432 c from (show Row wr gc 49 432 c from hK.at hc (fun h => h)).rowOther (by omega) _) hB.row (by omega)).mono ?_
            rintro e w2 ⟨rfl, hB2, hk2⟩
            have hR2 : Row w2 (w.heap.size + 1) 22 16 (fun _ => 0#8) := hk2.at (hR.rowOther (by simp) _) (by simp)
            have hK2 : Kept (fun _ => False) w w2 := (hK.setRowNew (Nat.le_refl _) _).trans hk2 (fun i hi e => by have e' : i = w.heap.size := e; omega)
            clear hT hB hR hK hk2
            go_wp2_with fail
            go_roundg (gn - 1)
            case measure => have := Hn.out; omega
            case rel =>
              have := Hn.out
              refine ⟨r + 1, by omega, by omega, by omega, by go_num, ?_, hR2, hK2⟩
              refine hB2.congr fun i _ => ?_
              rw [show r + 1 - 1 = (r - 1) + 1 by omega]
              show _ = roundOf c (enc c b (r - 1)) (r - 1 + 1) i
              rw [← HB.out, show r - 1 + 1 = r by omega]
              unfold roundOf
              rw [if_neg hr10]
    · have H11 := Lib.hid (show r = 11 by omega)
      have hB : Row wr w.heap.size 22 16 (enc c b 10) := by have e := hB; rw [H11.out] at e; exact e
      go_wp2_with (first | (refine wpList_load_row rfl 22 (.tmp 3) rfl w.heap.size rfl 22 (Fs 16 (enc c b 10)) (0, 0) _ hB Try.underlying22 rfl (by rw [Fs_size]; exact info22) ?_) | (refine wpList_store_row rfl 22 (.tmp 4) (.tmp 49) rfl (w.heap.size + 1) (Fs 16 (enc c b 10)) rfl rfl 22 _ hR (by rw [Fs_size]; exact info22) (by simp only [Fs_size]) (Fs_one _ _) ?_))
      exact bodyPost_ret (v := .agg (Fs 16 (enc c b 10))) (results_cell_row rfl _ _ (w.heap.size + 1) 22 _ (0, 0) _ rfl hR.row Try.underlying22 rfl (by rw [Fs_size]; exact info22)) rfl ⟨rfl, hK.setRowNew (by omega) _⟩
end Go.Proofs.Ytgjkeeejcebhhaa
