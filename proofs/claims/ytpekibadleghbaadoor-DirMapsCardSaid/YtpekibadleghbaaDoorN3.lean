/-
  The walk of sha.schedule.
-/
import Derived.Test.YtpekibadleghbaaDoorN2
namespace Go.Proofs.YtpekibadleghbaaDoor
open Go.RowKit
set_option linter.unusedVariables false
set_option linter.unusedSimpArgs false
theorem Ws_zero64 : Ws 64 (fun _ => 0#32) = #[.int .u32 0, .int .u32 0, .int .u32 0, .int .u32 0, .int .u32 0, .int .u32 0, .int .u32 0, .int .u32 0, .int .u32 0, .int .u32 0, .int .u32 0, .int .u32 0, .int .u32 0, .int .u32 0, .int .u32 0, .int .u32 0, .int .u32 0, .int .u32 0, .int .u32 0, .int .u32 0, .int .u32 0, .int .u32 0, .int .u32 0, .int .u32 0, .int .u32 0, .int .u32 0, .int .u32 0, .int .u32 0, .int .u32 0, .int .u32 0, .int .u32 0, .int .u32 0, .int .u32 0, .int .u32 0, .int .u32 0, .int .u32 0, .int .u32 0, .int .u32 0, .int .u32 0, .int .u32 0, .int .u32 0, .int .u32 0, .int .u32 0, .int .u32 0, .int .u32 0, .int .u32 0, .int .u32 0, .int .u32 0, .int .u32 0, .int .u32 0, .int .u32 0, .int .u32 0, .int .u32 0, .int .u32 0, .int .u32 0, .int .u32 0, .int .u32 0, .int .u32 0, .int .u32 0, .int .u32 0, .int .u32 0, .int .u32 0, .int .u32 0, .int .u32 0] := by kernel_rfl
theorem info103 (f : Nat → Word) : (Tryd.prog.info? 103).map (·.size) = some (Ws 64 f).size := by
  rw [Ws_size]; kernel_rfl
theorem word_mul (a : Option Addr) (len cap n : Nat) (f : Nat → Byte) (w : World) (hc : BytesAt w a len f) (hp : 4 * n + 3 < len) (hl : len ≤ 140737488355328) :
    Calls Tryd.prog 77 #[.slice a len cap, .int .i64 (4 * (n : Int))] w fun r w' => r = .returned (W (wordAt f (4 * n))) ∧ w' = w.drew := by
  have := word_any a len cap (4 * n) f w hc hp hl
  rwa [show ((4 * n : Nat) : Int) = 4 * (n : Int) by omega] at this
/-- The schedule's first n words. -/
def St (b : Nat → Byte) (n : Nat) : Nat → Word := fun i => if i < n then S b i else 0#32
theorem St_next (b : Nat → Byte) (n : Nat) : updW (St b n) n (S b n) = St b (n + 1) := by
  funext i; unfold updW St
  by_cases h : i = n
  · rw [if_pos h, if_pos (by omega), h]
  · rw [if_neg h]
    by_cases h2 : i < n
    · rw [if_pos h2, if_pos (by omega)]
    · rw [if_neg h2, if_neg (by omega)]
theorem St_at (b : Nat → Byte) (n i : Nat) (h : i < n) : St b n i = S b i := if_pos h
theorem shr3 (x : Word) : iW x / (8 : Int) = iW (x >>> 3) := shrW x 3
theorem shr10 (x : Word) : iW x / (1024 : Int) = iW (x >>> 10) := shrW x 10
attribute [local go_sem] xorW addW shr3 shr10
set_option maxRecDepth 100000 in
set_option maxHeartbeats 8000000 in
theorem schedule_any (a : Option Addr) (len cap : Nat) (b : Nat → Byte) (w : World) (hc : BytesAt w a len b) (hp : 64 ≤ len) (hl : len ≤ 140737488355328) :
    Calls Tryd.prog 70 #[.slice a len cap] w fun r w' => r = .returned (.agg (Ws 64 (S b))) ∧ Kept (fun _ => False) w w' := by
  go_enter Tryd.func70, Tryd.ntmps70
  go_upto_region 2 with fail
  generalize hw0 : World.alloc (World.alloc w _) _ = w1
  have h3 : RowW w1 (w.heap.size + 1) 103 64 (St b 0) := by
    rw [← hw0]
    have : St b 0 = fun _ => 0#32 := by funext i; unfold St; rw [if_neg (by omega)]
    unfold RowW
    rw [this, Ws_zero64]
    have := heap_alloc_new (w.alloc (.cells #[.int .u32 0, .int .u32 0, .int .u32 0, .int .u32 0, .int .u32 0, .int .u32 0, .int .u32 0, .int .u32 0, .int .u32 0, .int .u32 0, .int .u32 0, .int .u32 0, .int .u32 0, .int .u32 0, .int .u32 0, .int .u32 0, .int .u32 0, .int .u32 0, .int .u32 0, .int .u32 0, .int .u32 0, .int .u32 0, .int .u32 0, .int .u32 0, .int .u32 0, .int .u32 0, .int .u32 0, .int .u32 0, .int .u32 0, .int .u32 0, .int .u32 0, .int .u32 0, .int .u32 0, .int .u32 0, .int .u32 0, .int .u32 0, .int .u32 0, .int .u32 0, .int .u32 0, .int .u32 0, .int .u32 0, .int .u32 0, .int .u32 0, .int .u32 0, .int .u32 0, .int .u32 0, .int .u32 0, .int .u32 0, .int .u32 0, .int .u32 0, .int .u32 0, .int .u32 0, .int .u32 0, .int .u32 0, .int .u32 0, .int .u32 0, .int .u32 0, .int .u32 0, .int .u32 0, .int .u32 0, .int .u32 0, .int .u32 0, .int .u32 0, .int .u32 0] 103)) (.cells #[.int .u32 0, .int .u32 0, .int .u32 0, .int .u32 0, .int .u32 0, .int .u32 0, .int .u32 0, .int .u32 0, .int .u32 0, .int .u32 0, .int .u32 0, .int .u32 0, .int .u32 0, .int .u32 0, .int .u32 0, .int .u32 0, .int .u32 0, .int .u32 0, .int .u32 0, .int .u32 0, .int .u32 0, .int .u32 0, .int .u32 0, .int .u32 0, .int .u32 0, .int .u32 0, .int .u32 0, .int .u32 0, .int .u32 0, .int .u32 0, .int .u32 0, .int .u32 0, .int .u32 0, .int .u32 0, .int .u32 0, .int .u32 0, .int .u32 0, .int .u32 0, .int .u32 0, .int .u32 0, .int .u32 0, .int .u32 0, .int .u32 0, .int .u32 0, .int .u32 0, .int .u32 0, .int .u32 0, .int .u32 0, .int .u32 0, .int .u32 0, .int .u32 0, .int .u32 0, .int .u32 0, .int .u32 0, .int .u32 0, .int .u32 0, .int .u32 0, .int .u32 0, .int .u32 0, .int .u32 0, .int .u32 0, .int .u32 0, .int .u32 0, .int .u32 0] 103)
    rwa [size_alloc] at this
  have h2 : RowW w1 w.heap.size 103 64 (fun _ => 0#32) := by
    rw [← hw0]
    refine RowW.alloc ?_ _
    unfold RowW
    rw [Ws_zero64]
    exact heap_alloc_new w _
  have hK : Kept (fun _ => False) w w1 := by rw [← hw0]; exact ((Kept.refl _ w).alloc _).alloc _
  clear hw0
  go_wp2_with fail
  go_loopg [10] 17 (fun k i wr => ∃ n : Nat, n + k = 17 ∧ n ≤ 16 ∧ i = .int .i64 (n : Int) ∧ RowW wr (w.heap.size + 1) 103 64 (St b n) ∧ RowW wr w.heap.size 103 64 (fun _ => 0#32) ∧ Kept (fun _ => False) w wr)
  case atStart => exact ⟨0, by omega, by omega, rfl, h3, h2, hK⟩
  case round =>
    clear h3 h2 hK
    obtain ⟨n, hn, hnl, rfl, h3, h2, hK⟩ := hrel
    have Hn := Lib.hid hn
    clear hn
    by_cases hlt : n < 16
    · have q : (n : Int) < 16 := by omega
      have q0 : (0 : Int) ≤ n := by omega
      have c0 := h3.cell (i := n) (by omega)
      have f0 := h3.free n
      have hcr := hc.kept hK
      have hs := S_low b n hlt
      have HS := Lib.hid hs
      clear hs
      go_wp2_with (go_at_call 77; go_loud (refine (word_mul a len cap n b _ hcr (by omega) hl).mono ?_; rw [← HS.out]; rintro r w' ⟨rfl, rfl⟩))
      go_roundg (gk - 1)
      case measure => have := Hn.out; omega
      case rel =>
        have := Hn.out
        refine ⟨n + 1, by omega, by omega, by go_num, ?_, ?_, (hK.drew).setCell (fun h => absurd h (by simp)) _⟩
        · rw [← St_next]
          exact RowW.set (w := wr.drew) h3 n _
        · exact RowW.other (w := wr.drew) h2 (by simp) _
    · obtain rfl : n = 16 := by omega
      clear hnl hlt
      go_wp2_with fail
      go_loopg [5] 49 (fun k i wr => ∃ n : Nat, n + k = 65 ∧ 16 ≤ n ∧ n ≤ 64 ∧ i = .int .i64 (n : Int) ∧ RowW wr (w.heap.size + 1) 103 64 (St b n) ∧ RowW wr w.heap.size 103 64 (fun _ => 0#32) ∧ Kept (fun _ => False) w wr)
      case atStart => exact ⟨16, by omega, by omega, by omega, rfl, h3, h2, hK⟩
      case round =>
        clear h3 h2 hK Hn
        obtain ⟨n, hn, hn16, hnl, rfl, h3, h2, hK⟩ := hrel
        have Hn := Lib.hid hn
        clear hn
        by_cases hlt : n < 64
        · have q : (n : Int) < 64 := by omega
          have q0 : (16 : Int) ≤ n := by omega
          have c16 := h3.cell (i := n - 16) (by omega)
          have c15 := h3.cell (i := n - 15) (by omega)
          have c7 := h3.cell (i := n - 7) (by omega)
          have c2 := h3.cell (i := n - 2) (by omega)
          have c0 := h3.cell (i := n) (by omega)
          have f0 := h3.free n
          rw [St_at b n _ (by omega)] at c16 c15 c7 c2
          have HS := Lib.hid (S_high b n hn16)
          go_upto_region 10 with fail
          have z15 : (15 : Int) ≤ n := by omega
          have i15 : (n : Int) - 15 < 64 := by omega
          have t15 : ((n : Int) - 15).toNat = n - 15 := by omega
          have l15 : n - 15 < 64 := by omega
          have y15 : n < 64 + 15 := by omega
          have z2 : (2 : Int) ≤ n := by omega
          have i2 : (n : Int) - 2 < 64 := by omega
          have t2 : ((n : Int) - 2).toNat = n - 2 := by omega
          have l2 : n - 2 < 64 := by omega
          have y2 : n < 64 + 2 := by omega
          have w15 : IntKind.i64.wrap ((n : Int) - 15) = (n : Int) - 15 := IntWalk.i64_in _ (by omega)
          have w2 : IntKind.i64.wrap ((n : Int) - 2) = (n : Int) - 2 := IntWalk.i64_in _ (by omega)
          refine region_still (by kernel_rfl) (by kernel_rfl) ?_
          repeat (refine wpStill_step (fun K hK => ?_); go_simp; (first | (go_bits; refine hK _ ?_) | refine hK _ ?_); clear hK K)
          refine wpStill_nil ?_
          clear z15 i15 t15 l15 y15 w15 z2 i2 t2 l2 y2 w2
          go_upto_region 13 with (go_at_call 71; first
            | ((with_reducible refine (rot_7 _ _).mono ?_); rintro r w' ⟨rfl, rfl⟩)
            | ((with_reducible refine (rot_18 _ _).mono ?_); rintro r w' ⟨rfl, rfl⟩)
            | ((with_reducible refine (rot_17 _ _).mono ?_); rintro r w' ⟨rfl, rfl⟩)
            | ((with_reducible refine (rot_19 _ _).mono ?_); rintro r w' ⟨rfl, rfl⟩))
          have z16 : (16 : Int) ≤ n := by omega
          have i16 : (n : Int) - 16 < 64 := by omega
          have t16 : ((n : Int) - 16).toNat = n - 16 := by omega
          have l16 : n - 16 < 64 := by omega
          have y16 : n < 64 + 16 := by omega
          have z7 : (7 : Int) ≤ n := by omega
          have i7 : (n : Int) - 7 < 64 := by omega
          have t7 : ((n : Int) - 7).toNat = n - 7 := by omega
          have l7 : n - 7 < 64 := by omega
          have y7 : n < 64 + 7 := by omega
          have w16 : IntKind.i64.wrap ((n : Int) - 16) = (n : Int) - 16 := IntWalk.i64_in _ (by omega)
          have w7 : IntKind.i64.wrap ((n : Int) - 7) = (n : Int) - 7 := IntWalk.i64_in _ (by omega)
          refine region_tail 15 (by kernel_rfl) (by kernel_rfl) ?_
          simp only [List.take_succ_cons, List.take_zero, List.drop_succ_cons, List.drop_zero]
          repeat (refine wpStill_step (fun K hK => ?_); go_simp; (first | (go_bits; refine hK _ ?_) | refine hK _ ?_); clear hK K)
          refine wpStill_nil ?_
          clear z16 i16 t16 l16 y16 w16 z7 i7 t7 l7 y7 w7
          go_wp2_with fail
          go_roundg (gk - 1)
          case measure => have := Hn.out; omega
          case rel =>
            have := Hn.out
            refine ⟨n + 1, by omega, by omega, by omega, by go_num, ?_, ?_, (hK.drew.drew).setCell (fun h => absurd h (by simp)) _⟩
            · rw [← St_next, HS.out]
              exact RowW.set (w := World.drew _) h3 n _
            · exact RowW.other (w := World.drew _) h2 (by simp) _
        · obtain rfl : n = 64 := by omega
          have hS : Ws 64 (St b 64) = Ws 64 (S b) := Ws_congr (fun i hi => St_at b 64 i hi)
          have q : ¬ ((64 : Nat) : Int) < 64 := by omega
          go_wp2_with (first | (refine wpList_load_row rfl 103 (.tmp 3) rfl (w.heap.size + 1) rfl 103 (Ws 64 (St b 64)) (0, 0) _ h3 Tryd.underlying103 rfl (info103 _) ?_) | (refine wpList_store_row rfl 103 (.tmp 2) (.tmp 63) rfl w.heap.size (Ws 64 (St b 64)) rfl rfl 103 _ h2 (info103 _) (by rw [Ws_size, Ws_size]) (Ws_one _ _) ?_))
          exact bodyPost_ret (v := .agg (Ws 64 (St b 64))) (results_cell_row rfl _ _ w.heap.size 103 _ (0, 0) _ rfl (RowW.row h2) Tryd.underlying103 rfl (info103 _)) rfl ⟨by rw [hS], hK.setRowNew (Nat.le_refl _) _⟩
end Go.Proofs.YtpekibadleghbaaDoor
