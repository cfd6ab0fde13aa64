/-
  The walk of sha.piece.
-/
import Derived.Test.YtpekibadleghbaaDoorN3
namespace Go.Proofs.YtpekibadleghbaaDoor
open Go.RowKit
set_option linter.unusedVariables false
set_option linter.unusedSimpArgs false
/-- The words' sums, the first n of them. -/
def Sm (h v : Nat → Word) (n : Nat) : Nat → Word := fun i => if i < n then h i + v i else h i
theorem Sm_next (h v : Nat → Word) (n : Nat) : updW (Sm h v n) n (h n + v n) = Sm h v (n + 1) := by
  funext i; unfold updW Sm
  by_cases hi : i = n
  · rw [if_pos hi, if_pos (by omega), hi]
  · rw [if_neg hi]
    by_cases h2 : i < n
    · rw [if_pos h2, if_pos (by omega)]
    · rw [if_neg h2, if_neg (by omega)]
theorem Ws_8 (f : Nat → Word) : Ws 8 f = #[W (f 0), W (f 1), W (f 2), W (f 3), W (f 4), W (f 5), W (f 6), W (f 7)] := rfl
theorem info94 (f : Nat → Word) : (Tryd.prog.info? 94).map (·.size) = some (Ws 8 f).size := by
  rw [Ws_size]; kernel_rfl
theorem new103 (w : World) : RowW (w.alloc (.cells #[.int .u32 0, .int .u32 0, .int .u32 0, .int .u32 0, .int .u32 0, .int .u32 0, .int .u32 0, .int .u32 0, .int .u32 0, .int .u32 0, .int .u32 0, .int .u32 0, .int .u32 0, .int .u32 0, .int .u32 0, .int .u32 0, .int .u32 0, .int .u32 0, .int .u32 0, .int .u32 0, .int .u32 0, .int .u32 0, .int .u32 0, .int .u32 0, .int .u32 0, .int .u32 0, .int .u32 0, .int .u32 0, .int .u32 0, .int .u32 0, .int .u32 0, .int .u32 0, .int .u32 0, .int .u32 0, .int .u32 0, .int .u32 0, .int .u32 0, .int .u32 0, .int .u32 0, .int .u32 0, .int .u32 0, .int .u32 0, .int .u32 0, .int .u32 0, .int .u32 0, .int .u32 0, .int .u32 0, .int .u32 0, .int .u32 0, .int .u32 0, .int .u32 0, .int .u32 0, .int .u32 0, .int .u32 0, .int .u32 0, .int .u32 0, .int .u32 0, .int .u32 0, .int .u32 0, .int .u32 0, .int .u32 0, .int .u32 0, .int .u32 0, .int .u32 0] 103)) w.heap.size 103 64 (fun _ => 0#32) := by
  unfold RowW
  rw [Ws_zero64]
  exact heap_alloc_new _ _
theorem new94 (w : World) : RowW (w.alloc (.cells #[.int .u32 0, .int .u32 0, .int .u32 0, .int .u32 0, .int .u32 0, .int .u32 0, .int .u32 0, .int .u32 0] 94)) w.heap.size 94 8 (fun _ => 0#32) := RowW.new w 94 8 (fun _ => 0#32)
def KeysAt (w : World) : Prop := ∀ i, i < 64 → w.cell? ⟨1, i, none⟩ = some (W (kk i))
theorem KeysAt.kept {w w' : World} (h : KeysAt w) (k : Kept (fun _ => False) w w') : KeysAt w' := fun i hi => k.cell (h i hi)
theorem notW (a : Word) : bits .xor .u32 (if IntKind.u32.signed = true then -1 else IntKind.u32.max) (iW a) = iW (~~~ a) := by
  have e : (if IntKind.u32.signed = true then -1 else IntKind.u32.max) = iW (BitVec.allOnes 32) := by decide
  rw [e, xorW]
  congr 1
attribute [local go_sem] xorW addW andW notW
set_option maxRecDepth 100000 in
set_option maxHeartbeats 8000000 in
theorem piece_any (h : Nat → Word) (a : Option Addr) (len cap : Nat) (b : Nat → Byte) (w : World) (hkey : KeysAt w) (hc : BytesAt w a len b) (hp : 64 ≤ len) (hl : len ≤ 140737488355328) :
    Calls Tryd.prog 62 #[.agg (Ws 8 h), .slice a len cap] w fun r w' => r = .returned (.agg (Ws 8 (comp h b))) ∧ Kept (fun _ => False) w w' := by
  go_enter Tryd.func62, Tryd.ntmps62
  go_upto_region 1 with fail
  generalize hw0 : World.alloc (World.alloc w _) _ = w1
  have h2 : RowW w1 w.heap.size 94 8 h := by rw [← hw0]; exact (RowW.new w 94 8 h).alloc _
  have h4 : RowW w1 (w.heap.size + 1) 94 8 (fun _ => 0#32) := by
    rw [← hw0]
    have := RowW.new (w.alloc (.cells (Ws 8 h) 94)) 94 8 (fun _ => 0#32)
    rw [size_alloc] at this
    exact this
  have hK : Kept (fun _ => False) w w1 := by rw [← hw0]; exact ((Kept.refl _ w).alloc _).alloc _
  have hc1 := hc.kept hK
  clear hw0
  go_upto_region 2 with (first
    | (go_at_call 70; go_loud (refine (schedule_any a len cap b w1 hc1 hp hl).mono ?_); rintro r w2 ⟨rfl, hk2⟩)
    | (refine wpList_store_row rfl 103 (.tmp 5) (.tmp 14) rfl w2.heap.size (Ws 64 (S b)) rfl rfl 103 _ (new103 w2) (info103 _) (by rw [Ws_size, Ws_size]) (Ws_one _ _) ?_))
  generalize hw0 : World.setRow (World.alloc w2 _) _ _ = w3
  have k3 : RowW w3 w2.heap.size 103 64 (S b) := by rw [← hw0]; exact RowW.row (new103 w2)
  have k2 : RowW w3 w.heap.size 94 8 h := by
    rw [← hw0]
    refine RowW.rowOther (RowW.alloc (hk2.at h2 (fun h => h)) _) ?_ _
    have := hk2.size; have := h2.lt; omega
  have k4 : RowW w3 (w.heap.size + 1) 94 8 (fun _ => 0#32) := by
    rw [← hw0]
    refine RowW.rowOther (RowW.alloc (hk2.at h4 (fun h => h)) _) ?_ _
    have := hk2.size; have := h4.lt; omega
  have hK3 : Kept (fun _ => False) w w3 := by
    rw [← hw0]
    exact ((hK.trans hk2 (fun _ _ h => h)).alloc _).setRowNew (by have := hK.size; have := hk2.size; omega) _
  have hz2 : w.heap.size + 2 ≤ w2.heap.size := by have := h4.lt; have := hk2.size; omega
  have hz3 : w2.heap.size + 1 ≤ w3.heap.size := k3.lt
  generalize hg5 : w2.heap.size = g5 at *
  clear hw0 hg5 h2 h4 hk2 hK hc1
  go_upto_region 3 with (first
    | (refine wpList_load_row rfl 94 (.tmp 2) rfl w.heap.size rfl 94 (Ws 8 h) (0, 0) _ k2 Tryd.underlying94 rfl (info94 _) ?_)
    | (refine wpList_store_row rfl 94 (.tmp 6) (.tmp 15) rfl w3.heap.size (Ws 8 h) rfl rfl 94 _ (new94 w3) (info94 _) (by rw [Ws_size, Ws_size]) (Ws_one _ _) ?_))
  generalize hw0 : World.setRow (World.alloc w3 _) _ _ = w4
  have m6 : RowW w4 w3.heap.size 94 8 (Rn b h 0) := by rw [← hw0]; exact RowW.row (new94 w3)
  have m5 : RowW w4 g5 103 64 (S b) := by rw [← hw0]; exact RowW.rowOther (RowW.alloc k3 _) (by omega) _
  have m2 : RowW w4 w.heap.size 94 8 h := by rw [← hw0]; exact RowW.rowOther (RowW.alloc k2 _) (by omega) _
  have m4 : RowW w4 (w.heap.size + 1) 94 8 (fun _ => 0#32) := by rw [← hw0]; exact RowW.rowOther (RowW.alloc k4 _) (by omega) _
  have hK4 : Kept (fun _ => False) w w4 := by rw [← hw0]; exact (hK3.alloc _).setRowNew (by omega) _
  generalize hg6 : w3.heap.size = g6 at *
  have q56 : g5 < g6 := by omega
  have q25 : w.heap.size + 2 ≤ g5 := hz2
  clear hw0 hg6 k2 k3 k4 hK3 hz2 hz3
  go_wp2_with fail
  go_loopg [16] 65 (fun k i wr => ∃ n : Nat, n + k = 65 ∧ n ≤ 64 ∧ i = .int .i64 (n : Int) ∧ RowW wr g6 94 8 (Rn b h n) ∧ RowW wr g5 103 64 (S b) ∧ RowW wr w.heap.size 94 8 h ∧ RowW wr (w.heap.size + 1) 94 8 (fun _ => 0#32) ∧ Kept (fun _ => False) w wr)
  case atStart => exact ⟨0, by omega, by omega, rfl, m6, m5, m2, m4, hK4⟩
  case round =>
    clear m6 m5 m2 m4 hK4
    obtain ⟨n, hn, hnl, rfl, m6, m5, m2, m4, hK⟩ := hrel
    have Hn := Lib.hid hn
    clear hn
    by_cases hlt : n < 64
    · have q : (n : Int) < 64 := by omega
      have q0 : (0 : Int) ≤ n := by omega
      have kn := hkey.kept hK n hlt
      have sn := m5.cell (i := n) hlt
      obtain ⟨v, hv⟩ : ∃ v, v = Rn b h n := ⟨_, rfl⟩
      rw [← hv] at m6
      have HV := Lib.hid hv
      clear hv
      have c0 := m6.cell (i := 0) (by omega)
      have c1 := m6.cell (i := 1) (by omega)
      have c2 := m6.cell (i := 2) (by omega)
      have c3 := m6.cell (i := 3) (by omega)
      have c4 := m6.cell (i := 4) (by omega)
      have c5 := m6.cell (i := 5) (by omega)
      have c6 := m6.cell (i := 6) (by omega)
      have c7 := m6.cell (i := 7) (by omega)
      go_upto_region 6 with fail
      refine region_still (by kernel_rfl) (by kernel_rfl) ?_
      iterate 6 (refine wpStill_step (fun K hK => ?_); go_simp; (try go_bits); refine hK _ ?_; clear hK K)
      refine wpStill_nil ?_
      go_upto_region 7 with fail
      refine region_still (by kernel_rfl) (by kernel_rfl) ?_
      iterate 3 (refine wpStill_step (fun K hK => ?_); go_simp; (try go_bits); refine hK _ ?_; clear hK K)
      (refine wpStill_step (fun K hK => ?_); go_simp; refine ⟨_, rot_6 _ _, hK _ ?_⟩; clear hK K)
      iterate 1 (refine wpStill_step (fun K hK => ?_); go_simp; (try go_bits); refine hK _ ?_; clear hK K)
      (refine wpStill_step (fun K hK => ?_); go_simp; refine ⟨_, rot_11 _ _, hK _ ?_⟩; clear hK K)
      iterate 2 (refine wpStill_step (fun K hK => ?_); go_simp; (try go_bits); refine hK _ ?_; clear hK K)
      (refine wpStill_step (fun K hK => ?_); go_simp; refine ⟨_, rot_25 _ _, hK _ ?_⟩; clear hK K)
      iterate 22 (refine wpStill_step (fun K hK => ?_); go_simp; (try go_bits); refine hK _ ?_; clear hK K)
      refine wpStill_nil ?_
      go_upto_region 8 with fail
      refine region_still (by kernel_rfl) (by kernel_rfl) ?_
      iterate 1 (refine wpStill_step (fun K hK => ?_); go_simp; (try go_bits); refine hK _ ?_; clear hK K)
      (refine wpStill_step (fun K hK => ?_); go_simp; refine ⟨_, rot_2 _ _, hK _ ?_⟩; clear hK K)
      iterate 1 (refine wpStill_step (fun K hK => ?_); go_simp; (try go_bits); refine hK _ ?_; clear hK K)
      (refine wpStill_step (fun K hK => ?_); go_simp; refine ⟨_, rot_13 _ _, hK _ ?_⟩; clear hK K)
      iterate 2 (refine wpStill_step (fun K hK => ?_); go_simp; (try go_bits); refine hK _ ?_; clear hK K)
      (refine wpStill_step (fun K hK => ?_); go_simp; refine ⟨_, rot_22 _ _, hK _ ?_⟩; clear hK K)
      iterate 18 (refine wpStill_step (fun K hK => ?_); go_simp; (try go_bits); refine hK _ ?_; clear hK K)
      refine wpStill_nil ?_
      go_upto_region 9 with fail
      clear c0 kn sn
      have c0 := m6.cell (i := 0) (by omega)
      go_wp2_with (refine wpList_store_row rfl 94 (.tmp 6) (.tmp 96) rfl g6 (Ws 8 (rnd v (kk n) (S b n))) (by rfl) (by rfl) 94 _ m6 (info94 _) (by rw [Ws_size, Ws_size]) (Ws_one _ _) ?_)
      go_roundg (gk - 1)
      case measure => have := Hn.out; omega
      case rel =>
        have := Hn.out
        have hz := m4.lt
        refine ⟨n + 1, by omega, by omega, by go_num, ?_, ?_, ?_, ?_, (hK.drew.drew.drew).setRowNew (by omega) _⟩
        · have : Rn b h (n + 1) = rnd v (kk n) (S b n) := by rw [HV.out]; rfl
          rw [this]
          exact RowW.row (w := World.drew _) m6
        · exact RowW.rowOther (w := World.drew _) m5 (by omega) _
        · exact RowW.rowOther (w := World.drew _) m2 (by omega) _
        · exact RowW.rowOther (w := World.drew _) m4 (by omega) _
    · obtain rfl : n = 64 := by omega
      have q : ¬ ((64 : Nat) : Int) < 64 := by omega
      clear hnl hlt
      go_wp2_with fail
      go_loopg [98] 9 (fun k i wr => ∃ n : Nat, n + k = 9 ∧ n ≤ 8 ∧ i = .int .i64 (n : Int) ∧ RowW wr g6 94 8 (Rn b h 64) ∧ RowW wr w.heap.size 94 8 (Sm h (Rn b h 64) n) ∧ RowW wr (w.heap.size + 1) 94 8 (fun _ => 0#32) ∧ Kept (fun _ => False) w wr)
      case atStart => exact ⟨0, by omega, by omega, rfl, m6, m2, m4, hK⟩
      case round =>
        clear m6 m5 m2 m4 hK Hn
        obtain ⟨n, hn, hnl, rfl, m6, m2, m4, hK⟩ := hrel
        have Hn := Lib.hid hn
        clear hn
        by_cases hlt : n < 8
        · have q : (n : Int) < 8 := by omega
          have q0 : (0 : Int) ≤ n := by omega
          have d2 := m2.cell (i := n) hlt
          have d6 := m6.cell (i := n) hlt
          have f2 := m2.free n
          have hs : Sm h (Rn b h 64) n n = h n := by unfold Sm; rw [if_neg (by omega)]
          rw [hs] at d2
          clear hs
          generalize hv : Rn b h 64 = v at *
          have HV := Lib.hid hv
          clear hv
          go_upto_region 14 with fail
          refine region_tail 8 (by kernel_rfl) (by kernel_rfl) ?_
          simp only [List.take_succ_cons, List.take_zero, List.drop_succ_cons, List.drop_zero]
          iterate 8 (refine wpStill_step (fun K hK => ?_); go_simp; (try go_bits); refine hK _ ?_; clear hK K)
          refine wpStill_nil ?_
          go_wp2_with fail
          go_roundg (gk - 1)
          case measure => have := Hn.out; omega
          case rel =>
            have := Hn.out
            have hz := m4.lt
            refine ⟨n + 1, by omega, by omega, by go_num, RowW.other (w := World.drew _) m6 (by simp; omega) _, ?_, RowW.other (w := World.drew _) m4 (by simp) _, (hK.drew).setCell (fun h => absurd h (by simp)) _⟩
            rw [← Sm_next]
            exact RowW.set (w := World.drew _) m2 n _
        · obtain rfl : n = 8 := by omega
          have q : ¬ ((8 : Nat) : Int) < 8 := by omega
          have hS : Ws 8 (Sm h (Rn b h 64) 8) = Ws 8 (comp h b) := Ws_congr (fun i hi => if_pos hi)
          go_wp2_with (first | (refine wpList_load_row rfl 94 (.tmp 2) rfl w.heap.size rfl 94 (Ws 8 (Sm h (Rn b h 64) 8)) (0, 0) _ m2 Tryd.underlying94 rfl (info94 _) ?_) | (refine wpList_store_row rfl 94 (.tmp 4) (.tmp 110) rfl (w.heap.size + 1) (Ws 8 (Sm h (Rn b h 64) 8)) rfl rfl 94 _ m4 (info94 _) (by rw [Ws_size, Ws_size]) (Ws_one _ _) ?_))
          exact bodyPost_ret (v := .agg (Ws 8 (Sm h (Rn b h 64) 8))) (results_cell_row rfl _ _ (w.heap.size + 1) 94 _ (0, 0) _ rfl (RowW.row m4) Tryd.underlying94 rfl (info94 _)) rfl ⟨by rw [hS], hK.setRowNew (by omega) _⟩
end Go.Proofs.YtpekibadleghbaaDoor
