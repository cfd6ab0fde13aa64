/- Printed for this claim. -/
import Derived.Test.YtahlmlhdfoijhaaPQx0
import Derived.Test.YtahlmlhdfoijhaaPQx2
namespace Go.Proofs.Ytahlmlhdfoijhaa.PQ
open Go.RowKit Go.Proofs.YtahlmlhdfoijhaaW.PrintWords Go.Proofs.YtahlmlhdfoijhaaW.PrintLast Go.Proofs.YtahlmlhdfoijhaaW.PrintMore
attribute [local go_sem] max2_int min2_int max_two min_two max_three min_three max_four min_four   -- for this text's walks alone
set_option linter.unusedVariables false
set_option linter.unusedSimpArgs false

/-! ### cloisterref20_Right: function 14 -/
mutual
def cloisterref20_Right.l0 : Nat → List (S29) → Int → Option (Bool)
  | 0, _, _ => none
  | k + 1, x0, x3 => if x3 < (x0.length : Int) then (if 0 ≤ x3 then ((cloisterref20_in.f ((rd_T29 x0 x3).f0) 0).bind fun t103 => (if t103 = true then ((cloisterref20_in.f ((rd_T29 x0 x3).f1) 0).bind fun t104 => (if t104 = true then ((cloisterref20_in.f ((rd_T29 x0 x3).f2) 0).bind fun t105 => (if t105 = true then ((cloisterref20_in.f ((rd_T29 x0 x3).f3) (-1)).bind fun t106 => (if t106 = true then ((cloisterref20_in.f ((rd_T29 x0 x3).f4) (-1)).bind fun t107 => (cloisterref20_Right.j1 k x0 x3 (!t107) ((rd_T29 x0 x3).f0) ((rd_T29 x0 x3).f1) ((rd_T29 x0 x3).f2) ((rd_T29 x0 x3).f3) ((rd_T29 x0 x3).f4))) else (cloisterref20_Right.j1 k x0 x3 true ((rd_T29 x0 x3).f0) ((rd_T29 x0 x3).f1) ((rd_T29 x0 x3).f2) ((rd_T29 x0 x3).f3) ((rd_T29 x0 x3).f4)))) else (cloisterref20_Right.j1 k x0 x3 true ((rd_T29 x0 x3).f0) ((rd_T29 x0 x3).f1) ((rd_T29 x0 x3).f2) ((rd_T29 x0 x3).f3) ((rd_T29 x0 x3).f4)))) else (cloisterref20_Right.j1 k x0 x3 true ((rd_T29 x0 x3).f0) ((rd_T29 x0 x3).f1) ((rd_T29 x0 x3).f2) ((rd_T29 x0 x3).f3) ((rd_T29 x0 x3).f4)))) else (cloisterref20_Right.j1 k x0 x3 true ((rd_T29 x0 x3).f0) ((rd_T29 x0 x3).f1) ((rd_T29 x0 x3).f2) ((rd_T29 x0 x3).f3) ((rd_T29 x0 x3).f4)))) else (none)) else (some true)
def cloisterref20_Right.j1 : Nat → List (S29) → Int → Bool → Int → Int → Int → Int → Int → Option (Bool)
  | 0, _, _, _, _, _, _, _, _ => none
  | k + 1, x0, x3, x45, x103000, x103001, x103002, x103003, x103004 => if x45 = true then (some false) else (if x103001 = 0 then (if x103002 = 0 then (if x103003 < 0 then (if x103004 < 0 then (some false) else (if x3 > 0 then (if 0 ≤ (wrap64 (x3 - 1)) then (if (wrap64 (x3 - 1)) < (x0.length : Int) then (if ((rd_T29 x0 (wrap64 (x3 - 1))).f0) ≥ x103000 then (some false) else (cloisterref20_Right.l0 k x0 (wrap64 (x3 + 1)))) else (none)) else (none)) else (cloisterref20_Right.l0 k x0 (wrap64 (x3 + 1))))) else (if x3 > 0 then (if 0 ≤ (wrap64 (x3 - 1)) then (if (wrap64 (x3 - 1)) < (x0.length : Int) then (if ((rd_T29 x0 (wrap64 (x3 - 1))).f0) ≥ x103000 then (some false) else (cloisterref20_Right.l0 k x0 (wrap64 (x3 + 1)))) else (none)) else (none)) else (cloisterref20_Right.l0 k x0 (wrap64 (x3 + 1))))) else (if x3 > 0 then (if 0 ≤ (wrap64 (x3 - 1)) then (if (wrap64 (x3 - 1)) < (x0.length : Int) then (if ((rd_T29 x0 (wrap64 (x3 - 1))).f0) ≥ x103000 then (some false) else (cloisterref20_Right.l0 k x0 (wrap64 (x3 + 1)))) else (none)) else (none)) else (cloisterref20_Right.l0 k x0 (wrap64 (x3 + 1))))) else (if x3 > 0 then (if 0 ≤ (wrap64 (x3 - 1)) then (if (wrap64 (x3 - 1)) < (x0.length : Int) then (if ((rd_T29 x0 (wrap64 (x3 - 1))).f0) ≥ x103000 then (some false) else (cloisterref20_Right.l0 k x0 (wrap64 (x3 + 1)))) else (none)) else (none)) else (cloisterref20_Right.l0 k x0 (wrap64 (x3 + 1)))))
end
def cloisterref20_Right.f (k : Nat) (l0 : List (S29)) : Option (Bool) := if (l0.length : Int) > 8 then (some false) else (cloisterref20_Right.l0 k l0 0)
theorem cloisterref20_Right.mono_l : ∀ k, (∀ y0 y1, LeO (cloisterref20_Right.l0 k y0 y1) (cloisterref20_Right.l0 (k + 1) y0 y1)) ∧ (∀ y0 y1 y2 y3 y4 y5 y6 y7, LeO (cloisterref20_Right.j1 k y0 y1 y2 y3 y4 y5 y6 y7) (cloisterref20_Right.j1 (k + 1) y0 y1 y2 y3 y4 y5 y6 y7))
  | 0 => ⟨fun _ _ r h => by simp [cloisterref20_Right.l0] at h, fun _ _ _ _ _ _ _ _ r h => by simp [cloisterref20_Right.j1] at h⟩
  | k + 1 => by
    obtain ⟨ih0, ih1⟩ := cloisterref20_Right.mono_l k
    refine ⟨?_, ?_⟩
    · intro y0 y1
      unfold cloisterref20_Right.l0
      repeat' first
      | (with_reducible exact ih0 _ _)
      | (with_reducible exact ih1 _ _ _ _ _ _ _ _)
      | (with_reducible exact LeO.refl _)
      | (with_reducible exact LeO.none _)
      | (with_reducible refine LeO.ite ?_ ?_)
      | (with_reducible refine LeO.bind ?_ (fun _ => ?_))
      | exact ih0 _ _
      | exact ih1 _ _ _ _ _ _ _ _
      | exact LeO.none _
      | refine LeO.ite ?_ ?_
      | refine LeO.bind ?_ (fun _ => ?_)
    · intro y0 y1 y2 y3 y4 y5 y6 y7
      unfold cloisterref20_Right.j1
      repeat' first
      | (with_reducible exact ih0 _ _)
      | (with_reducible exact ih1 _ _ _ _ _ _ _ _)
      | (with_reducible exact LeO.refl _)
      | (with_reducible exact LeO.none _)
      | (with_reducible refine LeO.ite ?_ ?_)
      | (with_reducible refine LeO.bind ?_ (fun _ => ?_))
      | exact ih0 _ _
      | exact ih1 _ _ _ _ _ _ _ _
      | exact LeO.none _
      | refine LeO.ite ?_ ?_
      | refine LeO.bind ?_ (fun _ => ?_)
theorem cloisterref20_Right.mono : ∀ a0 k, LeO (cloisterref20_Right.f k a0) (cloisterref20_Right.f (k + 1) a0) := by
  intro a0 k
  obtain ⟨ih0, ih1⟩ := cloisterref20_Right.mono_l k
  unfold cloisterref20_Right.f
  repeat' first
      | (with_reducible exact ih0 _ _)
      | (with_reducible exact ih1 _ _ _ _ _ _ _ _)
      | (with_reducible exact LeO.refl _)
      | (with_reducible exact LeO.none _)
      | (with_reducible refine LeO.ite ?_ ?_)
      | (with_reducible refine LeO.bind ?_ (fun _ => ?_))
      | exact ih0 _ _
      | exact ih1 _ _ _ _ _ _ _ _
      | exact LeO.none _
      | refine LeO.ite ?_ ?_
      | refine LeO.bind ?_ (fun _ => ?_)
set_option maxHeartbeats 8000000 in
set_option maxRecDepth 100000 in
theorem cloisterref20_Right.calls (k : Nat) (A0 : Option Addr) (c0 : Nat) (l0 : List (S29)) (r : Bool) (w : World) (hr0 : Kd.C k29 w A0 l0.length l0) (hc0 : l0.length ≤ c0) (h : cloisterref20_Right.f k l0 = some r) :
    Calls Try.prog 14 #[.slice A0 l0.length c0] w fun e w' => e = .returned (.bool r) ∧ Below w.heap.size w w' := by
  have hu29 := Try.underlying29
  have HR0 := Aside0.mk hr0
  have HC0 := Aside0.mk hc0
  clear hr0 hc0
  have HB := Aside0.mk (Below.refl w.heap.size w)
  have H : (if (l0.length : Int) > 8 then (some false) else (cloisterref20_Right.l0 k l0 0)) = some r := h
  clear h
  by_cases c2 : (l0.length : Int) > 8
  · rw [if_pos c2] at H
    have c2b0 : decide (8 < (l0.length : Int)) = true := decide_eq_true c2
    have c2b1 : decide (8 < l0.length) = true := decide_eq_true (by omega)
    clear c2
    obtain rfl := Option.some.inj H
    go_enter Try.func14, Try.ntmps14
    go_wp2
    repeat (go_quiet (fail); try go_wp2)
    go_ret
    exact ⟨by first | rfl | (simp [errW_none, errW_some] <;> rfl) | (simp [*, errW_none, errW_some] <;> rfl), by repeat (first | (with_reducible first | exact HB.out | apply below_alloc | apply pw_below_drewN | apply below_drew1) | exact HB.out)⟩
  · rw [if_neg c2] at H
    have c2b0 : decide (8 < (l0.length : Int)) = false := decide_eq_false c2
    have c2b1 : decide (8 < l0.length) = false := decide_eq_false (by omega)
    clear c2
    have H' := Aside0.mk H
    clear H
    go_enter Try.func14, Try.ntmps14
    go_wp2
    repeat (go_quiet (fail); try go_wp2)
    go_loopg [3] k (fun kq v3 w' => ∃ (x3_1 : Int), v3 = .int .i64 x3_1 ∧ Aside0 (cloisterref20_Right.l0 kq l0 x3_1 = some r) ∧ Aside0 (kq ≤ k) ∧ Aside0 (Below w.heap.size w w'))
    case atStart => exact ⟨(0), (by first | rfl | (simp; done) | (simp [*]; done)), H', ⟨Nat.le_refl _⟩, ⟨by repeat (first | (with_reducible first | exact HB.out | apply below_alloc | apply pw_below_drewN | apply below_drew1) | exact HB.out)⟩⟩
    case round =>
      clear H'
      try clear c1
      try clear c2
      try clear c2b0
      try clear c2b1
      try clear p2
      obtain ⟨x3_1, rfl, HA, HK1, HB⟩ := hrel
      cases gk with
      | zero => exact absurd HA.out (by simp [cloisterref20_Right.l0])
      | succ k1 =>
        have H := HA.out
        clear HA
        simp only [cloisterref20_Right.l0] at H
        by_cases c3 : x3_1 < (l0.length : Int)
        · rw [if_pos c3] at H
          have c3b0 : decide (x3_1 < (l0.length : Int)) = true := decide_eq_true c3
          clear c3
          by_cases c4 : 0 ≤ x3_1
          · rw [if_pos c4] at H
            have c4b0 : decide (0 ≤ x3_1) = true := decide_eq_true c4
            clear c4
            have HC5 := Aside0.mk H
            clear H
            have p101 : 0 ≤ (x3_1 : Int) := of_decide_eq_true (by first | (with_reducible assumption) | assumption)
            have q101 : x3_1 < (l0.length : Int) := of_decide_eq_true (by first | (with_reducible assumption) | assumption)
            obtain ⟨ad101, e101, hx101_0, hx101_1, hx101_2, hx101_3, hx101_4⟩ := at_T29 HR0.out x3_1 p101 q101
            cases e101
            replace hx101_0 := (HB.out.cell (World.block_lt_of_cell? w _ hx101_0)).trans hx101_0
            replace hx101_1 := (HB.out.cell (World.block_lt_of_cell? w _ hx101_1)).trans hx101_1
            replace hx101_2 := (HB.out.cell (World.block_lt_of_cell? w _ hx101_2)).trans hx101_2
            replace hx101_3 := (HB.out.cell (World.block_lt_of_cell? w _ hx101_3)).trans hx101_3
            replace hx101_4 := (HB.out.cell (World.block_lt_of_cell? w _ hx101_4)).trans hx101_4
            replace p101 := eq_true p101
            replace q101 := eq_true q101
            go_upto_region 7 with (first | ((with_reducible refine gate_dst (N := 4) rfl ?_); refine box_event ?hg (N := 4) ?hd (cs := #[.int .i64 0, .int .i64 0, .int .i64 0, .int .i64 0, .int .i64 0]) (t := 29) ?hr ?_; (case hd => rfl); (case hg => rfl); (case hr => first | (go_simp; done) | (go_simp; rfl)); intro gb102 hg w6 hbox hb; have n0_ := Aside0.mk (below_step (by repeat (first | (with_reducible first | exact HB.out | apply below_alloc | apply pw_below_drewN | apply below_drew1) | exact HB.out)) hb); have n1_ := Aside0.mk (hbox); have n2_ := Aside0.mk ((by rw [hg]; exact (below_size (by repeat (first | (with_reducible first | exact HB.out | apply below_alloc | apply pw_below_drewN | apply below_drew1) | exact HB.out))) : w.heap.size ≤ gb102)); have n3_ := Aside0.mk ((by rw [hg]; exact (below_size (by repeat (first | (with_reducible first | exact HB.out | apply below_alloc | apply pw_below_drewN | apply below_drew1) | exact HB.out))) : w.heap.size ≤ gb102)); clear HB; have HB := n0_; have BK102 := n1_; have GW102 := n2_; have GE102 := n3_; clear n0_ n1_ n2_ n3_; clear hb hbox hg; have hcz7_0 : w6.cell? ⟨gb102, 0, none⟩ = some (.int .i64 0) := (blk_cell BK102.out 0).trans rfl; have hcz7_1 : w6.cell? ⟨gb102, 1, none⟩ = some (.int .i64 0) := (blk_cell BK102.out 1).trans rfl; have hcz7_2 : w6.cell? ⟨gb102, 2, none⟩ = some (.int .i64 0) := (blk_cell BK102.out 2).trans rfl; have hcz7_3 : w6.cell? ⟨gb102, 3, none⟩ = some (.int .i64 0) := (blk_cell BK102.out 3).trans rfl; have hcz7_4 : w6.cell? ⟨gb102, 4, none⟩ = some (.int .i64 0) := (blk_cell BK102.out 4).trans rfl; have hfz7_0 := blk_frozen BK102.out 0; have hfz7_1 := blk_frozen BK102.out 1; have hfz7_2 := blk_frozen BK102.out 2; have hfz7_3 := blk_frozen BK102.out 3; have hfz7_4 := blk_frozen BK102.out 4))
            repeat (go_quiet (first | ((with_reducible refine gate_dst (N := 4) rfl ?_); refine box_event ?hg (N := 4) ?hd (cs := #[.int .i64 0, .int .i64 0, .int .i64 0, .int .i64 0, .int .i64 0]) (t := 29) ?hr ?_; (case hd => rfl); (case hg => rfl); (case hr => first | (go_simp; done) | (go_simp; rfl)); intro gb102 hg w6 hbox hb; have n0_ := Aside0.mk (below_step (by repeat (first | (with_reducible first | exact HB.out | apply below_alloc | apply pw_below_drewN | apply below_drew1) | exact HB.out)) hb); have n1_ := Aside0.mk (hbox); have n2_ := Aside0.mk ((by rw [hg]; exact (below_size (by repeat (first | (with_reducible first | exact HB.out | apply below_alloc | apply pw_below_drewN | apply below_drew1) | exact HB.out))) : w.heap.size ≤ gb102)); have n3_ := Aside0.mk ((by rw [hg]; exact (below_size (by repeat (first | (with_reducible first | exact HB.out | apply below_alloc | apply pw_below_drewN | apply below_drew1) | exact HB.out))) : w.heap.size ≤ gb102)); clear HB; have HB := n0_; have BK102 := n1_; have GW102 := n2_; have GE102 := n3_; clear n0_ n1_ n2_ n3_; clear hb hbox hg; have hcz7_0 : w6.cell? ⟨gb102, 0, none⟩ = some (.int .i64 0) := (blk_cell BK102.out 0).trans rfl; have hcz7_1 : w6.cell? ⟨gb102, 1, none⟩ = some (.int .i64 0) := (blk_cell BK102.out 1).trans rfl; have hcz7_2 : w6.cell? ⟨gb102, 2, none⟩ = some (.int .i64 0) := (blk_cell BK102.out 2).trans rfl; have hcz7_3 : w6.cell? ⟨gb102, 3, none⟩ = some (.int .i64 0) := (blk_cell BK102.out 3).trans rfl; have hcz7_4 : w6.cell? ⟨gb102, 4, none⟩ = some (.int .i64 0) := (blk_cell BK102.out 4).trans rfl; have hfz7_0 := blk_frozen BK102.out 0; have hfz7_1 := blk_frozen BK102.out 1; have hfz7_2 := blk_frozen BK102.out 2; have hfz7_3 := blk_frozen BK102.out 3; have hfz7_4 := blk_frozen BK102.out 4)); go_upto_region 7 with (first | ((with_reducible refine gate_dst (N := 4) rfl ?_); refine box_event ?hg (N := 4) ?hd (cs := #[.int .i64 0, .int .i64 0, .int .i64 0, .int .i64 0, .int .i64 0]) (t := 29) ?hr ?_; (case hd => rfl); (case hg => rfl); (case hr => first | (go_simp; done) | (go_simp; rfl)); intro gb102 hg w6 hbox hb; have n0_ := Aside0.mk (below_step (by repeat (first | (with_reducible first | exact HB.out | apply below_alloc | apply pw_below_drewN | apply below_drew1) | exact HB.out)) hb); have n1_ := Aside0.mk (hbox); have n2_ := Aside0.mk ((by rw [hg]; exact (below_size (by repeat (first | (with_reducible first | exact HB.out | apply below_alloc | apply pw_below_drewN | apply below_drew1) | exact HB.out))) : w.heap.size ≤ gb102)); have n3_ := Aside0.mk ((by rw [hg]; exact (below_size (by repeat (first | (with_reducible first | exact HB.out | apply below_alloc | apply pw_below_drewN | apply below_drew1) | exact HB.out))) : w.heap.size ≤ gb102)); clear HB; have HB := n0_; have BK102 := n1_; have GW102 := n2_; have GE102 := n3_; clear n0_ n1_ n2_ n3_; clear hb hbox hg; have hcz7_0 : w6.cell? ⟨gb102, 0, none⟩ = some (.int .i64 0) := (blk_cell BK102.out 0).trans rfl; have hcz7_1 : w6.cell? ⟨gb102, 1, none⟩ = some (.int .i64 0) := (blk_cell BK102.out 1).trans rfl; have hcz7_2 : w6.cell? ⟨gb102, 2, none⟩ = some (.int .i64 0) := (blk_cell BK102.out 2).trans rfl; have hcz7_3 : w6.cell? ⟨gb102, 3, none⟩ = some (.int .i64 0) := (blk_cell BK102.out 3).trans rfl; have hcz7_4 : w6.cell? ⟨gb102, 4, none⟩ = some (.int .i64 0) := (blk_cell BK102.out 4).trans rfl; have hfz7_0 := blk_frozen BK102.out 0; have hfz7_1 := blk_frozen BK102.out 1; have hfz7_2 := blk_frozen BK102.out 2; have hfz7_3 := blk_frozen BK102.out 3; have hfz7_4 := blk_frozen BK102.out 4)))
            (try simp only [Act.put, List.setIfInBounds_toArray, List.set_cons_zero, List.set_cons_succ])
            go_cut [45] (fun v45 wc => ∃ (kq : Nat) (x45_4 : Bool), v45 = .bool x45_4 ∧ Aside0 (cloisterref20_Right.j1 kq l0 x3_1 x45_4 ((rd_T29 l0 x3_1).f0) ((rd_T29 l0 x3_1).f1) ((rd_T29 l0 x3_1).f2) ((rd_T29 l0 x3_1).f3) ((rd_T29 l0 x3_1).f4) = some r) ∧ Aside0 (kq ≤ k1) ∧ Aside0 (wc.heap[gb102]? = some (.cells #[.int .i64 ((rd_T29 l0 x3_1).f0), .int .i64 ((rd_T29 l0 x3_1).f1), .int .i64 ((rd_T29 l0 x3_1).f2), .int .i64 ((rd_T29 l0 x3_1).f3), .int .i64 ((rd_T29 l0 x3_1).f4)] 29 (0, 0))) ∧ Aside0 (Below w.heap.size w wc))
            case first =>
              have H := HC5.out
              clear HC5
              replace H := Option.bind_eq_some_iff.mp H
              obtain ⟨t103, A80, H⟩ := H
              replace H : (if t103 = true then ((cloisterref20_in.f ((rd_T29 l0 x3_1).f1) 0).bind fun t104 => (if t104 = true then ((cloisterref20_in.f ((rd_T29 l0 x3_1).f2) 0).bind fun t105 => (if t105 = true then ((cloisterref20_in.f ((rd_T29 l0 x3_1).f3) (-1)).bind fun t106 => (if t106 = true then ((cloisterref20_in.f ((rd_T29 l0 x3_1).f4) (-1)).bind fun t107 => (cloisterref20_Right.j1 k1 l0 x3_1 (!t107) ((rd_T29 l0 x3_1).f0) ((rd_T29 l0 x3_1).f1) ((rd_T29 l0 x3_1).f2) ((rd_T29 l0 x3_1).f3) ((rd_T29 l0 x3_1).f4))) else (cloisterref20_Right.j1 k1 l0 x3_1 true ((rd_T29 l0 x3_1).f0) ((rd_T29 l0 x3_1).f1) ((rd_T29 l0 x3_1).f2) ((rd_T29 l0 x3_1).f3) ((rd_T29 l0 x3_1).f4)))) else (cloisterref20_Right.j1 k1 l0 x3_1 true ((rd_T29 l0 x3_1).f0) ((rd_T29 l0 x3_1).f1) ((rd_T29 l0 x3_1).f2) ((rd_T29 l0 x3_1).f3) ((rd_T29 l0 x3_1).f4)))) else (cloisterref20_Right.j1 k1 l0 x3_1 true ((rd_T29 l0 x3_1).f0) ((rd_T29 l0 x3_1).f1) ((rd_T29 l0 x3_1).f2) ((rd_T29 l0 x3_1).f3) ((rd_T29 l0 x3_1).f4)))) else (cloisterref20_Right.j1 k1 l0 x3_1 true ((rd_T29 l0 x3_1).f0) ((rd_T29 l0 x3_1).f1) ((rd_T29 l0 x3_1).f2) ((rd_T29 l0 x3_1).f3) ((rd_T29 l0 x3_1).f4))) = some r := H
              have A8 := Aside0.mk A80
              clear A80
              by_cases c9 : t103 = true
              · subst c9
                have H1 : ((cloisterref20_in.f ((rd_T29 l0 x3_1).f1) 0).bind fun t104 => (if t104 = true then ((cloisterref20_in.f ((rd_T29 l0 x3_1).f2) 0).bind fun t105 => (if t105 = true then ((cloisterref20_in.f ((rd_T29 l0 x3_1).f3) (-1)).bind fun t106 => (if t106 = true then ((cloisterref20_in.f ((rd_T29 l0 x3_1).f4) (-1)).bind fun t107 => (cloisterref20_Right.j1 k1 l0 x3_1 (!t107) ((rd_T29 l0 x3_1).f0) ((rd_T29 l0 x3_1).f1) ((rd_T29 l0 x3_1).f2) ((rd_T29 l0 x3_1).f3) ((rd_T29 l0 x3_1).f4))) else (cloisterref20_Right.j1 k1 l0 x3_1 true ((rd_T29 l0 x3_1).f0) ((rd_T29 l0 x3_1).f1) ((rd_T29 l0 x3_1).f2) ((rd_T29 l0 x3_1).f3) ((rd_T29 l0 x3_1).f4)))) else (cloisterref20_Right.j1 k1 l0 x3_1 true ((rd_T29 l0 x3_1).f0) ((rd_T29 l0 x3_1).f1) ((rd_T29 l0 x3_1).f2) ((rd_T29 l0 x3_1).f3) ((rd_T29 l0 x3_1).f4)))) else (cloisterref20_Right.j1 k1 l0 x3_1 true ((rd_T29 l0 x3_1).f0) ((rd_T29 l0 x3_1).f1) ((rd_T29 l0 x3_1).f2) ((rd_T29 l0 x3_1).f3) ((rd_T29 l0 x3_1).f4)))) = some r := by rw [if_pos rfl] at H; exact H
                clear H
                have H := H1
                clear H1
                replace H := Option.bind_eq_some_iff.mp H
                obtain ⟨t104, A100, H⟩ := H
                replace H : (if t104 = true then ((cloisterref20_in.f ((rd_T29 l0 x3_1).f2) 0).bind fun t105 => (if t105 = true then ((cloisterref20_in.f ((rd_T29 l0 x3_1).f3) (-1)).bind fun t106 => (if t106 = true then ((cloisterref20_in.f ((rd_T29 l0 x3_1).f4) (-1)).bind fun t107 => (cloisterref20_Right.j1 k1 l0 x3_1 (!t107) ((rd_T29 l0 x3_1).f0) ((rd_T29 l0 x3_1).f1) ((rd_T29 l0 x3_1).f2) ((rd_T29 l0 x3_1).f3) ((rd_T29 l0 x3_1).f4))) else (cloisterref20_Right.j1 k1 l0 x3_1 true ((rd_T29 l0 x3_1).f0) ((rd_T29 l0 x3_1).f1) ((rd_T29 l0 x3_1).f2) ((rd_T29 l0 x3_1).f3) ((rd_T29 l0 x3_1).f4)))) else (cloisterref20_Right.j1 k1 l0 x3_1 true ((rd_T29 l0 x3_1).f0) ((rd_T29 l0 x3_1).f1) ((rd_T29 l0 x3_1).f2) ((rd_T29 l0 x3_1).f3) ((rd_T29 l0 x3_1).f4)))) else (cloisterref20_Right.j1 k1 l0 x3_1 true ((rd_T29 l0 x3_1).f0) ((rd_T29 l0 x3_1).f1) ((rd_T29 l0 x3_1).f2) ((rd_T29 l0 x3_1).f3) ((rd_T29 l0 x3_1).f4))) = some r := H
                have A10 := Aside0.mk A100
                clear A100
                by_cases c11 : t104 = true
                · subst c11
                  have H1 : ((cloisterref20_in.f ((rd_T29 l0 x3_1).f2) 0).bind fun t105 => (if t105 = true then ((cloisterref20_in.f ((rd_T29 l0 x3_1).f3) (-1)).bind fun t106 => (if t106 = true then ((cloisterref20_in.f ((rd_T29 l0 x3_1).f4) (-1)).bind fun t107 => (cloisterref20_Right.j1 k1 l0 x3_1 (!t107) ((rd_T29 l0 x3_1).f0) ((rd_T29 l0 x3_1).f1) ((rd_T29 l0 x3_1).f2) ((rd_T29 l0 x3_1).f3) ((rd_T29 l0 x3_1).f4))) else (cloisterref20_Right.j1 k1 l0 x3_1 true ((rd_T29 l0 x3_1).f0) ((rd_T29 l0 x3_1).f1) ((rd_T29 l0 x3_1).f2) ((rd_T29 l0 x3_1).f3) ((rd_T29 l0 x3_1).f4)))) else (cloisterref20_Right.j1 k1 l0 x3_1 true ((rd_T29 l0 x3_1).f0) ((rd_T29 l0 x3_1).f1) ((rd_T29 l0 x3_1).f2) ((rd_T29 l0 x3_1).f3) ((rd_T29 l0 x3_1).f4)))) = some r := by rw [if_pos rfl] at H; exact H
                  clear H
                  have H := H1
                  clear H1
                  replace H := Option.bind_eq_some_iff.mp H
                  obtain ⟨t105, A120, H⟩ := H
                  replace H : (if t105 = true then ((cloisterref20_in.f ((rd_T29 l0 x3_1).f3) (-1)).bind fun t106 => (if t106 = true then ((cloisterref20_in.f ((rd_T29 l0 x3_1).f4) (-1)).bind fun t107 => (cloisterref20_Right.j1 k1 l0 x3_1 (!t107) ((rd_T29 l0 x3_1).f0) ((rd_T29 l0 x3_1).f1) ((rd_T29 l0 x3_1).f2) ((rd_T29 l0 x3_1).f3) ((rd_T29 l0 x3_1).f4))) else (cloisterref20_Right.j1 k1 l0 x3_1 true ((rd_T29 l0 x3_1).f0) ((rd_T29 l0 x3_1).f1) ((rd_T29 l0 x3_1).f2) ((rd_T29 l0 x3_1).f3) ((rd_T29 l0 x3_1).f4)))) else (cloisterref20_Right.j1 k1 l0 x3_1 true ((rd_T29 l0 x3_1).f0) ((rd_T29 l0 x3_1).f1) ((rd_T29 l0 x3_1).f2) ((rd_T29 l0 x3_1).f3) ((rd_T29 l0 x3_1).f4))) = some r := H
                  have A12 := Aside0.mk A120
                  clear A120
                  by_cases c13 : t105 = true
                  · subst c13
                    have H1 : ((cloisterref20_in.f ((rd_T29 l0 x3_1).f3) (-1)).bind fun t106 => (if t106 = true then ((cloisterref20_in.f ((rd_T29 l0 x3_1).f4) (-1)).bind fun t107 => (cloisterref20_Right.j1 k1 l0 x3_1 (!t107) ((rd_T29 l0 x3_1).f0) ((rd_T29 l0 x3_1).f1) ((rd_T29 l0 x3_1).f2) ((rd_T29 l0 x3_1).f3) ((rd_T29 l0 x3_1).f4))) else (cloisterref20_Right.j1 k1 l0 x3_1 true ((rd_T29 l0 x3_1).f0) ((rd_T29 l0 x3_1).f1) ((rd_T29 l0 x3_1).f2) ((rd_T29 l0 x3_1).f3) ((rd_T29 l0 x3_1).f4)))) = some r := by rw [if_pos rfl] at H; exact H
                    clear H
                    have H := H1
                    clear H1
                    replace H := Option.bind_eq_some_iff.mp H
                    obtain ⟨t106, A140, H⟩ := H
                    replace H : (if t106 = true then ((cloisterref20_in.f ((rd_T29 l0 x3_1).f4) (-1)).bind fun t107 => (cloisterref20_Right.j1 k1 l0 x3_1 (!t107) ((rd_T29 l0 x3_1).f0) ((rd_T29 l0 x3_1).f1) ((rd_T29 l0 x3_1).f2) ((rd_T29 l0 x3_1).f3) ((rd_T29 l0 x3_1).f4))) else (cloisterref20_Right.j1 k1 l0 x3_1 true ((rd_T29 l0 x3_1).f0) ((rd_T29 l0 x3_1).f1) ((rd_T29 l0 x3_1).f2) ((rd_T29 l0 x3_1).f3) ((rd_T29 l0 x3_1).f4))) = some r := H
                    have A14 := Aside0.mk A140
                    clear A140
                    by_cases c15 : t106 = true
                    · subst c15
                      have H1 : ((cloisterref20_in.f ((rd_T29 l0 x3_1).f4) (-1)).bind fun t107 => (cloisterref20_Right.j1 k1 l0 x3_1 (!t107) ((rd_T29 l0 x3_1).f0) ((rd_T29 l0 x3_1).f1) ((rd_T29 l0 x3_1).f2) ((rd_T29 l0 x3_1).f3) ((rd_T29 l0 x3_1).f4))) = some r := by rw [if_pos rfl] at H; exact H
                      clear H
                      have H := H1
                      clear H1
                      replace H := Option.bind_eq_some_iff.mp H
                      obtain ⟨t107, A160, H⟩ := H
                      replace H : (cloisterref20_Right.j1 k1 l0 x3_1 (!t107) ((rd_T29 l0 x3_1).f0) ((rd_T29 l0 x3_1).f1) ((rd_T29 l0 x3_1).f2) ((rd_T29 l0 x3_1).f3) ((rd_T29 l0 x3_1).f4)) = some r := H
                      have A16 := Aside0.mk A160
                      clear A160
                      have H' := Aside0.mk H
                      clear H
                      have hcz17_0 : w6.cell? ⟨gb102, 0, none⟩ = some (.int .i64 0) := (blk_cell BK102.out 0).trans rfl
                      have hcz17_1 : w6.cell? ⟨gb102, 1, none⟩ = some (.int .i64 0) := (blk_cell BK102.out 1).trans rfl
                      have hcz17_2 : w6.cell? ⟨gb102, 2, none⟩ = some (.int .i64 0) := (blk_cell BK102.out 2).trans rfl
                      have hcz17_3 : w6.cell? ⟨gb102, 3, none⟩ = some (.int .i64 0) := (blk_cell BK102.out 3).trans rfl
                      have hcz17_4 : w6.cell? ⟨gb102, 4, none⟩ = some (.int .i64 0) := (blk_cell BK102.out 4).trans rfl
                      have hfz17_0 := blk_frozen BK102.out 0
                      have hfz17_1 := blk_frozen BK102.out 1
                      have hfz17_2 := blk_frozen BK102.out 2
                      have hfz17_3 := blk_frozen BK102.out 3
                      have hfz17_4 := blk_frozen BK102.out 4
                      go_wp2_with (first | (go_at_call 20; (with_reducible refine (cloisterref20_in.calls ((rd_T29 l0 x3_1).f0) 0 true _ A8.out).mono ?_); rintro e w' ⟨rfl, ⟨nd, rfl⟩⟩; (try first | exact ⟨rfl, _, World.drewN_drewN _ _ _⟩ | exact ⟨rfl, _, Eq.trans (World.drewN_drewN _ _ _) (congrArg (World.drewN _) (Nat.add_assoc _ _ _))⟩)) | (go_at_call 20; (with_reducible refine (cloisterref20_in.calls ((rd_T29 l0 x3_1).f1) 0 true _ A10.out).mono ?_); rintro e w' ⟨rfl, ⟨nd, rfl⟩⟩; (try first | exact ⟨rfl, _, World.drewN_drewN _ _ _⟩ | exact ⟨rfl, _, Eq.trans (World.drewN_drewN _ _ _) (congrArg (World.drewN _) (Nat.add_assoc _ _ _))⟩)) | (go_at_call 20; (with_reducible refine (cloisterref20_in.calls ((rd_T29 l0 x3_1).f2) 0 true _ A12.out).mono ?_); rintro e w' ⟨rfl, ⟨nd, rfl⟩⟩; (try first | exact ⟨rfl, _, World.drewN_drewN _ _ _⟩ | exact ⟨rfl, _, Eq.trans (World.drewN_drewN _ _ _) (congrArg (World.drewN _) (Nat.add_assoc _ _ _))⟩)) | (go_at_call 20; (with_reducible refine (cloisterref20_in.calls ((rd_T29 l0 x3_1).f3) (-1) true _ A14.out).mono ?_); rintro e w' ⟨rfl, ⟨nd, rfl⟩⟩; (try first | exact ⟨rfl, _, World.drewN_drewN _ _ _⟩ | exact ⟨rfl, _, Eq.trans (World.drewN_drewN _ _ _) (congrArg (World.drewN _) (Nat.add_assoc _ _ _))⟩)) | (go_at_call 20; (with_reducible refine (cloisterref20_in.calls ((rd_T29 l0 x3_1).f4) (-1) t107 _ A16.out).mono ?_); rintro e w' ⟨rfl, ⟨nd, rfl⟩⟩; (try first | exact ⟨rfl, _, World.drewN_drewN _ _ _⟩ | exact ⟨rfl, _, Eq.trans (World.drewN_drewN _ _ _) (congrArg (World.drewN _) (Nat.add_assoc _ _ _))⟩)))
                      repeat (go_quiet (first | (go_at_call 20; (with_reducible refine (cloisterref20_in.calls ((rd_T29 l0 x3_1).f0) 0 true _ A8.out).mono ?_); rintro e w' ⟨rfl, ⟨nd, rfl⟩⟩; (try first | exact ⟨rfl, _, World.drewN_drewN _ _ _⟩ | exact ⟨rfl, _, Eq.trans (World.drewN_drewN _ _ _) (congrArg (World.drewN _) (Nat.add_assoc _ _ _))⟩)) | (go_at_call 20; (with_reducible refine (cloisterref20_in.calls ((rd_T29 l0 x3_1).f1) 0 true _ A10.out).mono ?_); rintro e w' ⟨rfl, ⟨nd, rfl⟩⟩; (try first | exact ⟨rfl, _, World.drewN_drewN _ _ _⟩ | exact ⟨rfl, _, Eq.trans (World.drewN_drewN _ _ _) (congrArg (World.drewN _) (Nat.add_assoc _ _ _))⟩)) | (go_at_call 20; (with_reducible refine (cloisterref20_in.calls ((rd_T29 l0 x3_1).f2) 0 true _ A12.out).mono ?_); rintro e w' ⟨rfl, ⟨nd, rfl⟩⟩; (try first | exact ⟨rfl, _, World.drewN_drewN _ _ _⟩ | exact ⟨rfl, _, Eq.trans (World.drewN_drewN _ _ _) (congrArg (World.drewN _) (Nat.add_assoc _ _ _))⟩)) | (go_at_call 20; (with_reducible refine (cloisterref20_in.calls ((rd_T29 l0 x3_1).f3) (-1) true _ A14.out).mono ?_); rintro e w' ⟨rfl, ⟨nd, rfl⟩⟩; (try first | exact ⟨rfl, _, World.drewN_drewN _ _ _⟩ | exact ⟨rfl, _, Eq.trans (World.drewN_drewN _ _ _) (congrArg (World.drewN _) (Nat.add_assoc _ _ _))⟩)) | (go_at_call 20; (with_reducible refine (cloisterref20_in.calls ((rd_T29 l0 x3_1).f4) (-1) t107 _ A16.out).mono ?_); rintro e w' ⟨rfl, ⟨nd, rfl⟩⟩; (try first | exact ⟨rfl, _, World.drewN_drewN _ _ _⟩ | exact ⟨rfl, _, Eq.trans (World.drewN_drewN _ _ _) (congrArg (World.drewN _) (Nat.add_assoc _ _ _))⟩))); try go_wp2_with (first | (go_at_call 20; (with_reducible refine (cloisterref20_in.calls ((rd_T29 l0 x3_1).f0) 0 true _ A8.out).mono ?_); rintro e w' ⟨rfl, ⟨nd, rfl⟩⟩; (try first | exact ⟨rfl, _, World.drewN_drewN _ _ _⟩ | exact ⟨rfl, _, Eq.trans (World.drewN_drewN _ _ _) (congrArg (World.drewN _) (Nat.add_assoc _ _ _))⟩)) | (go_at_call 20; (with_reducible refine (cloisterref20_in.calls ((rd_T29 l0 x3_1).f1) 0 true _ A10.out).mono ?_); rintro e w' ⟨rfl, ⟨nd, rfl⟩⟩; (try first | exact ⟨rfl, _, World.drewN_drewN _ _ _⟩ | exact ⟨rfl, _, Eq.trans (World.drewN_drewN _ _ _) (congrArg (World.drewN _) (Nat.add_assoc _ _ _))⟩)) | (go_at_call 20; (with_reducible refine (cloisterref20_in.calls ((rd_T29 l0 x3_1).f2) 0 true _ A12.out).mono ?_); rintro e w' ⟨rfl, ⟨nd, rfl⟩⟩; (try first | exact ⟨rfl, _, World.drewN_drewN _ _ _⟩ | exact ⟨rfl, _, Eq.trans (World.drewN_drewN _ _ _) (congrArg (World.drewN _) (Nat.add_assoc _ _ _))⟩)) | (go_at_call 20; (with_reducible refine (cloisterref20_in.calls ((rd_T29 l0 x3_1).f3) (-1) true _ A14.out).mono ?_); rintro e w' ⟨rfl, ⟨nd, rfl⟩⟩; (try first | exact ⟨rfl, _, World.drewN_drewN _ _ _⟩ | exact ⟨rfl, _, Eq.trans (World.drewN_drewN _ _ _) (congrArg (World.drewN _) (Nat.add_assoc _ _ _))⟩)) | (go_at_call 20; (with_reducible refine (cloisterref20_in.calls ((rd_T29 l0 x3_1).f4) (-1) t107 _ A16.out).mono ?_); rintro e w' ⟨rfl, ⟨nd, rfl⟩⟩; (try first | exact ⟨rfl, _, World.drewN_drewN _ _ _⟩ | exact ⟨rfl, _, Eq.trans (World.drewN_drewN _ _ _) (congrArg (World.drewN _) (Nat.add_assoc _ _ _))⟩))))
                      go_meet
                      case rel => exact ⟨_, (!t107), (by first | rfl | (simp; done) | (simp [*]; done)), H', ⟨by have := HK1.out; first | omega | exact Nat.le_refl _⟩, ⟨by (with_reducible repeat (first | refine blk_drewN ?_ _ | refine blk_drew ?_ | refine blk_alloc ?_ _)); refine blk_put (cs := #[.int .i64 ((rd_T29 l0 x3_1).f0), .int .i64 ((rd_T29 l0 x3_1).f1), .int .i64 ((rd_T29 l0 x3_1).f2), .int .i64 ((rd_T29 l0 x3_1).f3), .int .i64 0]) ?_ 4 _ rfl; (with_reducible repeat (first | refine blk_drewN ?_ _ | refine blk_drew ?_ | refine blk_alloc ?_ _)); refine blk_put (cs := #[.int .i64 ((rd_T29 l0 x3_1).f0), .int .i64 ((rd_T29 l0 x3_1).f1), .int .i64 ((rd_T29 l0 x3_1).f2), .int .i64 0, .int .i64 0]) ?_ 3 _ rfl; (with_reducible repeat (first | refine blk_drewN ?_ _ | refine blk_drew ?_ | refine blk_alloc ?_ _)); refine blk_put (cs := #[.int .i64 ((rd_T29 l0 x3_1).f0), .int .i64 ((rd_T29 l0 x3_1).f1), .int .i64 0, .int .i64 0, .int .i64 0]) ?_ 2 _ rfl; (with_reducible repeat (first | refine blk_drewN ?_ _ | refine blk_drew ?_ | refine blk_alloc ?_ _)); refine blk_put (cs := #[.int .i64 ((rd_T29 l0 x3_1).f0), .int .i64 0, .int .i64 0, .int .i64 0, .int .i64 0]) ?_ 1 _ rfl; (with_reducible repeat (first | refine blk_drewN ?_ _ | refine blk_drew ?_ | refine blk_alloc ?_ _)); refine blk_put (cs := #[.int .i64 0, .int .i64 0, .int .i64 0, .int .i64 0, .int .i64 0]) ?_ 0 _ rfl; (with_reducible repeat (first | refine blk_drewN ?_ _ | refine blk_drew ?_ | refine blk_alloc ?_ _)); exact BK102.out⟩, ⟨by repeat (first | (with_reducible first | exact HB.out | apply below_alloc | apply pw_below_drewN | apply below_drew1 | refine below_set ?_ GE102.out) | exact HB.out)⟩⟩
                    · replace c15 := Bool.eq_false_iff.mpr c15
                      subst c15
                      have H1 : (cloisterref20_Right.j1 k1 l0 x3_1 true ((rd_T29 l0 x3_1).f0) ((rd_T29 l0 x3_1).f1) ((rd_T29 l0 x3_1).f2) ((rd_T29 l0 x3_1).f3) ((rd_T29 l0 x3_1).f4)) = some r := by rw [if_neg (show ¬ (false = true) by decide)] at H; exact H
                      clear H
                      have H := H1
                      clear H1
                      have H' := Aside0.mk H
                      clear H
                      have hcz18_0 : w6.cell? ⟨gb102, 0, none⟩ = some (.int .i64 0) := (blk_cell BK102.out 0).trans rfl
                      have hcz18_1 : w6.cell? ⟨gb102, 1, none⟩ = some (.int .i64 0) := (blk_cell BK102.out 1).trans rfl
                      have hcz18_2 : w6.cell? ⟨gb102, 2, none⟩ = some (.int .i64 0) := (blk_cell BK102.out 2).trans rfl
                      have hcz18_3 : w6.cell? ⟨gb102, 3, none⟩ = some (.int .i64 0) := (blk_cell BK102.out 3).trans rfl
                      have hcz18_4 : w6.cell? ⟨gb102, 4, none⟩ = some (.int .i64 0) := (blk_cell BK102.out 4).trans rfl
                      have hfz18_0 := blk_frozen BK102.out 0
                      have hfz18_1 := blk_frozen BK102.out 1
                      have hfz18_2 := blk_frozen BK102.out 2
                      have hfz18_3 := blk_frozen BK102.out 3
                      have hfz18_4 := blk_frozen BK102.out 4
                      go_wp2_with (first | (go_at_call 20; (with_reducible refine (cloisterref20_in.calls ((rd_T29 l0 x3_1).f0) 0 true _ A8.out).mono ?_); rintro e w' ⟨rfl, ⟨nd, rfl⟩⟩; (try first | exact ⟨rfl, _, World.drewN_drewN _ _ _⟩ | exact ⟨rfl, _, Eq.trans (World.drewN_drewN _ _ _) (congrArg (World.drewN _) (Nat.add_assoc _ _ _))⟩)) | (go_at_call 20; (with_reducible refine (cloisterref20_in.calls ((rd_T29 l0 x3_1).f1) 0 true _ A10.out).mono ?_); rintro e w' ⟨rfl, ⟨nd, rfl⟩⟩; (try first | exact ⟨rfl, _, World.drewN_drewN _ _ _⟩ | exact ⟨rfl, _, Eq.trans (World.drewN_drewN _ _ _) (congrArg (World.drewN _) (Nat.add_assoc _ _ _))⟩)) | (go_at_call 20; (with_reducible refine (cloisterref20_in.calls ((rd_T29 l0 x3_1).f2) 0 true _ A12.out).mono ?_); rintro e w' ⟨rfl, ⟨nd, rfl⟩⟩; (try first | exact ⟨rfl, _, World.drewN_drewN _ _ _⟩ | exact ⟨rfl, _, Eq.trans (World.drewN_drewN _ _ _) (congrArg (World.drewN _) (Nat.add_assoc _ _ _))⟩)) | (go_at_call 20; (with_reducible refine (cloisterref20_in.calls ((rd_T29 l0 x3_1).f3) (-1) false _ A14.out).mono ?_); rintro e w' ⟨rfl, ⟨nd, rfl⟩⟩; (try first | exact ⟨rfl, _, World.drewN_drewN _ _ _⟩ | exact ⟨rfl, _, Eq.trans (World.drewN_drewN _ _ _) (congrArg (World.drewN _) (Nat.add_assoc _ _ _))⟩)))
                      repeat (go_quiet (first | (go_at_call 20; (with_reducible refine (cloisterref20_in.calls ((rd_T29 l0 x3_1).f0) 0 true _ A8.out).mono ?_); rintro e w' ⟨rfl, ⟨nd, rfl⟩⟩; (try first | exact ⟨rfl, _, World.drewN_drewN _ _ _⟩ | exact ⟨rfl, _, Eq.trans (World.drewN_drewN _ _ _) (congrArg (World.drewN _) (Nat.add_assoc _ _ _))⟩)) | (go_at_call 20; (with_reducible refine (cloisterref20_in.calls ((rd_T29 l0 x3_1).f1) 0 true _ A10.out).mono ?_); rintro e w' ⟨rfl, ⟨nd, rfl⟩⟩; (try first | exact ⟨rfl, _, World.drewN_drewN _ _ _⟩ | exact ⟨rfl, _, Eq.trans (World.drewN_drewN _ _ _) (congrArg (World.drewN _) (Nat.add_assoc _ _ _))⟩)) | (go_at_call 20; (with_reducible refine (cloisterref20_in.calls ((rd_T29 l0 x3_1).f2) 0 true _ A12.out).mono ?_); rintro e w' ⟨rfl, ⟨nd, rfl⟩⟩; (try first | exact ⟨rfl, _, World.drewN_drewN _ _ _⟩ | exact ⟨rfl, _, Eq.trans (World.drewN_drewN _ _ _) (congrArg (World.drewN _) (Nat.add_assoc _ _ _))⟩)) | (go_at_call 20; (with_reducible refine (cloisterref20_in.calls ((rd_T29 l0 x3_1).f3) (-1) false _ A14.out).mono ?_); rintro e w' ⟨rfl, ⟨nd, rfl⟩⟩; (try first | exact ⟨rfl, _, World.drewN_drewN _ _ _⟩ | exact ⟨rfl, _, Eq.trans (World.drewN_drewN _ _ _) (congrArg (World.drewN _) (Nat.add_assoc _ _ _))⟩))); try go_wp2_with (first | (go_at_call 20; (with_reducible refine (cloisterref20_in.calls ((rd_T29 l0 x3_1).f0) 0 true _ A8.out).mono ?_); rintro e w' ⟨rfl, ⟨nd, rfl⟩⟩; (try first | exact ⟨rfl, _, World.drewN_drewN _ _ _⟩ | exact ⟨rfl, _, Eq.trans (World.drewN_drewN _ _ _) (congrArg (World.drewN _) (Nat.add_assoc _ _ _))⟩)) | (go_at_call 20; (with_reducible refine (cloisterref20_in.calls ((rd_T29 l0 x3_1).f1) 0 true _ A10.out).mono ?_); rintro e w' ⟨rfl, ⟨nd, rfl⟩⟩; (try first | exact ⟨rfl, _, World.drewN_drewN _ _ _⟩ | exact ⟨rfl, _, Eq.trans (World.drewN_drewN _ _ _) (congrArg (World.drewN _) (Nat.add_assoc _ _ _))⟩)) | (go_at_call 20; (with_reducible refine (cloisterref20_in.calls ((rd_T29 l0 x3_1).f2) 0 true _ A12.out).mono ?_); rintro e w' ⟨rfl, ⟨nd, rfl⟩⟩; (try first | exact ⟨rfl, _, World.drewN_drewN _ _ _⟩ | exact ⟨rfl, _, Eq.trans (World.drewN_drewN _ _ _) (congrArg (World.drewN _) (Nat.add_assoc _ _ _))⟩)) | (go_at_call 20; (with_reducible refine (cloisterref20_in.calls ((rd_T29 l0 x3_1).f3) (-1) false _ A14.out).mono ?_); rintro e w' ⟨rfl, ⟨nd, rfl⟩⟩; (try first | exact ⟨rfl, _, World.drewN_drewN _ _ _⟩ | exact ⟨rfl, _, Eq.trans (World.drewN_drewN _ _ _) (congrArg (World.drewN _) (Nat.add_assoc _ _ _))⟩))))
                      go_meet
                      case rel => exact ⟨_, (true), (by first | rfl | (simp; done) | (simp [*]; done)), H', ⟨by have := HK1.out; first | omega | exact Nat.le_refl _⟩, ⟨by (with_reducible repeat (first | refine blk_drewN ?_ _ | refine blk_drew ?_ | refine blk_alloc ?_ _)); refine blk_put (cs := #[.int .i64 ((rd_T29 l0 x3_1).f0), .int .i64 ((rd_T29 l0 x3_1).f1), .int .i64 ((rd_T29 l0 x3_1).f2), .int .i64 ((rd_T29 l0 x3_1).f3), .int .i64 0]) ?_ 4 _ rfl; (with_reducible repeat (first | refine blk_drewN ?_ _ | refine blk_drew ?_ | refine blk_alloc ?_ _)); refine blk_put (cs := #[.int .i64 ((rd_T29 l0 x3_1).f0), .int .i64 ((rd_T29 l0 x3_1).f1), .int .i64 ((rd_T29 l0 x3_1).f2), .int .i64 0, .int .i64 0]) ?_ 3 _ rfl; (with_reducible repeat (first | refine blk_drewN ?_ _ | refine blk_drew ?_ | refine blk_alloc ?_ _)); refine blk_put (cs := #[.int .i64 ((rd_T29 l0 x3_1).f0), .int .i64 ((rd_T29 l0 x3_1).f1), .int .i64 0, .int .i64 0, .int .i64 0]) ?_ 2 _ rfl; (with_reducible repeat (first | refine blk_drewN ?_ _ | refine blk_drew ?_ | refine blk_alloc ?_ _)); refine blk_put (cs := #[.int .i64 ((rd_T29 l0 x3_1).f0), .int .i64 0, .int .i64 0, .int .i64 0, .int .i64 0]) ?_ 1 _ rfl; (with_reducible repeat (first | refine blk_drewN ?_ _ | refine blk_drew ?_ | refine blk_alloc ?_ _)); refine blk_put (cs := #[.int .i64 0, .int .i64 0, .int .i64 0, .int .i64 0, .int .i64 0]) ?_ 0 _ rfl; (with_reducible repeat (first | refine blk_drewN ?_ _ | refine blk_drew ?_ | refine blk_alloc ?_ _)); exact BK102.out⟩, ⟨by repeat (first | (with_reducible first | exact HB.out | apply below_alloc | apply pw_below_drewN | apply below_drew1 | refine below_set ?_ GE102.out) | exact HB.out)⟩⟩
                  · replace c13 := Bool.eq_false_iff.mpr c13
                    subst c13
                    have H1 : (cloisterref20_Right.j1 k1 l0 x3_1 true ((rd_T29 l0 x3_1).f0) ((rd_T29 l0 x3_1).f1) ((rd_T29 l0 x3_1).f2) ((rd_T29 l0 x3_1).f3) ((rd_T29 l0 x3_1).f4)) = some r := by rw [if_neg (show ¬ (false = true) by decide)] at H; exact H
                    clear H
                    have H := H1
                    clear H1
                    have H' := Aside0.mk H
                    clear H
                    have hcz19_0 : w6.cell? ⟨gb102, 0, none⟩ = some (.int .i64 0) := (blk_cell BK102.out 0).trans rfl
                    have hcz19_1 : w6.cell? ⟨gb102, 1, none⟩ = some (.int .i64 0) := (blk_cell BK102.out 1).trans rfl
                    have hcz19_2 : w6.cell? ⟨gb102, 2, none⟩ = some (.int .i64 0) := (blk_cell BK102.out 2).trans rfl
                    have hcz19_3 : w6.cell? ⟨gb102, 3, none⟩ = some (.int .i64 0) := (blk_cell BK102.out 3).trans rfl
                    have hcz19_4 : w6.cell? ⟨gb102, 4, none⟩ = some (.int .i64 0) := (blk_cell BK102.out 4).trans rfl
                    have hfz19_0 := blk_frozen BK102.out 0
                    have hfz19_1 := blk_frozen BK102.out 1
                    have hfz19_2 := blk_frozen BK102.out 2
                    have hfz19_3 := blk_frozen BK102.out 3
                    have hfz19_4 := blk_frozen BK102.out 4
                    go_wp2_with (first | (go_at_call 20; (with_reducible refine (cloisterref20_in.calls ((rd_T29 l0 x3_1).f0) 0 true _ A8.out).mono ?_); rintro e w' ⟨rfl, ⟨nd, rfl⟩⟩; (try first | exact ⟨rfl, _, World.drewN_drewN _ _ _⟩ | exact ⟨rfl, _, Eq.trans (World.drewN_drewN _ _ _) (congrArg (World.drewN _) (Nat.add_assoc _ _ _))⟩)) | (go_at_call 20; (with_reducible refine (cloisterref20_in.calls ((rd_T29 l0 x3_1).f1) 0 true _ A10.out).mono ?_); rintro e w' ⟨rfl, ⟨nd, rfl⟩⟩; (try first | exact ⟨rfl, _, World.drewN_drewN _ _ _⟩ | exact ⟨rfl, _, Eq.trans (World.drewN_drewN _ _ _) (congrArg (World.drewN _) (Nat.add_assoc _ _ _))⟩)) | (go_at_call 20; (with_reducible refine (cloisterref20_in.calls ((rd_T29 l0 x3_1).f2) 0 false _ A12.out).mono ?_); rintro e w' ⟨rfl, ⟨nd, rfl⟩⟩; (try first | exact ⟨rfl, _, World.drewN_drewN _ _ _⟩ | exact ⟨rfl, _, Eq.trans (World.drewN_drewN _ _ _) (congrArg (World.drewN _) (Nat.add_assoc _ _ _))⟩)))
                    repeat (go_quiet (first | (go_at_call 20; (with_reducible refine (cloisterref20_in.calls ((rd_T29 l0 x3_1).f0) 0 true _ A8.out).mono ?_); rintro e w' ⟨rfl, ⟨nd, rfl⟩⟩; (try first | exact ⟨rfl, _, World.drewN_drewN _ _ _⟩ | exact ⟨rfl, _, Eq.trans (World.drewN_drewN _ _ _) (congrArg (World.drewN _) (Nat.add_assoc _ _ _))⟩)) | (go_at_call 20; (with_reducible refine (cloisterref20_in.calls ((rd_T29 l0 x3_1).f1) 0 true _ A10.out).mono ?_); rintro e w' ⟨rfl, ⟨nd, rfl⟩⟩; (try first | exact ⟨rfl, _, World.drewN_drewN _ _ _⟩ | exact ⟨rfl, _, Eq.trans (World.drewN_drewN _ _ _) (congrArg (World.drewN _) (Nat.add_assoc _ _ _))⟩)) | (go_at_call 20; (with_reducible refine (cloisterref20_in.calls ((rd_T29 l0 x3_1).f2) 0 false _ A12.out).mono ?_); rintro e w' ⟨rfl, ⟨nd, rfl⟩⟩; (try first | exact ⟨rfl, _, World.drewN_drewN _ _ _⟩ | exact ⟨rfl, _, Eq.trans (World.drewN_drewN _ _ _) (congrArg (World.drewN _) (Nat.add_assoc _ _ _))⟩))); try go_wp2_with (first | (go_at_call 20; (with_reducible refine (cloisterref20_in.calls ((rd_T29 l0 x3_1).f0) 0 true _ A8.out).mono ?_); rintro e w' ⟨rfl, ⟨nd, rfl⟩⟩; (try first | exact ⟨rfl, _, World.drewN_drewN _ _ _⟩ | exact ⟨rfl, _, Eq.trans (World.drewN_drewN _ _ _) (congrArg (World.drewN _) (Nat.add_assoc _ _ _))⟩)) | (go_at_call 20; (with_reducible refine (cloisterref20_in.calls ((rd_T29 l0 x3_1).f1) 0 true _ A10.out).mono ?_); rintro e w' ⟨rfl, ⟨nd, rfl⟩⟩; (try first | exact ⟨rfl, _, World.drewN_drewN _ _ _⟩ | exact ⟨rfl, _, Eq.trans (World.drewN_drewN _ _ _) (congrArg (World.drewN _) (Nat.add_assoc _ _ _))⟩)) | (go_at_call 20; (with_reducible refine (cloisterref20_in.calls ((rd_T29 l0 x3_1).f2) 0 false _ A12.out).mono ?_); rintro e w' ⟨rfl, ⟨nd, rfl⟩⟩; (try first | exact ⟨rfl, _, World.drewN_drewN _ _ _⟩ | exact ⟨rfl, _, Eq.trans (World.drewN_drewN _ _ _) (congrArg (World.drewN _) (Nat.add_assoc _ _ _))⟩))))
                    go_meet
                    case rel => exact ⟨_, (true), (by first | rfl | (simp; done) | (simp [*]; done)), H', ⟨by have := HK1.out; first | omega | exact Nat.le_refl _⟩, ⟨by (with_reducible repeat (first | refine blk_drewN ?_ _ | refine blk_drew ?_ | refine blk_alloc ?_ _)); refine blk_put (cs := #[.int .i64 ((rd_T29 l0 x3_1).f0), .int .i64 ((rd_T29 l0 x3_1).f1), .int .i64 ((rd_T29 l0 x3_1).f2), .int .i64 ((rd_T29 l0 x3_1).f3), .int .i64 0]) ?_ 4 _ rfl; (with_reducible repeat (first | refine blk_drewN ?_ _ | refine blk_drew ?_ | refine blk_alloc ?_ _)); refine blk_put (cs := #[.int .i64 ((rd_T29 l0 x3_1).f0), .int .i64 ((rd_T29 l0 x3_1).f1), .int .i64 ((rd_T29 l0 x3_1).f2), .int .i64 0, .int .i64 0]) ?_ 3 _ rfl; (with_reducible repeat (first | refine blk_drewN ?_ _ | refine blk_drew ?_ | refine blk_alloc ?_ _)); refine blk_put (cs := #[.int .i64 ((rd_T29 l0 x3_1).f0), .int .i64 ((rd_T29 l0 x3_1).f1), .int .i64 0, .int .i64 0, .int .i64 0]) ?_ 2 _ rfl; (with_reducible repeat (first | refine blk_drewN ?_ _ | refine blk_drew ?_ | refine blk_alloc ?_ _)); refine blk_put (cs := #[.int .i64 ((rd_T29 l0 x3_1).f0), .int .i64 0, .int .i64 0, .int .i64 0, .int .i64 0]) ?_ 1 _ rfl; (with_reducible repeat (first | refine blk_drewN ?_ _ | refine blk_drew ?_ | refine blk_alloc ?_ _)); refine blk_put (cs := #[.int .i64 0, .int .i64 0, .int .i64 0, .int .i64 0, .int .i64 0]) ?_ 0 _ rfl; (with_reducible repeat (first | refine blk_drewN ?_ _ | refine blk_drew ?_ | refine blk_alloc ?_ _)); exact BK102.out⟩, ⟨by repeat (first | (with_reducible first | exact HB.out | apply below_alloc | apply pw_below_drewN | apply below_drew1 | refine below_set ?_ GE102.out) | exact HB.out)⟩⟩
                · replace c11 := Bool.eq_false_iff.mpr c11
                  subst c11
                  have H1 : (cloisterref20_Right.j1 k1 l0 x3_1 true ((rd_T29 l0 x3_1).f0) ((rd_T29 l0 x3_1).f1) ((rd_T29 l0 x3_1).f2) ((rd_T29 l0 x3_1).f3) ((rd_T29 l0 x3_1).f4)) = some r := by rw [if_neg (show ¬ (false = true) by decide)] at H; exact H
                  clear H
                  have H := H1
                  clear H1
                  have H' := Aside0.mk H
                  clear H
                  have hcz20_0 : w6.cell? ⟨gb102, 0, none⟩ = some (.int .i64 0) := (blk_cell BK102.out 0).trans rfl
                  have hcz20_1 : w6.cell? ⟨gb102, 1, none⟩ = some (.int .i64 0) := (blk_cell BK102.out 1).trans rfl
                  have hcz20_2 : w6.cell? ⟨gb102, 2, none⟩ = some (.int .i64 0) := (blk_cell BK102.out 2).trans rfl
                  have hcz20_3 : w6.cell? ⟨gb102, 3, none⟩ = some (.int .i64 0) := (blk_cell BK102.out 3).trans rfl
                  have hcz20_4 : w6.cell? ⟨gb102, 4, none⟩ = some (.int .i64 0) := (blk_cell BK102.out 4).trans rfl
                  have hfz20_0 := blk_frozen BK102.out 0
                  have hfz20_1 := blk_frozen BK102.out 1
                  have hfz20_2 := blk_frozen BK102.out 2
                  have hfz20_3 := blk_frozen BK102.out 3
                  have hfz20_4 := blk_frozen BK102.out 4
                  go_wp2_with (first | (go_at_call 20; (with_reducible refine (cloisterref20_in.calls ((rd_T29 l0 x3_1).f0) 0 true _ A8.out).mono ?_); rintro e w' ⟨rfl, ⟨nd, rfl⟩⟩; (try first | exact ⟨rfl, _, World.drewN_drewN _ _ _⟩ | exact ⟨rfl, _, Eq.trans (World.drewN_drewN _ _ _) (congrArg (World.drewN _) (Nat.add_assoc _ _ _))⟩)) | (go_at_call 20; (with_reducible refine (cloisterref20_in.calls ((rd_T29 l0 x3_1).f1) 0 false _ A10.out).mono ?_); rintro e w' ⟨rfl, ⟨nd, rfl⟩⟩; (try first | exact ⟨rfl, _, World.drewN_drewN _ _ _⟩ | exact ⟨rfl, _, Eq.trans (World.drewN_drewN _ _ _) (congrArg (World.drewN _) (Nat.add_assoc _ _ _))⟩)))
                  repeat (go_quiet (first | (go_at_call 20; (with_reducible refine (cloisterref20_in.calls ((rd_T29 l0 x3_1).f0) 0 true _ A8.out).mono ?_); rintro e w' ⟨rfl, ⟨nd, rfl⟩⟩; (try first | exact ⟨rfl, _, World.drewN_drewN _ _ _⟩ | exact ⟨rfl, _, Eq.trans (World.drewN_drewN _ _ _) (congrArg (World.drewN _) (Nat.add_assoc _ _ _))⟩)) | (go_at_call 20; (with_reducible refine (cloisterref20_in.calls ((rd_T29 l0 x3_1).f1) 0 false _ A10.out).mono ?_); rintro e w' ⟨rfl, ⟨nd, rfl⟩⟩; (try first | exact ⟨rfl, _, World.drewN_drewN _ _ _⟩ | exact ⟨rfl, _, Eq.trans (World.drewN_drewN _ _ _) (congrArg (World.drewN _) (Nat.add_assoc _ _ _))⟩))); try go_wp2_with (first | (go_at_call 20; (with_reducible refine (cloisterref20_in.calls ((rd_T29 l0 x3_1).f0) 0 true _ A8.out).mono ?_); rintro e w' ⟨rfl, ⟨nd, rfl⟩⟩; (try first | exact ⟨rfl, _, World.drewN_drewN _ _ _⟩ | exact ⟨rfl, _, Eq.trans (World.drewN_drewN _ _ _) (congrArg (World.drewN _) (Nat.add_assoc _ _ _))⟩)) | (go_at_call 20; (with_reducible refine (cloisterref20_in.calls ((rd_T29 l0 x3_1).f1) 0 false _ A10.out).mono ?_); rintro e w' ⟨rfl, ⟨nd, rfl⟩⟩; (try first | exact ⟨rfl, _, World.drewN_drewN _ _ _⟩ | exact ⟨rfl, _, Eq.trans (World.drewN_drewN _ _ _) (congrArg (World.drewN _) (Nat.add_assoc _ _ _))⟩))))
                  go_meet
                  case rel => exact ⟨_, (true), (by first | rfl | (simp; done) | (simp [*]; done)), H', ⟨by have := HK1.out; first | omega | exact Nat.le_refl _⟩, ⟨by (with_reducible repeat (first | refine blk_drewN ?_ _ | refine blk_drew ?_ | refine blk_alloc ?_ _)); refine blk_put (cs := #[.int .i64 ((rd_T29 l0 x3_1).f0), .int .i64 ((rd_T29 l0 x3_1).f1), .int .i64 ((rd_T29 l0 x3_1).f2), .int .i64 ((rd_T29 l0 x3_1).f3), .int .i64 0]) ?_ 4 _ rfl; (with_reducible repeat (first | refine blk_drewN ?_ _ | refine blk_drew ?_ | refine blk_alloc ?_ _)); refine blk_put (cs := #[.int .i64 ((rd_T29 l0 x3_1).f0), .int .i64 ((rd_T29 l0 x3_1).f1), .int .i64 ((rd_T29 l0 x3_1).f2), .int .i64 0, .int .i64 0]) ?_ 3 _ rfl; (with_reducible repeat (first | refine blk_drewN ?_ _ | refine blk_drew ?_ | refine blk_alloc ?_ _)); refine blk_put (cs := #[.int .i64 ((rd_T29 l0 x3_1).f0), .int .i64 ((rd_T29 l0 x3_1).f1), .int .i64 0, .int .i64 0, .int .i64 0]) ?_ 2 _ rfl; (with_reducible repeat (first | refine blk_drewN ?_ _ | refine blk_drew ?_ | refine blk_alloc ?_ _)); refine blk_put (cs := #[.int .i64 ((rd_T29 l0 x3_1).f0), .int .i64 0, .int .i64 0, .int .i64 0, .int .i64 0]) ?_ 1 _ rfl; (with_reducible repeat (first | refine blk_drewN ?_ _ | refine blk_drew ?_ | refine blk_alloc ?_ _)); refine blk_put (cs := #[.int .i64 0, .int .i64 0, .int .i64 0, .int .i64 0, .int .i64 0]) ?_ 0 _ rfl; (with_reducible repeat (first | refine blk_drewN ?_ _ | refine blk_drew ?_ | refine blk_alloc ?_ _)); exact BK102.out⟩, ⟨by repeat (first | (with_reducible first | exact HB.out | apply below_alloc | apply pw_below_drewN | apply below_drew1 | refine below_set ?_ GE102.out) | exact HB.out)⟩⟩
              · replace c9 := Bool.eq_false_iff.mpr c9
                subst c9
                have H1 : (cloisterref20_Right.j1 k1 l0 x3_1 true ((rd_T29 l0 x3_1).f0) ((rd_T29 l0 x3_1).f1) ((rd_T29 l0 x3_1).f2) ((rd_T29 l0 x3_1).f3) ((rd_T29 l0 x3_1).f4)) = some r := by rw [if_neg (show ¬ (false = true) by decide)] at H; exact H
                clear H
                have H := H1
                clear H1
                have H' := Aside0.mk H
                clear H
                have hcz21_0 : w6.cell? ⟨gb102, 0, none⟩ = some (.int .i64 0) := (blk_cell BK102.out 0).trans rfl
                have hcz21_1 : w6.cell? ⟨gb102, 1, none⟩ = some (.int .i64 0) := (blk_cell BK102.out 1).trans rfl
                have hcz21_2 : w6.cell? ⟨gb102, 2, none⟩ = some (.int .i64 0) := (blk_cell BK102.out 2).trans rfl
                have hcz21_3 : w6.cell? ⟨gb102, 3, none⟩ = some (.int .i64 0) := (blk_cell BK102.out 3).trans rfl
                have hcz21_4 : w6.cell? ⟨gb102, 4, none⟩ = some (.int .i64 0) := (blk_cell BK102.out 4).trans rfl
                have hfz21_0 := blk_frozen BK102.out 0
                have hfz21_1 := blk_frozen BK102.out 1
                have hfz21_2 := blk_frozen BK102.out 2
                have hfz21_3 := blk_frozen BK102.out 3
                have hfz21_4 := blk_frozen BK102.out 4
                go_wp2_with (first | (go_at_call 20; (with_reducible refine (cloisterref20_in.calls ((rd_T29 l0 x3_1).f0) 0 false _ A8.out).mono ?_); rintro e w' ⟨rfl, ⟨nd, rfl⟩⟩; (try first | exact ⟨rfl, _, World.drewN_drewN _ _ _⟩ | exact ⟨rfl, _, Eq.trans (World.drewN_drewN _ _ _) (congrArg (World.drewN _) (Nat.add_assoc _ _ _))⟩)))
                repeat (go_quiet (first | (go_at_call 20; (with_reducible refine (cloisterref20_in.calls ((rd_T29 l0 x3_1).f0) 0 false _ A8.out).mono ?_); rintro e w' ⟨rfl, ⟨nd, rfl⟩⟩; (try first | exact ⟨rfl, _, World.drewN_drewN _ _ _⟩ | exact ⟨rfl, _, Eq.trans (World.drewN_drewN _ _ _) (congrArg (World.drewN _) (Nat.add_assoc _ _ _))⟩))); try go_wp2_with (first | (go_at_call 20; (with_reducible refine (cloisterref20_in.calls ((rd_T29 l0 x3_1).f0) 0 false _ A8.out).mono ?_); rintro e w' ⟨rfl, ⟨nd, rfl⟩⟩; (try first | exact ⟨rfl, _, World.drewN_drewN _ _ _⟩ | exact ⟨rfl, _, Eq.trans (World.drewN_drewN _ _ _) (congrArg (World.drewN _) (Nat.add_assoc _ _ _))⟩))))
                go_meet
                case rel => exact ⟨_, (true), (by first | rfl | (simp; done) | (simp [*]; done)), H', ⟨by have := HK1.out; first | omega | exact Nat.le_refl _⟩, ⟨by (with_reducible repeat (first | refine blk_drewN ?_ _ | refine blk_drew ?_ | refine blk_alloc ?_ _)); refine blk_put (cs := #[.int .i64 ((rd_T29 l0 x3_1).f0), .int .i64 ((rd_T29 l0 x3_1).f1), .int .i64 ((rd_T29 l0 x3_1).f2), .int .i64 ((rd_T29 l0 x3_1).f3), .int .i64 0]) ?_ 4 _ rfl; (with_reducible repeat (first | refine blk_drewN ?_ _ | refine blk_drew ?_ | refine blk_alloc ?_ _)); refine blk_put (cs := #[.int .i64 ((rd_T29 l0 x3_1).f0), .int .i64 ((rd_T29 l0 x3_1).f1), .int .i64 ((rd_T29 l0 x3_1).f2), .int .i64 0, .int .i64 0]) ?_ 3 _ rfl; (with_reducible repeat (first | refine blk_drewN ?_ _ | refine blk_drew ?_ | refine blk_alloc ?_ _)); refine blk_put (cs := #[.int .i64 ((rd_T29 l0 x3_1).f0), .int .i64 ((rd_T29 l0 x3_1).f1), .int .i64 0, .int .i64 0, .int .i64 0]) ?_ 2 _ rfl; (with_reducible repeat (first | refine blk_drewN ?_ _ | refine blk_drew ?_ | refine blk_alloc ?_ _)); refine blk_put (cs := #[.int .i64 ((rd_T29 l0 x3_1).f0), .int .i64 0, .int .i64 0, .int .i64 0, .int .i64 0]) ?_ 1 _ rfl; (with_reducible repeat (first | refine blk_drewN ?_ _ | refine blk_drew ?_ | refine blk_alloc ?_ _)); refine blk_put (cs := #[.int .i64 0, .int .i64 0, .int .i64 0, .int .i64 0, .int .i64 0]) ?_ 0 _ rfl; (with_reducible repeat (first | refine blk_drewN ?_ _ | refine blk_drew ?_ | refine blk_alloc ?_ _)); exact BK102.out⟩, ⟨by repeat (first | (with_reducible first | exact HB.out | apply below_alloc | apply pw_below_drewN | apply below_drew1 | refine below_set ?_ GE102.out) | exact HB.out)⟩⟩
            case rest =>
              clear HC5
              try clear c1
              try clear p1
              try clear q1
              try clear hx1
              try clear c2
              try clear c2b0
              try clear c2b1
              try clear p2
              try clear c3
              try clear c3b0
              try clear c4
              try clear c4b0
              try clear c9
              try clear p10
              try clear q10
              try clear hx10
              try clear c11
              try clear c13
              try clear c14
              try clear c15
              try clear hcz17_0
              try clear hcz17_1
              try clear hcz17_2
              try clear hcz17_3
              try clear hcz17_4
              try clear hcz18_0
              try clear hcz18_1
              try clear hcz18_2
              try clear hcz18_3
              try clear hcz18_4
              try clear hcz19_0
              try clear hcz19_1
              try clear hcz19_2
              try clear hcz19_3
              try clear hcz19_4
              try clear hcz20_0
              try clear hcz20_1
              try clear hcz20_2
              try clear hcz20_3
              try clear hcz20_4
              try clear hcz21_0
              try clear hcz21_1
              try clear hcz21_2
              try clear hcz21_3
              try clear hcz21_4
              try clear hcz7_0
              try clear hcz7_1
              try clear hcz7_2
              try clear hcz7_3
              try clear hcz7_4
              try clear hfz17_0
              try clear hfz17_1
              try clear hfz17_2
              try clear hfz17_3
              try clear hfz17_4
              try clear hfz18_0
              try clear hfz18_1
              try clear hfz18_2
              try clear hfz18_3
              try clear hfz18_4
              try clear hfz19_0
              try clear hfz19_1
              try clear hfz19_2
              try clear hfz19_3
              try clear hfz19_4
              try clear hfz20_0
              try clear hfz20_1
              try clear hfz20_2
              try clear hfz20_3
              try clear hfz20_4
              try clear hfz21_0
              try clear hfz21_1
              try clear hfz21_2
              try clear hfz21_3
              try clear hfz21_4
              try clear hfz7_0
              try clear hfz7_1
              try clear hfz7_2
              try clear hfz7_3
              try clear hfz7_4
              try clear hx101_0
              try clear hx101_1
              try clear hx101_2
              try clear hx101_3
              try clear hx101_4
              try clear p101
              try clear p2
              try clear q101
              obtain ⟨kq, x45_4, rfl, HA, HJ4, BK102, HB⟩ := hcut
              cases kq with
              | zero => exact absurd HA.out (by simp [cloisterref20_Right.j1])
              | succ kj4 =>
                have H := HA.out
                clear HA
                simp only [cloisterref20_Right.j1] at H
                by_cases c22 : x45_4 = true
                · subst c22
                  have H1 : (some false) = some r := by rw [if_pos rfl] at H; exact H
                  clear H
                  have H := H1
                  clear H1
                  obtain rfl := Option.some.inj H
                  go_wp2
                  repeat (go_quiet (fail); try go_wp2)
                  go_ret
                  exact ⟨by first | rfl | (simp [errW_none, errW_some] <;> rfl) | (simp [*, errW_none, errW_some] <;> rfl), by repeat (first | (with_reducible first | exact HB.out | apply below_alloc | apply pw_below_drewN | apply below_drew1 | refine below_set ?_ GE102.out) | exact HB.out)⟩
                · replace c22 := Bool.eq_false_iff.mpr c22
                  subst c22
                  have H1 : (if ((rd_T29 l0 x3_1).f1) = 0 then (if ((rd_T29 l0 x3_1).f2) = 0 then (if ((rd_T29 l0 x3_1).f3) < 0 then (if ((rd_T29 l0 x3_1).f4) < 0 then (some false) else (if x3_1 > 0 then (if 0 ≤ (wrap64 (x3_1 - 1)) then (if (wrap64 (x3_1 - 1)) < (l0.length : Int) then (if ((rd_T29 l0 (wrap64 (x3_1 - 1))).f0) ≥ ((rd_T29 l0 x3_1).f0) then (some false) else (cloisterref20_Right.l0 kj4 l0 (wrap64 (x3_1 + 1)))) else (none)) else (none)) else (cloisterref20_Right.l0 kj4 l0 (wrap64 (x3_1 + 1))))) else (if x3_1 > 0 then (if 0 ≤ (wrap64 (x3_1 - 1)) then (if (wrap64 (x3_1 - 1)) < (l0.length : Int) then (if ((rd_T29 l0 (wrap64 (x3_1 - 1))).f0) ≥ ((rd_T29 l0 x3_1).f0) then (some false) else (cloisterref20_Right.l0 kj4 l0 (wrap64 (x3_1 + 1)))) else (none)) else (none)) else (cloisterref20_Right.l0 kj4 l0 (wrap64 (x3_1 + 1))))) else (if x3_1 > 0 then (if 0 ≤ (wrap64 (x3_1 - 1)) then (if (wrap64 (x3_1 - 1)) < (l0.length : Int) then (if ((rd_T29 l0 (wrap64 (x3_1 - 1))).f0) ≥ ((rd_T29 l0 x3_1).f0) then (some false) else (cloisterref20_Right.l0 kj4 l0 (wrap64 (x3_1 + 1)))) else (none)) else (none)) else (cloisterref20_Right.l0 kj4 l0 (wrap64 (x3_1 + 1))))) else (if x3_1 > 0 then (if 0 ≤ (wrap64 (x3_1 - 1)) then (if (wrap64 (x3_1 - 1)) < (l0.length : Int) then (if ((rd_T29 l0 (wrap64 (x3_1 - 1))).f0) ≥ ((rd_T29 l0 x3_1).f0) then (some false) else (cloisterref20_Right.l0 kj4 l0 (wrap64 (x3_1 + 1)))) else (none)) else (none)) else (cloisterref20_Right.l0 kj4 l0 (wrap64 (x3_1 + 1))))) = some r := by rw [if_neg (show ¬ (false = true) by decide)] at H; exact H
                  clear H
                  have H := H1
                  clear H1
                  by_cases c23 : ((rd_T29 l0 x3_1).f1) = 0
                  · rw [if_pos c23] at H
                    have c23b0 : (((rd_T29 l0 x3_1).f1) == 0) = true := beq_iff_eq.mpr c23
                    have c23b1 : (((rd_T29 l0 x3_1).f1) != 0) = false := bne_eq_false_iff_eq.mpr c23
                    clear c23
                    by_cases c24 : ((rd_T29 l0 x3_1).f2) = 0
                    · rw [if_pos c24] at H
                      have c24b0 : (((rd_T29 l0 x3_1).f2) == 0) = true := beq_iff_eq.mpr c24
                      have c24b1 : (((rd_T29 l0 x3_1).f2) != 0) = false := bne_eq_false_iff_eq.mpr c24
                      clear c24
                      by_cases c25 : ((rd_T29 l0 x3_1).f3) < 0
                      · rw [if_pos c25] at H
                        have c25b0 : decide (((rd_T29 l0 x3_1).f3) < 0) = true := decide_eq_true c25
                        clear c25
                        by_cases c26 : ((rd_T29 l0 x3_1).f4) < 0
                        · rw [if_pos c26] at H
                          have c26b0 : decide (((rd_T29 l0 x3_1).f4) < 0) = true := decide_eq_true c26
                          clear c26
                          obtain rfl := Option.some.inj H
                          have hcz27_0 : wc.cell? ⟨gb102, 0, none⟩ = some (.int .i64 ((rd_T29 l0 x3_1).f0)) := (blk_cell BK102.out 0).trans rfl
                          have hcz27_1 : wc.cell? ⟨gb102, 1, none⟩ = some (.int .i64 ((rd_T29 l0 x3_1).f1)) := (blk_cell BK102.out 1).trans rfl
                          have hcz27_2 : wc.cell? ⟨gb102, 2, none⟩ = some (.int .i64 ((rd_T29 l0 x3_1).f2)) := (blk_cell BK102.out 2).trans rfl
                          have hcz27_3 : wc.cell? ⟨gb102, 3, none⟩ = some (.int .i64 ((rd_T29 l0 x3_1).f3)) := (blk_cell BK102.out 3).trans rfl
                          have hcz27_4 : wc.cell? ⟨gb102, 4, none⟩ = some (.int .i64 ((rd_T29 l0 x3_1).f4)) := (blk_cell BK102.out 4).trans rfl
                          have hfz27_0 := blk_frozen BK102.out 0
                          have hfz27_1 := blk_frozen BK102.out 1
                          have hfz27_2 := blk_frozen BK102.out 2
                          have hfz27_3 := blk_frozen BK102.out 3
                          have hfz27_4 := blk_frozen BK102.out 4
                          go_wp2
                          repeat (go_quiet (fail); try go_wp2)
                          go_ret
                          exact ⟨by first | rfl | (simp [errW_none, errW_some] <;> rfl) | (simp [*, errW_none, errW_some] <;> rfl), by repeat (first | (with_reducible first | exact HB.out | apply below_alloc | apply pw_below_drewN | apply below_drew1 | refine below_set ?_ GE102.out) | exact HB.out)⟩
                        · rw [if_neg c26] at H
                          have c26b0 : decide (((rd_T29 l0 x3_1).f4) < 0) = false := decide_eq_false c26
                          clear c26
                          by_cases c28 : x3_1 > 0
                          · rw [if_pos c28] at H
                            have c28b0 : decide (0 < x3_1) = true := decide_eq_true c28
                            clear c28
                            obtain ⟨ji29, hji29⟩ : ∃ j_ : Int, (wrap64 (x3_1 - 1)) = j_ := ⟨_, rfl⟩
                            replace H : (if 0 ≤ (ji29) then (if (ji29) < (l0.length : Int) then (if ((rd_T29 l0 (ji29)).f0) ≥ ((rd_T29 l0 x3_1).f0) then (some false) else (cloisterref20_Right.l0 kj4 l0 (wrap64 (x3_1 + 1)))) else (none)) else (none)) = some r := by first | (rw [hji29] at H; exact H) | (simp only [hji29] at H ⊢; exact H)
                            have hji29w : (IntKind.i64.wrap (x3_1 - 1)) = ji29 := (i64_w _).trans hji29
                            by_cases c30 : 0 ≤ (ji29)
                            · rw [if_pos c30] at H
                              have c30b0 : decide (0 ≤ (ji29)) = true := decide_eq_true c30
                              clear c30
                              by_cases c31 : (ji29) < (l0.length : Int)
                              · rw [if_pos c31] at H
                                have c31b0 : decide ((ji29) < (l0.length : Int)) = true := decide_eq_true c31
                                clear c31
                                by_cases c32 : ((rd_T29 l0 (ji29)).f0) ≥ ((rd_T29 l0 x3_1).f0)
                                · rw [if_pos c32] at H
                                  have c32b0 : decide (((rd_T29 l0 x3_1).f0) ≤ ((rd_T29 l0 (ji29)).f0)) = true := decide_eq_true c32
                                  clear c32
                                  obtain rfl := Option.some.inj H
                                  have hcz33_0 : wc.cell? ⟨gb102, 0, none⟩ = some (.int .i64 ((rd_T29 l0 x3_1).f0)) := (blk_cell BK102.out 0).trans rfl
                                  have hcz33_1 : wc.cell? ⟨gb102, 1, none⟩ = some (.int .i64 ((rd_T29 l0 x3_1).f1)) := (blk_cell BK102.out 1).trans rfl
                                  have hcz33_2 : wc.cell? ⟨gb102, 2, none⟩ = some (.int .i64 ((rd_T29 l0 x3_1).f2)) := (blk_cell BK102.out 2).trans rfl
                                  have hcz33_3 : wc.cell? ⟨gb102, 3, none⟩ = some (.int .i64 ((rd_T29 l0 x3_1).f3)) := (blk_cell BK102.out 3).trans rfl
                                  have hcz33_4 : wc.cell? ⟨gb102, 4, none⟩ = some (.int .i64 ((rd_T29 l0 x3_1).f4)) := (blk_cell BK102.out 4).trans rfl
                                  have hfz33_0 := blk_frozen BK102.out 0
                                  have hfz33_1 := blk_frozen BK102.out 1
                                  have hfz33_2 := blk_frozen BK102.out 2
                                  have hfz33_3 := blk_frozen BK102.out 3
                                  have hfz33_4 := blk_frozen BK102.out 4
                                  have p108 : 0 ≤ ((ji29) : Int) := of_decide_eq_true (by first | (with_reducible assumption) | assumption)
                                  have q108 : (ji29) < (l0.length : Int) := of_decide_eq_true (by first | (with_reducible assumption) | assumption)
                                  obtain ⟨ad108, e108, hx108_0, hx108_1, hx108_2, hx108_3, hx108_4⟩ := at_T29 HR0.out (ji29) p108 q108
                                  obtain rfl : ad101 = ad108 := (by injection e108)
                                  replace hx108_0 := (HB.out.cell (World.block_lt_of_cell? w _ hx108_0)).trans hx108_0
                                  replace hx108_1 := (HB.out.cell (World.block_lt_of_cell? w _ hx108_1)).trans hx108_1
                                  replace hx108_2 := (HB.out.cell (World.block_lt_of_cell? w _ hx108_2)).trans hx108_2
                                  replace hx108_3 := (HB.out.cell (World.block_lt_of_cell? w _ hx108_3)).trans hx108_3
                                  replace hx108_4 := (HB.out.cell (World.block_lt_of_cell? w _ hx108_4)).trans hx108_4
                                  replace p108 := eq_true p108
                                  replace q108 := eq_true q108
                                  go_wp2
                                  repeat (go_quiet (fail); try go_wp2)
                                  go_ret
                                  exact ⟨by first | rfl | (simp [errW_none, errW_some] <;> rfl) | (simp only [← hji29]; first | rfl | (simp [errW_none, errW_some] <;> rfl)) | (simp [*, errW_none, errW_some] <;> rfl), by repeat (first | (with_reducible first | exact HB.out | apply below_alloc | apply pw_below_drewN | apply below_drew1 | refine below_set ?_ GE102.out) | exact HB.out)⟩
                                · rw [if_neg c32] at H
                                  have c32b0 : decide (((rd_T29 l0 x3_1).f0) ≤ ((rd_T29 l0 (ji29)).f0)) = false := decide_eq_false c32
                                  clear c32
                                  have H' := Aside0.mk H
                                  clear H
                                  have hcz34_0 : wc.cell? ⟨gb102, 0, none⟩ = some (.int .i64 ((rd_T29 l0 x3_1).f0)) := (blk_cell BK102.out 0).trans rfl
                                  have hcz34_1 : wc.cell? ⟨gb102, 1, none⟩ = some (.int .i64 ((rd_T29 l0 x3_1).f1)) := (blk_cell BK102.out 1).trans rfl
                                  have hcz34_2 : wc.cell? ⟨gb102, 2, none⟩ = some (.int .i64 ((rd_T29 l0 x3_1).f2)) := (blk_cell BK102.out 2).trans rfl
                                  have hcz34_3 : wc.cell? ⟨gb102, 3, none⟩ = some (.int .i64 ((rd_T29 l0 x3_1).f3)) := (blk_cell BK102.out 3).trans rfl
                                  have hcz34_4 : wc.cell? ⟨gb102, 4, none⟩ = some (.int .i64 ((rd_T29 l0 x3_1).f4)) := (blk_cell BK102.out 4).trans rfl
                                  have hfz34_0 := blk_frozen BK102.out 0
                                  have hfz34_1 := blk_frozen BK102.out 1
                                  have hfz34_2 := blk_frozen BK102.out 2
                                  have hfz34_3 := blk_frozen BK102.out 3
                                  have hfz34_4 := blk_frozen BK102.out 4
                                  have p108 : 0 ≤ ((ji29) : Int) := of_decide_eq_true (by first | (with_reducible assumption) | assumption)
                                  have q108 : (ji29) < (l0.length : Int) := of_decide_eq_true (by first | (with_reducible assumption) | assumption)
                                  obtain ⟨ad108, e108, hx108_0, hx108_1, hx108_2, hx108_3, hx108_4⟩ := at_T29 HR0.out (ji29) p108 q108
                                  obtain rfl : ad101 = ad108 := (by injection e108)
                                  replace hx108_0 := (HB.out.cell (World.block_lt_of_cell? w _ hx108_0)).trans hx108_0
                                  replace hx108_1 := (HB.out.cell (World.block_lt_of_cell? w _ hx108_1)).trans hx108_1
                                  replace hx108_2 := (HB.out.cell (World.block_lt_of_cell? w _ hx108_2)).trans hx108_2
                                  replace hx108_3 := (HB.out.cell (World.block_lt_of_cell? w _ hx108_3)).trans hx108_3
                                  replace hx108_4 := (HB.out.cell (World.block_lt_of_cell? w _ hx108_4)).trans hx108_4
                                  replace p108 := eq_true p108
                                  replace q108 := eq_true q108
                                  go_wp2
                                  repeat (go_quiet (fail); try go_wp2)
                                  go_roundg kj4
                                  case measure => have := HK1.out; have := HJ4.out; omega
                                  case rel => exact ⟨(wrap64 (x3_1 + 1)), (by first | rfl | (simp; done) | (simp [*]; done)), H', ⟨by have := HK1.out; have := HJ4.out; omega⟩, ⟨by repeat (first | (with_reducible first | exact HB.out | apply below_alloc | apply pw_below_drewN | apply below_drew1 | refine below_set ?_ GE102.out) | exact HB.out)⟩⟩
                              · rw [if_neg c31] at H
                                exact absurd H (by simp)
                            · rw [if_neg c30] at H
                              exact absurd H (by simp)
                          · rw [if_neg c28] at H
                            have c28b0 : decide (0 < x3_1) = false := decide_eq_false c28
                            clear c28
                            have H' := Aside0.mk H
                            clear H
                            have hcz35_0 : wc.cell? ⟨gb102, 0, none⟩ = some (.int .i64 ((rd_T29 l0 x3_1).f0)) := (blk_cell BK102.out 0).trans rfl
                            have hcz35_1 : wc.cell? ⟨gb102, 1, none⟩ = some (.int .i64 ((rd_T29 l0 x3_1).f1)) := (blk_cell BK102.out 1).trans rfl
                            have hcz35_2 : wc.cell? ⟨gb102, 2, none⟩ = some (.int .i64 ((rd_T29 l0 x3_1).f2)) := (blk_cell BK102.out 2).trans rfl
                            have hcz35_3 : wc.cell? ⟨gb102, 3, none⟩ = some (.int .i64 ((rd_T29 l0 x3_1).f3)) := (blk_cell BK102.out 3).trans rfl
                            have hcz35_4 : wc.cell? ⟨gb102, 4, none⟩ = some (.int .i64 ((rd_T29 l0 x3_1).f4)) := (blk_cell BK102.out 4).trans rfl
                            have hfz35_0 := blk_frozen BK102.out 0
                            have hfz35_1 := blk_frozen BK102.out 1
                            have hfz35_2 := blk_frozen BK102.out 2
                            have hfz35_3 := blk_frozen BK102.out 3
                            have hfz35_4 := blk_frozen BK102.out 4
                            go_wp2
                            repeat (go_quiet (fail); try go_wp2)
                            go_roundg kj4
                            case measure => have := HK1.out; have := HJ4.out; omega
                            case rel => exact ⟨(wrap64 (x3_1 + 1)), (by first | rfl | (simp; done) | (simp [*]; done)), H', ⟨by have := HK1.out; have := HJ4.out; omega⟩, ⟨by repeat (first | (with_reducible first | exact HB.out | apply below_alloc | apply pw_below_drewN | apply below_drew1 | refine below_set ?_ GE102.out) | exact HB.out)⟩⟩
                      · rw [if_neg c25] at H
                        have c25b0 : decide (((rd_T29 l0 x3_1).f3) < 0) = false := decide_eq_false c25
                        clear c25
                        by_cases c36 : x3_1 > 0
                        · rw [if_pos c36] at H
                          have c36b0 : decide (0 < x3_1) = true := decide_eq_true c36
                          clear c36
                          obtain ⟨ji37, hji37⟩ : ∃ j_ : Int, (wrap64 (x3_1 - 1)) = j_ := ⟨_, rfl⟩
                          replace H : (if 0 ≤ (ji37) then (if (ji37) < (l0.length : Int) then (if ((rd_T29 l0 (ji37)).f0) ≥ ((rd_T29 l0 x3_1).f0) then (some false) else (cloisterref20_Right.l0 kj4 l0 (wrap64 (x3_1 + 1)))) else (none)) else (none)) = some r := by first | (rw [hji37] at H; exact H) | (simp only [hji37] at H ⊢; exact H)
                          have hji37w : (IntKind.i64.wrap (x3_1 - 1)) = ji37 := (i64_w _).trans hji37
                          by_cases c38 : 0 ≤ (ji37)
                          · rw [if_pos c38] at H
                            have c38b0 : decide (0 ≤ (ji37)) = true := decide_eq_true c38
                            clear c38
                            by_cases c39 : (ji37) < (l0.length : Int)
                            · rw [if_pos c39] at H
                              have c39b0 : decide ((ji37) < (l0.length : Int)) = true := decide_eq_true c39
                              clear c39
                              by_cases c40 : ((rd_T29 l0 (ji37)).f0) ≥ ((rd_T29 l0 x3_1).f0)
                              · rw [if_pos c40] at H
                                have c40b0 : decide (((rd_T29 l0 x3_1).f0) ≤ ((rd_T29 l0 (ji37)).f0)) = true := decide_eq_true c40
                                clear c40
                                obtain rfl := Option.some.inj H
                                have hcz41_0 : wc.cell? ⟨gb102, 0, none⟩ = some (.int .i64 ((rd_T29 l0 x3_1).f0)) := (blk_cell BK102.out 0).trans rfl
                                have hcz41_1 : wc.cell? ⟨gb102, 1, none⟩ = some (.int .i64 ((rd_T29 l0 x3_1).f1)) := (blk_cell BK102.out 1).trans rfl
                                have hcz41_2 : wc.cell? ⟨gb102, 2, none⟩ = some (.int .i64 ((rd_T29 l0 x3_1).f2)) := (blk_cell BK102.out 2).trans rfl
                                have hcz41_3 : wc.cell? ⟨gb102, 3, none⟩ = some (.int .i64 ((rd_T29 l0 x3_1).f3)) := (blk_cell BK102.out 3).trans rfl
                                have hcz41_4 : wc.cell? ⟨gb102, 4, none⟩ = some (.int .i64 ((rd_T29 l0 x3_1).f4)) := (blk_cell BK102.out 4).trans rfl
                                have hfz41_0 := blk_frozen BK102.out 0
                                have hfz41_1 := blk_frozen BK102.out 1
                                have hfz41_2 := blk_frozen BK102.out 2
                                have hfz41_3 := blk_frozen BK102.out 3
                                have hfz41_4 := blk_frozen BK102.out 4
                                have p109 : 0 ≤ ((ji37) : Int) := of_decide_eq_true (by first | (with_reducible assumption) | assumption)
                                have q109 : (ji37) < (l0.length : Int) := of_decide_eq_true (by first | (with_reducible assumption) | assumption)
                                obtain ⟨ad109, e109, hx109_0, hx109_1, hx109_2, hx109_3, hx109_4⟩ := at_T29 HR0.out (ji37) p109 q109
                                obtain rfl : ad101 = ad109 := (by injection e109)
                                replace hx109_0 := (HB.out.cell (World.block_lt_of_cell? w _ hx109_0)).trans hx109_0
                                replace hx109_1 := (HB.out.cell (World.block_lt_of_cell? w _ hx109_1)).trans hx109_1
                                replace hx109_2 := (HB.out.cell (World.block_lt_of_cell? w _ hx109_2)).trans hx109_2
                                replace hx109_3 := (HB.out.cell (World.block_lt_of_cell? w _ hx109_3)).trans hx109_3
                                replace hx109_4 := (HB.out.cell (World.block_lt_of_cell? w _ hx109_4)).trans hx109_4
                                replace p109 := eq_true p109
                                replace q109 := eq_true q109
                                go_wp2
                                repeat (go_quiet (fail); try go_wp2)
                                go_ret
                                exact ⟨by first | rfl | (simp [errW_none, errW_some] <;> rfl) | (simp only [← hji37]; first | rfl | (simp [errW_none, errW_some] <;> rfl)) | (simp [*, errW_none, errW_some] <;> rfl), by repeat (first | (with_reducible first | exact HB.out | apply below_alloc | apply pw_below_drewN | apply below_drew1 | refine below_set ?_ GE102.out) | exact HB.out)⟩
                              · rw [if_neg c40] at H
                                have c40b0 : decide (((rd_T29 l0 x3_1).f0) ≤ ((rd_T29 l0 (ji37)).f0)) = false := decide_eq_false c40
                                clear c40
                                have H' := Aside0.mk H
                                clear H
                                have hcz42_0 : wc.cell? ⟨gb102, 0, none⟩ = some (.int .i64 ((rd_T29 l0 x3_1).f0)) := (blk_cell BK102.out 0).trans rfl
                                have hcz42_1 : wc.cell? ⟨gb102, 1, none⟩ = some (.int .i64 ((rd_T29 l0 x3_1).f1)) := (blk_cell BK102.out 1).trans rfl
                                have hcz42_2 : wc.cell? ⟨gb102, 2, none⟩ = some (.int .i64 ((rd_T29 l0 x3_1).f2)) := (blk_cell BK102.out 2).trans rfl
                                have hcz42_3 : wc.cell? ⟨gb102, 3, none⟩ = some (.int .i64 ((rd_T29 l0 x3_1).f3)) := (blk_cell BK102.out 3).trans rfl
                                have hcz42_4 : wc.cell? ⟨gb102, 4, none⟩ = some (.int .i64 ((rd_T29 l0 x3_1).f4)) := (blk_cell BK102.out 4).trans rfl
                                have hfz42_0 := blk_frozen BK102.out 0
                                have hfz42_1 := blk_frozen BK102.out 1
                                have hfz42_2 := blk_frozen BK102.out 2
                                have hfz42_3 := blk_frozen BK102.out 3
                                have hfz42_4 := blk_frozen BK102.out 4
                                have p109 : 0 ≤ ((ji37) : Int) := of_decide_eq_true (by first | (with_reducible assumption) | assumption)
                                have q109 : (ji37) < (l0.length : Int) := of_decide_eq_true (by first | (with_reducible assumption) | assumption)
                                obtain ⟨ad109, e109, hx109_0, hx109_1, hx109_2, hx109_3, hx109_4⟩ := at_T29 HR0.out (ji37) p109 q109
                                obtain rfl : ad101 = ad109 := (by injection e109)
                                replace hx109_0 := (HB.out.cell (World.block_lt_of_cell? w _ hx109_0)).trans hx109_0
                                replace hx109_1 := (HB.out.cell (World.block_lt_of_cell? w _ hx109_1)).trans hx109_1
                                replace hx109_2 := (HB.out.cell (World.block_lt_of_cell? w _ hx109_2)).trans hx109_2
                                replace hx109_3 := (HB.out.cell (World.block_lt_of_cell? w _ hx109_3)).trans hx109_3
                                replace hx109_4 := (HB.out.cell (World.block_lt_of_cell? w _ hx109_4)).trans hx109_4
                                replace p109 := eq_true p109
                                replace q109 := eq_true q109
                                go_wp2
                                repeat (go_quiet (fail); try go_wp2)
                                go_roundg kj4
                                case measure => have := HK1.out; have := HJ4.out; omega
                                case rel => exact ⟨(wrap64 (x3_1 + 1)), (by first | rfl | (simp; done) | (simp [*]; done)), H', ⟨by have := HK1.out; have := HJ4.out; omega⟩, ⟨by repeat (first | (with_reducible first | exact HB.out | apply below_alloc | apply pw_below_drewN | apply below_drew1 | refine below_set ?_ GE102.out) | exact HB.out)⟩⟩
                            · rw [if_neg c39] at H
                              exact absurd H (by simp)
                          · rw [if_neg c38] at H
                            exact absurd H (by simp)
                        · rw [if_neg c36] at H
                          have c36b0 : decide (0 < x3_1) = false := decide_eq_false c36
                          clear c36
                          have H' := Aside0.mk H
                          clear H
                          have hcz43_0 : wc.cell? ⟨gb102, 0, none⟩ = some (.int .i64 ((rd_T29 l0 x3_1).f0)) := (blk_cell BK102.out 0).trans rfl
                          have hcz43_1 : wc.cell? ⟨gb102, 1, none⟩ = some (.int .i64 ((rd_T29 l0 x3_1).f1)) := (blk_cell BK102.out 1).trans rfl
                          have hcz43_2 : wc.cell? ⟨gb102, 2, none⟩ = some (.int .i64 ((rd_T29 l0 x3_1).f2)) := (blk_cell BK102.out 2).trans rfl
                          have hcz43_3 : wc.cell? ⟨gb102, 3, none⟩ = some (.int .i64 ((rd_T29 l0 x3_1).f3)) := (blk_cell BK102.out 3).trans rfl
                          have hcz43_4 : wc.cell? ⟨gb102, 4, none⟩ = some (.int .i64 ((rd_T29 l0 x3_1).f4)) := (blk_cell BK102.out 4).trans rfl
                          have hfz43_0 := blk_frozen BK102.out 0
                          have hfz43_1 := blk_frozen BK102.out 1
                          have hfz43_2 := blk_frozen BK102.out 2
                          have hfz43_3 := blk_frozen BK102.out 3
                          have hfz43_4 := blk_frozen BK102.out 4
                          go_wp2
                          repeat (go_quiet (fail); try go_wp2)
                          go_roundg kj4
                          case measure => have := HK1.out; have := HJ4.out; omega
                          case rel => exact ⟨(wrap64 (x3_1 + 1)), (by first | rfl | (simp; done) | (simp [*]; done)), H', ⟨by have := HK1.out; have := HJ4.out; omega⟩, ⟨by repeat (first | (with_reducible first | exact HB.out | apply below_alloc | apply pw_below_drewN | apply below_drew1 | refine below_set ?_ GE102.out) | exact HB.out)⟩⟩
                    · rw [if_neg c24] at H
                      have c24b0 : (((rd_T29 l0 x3_1).f2) == 0) = false := beq_eq_false_iff_ne.mpr c24
                      have c24b1 : (((rd_T29 l0 x3_1).f2) != 0) = true := bne_iff_ne.mpr c24
                      by_cases c44 : x3_1 > 0
                      · rw [if_pos c44] at H
                        have c44b0 : decide (0 < x3_1) = true := decide_eq_true c44
                        clear c44
                        obtain ⟨ji45, hji45⟩ : ∃ j_ : Int, (wrap64 (x3_1 - 1)) = j_ := ⟨_, rfl⟩
                        replace H : (if 0 ≤ (ji45) then (if (ji45) < (l0.length : Int) then (if ((rd_T29 l0 (ji45)).f0) ≥ ((rd_T29 l0 x3_1).f0) then (some false) else (cloisterref20_Right.l0 kj4 l0 (wrap64 (x3_1 + 1)))) else (none)) else (none)) = some r := by first | (rw [hji45] at H; exact H) | (simp only [hji45] at H ⊢; exact H)
                        have hji45w : (IntKind.i64.wrap (x3_1 - 1)) = ji45 := (i64_w _).trans hji45
                        by_cases c46 : 0 ≤ (ji45)
                        · rw [if_pos c46] at H
                          have c46b0 : decide (0 ≤ (ji45)) = true := decide_eq_true c46
                          clear c46
                          by_cases c47 : (ji45) < (l0.length : Int)
                          · rw [if_pos c47] at H
                            have c47b0 : decide ((ji45) < (l0.length : Int)) = true := decide_eq_true c47
                            clear c47
                            by_cases c48 : ((rd_T29 l0 (ji45)).f0) ≥ ((rd_T29 l0 x3_1).f0)
                            · rw [if_pos c48] at H
                              have c48b0 : decide (((rd_T29 l0 x3_1).f0) ≤ ((rd_T29 l0 (ji45)).f0)) = true := decide_eq_true c48
                              clear c48
                              obtain rfl := Option.some.inj H
                              have hcz49_0 : wc.cell? ⟨gb102, 0, none⟩ = some (.int .i64 ((rd_T29 l0 x3_1).f0)) := (blk_cell BK102.out 0).trans rfl
                              have hcz49_1 : wc.cell? ⟨gb102, 1, none⟩ = some (.int .i64 ((rd_T29 l0 x3_1).f1)) := (blk_cell BK102.out 1).trans rfl
                              have hcz49_2 : wc.cell? ⟨gb102, 2, none⟩ = some (.int .i64 ((rd_T29 l0 x3_1).f2)) := (blk_cell BK102.out 2).trans rfl
                              have hcz49_3 : wc.cell? ⟨gb102, 3, none⟩ = some (.int .i64 ((rd_T29 l0 x3_1).f3)) := (blk_cell BK102.out 3).trans rfl
                              have hcz49_4 : wc.cell? ⟨gb102, 4, none⟩ = some (.int .i64 ((rd_T29 l0 x3_1).f4)) := (blk_cell BK102.out 4).trans rfl
                              have hfz49_0 := blk_frozen BK102.out 0
                              have hfz49_1 := blk_frozen BK102.out 1
                              have hfz49_2 := blk_frozen BK102.out 2
                              have hfz49_3 := blk_frozen BK102.out 3
                              have hfz49_4 := blk_frozen BK102.out 4
                              have p110 : 0 ≤ ((ji45) : Int) := of_decide_eq_true (by first | (with_reducible assumption) | assumption)
                              have q110 : (ji45) < (l0.length : Int) := of_decide_eq_true (by first | (with_reducible assumption) | assumption)
                              obtain ⟨ad110, e110, hx110_0, hx110_1, hx110_2, hx110_3, hx110_4⟩ := at_T29 HR0.out (ji45) p110 q110
                              obtain rfl : ad101 = ad110 := (by injection e110)
                              replace hx110_0 := (HB.out.cell (World.block_lt_of_cell? w _ hx110_0)).trans hx110_0
                              replace hx110_1 := (HB.out.cell (World.block_lt_of_cell? w _ hx110_1)).trans hx110_1
                              replace hx110_2 := (HB.out.cell (World.block_lt_of_cell? w _ hx110_2)).trans hx110_2
                              replace hx110_3 := (HB.out.cell (World.block_lt_of_cell? w _ hx110_3)).trans hx110_3
                              replace hx110_4 := (HB.out.cell (World.block_lt_of_cell? w _ hx110_4)).trans hx110_4
                              replace p110 := eq_true p110
                              replace q110 := eq_true q110
                              go_wp2
                              repeat (go_quiet (fail); try go_wp2)
                              go_ret
                              exact ⟨by first | rfl | (simp [errW_none, errW_some] <;> rfl) | (simp only [← hji45]; first | rfl | (simp [errW_none, errW_some] <;> rfl)) | (simp [*, errW_none, errW_some] <;> rfl), by repeat (first | (with_reducible first | exact HB.out | apply below_alloc | apply pw_below_drewN | apply below_drew1 | refine below_set ?_ GE102.out) | exact HB.out)⟩
                            · rw [if_neg c48] at H
                              have c48b0 : decide (((rd_T29 l0 x3_1).f0) ≤ ((rd_T29 l0 (ji45)).f0)) = false := decide_eq_false c48
                              clear c48
                              have H' := Aside0.mk H
                              clear H
                              have hcz50_0 : wc.cell? ⟨gb102, 0, none⟩ = some (.int .i64 ((rd_T29 l0 x3_1).f0)) := (blk_cell BK102.out 0).trans rfl
                              have hcz50_1 : wc.cell? ⟨gb102, 1, none⟩ = some (.int .i64 ((rd_T29 l0 x3_1).f1)) := (blk_cell BK102.out 1).trans rfl
                              have hcz50_2 : wc.cell? ⟨gb102, 2, none⟩ = some (.int .i64 ((rd_T29 l0 x3_1).f2)) := (blk_cell BK102.out 2).trans rfl
                              have hcz50_3 : wc.cell? ⟨gb102, 3, none⟩ = some (.int .i64 ((rd_T29 l0 x3_1).f3)) := (blk_cell BK102.out 3).trans rfl
                              have hcz50_4 : wc.cell? ⟨gb102, 4, none⟩ = some (.int .i64 ((rd_T29 l0 x3_1).f4)) := (blk_cell BK102.out 4).trans rfl
                              have hfz50_0 := blk_frozen BK102.out 0
                              have hfz50_1 := blk_frozen BK102.out 1
                              have hfz50_2 := blk_frozen BK102.out 2
                              have hfz50_3 := blk_frozen BK102.out 3
                              have hfz50_4 := blk_frozen BK102.out 4
                              have p110 : 0 ≤ ((ji45) : Int) := of_decide_eq_true (by first | (with_reducible assumption) | assumption)
                              have q110 : (ji45) < (l0.length : Int) := of_decide_eq_true (by first | (with_reducible assumption) | assumption)
                              obtain ⟨ad110, e110, hx110_0, hx110_1, hx110_2, hx110_3, hx110_4⟩ := at_T29 HR0.out (ji45) p110 q110
                              obtain rfl : ad101 = ad110 := (by injection e110)
                              replace hx110_0 := (HB.out.cell (World.block_lt_of_cell? w _ hx110_0)).trans hx110_0
                              replace hx110_1 := (HB.out.cell (World.block_lt_of_cell? w _ hx110_1)).trans hx110_1
                              replace hx110_2 := (HB.out.cell (World.block_lt_of_cell? w _ hx110_2)).trans hx110_2
                              replace hx110_3 := (HB.out.cell (World.block_lt_of_cell? w _ hx110_3)).trans hx110_3
                              replace hx110_4 := (HB.out.cell (World.block_lt_of_cell? w _ hx110_4)).trans hx110_4
                              replace p110 := eq_true p110
                              replace q110 := eq_true q110
                              go_wp2
                              repeat (go_quiet (fail); try go_wp2)
                              go_roundg kj4
                              case measure => have := HK1.out; have := HJ4.out; omega
                              case rel => exact ⟨(wrap64 (x3_1 + 1)), (by first | rfl | (simp; done) | (simp [*]; done)), H', ⟨by have := HK1.out; have := HJ4.out; omega⟩, ⟨by repeat (first | (with_reducible first | exact HB.out | apply below_alloc | apply pw_below_drewN | apply below_drew1 | refine below_set ?_ GE102.out) | exact HB.out)⟩⟩
                          · rw [if_neg c47] at H
                            exact absurd H (by simp)
                        · rw [if_neg c46] at H
                          exact absurd H (by simp)
                      · rw [if_neg c44] at H
                        have c44b0 : decide (0 < x3_1) = false := decide_eq_false c44
                        clear c44
                        have H' := Aside0.mk H
                        clear H
                        have hcz51_0 : wc.cell? ⟨gb102, 0, none⟩ = some (.int .i64 ((rd_T29 l0 x3_1).f0)) := (blk_cell BK102.out 0).trans rfl
                        have hcz51_1 : wc.cell? ⟨gb102, 1, none⟩ = some (.int .i64 ((rd_T29 l0 x3_1).f1)) := (blk_cell BK102.out 1).trans rfl
                        have hcz51_2 : wc.cell? ⟨gb102, 2, none⟩ = some (.int .i64 ((rd_T29 l0 x3_1).f2)) := (blk_cell BK102.out 2).trans rfl
                        have hcz51_3 : wc.cell? ⟨gb102, 3, none⟩ = some (.int .i64 ((rd_T29 l0 x3_1).f3)) := (blk_cell BK102.out 3).trans rfl
                        have hcz51_4 : wc.cell? ⟨gb102, 4, none⟩ = some (.int .i64 ((rd_T29 l0 x3_1).f4)) := (blk_cell BK102.out 4).trans rfl
                        have hfz51_0 := blk_frozen BK102.out 0
                        have hfz51_1 := blk_frozen BK102.out 1
                        have hfz51_2 := blk_frozen BK102.out 2
                        have hfz51_3 := blk_frozen BK102.out 3
                        have hfz51_4 := blk_frozen BK102.out 4
                        go_wp2
                        repeat (go_quiet (fail); try go_wp2)
                        go_roundg kj4
                        case measure => have := HK1.out; have := HJ4.out; omega
                        case rel => exact ⟨(wrap64 (x3_1 + 1)), (by first | rfl | (simp; done) | (simp [*]; done)), H', ⟨by have := HK1.out; have := HJ4.out; omega⟩, ⟨by repeat (first | (with_reducible first | exact HB.out | apply below_alloc | apply pw_below_drewN | apply below_drew1 | refine below_set ?_ GE102.out) | exact HB.out)⟩⟩
                  · rw [if_neg c23] at H
                    have c23b0 : (((rd_T29 l0 x3_1).f1) == 0) = false := beq_eq_false_iff_ne.mpr c23
                    have c23b1 : (((rd_T29 l0 x3_1).f1) != 0) = true := bne_iff_ne.mpr c23
                    by_cases c52 : x3_1 > 0
                    · rw [if_pos c52] at H
                      have c52b0 : decide (0 < x3_1) = true := decide_eq_true c52
                      clear c52
                      obtain ⟨ji53, hji53⟩ : ∃ j_ : Int, (wrap64 (x3_1 - 1)) = j_ := ⟨_, rfl⟩
                      replace H : (if 0 ≤ (ji53) then (if (ji53) < (l0.length : Int) then (if ((rd_T29 l0 (ji53)).f0) ≥ ((rd_T29 l0 x3_1).f0) then (some false) else (cloisterref20_Right.l0 kj4 l0 (wrap64 (x3_1 + 1)))) else (none)) else (none)) = some r := by first | (rw [hji53] at H; exact H) | (simp only [hji53] at H ⊢; exact H)
                      have hji53w : (IntKind.i64.wrap (x3_1 - 1)) = ji53 := (i64_w _).trans hji53
                      by_cases c54 : 0 ≤ (ji53)
                      · rw [if_pos c54] at H
                        have c54b0 : decide (0 ≤ (ji53)) = true := decide_eq_true c54
                        clear c54
                        by_cases c55 : (ji53) < (l0.length : Int)
                        · rw [if_pos c55] at H
                          have c55b0 : decide ((ji53) < (l0.length : Int)) = true := decide_eq_true c55
                          clear c55
                          by_cases c56 : ((rd_T29 l0 (ji53)).f0) ≥ ((rd_T29 l0 x3_1).f0)
                          · rw [if_pos c56] at H
                            have c56b0 : decide (((rd_T29 l0 x3_1).f0) ≤ ((rd_T29 l0 (ji53)).f0)) = true := decide_eq_true c56
                            clear c56
                            obtain rfl := Option.some.inj H
                            have hcz57_0 : wc.cell? ⟨gb102, 0, none⟩ = some (.int .i64 ((rd_T29 l0 x3_1).f0)) := (blk_cell BK102.out 0).trans rfl
                            have hcz57_1 : wc.cell? ⟨gb102, 1, none⟩ = some (.int .i64 ((rd_T29 l0 x3_1).f1)) := (blk_cell BK102.out 1).trans rfl
                            have hcz57_2 : wc.cell? ⟨gb102, 2, none⟩ = some (.int .i64 ((rd_T29 l0 x3_1).f2)) := (blk_cell BK102.out 2).trans rfl
                            have hcz57_3 : wc.cell? ⟨gb102, 3, none⟩ = some (.int .i64 ((rd_T29 l0 x3_1).f3)) := (blk_cell BK102.out 3).trans rfl
                            have hcz57_4 : wc.cell? ⟨gb102, 4, none⟩ = some (.int .i64 ((rd_T29 l0 x3_1).f4)) := (blk_cell BK102.out 4).trans rfl
                            have hfz57_0 := blk_frozen BK102.out 0
                            have hfz57_1 := blk_frozen BK102.out 1
                            have hfz57_2 := blk_frozen BK102.out 2
                            have hfz57_3 := blk_frozen BK102.out 3
                            have hfz57_4 := blk_frozen BK102.out 4
                            have p111 : 0 ≤ ((ji53) : Int) := of_decide_eq_true (by first | (with_reducible assumption) | assumption)
                            have q111 : (ji53) < (l0.length : Int) := of_decide_eq_true (by first | (with_reducible assumption) | assumption)
                            obtain ⟨ad111, e111, hx111_0, hx111_1, hx111_2, hx111_3, hx111_4⟩ := at_T29 HR0.out (ji53) p111 q111
                            obtain rfl : ad101 = ad111 := (by injection e111)
                            replace hx111_0 := (HB.out.cell (World.block_lt_of_cell? w _ hx111_0)).trans hx111_0
                            replace hx111_1 := (HB.out.cell (World.block_lt_of_cell? w _ hx111_1)).trans hx111_1
                            replace hx111_2 := (HB.out.cell (World.block_lt_of_cell? w _ hx111_2)).trans hx111_2
                            replace hx111_3 := (HB.out.cell (World.block_lt_of_cell? w _ hx111_3)).trans hx111_3
                            replace hx111_4 := (HB.out.cell (World.block_lt_of_cell? w _ hx111_4)).trans hx111_4
                            replace p111 := eq_true p111
                            replace q111 := eq_true q111
                            go_wp2
                            repeat (go_quiet (fail); try go_wp2)
                            go_ret
                            exact ⟨by first | rfl | (simp [errW_none, errW_some] <;> rfl) | (simp only [← hji53]; first | rfl | (simp [errW_none, errW_some] <;> rfl)) | (simp [*, errW_none, errW_some] <;> rfl), by repeat (first | (with_reducible first | exact HB.out | apply below_alloc | apply pw_below_drewN | apply below_drew1 | refine below_set ?_ GE102.out) | exact HB.out)⟩
                          · rw [if_neg c56] at H
                            have c56b0 : decide (((rd_T29 l0 x3_1).f0) ≤ ((rd_T29 l0 (ji53)).f0)) = false := decide_eq_false c56
                            clear c56
                            have H' := Aside0.mk H
                            clear H
                            have hcz58_0 : wc.cell? ⟨gb102, 0, none⟩ = some (.int .i64 ((rd_T29 l0 x3_1).f0)) := (blk_cell BK102.out 0).trans rfl
                            have hcz58_1 : wc.cell? ⟨gb102, 1, none⟩ = some (.int .i64 ((rd_T29 l0 x3_1).f1)) := (blk_cell BK102.out 1).trans rfl
                            have hcz58_2 : wc.cell? ⟨gb102, 2, none⟩ = some (.int .i64 ((rd_T29 l0 x3_1).f2)) := (blk_cell BK102.out 2).trans rfl
                            have hcz58_3 : wc.cell? ⟨gb102, 3, none⟩ = some (.int .i64 ((rd_T29 l0 x3_1).f3)) := (blk_cell BK102.out 3).trans rfl
                            have hcz58_4 : wc.cell? ⟨gb102, 4, none⟩ = some (.int .i64 ((rd_T29 l0 x3_1).f4)) := (blk_cell BK102.out 4).trans rfl
                            have hfz58_0 := blk_frozen BK102.out 0
                            have hfz58_1 := blk_frozen BK102.out 1
                            have hfz58_2 := blk_frozen BK102.out 2
                            have hfz58_3 := blk_frozen BK102.out 3
                            have hfz58_4 := blk_frozen BK102.out 4
                            have p111 : 0 ≤ ((ji53) : Int) := of_decide_eq_true (by first | (with_reducible assumption) | assumption)
                            have q111 : (ji53) < (l0.length : Int) := of_decide_eq_true (by first | (with_reducible assumption) | assumption)
                            obtain ⟨ad111, e111, hx111_0, hx111_1, hx111_2, hx111_3, hx111_4⟩ := at_T29 HR0.out (ji53) p111 q111
                            obtain rfl : ad101 = ad111 := (by injection e111)
                            replace hx111_0 := (HB.out.cell (World.block_lt_of_cell? w _ hx111_0)).trans hx111_0
                            replace hx111_1 := (HB.out.cell (World.block_lt_of_cell? w _ hx111_1)).trans hx111_1
                            replace hx111_2 := (HB.out.cell (World.block_lt_of_cell? w _ hx111_2)).trans hx111_2
                            replace hx111_3 := (HB.out.cell (World.block_lt_of_cell? w _ hx111_3)).trans hx111_3
                            replace hx111_4 := (HB.out.cell (World.block_lt_of_cell? w _ hx111_4)).trans hx111_4
                            replace p111 := eq_true p111
                            replace q111 := eq_true q111
                            go_wp2
                            repeat (go_quiet (fail); try go_wp2)
                            go_roundg kj4
                            case measure => have := HK1.out; have := HJ4.out; omega
                            case rel => exact ⟨(wrap64 (x3_1 + 1)), (by first | rfl | (simp; done) | (simp [*]; done)), H', ⟨by have := HK1.out; have := HJ4.out; omega⟩, ⟨by repeat (first | (with_reducible first | exact HB.out | apply below_alloc | apply pw_below_drewN | apply below_drew1 | refine below_set ?_ GE102.out) | exact HB.out)⟩⟩
                        · rw [if_neg c55] at H
                          exact absurd H (by simp)
                      · rw [if_neg c54] at H
                        exact absurd H (by simp)
                    · rw [if_neg c52] at H
                      have c52b0 : decide (0 < x3_1) = false := decide_eq_false c52
                      clear c52
                      have H' := Aside0.mk H
                      clear H
                      have hcz59_0 : wc.cell? ⟨gb102, 0, none⟩ = some (.int .i64 ((rd_T29 l0 x3_1).f0)) := (blk_cell BK102.out 0).trans rfl
                      have hcz59_1 : wc.cell? ⟨gb102, 1, none⟩ = some (.int .i64 ((rd_T29 l0 x3_1).f1)) := (blk_cell BK102.out 1).trans rfl
                      have hcz59_2 : wc.cell? ⟨gb102, 2, none⟩ = some (.int .i64 ((rd_T29 l0 x3_1).f2)) := (blk_cell BK102.out 2).trans rfl
                      have hcz59_3 : wc.cell? ⟨gb102, 3, none⟩ = some (.int .i64 ((rd_T29 l0 x3_1).f3)) := (blk_cell BK102.out 3).trans rfl
                      have hcz59_4 : wc.cell? ⟨gb102, 4, none⟩ = some (.int .i64 ((rd_T29 l0 x3_1).f4)) := (blk_cell BK102.out 4).trans rfl
                      have hfz59_0 := blk_frozen BK102.out 0
                      have hfz59_1 := blk_frozen BK102.out 1
                      have hfz59_2 := blk_frozen BK102.out 2
                      have hfz59_3 := blk_frozen BK102.out 3
                      have hfz59_4 := blk_frozen BK102.out 4
                      go_wp2
                      repeat (go_quiet (fail); try go_wp2)
                      go_roundg kj4
                      case measure => have := HK1.out; have := HJ4.out; omega
                      case rel => exact ⟨(wrap64 (x3_1 + 1)), (by first | rfl | (simp; done) | (simp [*]; done)), H', ⟨by have := HK1.out; have := HJ4.out; omega⟩, ⟨by repeat (first | (with_reducible first | exact HB.out | apply below_alloc | apply pw_below_drewN | apply below_drew1 | refine below_set ?_ GE102.out) | exact HB.out)⟩⟩
          · rw [if_neg c4] at H
            exact absurd H (by simp)
        · rw [if_neg c3] at H
          have c3b0 : decide (x3_1 < (l0.length : Int)) = false := decide_eq_false c3
          clear c3
          obtain rfl := Option.some.inj H
          go_wp2
          repeat (go_quiet (fail); try go_wp2)
          go_ret
          exact ⟨by first | rfl | (simp [errW_none, errW_some] <;> rfl) | (simp [*, errW_none, errW_some] <;> rfl), by repeat (first | (with_reducible first | exact HB.out | apply below_alloc | apply pw_below_drewN | apply below_drew1) | exact HB.out)⟩

end Go.Proofs.Ytahlmlhdfoijhaa.PQ
