/- Printed for this claim. -/
import Derived.Test.YtahlmlhdfoijhaaPQx0
import Derived.Test.YtahlmlhdfoijhaaPQx6
import Derived.Test.YtahlmlhdfoijhaaPQx7
import Derived.Test.YtahlmlhdfoijhaaPQx9
import Derived.Test.YtahlmlhdfoijhaaPQg
namespace Go.Proofs.Ytahlmlhdfoijhaa.PQ
open Go.RowKit Go.Proofs.YtahlmlhdfoijhaaW.PrintWords Go.Proofs.YtahlmlhdfoijhaaW.PrintLast Go.Proofs.YtahlmlhdfoijhaaW.PrintMore
attribute [local go_sem] max2_int min2_int max_two min_two max_three min_three max_four min_four   -- for this text's walks alone
set_option linter.unusedVariables false
set_option linter.unusedSimpArgs false

/-! ### cloisterlaw20_QuotaBack: function 3 -/
mutual
def cloisterlaw20_QuotaBack.j0 : Nat → List (S29) → Int → Int → Int → Bool → Option (Bool)
  | 0, _, _, _, _, _ => none
  | k + 1, x0, x1, x2, x3, x23 => if x23 = true then ((cloisterlaw20_fixed.f k).bind fun t153 => (some t153)) else ((quota_Charge.f x0 x1 x2 x3).bind fun bt154 => (if bt154.2 = 0 then ((quota_Charge.f bt154.1 x1 (wrap64 (-x2)) (wrap64 (-x3))).bind fun bt158 => (if bt158.2 = 0 then ((quota_Get.f k x0 x1).bind fun bt162 => ((quota_Limit.f x0 x1 (-1) (-1)).bind fun bt168 => (if bt168.2 = 0 then ((cloisterlaw20_same.f k bt158.1 x0).bind fun t172 => (cloisterlaw20_QuotaBack.j1 k x1 bt168.1 (!t172) bt162.1 bt162.2.1 bt162.2.2.1 bt162.2.2.2.1 bt162.2.2.2.2)) else (cloisterlaw20_QuotaBack.j1 k x1 bt168.1 true bt162.1 bt162.2.1 bt162.2.2.1 bt162.2.2.2.1 bt162.2.2.2.2)))) else (if bt158.2 = 52 then (if x2 < 0 then (some true) else (some (decide (x3 < 0)))) else (some false)))) else (some ((bt154.1.length : Int) == 0))))
def cloisterlaw20_QuotaBack.j1 : Nat → Int → List (S29) → Bool → Int → Int → Int → Int → Int → Option (Bool)
  | 0, _, _, _, _, _, _, _, _ => none
  | k + 1, x1, x13, x76, x168000, x168001, x168002, x168003, x168004 => if x76 = true then (some false) else (cloisterlaw20_QuotaBack.l0 k x1 false x13 (x13.length : Int) 0 x168000 x168001 x168002 x168003 x168004)
def cloisterlaw20_QuotaBack.l0 : Nat → Int → Bool → List (S29) → Int → Int → Int → Int → Int → Int → Int → Option (Bool)
  | 0, _, _, _, _, _, _, _, _, _, _ => none
  | k + 1, x1, x14, x77, x78, x79, x168000, x168001, x168002, x168003, x168004 => if x79 < x78 then (if 0 ≤ x79 then (if x79 < (x77.length : Int) then (if x14 = true then (cloisterlaw20_QuotaBack.l0 k x1 true x77 x78 (wrap64 (x79 + 1)) x168000 x168001 x168002 x168003 x168004) else (cloisterlaw20_QuotaBack.l0 k x1 (((rd_T29 x77 x79).f0) == x1) x77 x78 (wrap64 (x79 + 1)) x168000 x168001 x168002 x168003 x168004)) else (none)) else (none)) else (if x168001 > 0 then (some (x14 == true)) else (some (x14 == (decide (x168002 > 0)))))
end
def cloisterlaw20_QuotaBack.f (k : Nat) (l0 : List (S29)) (a1 : Int) (a2 : Int) (a3 : Int) : Option (Bool) := (cloisterlaw20_fixed.f k).bind fun t151 => (if t151 = true then ((quota_Check.f l0).bind fun t152 => (cloisterlaw20_QuotaBack.j0 k l0 a1 a2 a3 (t152 != 0))) else (cloisterlaw20_QuotaBack.j0 k l0 a1 a2 a3 true))
theorem cloisterlaw20_QuotaBack.mono_l : ∀ k, (∀ y0 y1 y2 y3 y4, LeO (cloisterlaw20_QuotaBack.j0 k y0 y1 y2 y3 y4) (cloisterlaw20_QuotaBack.j0 (k + 1) y0 y1 y2 y3 y4)) ∧ (∀ y0 y1 y2 y3 y4 y5 y6 y7, LeO (cloisterlaw20_QuotaBack.j1 k y0 y1 y2 y3 y4 y5 y6 y7) (cloisterlaw20_QuotaBack.j1 (k + 1) y0 y1 y2 y3 y4 y5 y6 y7)) ∧ (∀ y0 y1 y2 y3 y4 y5 y6 y7 y8 y9, LeO (cloisterlaw20_QuotaBack.l0 k y0 y1 y2 y3 y4 y5 y6 y7 y8 y9) (cloisterlaw20_QuotaBack.l0 (k + 1) y0 y1 y2 y3 y4 y5 y6 y7 y8 y9))
  | 0 => ⟨fun _ _ _ _ _ r h => by simp [cloisterlaw20_QuotaBack.j0] at h, fun _ _ _ _ _ _ _ _ r h => by simp [cloisterlaw20_QuotaBack.j1] at h, fun _ _ _ _ _ _ _ _ _ _ r h => by simp [cloisterlaw20_QuotaBack.l0] at h⟩
  | k + 1 => by
    obtain ⟨ih0, ih1, ih2⟩ := cloisterlaw20_QuotaBack.mono_l k
    refine ⟨?_, ?_, ?_⟩
    · intro y0 y1 y2 y3 y4
      unfold cloisterlaw20_QuotaBack.j0
      repeat' first
      | (with_reducible exact ih0 _ _ _ _ _)
      | (with_reducible exact ih1 _ _ _ _ _ _ _ _)
      | (with_reducible exact ih2 _ _ _ _ _ _ _ _ _ _)
      | (with_reducible exact cloisterlaw20_fixed.mono _)
      | (with_reducible exact cloisterlaw20_same.mono _ _ _)
      | (with_reducible exact quota_Get.mono _ _ _)
      | (with_reducible exact LeO.refl _)
      | (with_reducible exact LeO.none _)
      | (with_reducible refine LeO.ite ?_ ?_)
      | (with_reducible refine LeO.bind ?_ (fun _ => ?_))
      | exact ih0 _ _ _ _ _
      | exact ih1 _ _ _ _ _ _ _ _
      | exact ih2 _ _ _ _ _ _ _ _ _ _
      | exact cloisterlaw20_fixed.mono _
      | exact cloisterlaw20_same.mono _ _ _
      | exact quota_Get.mono _ _ _
      | exact LeO.none _
      | refine LeO.ite ?_ ?_
      | refine LeO.bind ?_ (fun _ => ?_)
    · intro y0 y1 y2 y3 y4 y5 y6 y7
      unfold cloisterlaw20_QuotaBack.j1
      repeat' first
      | (with_reducible exact ih0 _ _ _ _ _)
      | (with_reducible exact ih1 _ _ _ _ _ _ _ _)
      | (with_reducible exact ih2 _ _ _ _ _ _ _ _ _ _)
      | (with_reducible exact cloisterlaw20_fixed.mono _)
      | (with_reducible exact cloisterlaw20_same.mono _ _ _)
      | (with_reducible exact quota_Get.mono _ _ _)
      | (with_reducible exact LeO.refl _)
      | (with_reducible exact LeO.none _)
      | (with_reducible refine LeO.ite ?_ ?_)
      | (with_reducible refine LeO.bind ?_ (fun _ => ?_))
      | exact ih0 _ _ _ _ _
      | exact ih1 _ _ _ _ _ _ _ _
      | exact ih2 _ _ _ _ _ _ _ _ _ _
      | exact cloisterlaw20_fixed.mono _
      | exact cloisterlaw20_same.mono _ _ _
      | exact quota_Get.mono _ _ _
      | exact LeO.none _
      | refine LeO.ite ?_ ?_
      | refine LeO.bind ?_ (fun _ => ?_)
    · intro y0 y1 y2 y3 y4 y5 y6 y7 y8 y9
      unfold cloisterlaw20_QuotaBack.l0
      repeat' first
      | (with_reducible exact ih0 _ _ _ _ _)
      | (with_reducible exact ih1 _ _ _ _ _ _ _ _)
      | (with_reducible exact ih2 _ _ _ _ _ _ _ _ _ _)
      | (with_reducible exact cloisterlaw20_fixed.mono _)
      | (with_reducible exact cloisterlaw20_same.mono _ _ _)
      | (with_reducible exact quota_Get.mono _ _ _)
      | (with_reducible exact LeO.refl _)
      | (with_reducible exact LeO.none _)
      | (with_reducible refine LeO.ite ?_ ?_)
      | (with_reducible refine LeO.bind ?_ (fun _ => ?_))
      | exact ih0 _ _ _ _ _
      | exact ih1 _ _ _ _ _ _ _ _
      | exact ih2 _ _ _ _ _ _ _ _ _ _
      | exact cloisterlaw20_fixed.mono _
      | exact cloisterlaw20_same.mono _ _ _
      | exact quota_Get.mono _ _ _
      | exact LeO.none _
      | refine LeO.ite ?_ ?_
      | refine LeO.bind ?_ (fun _ => ?_)
theorem cloisterlaw20_QuotaBack.mono : ∀ a0 a1 a2 a3 k, LeO (cloisterlaw20_QuotaBack.f k a0 a1 a2 a3) (cloisterlaw20_QuotaBack.f (k + 1) a0 a1 a2 a3) := by
  intro a0 a1 a2 a3 k
  obtain ⟨ih0, ih1, ih2⟩ := cloisterlaw20_QuotaBack.mono_l k
  unfold cloisterlaw20_QuotaBack.f
  repeat' first
      | (with_reducible exact ih0 _ _ _ _ _)
      | (with_reducible exact ih1 _ _ _ _ _ _ _ _)
      | (with_reducible exact ih2 _ _ _ _ _ _ _ _ _ _)
      | (with_reducible exact cloisterlaw20_fixed.mono _)
      | (with_reducible exact cloisterlaw20_same.mono _ _ _)
      | (with_reducible exact quota_Get.mono _ _ _)
      | (with_reducible exact LeO.refl _)
      | (with_reducible exact LeO.none _)
      | (with_reducible refine LeO.ite ?_ ?_)
      | (with_reducible refine LeO.bind ?_ (fun _ => ?_))
      | exact ih0 _ _ _ _ _
      | exact ih1 _ _ _ _ _ _ _ _
      | exact ih2 _ _ _ _ _ _ _ _ _ _
      | exact cloisterlaw20_fixed.mono _
      | exact cloisterlaw20_same.mono _ _ _
      | exact quota_Get.mono _ _ _
      | exact LeO.none _
      | refine LeO.ite ?_ ?_
      | refine LeO.bind ?_ (fun _ => ?_)
set_option maxHeartbeats 8000000 in
set_option maxRecDepth 100000 in
theorem cloisterlaw20_QuotaBack.calls (k : Nat) (A0 : Option Addr) (c0 : Nat) (l0 : List (S29)) (a1 : Int) (a2 : Int) (a3 : Int) (r : Bool) (w : World) (hr0 : Kd.C k29 w A0 l0.length l0) (hc0 : l0.length ≤ c0) (h : cloisterlaw20_QuotaBack.f k l0 a1 a2 a3 = some r) :
    Calls Try.prog 3 #[.slice A0 l0.length c0, .int .i64 a1, .int .i64 a2, .int .i64 a3] w fun e w' => e = .returned (.bool r) ∧ Below w.heap.size w w' := by
  have hu29 := Try.underlying29
  have HR0 := Aside0.mk hr0
  have HC0 := Aside0.mk hc0
  clear hr0 hc0
  have HB := Aside0.mk (Below.refl w.heap.size w)
  have H : ((cloisterlaw20_fixed.f k).bind fun t151 => (if t151 = true then ((quota_Check.f l0).bind fun t152 => (cloisterlaw20_QuotaBack.j0 k l0 a1 a2 a3 (t152 != 0))) else (cloisterlaw20_QuotaBack.j0 k l0 a1 a2 a3 true))) = some r := h
  clear h
  have HC5 := Aside0.mk H
  clear H
  go_enter Try.func3, Try.ntmps3
  go_upto_region 1 with (fail)
  go_cut [23] (fun v23 wc => ∃ (kq : Nat) (x23_4 : Bool), v23 = .bool x23_4 ∧ Aside0 (cloisterlaw20_QuotaBack.j0 kq l0 a1 a2 a3 x23_4 = some r) ∧ Aside0 (kq ≤ k) ∧ Aside0 (Below w.heap.size w wc))
  case first =>
    have H := HC5.out
    clear HC5
    replace H := Option.bind_eq_some_iff.mp H
    obtain ⟨t151, A60, H⟩ := H
    replace H : (if t151 = true then ((quota_Check.f l0).bind fun t152 => (cloisterlaw20_QuotaBack.j0 k l0 a1 a2 a3 (t152 != 0))) else (cloisterlaw20_QuotaBack.j0 k l0 a1 a2 a3 true)) = some r := H
    have A6 := Aside0.mk A60
    clear A60
    by_cases c7 : t151 = true
    · subst c7
      have H1 : ((quota_Check.f l0).bind fun t152 => (cloisterlaw20_QuotaBack.j0 k l0 a1 a2 a3 (t152 != 0))) = some r := by rw [if_pos rfl] at H; exact H
      clear H
      have H := H1
      clear H1
      replace H := Option.bind_eq_some_iff.mp H
      obtain ⟨t152, A80, H⟩ := H
      replace H : (cloisterlaw20_QuotaBack.j0 k l0 a1 a2 a3 (t152 != 0)) = some r := H
      have A8 := Aside0.mk A80
      clear A80
      have H' := Aside0.mk H
      clear H
      go_wp2_with (first | ((with_reducible refine gate_callee (f := 6) rfl ?_); refine goesL_ (some 17) rfl rfl Try.func6 (by kernel_rfl) rfl #[] rfl (by (try simp only [List.map_toArray, List.map_cons, List.map_nil]); first | done | rfl | (simp only [List.length_drop, List.length_take]; rfl)) ?_; (with_reducible refine (cloisterlaw20_fixed.calls k  true _ A6.out).mono ?_); rintro e w9 ⟨rfl, hb⟩; refine ⟨_, rfl, ?_⟩; have n0_ := Aside0.mk (below_step (by repeat (first | (with_reducible first | exact HB.out | apply below_alloc | apply pw_below_drewN | apply below_drew1) | exact HB.out)) hb); clear HB; have HB := n0_; clear n0_; (try clear hb); (try clear hb2); (try clear hk); (try clear hi)) | (go_at_call 7; (with_reducible refine (quota_Check.calls _ _ l0 t152 _ ?side1 ?side2 A8.out).mono ?_); (case side1 => repeat (first | exact (Kd.C_below HR0.out HB.out) | (with_reducible refine Kd.C_alloc ?_ _) | (with_reducible refine Kd.C_drewN ?_ _) | (with_reducible refine Kd.C_drew ?_))); (case side2 => exact HC0.out); rintro e w10 ⟨rfl, hb⟩; have n0_ := Aside0.mk (below_step (by repeat (first | (with_reducible first | exact HB.out | apply below_alloc | apply pw_below_drewN | apply below_drew1) | exact HB.out)) hb); clear HB; have HB := n0_; clear n0_; (try clear hb); (try clear hb2); (try clear hk); (try clear hi)))
      go_meet
      case rel => exact ⟨_, ((t152 != 0)), (by first | rfl | (simp; done) | (simp [*]; done)), H', ⟨by first | omega | exact Nat.le_refl _⟩, ⟨by repeat (first | (with_reducible first | exact HB.out | apply below_alloc | apply pw_below_drewN | apply below_drew1) | exact HB.out)⟩⟩
    · replace c7 := Bool.eq_false_iff.mpr c7
      subst c7
      have H1 : (cloisterlaw20_QuotaBack.j0 k l0 a1 a2 a3 true) = some r := by rw [if_neg (show ¬ (false = true) by decide)] at H; exact H
      clear H
      have H := H1
      clear H1
      have H' := Aside0.mk H
      clear H
      go_wp2_with (first | ((with_reducible refine gate_callee (f := 6) rfl ?_); refine goesL_ (some 17) rfl rfl Try.func6 (by kernel_rfl) rfl #[] rfl (by (try simp only [List.map_toArray, List.map_cons, List.map_nil]); first | done | rfl | (simp only [List.length_drop, List.length_take]; rfl)) ?_; (with_reducible refine (cloisterlaw20_fixed.calls k  false _ A6.out).mono ?_); rintro e w11 ⟨rfl, hb⟩; refine ⟨_, rfl, ?_⟩; have n0_ := Aside0.mk (below_step (by repeat (first | (with_reducible first | exact HB.out | apply below_alloc | apply pw_below_drewN | apply below_drew1) | exact HB.out)) hb); clear HB; have HB := n0_; clear n0_; (try clear hb); (try clear hb2); (try clear hk); (try clear hi)))
      go_meet
      case rel => exact ⟨_, (true), (by first | rfl | (simp; done) | (simp [*]; done)), H', ⟨by first | omega | exact Nat.le_refl _⟩, ⟨by repeat (first | (with_reducible first | exact HB.out | apply below_alloc | apply pw_below_drewN | apply below_drew1) | exact HB.out)⟩⟩
  case rest =>
    clear HC5
    try clear p2
    try clear c3
    try clear c6
    try clear c7
    obtain ⟨kq, x23_4, rfl, HA, HJ4, HB⟩ := hcut
    cases kq with
    | zero => exact absurd HA.out (by simp [cloisterlaw20_QuotaBack.j0])
    | succ kj4 =>
      have H := HA.out
      clear HA
      simp only [cloisterlaw20_QuotaBack.j0] at H
      by_cases c12 : x23_4 = true
      · subst c12
        have H1 : ((cloisterlaw20_fixed.f kj4).bind fun t153 => (some t153)) = some r := by rw [if_pos rfl] at H; exact H
        clear H
        have H := H1
        clear H1
        replace H := Option.bind_eq_some_iff.mp H
        obtain ⟨t153, A130, H⟩ := H
        replace H : (some t153) = some r := H
        have A13 := Aside0.mk A130
        clear A130
        obtain rfl := Option.some.inj H
        go_wp2_with (first | ((with_reducible refine gate_callee (f := 6) rfl ?_); refine goesL_ (some 24) rfl rfl Try.func6 (by kernel_rfl) rfl #[] rfl (by (try simp only [List.map_toArray, List.map_cons, List.map_nil]); first | done | rfl | (simp only [List.length_drop, List.length_take]; rfl)) ?_; (with_reducible refine (cloisterlaw20_fixed.calls kj4  t153 _ A13.out).mono ?_); rintro e w14 ⟨rfl, hb⟩; refine ⟨_, rfl, ?_⟩; have n0_ := Aside0.mk (below_step (by repeat (first | (with_reducible first | exact HB.out | apply below_alloc | apply pw_below_drewN | apply below_drew1) | exact HB.out)) hb); clear HB; have HB := n0_; clear n0_; (try clear hb); (try clear hb2); (try clear hk); (try clear hi)))
        go_ret
        exact ⟨by first | rfl | (simp [errW_none, errW_some] <;> rfl) | (simp [*, errW_none, errW_some] <;> rfl), by repeat (first | (with_reducible first | exact HB.out | apply below_alloc | apply pw_below_drewN | apply below_drew1) | exact HB.out)⟩
      · replace c12 := Bool.eq_false_iff.mpr c12
        subst c12
        have H1 : ((quota_Charge.f l0 a1 a2 a3).bind fun bt154 => (if bt154.2 = 0 then ((quota_Charge.f bt154.1 a1 (wrap64 (-a2)) (wrap64 (-a3))).bind fun bt158 => (if bt158.2 = 0 then ((quota_Get.f kj4 l0 a1).bind fun bt162 => ((quota_Limit.f l0 a1 (-1) (-1)).bind fun bt168 => (if bt168.2 = 0 then ((cloisterlaw20_same.f kj4 bt158.1 l0).bind fun t172 => (cloisterlaw20_QuotaBack.j1 kj4 a1 bt168.1 (!t172) bt162.1 bt162.2.1 bt162.2.2.1 bt162.2.2.2.1 bt162.2.2.2.2)) else (cloisterlaw20_QuotaBack.j1 kj4 a1 bt168.1 true bt162.1 bt162.2.1 bt162.2.2.1 bt162.2.2.2.1 bt162.2.2.2.2)))) else (if bt158.2 = 52 then (if a2 < 0 then (some true) else (some (decide (a3 < 0)))) else (some false)))) else (some ((bt154.1.length : Int) == 0)))) = some r := by rw [if_neg (show ¬ (false = true) by decide)] at H; exact H
        clear H
        have H := H1
        clear H1
        replace H := Option.bind_eq_some_iff.mp H
        obtain ⟨⟨t154, t155⟩, A150, H⟩ := H
        replace H : (if t155 = 0 then ((quota_Charge.f t154 a1 (wrap64 (-a2)) (wrap64 (-a3))).bind fun bt158 => (if bt158.2 = 0 then ((quota_Get.f kj4 l0 a1).bind fun bt162 => ((quota_Limit.f l0 a1 (-1) (-1)).bind fun bt168 => (if bt168.2 = 0 then ((cloisterlaw20_same.f kj4 bt158.1 l0).bind fun t172 => (cloisterlaw20_QuotaBack.j1 kj4 a1 bt168.1 (!t172) bt162.1 bt162.2.1 bt162.2.2.1 bt162.2.2.2.1 bt162.2.2.2.2)) else (cloisterlaw20_QuotaBack.j1 kj4 a1 bt168.1 true bt162.1 bt162.2.1 bt162.2.2.1 bt162.2.2.2.1 bt162.2.2.2.2)))) else (if bt158.2 = 52 then (if a2 < 0 then (some true) else (some (decide (a3 < 0)))) else (some false)))) else (some ((t154.length : Int) == 0))) = some r := H
        have A15 := Aside0.mk A150
        clear A150
        by_cases c16 : t155 = 0
        · rw [if_pos c16] at H
          have c16b0 : (t155 == 0) = true := beq_iff_eq.mpr c16
          have c16b1 : (t155 != 0) = false := bne_eq_false_iff_eq.mpr c16
          clear c16
          replace H := Option.bind_eq_some_iff.mp H
          obtain ⟨⟨t158, t159⟩, A170, H⟩ := H
          replace H : (if t159 = 0 then ((quota_Get.f kj4 l0 a1).bind fun bt162 => ((quota_Limit.f l0 a1 (-1) (-1)).bind fun bt168 => (if bt168.2 = 0 then ((cloisterlaw20_same.f kj4 t158 l0).bind fun t172 => (cloisterlaw20_QuotaBack.j1 kj4 a1 bt168.1 (!t172) bt162.1 bt162.2.1 bt162.2.2.1 bt162.2.2.2.1 bt162.2.2.2.2)) else (cloisterlaw20_QuotaBack.j1 kj4 a1 bt168.1 true bt162.1 bt162.2.1 bt162.2.2.1 bt162.2.2.2.1 bt162.2.2.2.2)))) else (if t159 = 52 then (if a2 < 0 then (some true) else (some (decide (a3 < 0)))) else (some false))) = some r := H
          have A17 := Aside0.mk A170
          clear A170
          by_cases c18 : t159 = 0
          · rw [if_pos c18] at H
            have c18b0 : (t159 == 0) = true := beq_iff_eq.mpr c18
            have c18b1 : (t159 != 0) = false := bne_eq_false_iff_eq.mpr c18
            clear c18
            replace H := Option.bind_eq_some_iff.mp H
            obtain ⟨⟨t162, t163, t164, t165, t166⟩, A190, H⟩ := H
            replace H : ((quota_Limit.f l0 a1 (-1) (-1)).bind fun bt168 => (if bt168.2 = 0 then ((cloisterlaw20_same.f kj4 t158 l0).bind fun t172 => (cloisterlaw20_QuotaBack.j1 kj4 a1 bt168.1 (!t172) t162 t163 t164 t165 t166)) else (cloisterlaw20_QuotaBack.j1 kj4 a1 bt168.1 true t162 t163 t164 t165 t166))) = some r := H
            have A19 := Aside0.mk A190
            clear A190
            replace H := Option.bind_eq_some_iff.mp H
            obtain ⟨⟨t168, t169⟩, A200, H⟩ := H
            replace H : (if t169 = 0 then ((cloisterlaw20_same.f kj4 t158 l0).bind fun t172 => (cloisterlaw20_QuotaBack.j1 kj4 a1 t168 (!t172) t162 t163 t164 t165 t166)) else (cloisterlaw20_QuotaBack.j1 kj4 a1 t168 true t162 t163 t164 t165 t166)) = some r := H
            have A20 := Aside0.mk A200
            clear A200
            have HC21 := Aside0.mk H
            clear H
            go_upto_region 11 with (first | ((with_reducible refine gate_callee (f := 8) rfl ?_); refine goesL_ (some 30) rfl rfl Try.func8 (by kernel_rfl) rfl #[.slice A0 l0.length c0, .int .i64 a1, .int .i64 a2, .int .i64 a3] rfl (by (try simp only [List.map_toArray, List.map_cons, List.map_nil]); first | done | rfl | (simp only [List.length_drop, List.length_take]; rfl)) ?_; (with_reducible refine (quota_Charge.calls _ _ l0 a1 a2 a3 t154 t155 _ ?side1 ?side2 A15.out).mono ?_); (case side1 => repeat (first | exact (Kd.C_below HR0.out HB.out) | (with_reducible refine Kd.C_alloc ?_ _) | (with_reducible refine Kd.C_drewN ?_ _) | (with_reducible refine Kd.C_drew ?_))); (case side2 => exact HC0.out); rintro e w22 ⟨v156, rfl, ho0, hb⟩; refine ⟨_, rfl, ?_⟩; have n0_ := Aside0.mk (Kd.R_lower ho0 (below_size (by repeat (first | (with_reducible first | exact HB.out | apply below_alloc | apply pw_below_drewN | apply below_drew1) | exact HB.out)))); have n1_ := Aside0.mk (below_step (by repeat (first | (with_reducible first | exact HB.out | apply below_alloc | apply pw_below_drewN | apply below_drew1) | exact HB.out)) hb); clear HB; have HO157 := n0_; have HB := n1_; clear n0_ n1_; (try clear hb); (try clear hb2); (try clear hk); (try clear hi); (try clear ho0); obtain ⟨Ao23, co23, eo23⟩ := Kd.R_slice HO157.out; subst eo23) | ((with_reducible refine gate_callee (f := 8) rfl ?_); refine goesL_ (some 45) rfl rfl Try.func8 (by kernel_rfl) rfl #[.slice Ao23 t154.length co23, .int .i64 a1, .int .i64 (wrap64 (-a2)), .int .i64 (wrap64 (-a3))] rfl (by (try simp only [List.map_toArray, List.map_cons, List.map_nil]); first | done | rfl | (simp only [List.length_drop, List.length_take]; rfl)) ?_; (with_reducible refine (quota_Charge.calls _ _ t154 a1 (wrap64 (-a2)) (wrap64 (-a3)) t158 t159 _ ?side1 ?side2 A17.out).mono ?_); (case side1 => repeat (first | exact (Kd.R_reads' HO157.out).2.2 | (with_reducible refine Kd.C_alloc ?_ _) | (with_reducible refine Kd.C_drewN ?_ _) | (with_reducible refine Kd.C_drew ?_))); (case side2 => exact (Kd.R_reads' HO157.out).2.1); rintro e w24 ⟨v160, rfl, ho0, hb⟩; refine ⟨_, rfl, ?_⟩; have n0_ := Aside0.mk (Kd.R_elder' (by (with_reducible repeat (first | apply Kd.R_alloc | apply Kd.R_drewN | apply Kd.R_drew)); exact HO157.out) (Kd.R_base ho0) hb); have n1_ := Aside0.mk (Kd.R_lower (Kd.R_new' ho0 (Kd.R_lt (by (with_reducible repeat (first | apply Kd.R_alloc | apply Kd.R_drewN | apply Kd.R_drew)); exact HO157.out))) (below_size (by repeat (first | (with_reducible first | exact HB.out | apply below_alloc | apply pw_below_drewN | apply below_drew1) | exact HB.out)))); have n2_ := Aside0.mk (below_step (by repeat (first | (with_reducible first | exact HB.out | apply below_alloc | apply pw_below_drewN | apply below_drew1) | exact HB.out)) hb); clear HO157; clear HB; have HO157 := n0_; have HO161 := n1_; have HB := n2_; clear n0_ n1_ n2_; (try clear hb); (try clear hb2); (try clear hk); (try clear hi); (try clear ho0)) | ((with_reducible refine gate_callee (f := 9) rfl ?_); refine goesL_ (some 62) rfl rfl Try.func9 (by kernel_rfl) rfl #[.slice A0 l0.length c0, .int .i64 a1] rfl (by (try simp only [List.map_toArray, List.map_cons, List.map_nil]); first | done | rfl | (simp only [List.length_drop, List.length_take]; rfl)) ?_; (with_reducible refine (quota_Get.calls kj4 _ _ l0 a1 t162 t163 t164 t165 t166 _ ?side1 ?side2 A19.out).mono ?_); (case side1 => repeat (first | exact (Kd.C_below HR0.out HB.out) | (with_reducible refine Kd.C_alloc ?_ _) | (with_reducible refine Kd.C_drewN ?_ _) | (with_reducible refine Kd.C_drew ?_))); (case side2 => exact HC0.out); rintro e w25 ⟨rfl, hb⟩; refine ⟨_, rfl, ?_⟩; have n0_ := Aside0.mk (Kd.R_below (by (with_reducible repeat (first | apply Kd.R_alloc | apply Kd.R_drewN | apply Kd.R_drew)); exact HO157.out) hb); have n1_ := Aside0.mk (Kd.R_below (by (with_reducible repeat (first | apply Kd.R_alloc | apply Kd.R_drewN | apply Kd.R_drew)); exact HO161.out) hb); have n2_ := Aside0.mk (below_step (by repeat (first | (with_reducible first | exact HB.out | apply below_alloc | apply pw_below_drewN | apply below_drew1) | exact HB.out)) hb); clear HO157; clear HO161; clear HB; have HO157 := n0_; have HO161 := n1_; have HB := n2_; clear n0_ n1_ n2_; (try clear hb); (try clear hb2); (try clear hk); (try clear hi)) | ((with_reducible refine gate_dst (N := 12) rfl ?_); refine box_event ?hg (N := 12) ?hd (cs := #[.int .i64 0, .int .i64 0, .int .i64 0, .int .i64 0, .int .i64 0]) (t := 29) ?hr ?_; (case hd => rfl); (case hg => rfl); (case hr => first | (go_simp; done) | (go_simp; rfl)); intro gb167 hg w26 hbox hb; have n0_ := Aside0.mk (Kd.R_below (Kd.R_elderB (by (with_reducible repeat (first | apply Kd.R_alloc | apply Kd.R_drewN | apply Kd.R_drew)); exact HO157.out) gb167 (Nat.le_of_eq hg.symm)) hb); have n1_ := Aside0.mk (Kd.R_below (Kd.R_elderB (by (with_reducible repeat (first | apply Kd.R_alloc | apply Kd.R_drewN | apply Kd.R_drew)); exact HO161.out) gb167 (Nat.le_of_eq hg.symm)) hb); have n2_ := Aside0.mk (below_step (by repeat (first | (with_reducible first | exact HB.out | apply below_alloc | apply pw_below_drewN | apply below_drew1) | exact HB.out)) hb); have n3_ := Aside0.mk (hbox); have n4_ := Aside0.mk ((by rw [hg]; exact (below_size (by repeat (first | (with_reducible first | exact HB.out | apply below_alloc | apply pw_below_drewN | apply below_drew1) | exact HB.out))) : w.heap.size ≤ gb167)); have n5_ := Aside0.mk ((by rw [hg]; exact (below_size (by repeat (first | (with_reducible first | exact HB.out | apply below_alloc | apply pw_below_drewN | apply below_drew1) | exact HB.out))) : w.heap.size ≤ gb167)); clear HO157; clear HO161; clear HB; have HO157 := n0_; have HO161 := n1_; have HB := n2_; have BK167 := n3_; have GW167 := n4_; have GE167 := n5_; clear n0_ n1_ n2_ n3_ n4_ n5_; clear hb hbox hg; have hcz27_0 : w26.cell? ⟨gb167, 0, none⟩ = some (.int .i64 0) := (blk_cell BK167.out 0).trans rfl; have hcz27_1 : w26.cell? ⟨gb167, 1, none⟩ = some (.int .i64 0) := (blk_cell BK167.out 1).trans rfl; have hcz27_2 : w26.cell? ⟨gb167, 2, none⟩ = some (.int .i64 0) := (blk_cell BK167.out 2).trans rfl; have hcz27_3 : w26.cell? ⟨gb167, 3, none⟩ = some (.int .i64 0) := (blk_cell BK167.out 3).trans rfl; have hcz27_4 : w26.cell? ⟨gb167, 4, none⟩ = some (.int .i64 0) := (blk_cell BK167.out 4).trans rfl; have hfz27_0 := blk_frozen BK167.out 0; have hfz27_1 := blk_frozen BK167.out 1; have hfz27_2 := blk_frozen BK167.out 2; have hfz27_3 := blk_frozen BK167.out 3; have hfz27_4 := blk_frozen BK167.out 4) | ((with_reducible refine gate_callee (f := 10) rfl ?_); refine goesL_ (some 66) rfl rfl Try.func10 (by kernel_rfl) rfl #[.slice A0 l0.length c0, .int .i64 a1, .int .i64 (-1), .int .i64 (-1)] rfl (by (try simp only [List.map_toArray, List.map_cons, List.map_nil]); first | done | rfl | (simp only [List.length_drop, List.length_take]; rfl)) ?_; (with_reducible refine (quota_Limit.calls _ _ l0 a1 (-1) (-1) t168 t169 _ ?side1 ?side2 A20.out).mono ?_); (case side1 => exact Kd.C_below HR0.out (by repeat (first | (with_reducible first | exact HB.out | apply below_alloc | apply pw_below_drewN | apply below_drew1 | refine below_set ?_ GE167.out) | exact HB.out))); (case side2 => exact HC0.out); rintro e w28 ⟨v170, rfl, ho0, hb⟩; refine ⟨_, rfl, ?_⟩; have n0_ := Aside0.mk (Kd.R_elder' (by (with_reducible repeat (first | apply Kd.R_alloc | apply Kd.R_drewN | apply Kd.R_drew)); exact (Kd.R_mono (Kd.R_far (p := ⟨gb167, 4, none⟩) (Kd.R_far (p := ⟨gb167, 3, none⟩) (Kd.R_far (p := ⟨gb167, 2, none⟩) (Kd.R_far (p := ⟨gb167, 1, none⟩) (Kd.R_far (p := ⟨gb167, 0, none⟩) (Kd.R_mono HO157.out (fun k_ hk => (⟨hk, hk.2⟩ : _ ∧ k_ ≠ gb167))) (fun _ hk => hk.2) (.int .i64 t162)) (fun _ hk => hk.2) (.int .i64 t163)) (fun _ hk => hk.2) (.int .i64 t164)) (fun _ hk => hk.2) (.int .i64 t165)) (fun _ hk => hk.2) (.int .i64 t166)) (fun _ h_ => h_.1))) (Kd.R_base ho0) hb); have n1_ := Aside0.mk (Kd.R_elder' (by (with_reducible repeat (first | apply Kd.R_alloc | apply Kd.R_drewN | apply Kd.R_drew)); exact (Kd.R_mono (Kd.R_far (p := ⟨gb167, 4, none⟩) (Kd.R_far (p := ⟨gb167, 3, none⟩) (Kd.R_far (p := ⟨gb167, 2, none⟩) (Kd.R_far (p := ⟨gb167, 1, none⟩) (Kd.R_far (p := ⟨gb167, 0, none⟩) (Kd.R_mono HO161.out (fun k_ hk => (⟨hk, hk.2⟩ : _ ∧ k_ ≠ gb167))) (fun _ hk => hk.2) (.int .i64 t162)) (fun _ hk => hk.2) (.int .i64 t163)) (fun _ hk => hk.2) (.int .i64 t164)) (fun _ hk => hk.2) (.int .i64 t165)) (fun _ hk => hk.2) (.int .i64 t166)) (fun _ h_ => h_.1))) (Kd.R_base ho0) hb); have n2_ := Aside0.mk (Kd.R_lower (Kd.R_newB (Kd.R_new' (Kd.R_new' ho0 (Kd.R_lt (by (with_reducible repeat (first | apply Kd.R_alloc | apply Kd.R_drewN | apply Kd.R_drew)); exact (Kd.R_mono (Kd.R_far (p := ⟨gb167, 4, none⟩) (Kd.R_far (p := ⟨gb167, 3, none⟩) (Kd.R_far (p := ⟨gb167, 2, none⟩) (Kd.R_far (p := ⟨gb167, 1, none⟩) (Kd.R_far (p := ⟨gb167, 0, none⟩) (Kd.R_mono HO157.out (fun k_ hk => (⟨hk, hk.2⟩ : _ ∧ k_ ≠ gb167))) (fun _ hk => hk.2) (.int .i64 t162)) (fun _ hk => hk.2) (.int .i64 t163)) (fun _ hk => hk.2) (.int .i64 t164)) (fun _ hk => hk.2) (.int .i64 t165)) (fun _ hk => hk.2) (.int .i64 t166)) (fun _ h_ => h_.1))))) (Kd.R_lt (by (with_reducible repeat (first | apply Kd.R_alloc | apply Kd.R_drewN | apply Kd.R_drew)); exact (Kd.R_mono (Kd.R_far (p := ⟨gb167, 4, none⟩) (Kd.R_far (p := ⟨gb167, 3, none⟩) (Kd.R_far (p := ⟨gb167, 2, none⟩) (Kd.R_far (p := ⟨gb167, 1, none⟩) (Kd.R_far (p := ⟨gb167, 0, none⟩) (Kd.R_mono HO161.out (fun k_ hk => (⟨hk, hk.2⟩ : _ ∧ k_ ≠ gb167))) (fun _ hk => hk.2) (.int .i64 t162)) (fun _ hk => hk.2) (.int .i64 t163)) (fun _ hk => hk.2) (.int .i64 t164)) (fun _ hk => hk.2) (.int .i64 t165)) (fun _ hk => hk.2) (.int .i64 t166)) (fun _ h_ => h_.1))))) (g := gb167) (o := .cells #[.int .i64 t162, .int .i64 t163, .int .i64 t164, .int .i64 t165, .int .i64 t166] 29 (0, 0)) (by (with_reducible repeat (first | refine blk_drewN ?_ _ | refine blk_drew ?_ | refine blk_alloc ?_ _)); refine blk_put (cs := #[.int .i64 t162, .int .i64 t163, .int .i64 t164, .int .i64 t165, .int .i64 0]) ?_ 4 _ rfl; (with_reducible repeat (first | refine blk_drewN ?_ _ | refine blk_drew ?_ | refine blk_alloc ?_ _)); refine blk_put (cs := #[.int .i64 t162, .int .i64 t163, .int .i64 t164, .int .i64 0, .int .i64 0]) ?_ 3 _ rfl; (with_reducible repeat (first | refine blk_drewN ?_ _ | refine blk_drew ?_ | refine blk_alloc ?_ _)); refine blk_put (cs := #[.int .i64 t162, .int .i64 t163, .int .i64 0, .int .i64 0, .int .i64 0]) ?_ 2 _ rfl; (with_reducible repeat (first | refine blk_drewN ?_ _ | refine blk_drew ?_ | refine blk_alloc ?_ _)); refine blk_put (cs := #[.int .i64 t162, .int .i64 0, .int .i64 0, .int .i64 0, .int .i64 0]) ?_ 1 _ rfl; (with_reducible repeat (first | refine blk_drewN ?_ _ | refine blk_drew ?_ | refine blk_alloc ?_ _)); refine blk_put (cs := #[.int .i64 0, .int .i64 0, .int .i64 0, .int .i64 0, .int .i64 0]) ?_ 0 _ rfl; (with_reducible repeat (first | refine blk_drewN ?_ _ | refine blk_drew ?_ | refine blk_alloc ?_ _)); exact BK167.out)) (below_size (by repeat (first | (with_reducible first | exact HB.out | apply below_alloc | apply pw_below_drewN | apply below_drew1 | refine below_set ?_ GE167.out) | exact HB.out)))); have n3_ := Aside0.mk (blk_below (g := gb167) (o := .cells #[.int .i64 t162, .int .i64 t163, .int .i64 t164, .int .i64 t165, .int .i64 t166] 29 (0, 0)) (by (with_reducible repeat (first | refine blk_drewN ?_ _ | refine blk_drew ?_ | refine blk_alloc ?_ _)); refine blk_put (cs := #[.int .i64 t162, .int .i64 t163, .int .i64 t164, .int .i64 t165, .int .i64 0]) ?_ 4 _ rfl; (with_reducible repeat (first | refine blk_drewN ?_ _ | refine blk_drew ?_ | refine blk_alloc ?_ _)); refine blk_put (cs := #[.int .i64 t162, .int .i64 t163, .int .i64 t164, .int .i64 0, .int .i64 0]) ?_ 3 _ rfl; (with_reducible repeat (first | refine blk_drewN ?_ _ | refine blk_drew ?_ | refine blk_alloc ?_ _)); refine blk_put (cs := #[.int .i64 t162, .int .i64 t163, .int .i64 0, .int .i64 0, .int .i64 0]) ?_ 2 _ rfl; (with_reducible repeat (first | refine blk_drewN ?_ _ | refine blk_drew ?_ | refine blk_alloc ?_ _)); refine blk_put (cs := #[.int .i64 t162, .int .i64 0, .int .i64 0, .int .i64 0, .int .i64 0]) ?_ 1 _ rfl; (with_reducible repeat (first | refine blk_drewN ?_ _ | refine blk_drew ?_ | refine blk_alloc ?_ _)); refine blk_put (cs := #[.int .i64 0, .int .i64 0, .int .i64 0, .int .i64 0, .int .i64 0]) ?_ 0 _ rfl; (with_reducible repeat (first | refine blk_drewN ?_ _ | refine blk_drew ?_ | refine blk_alloc ?_ _)); exact BK167.out) hb); have n4_ := Aside0.mk (below_step (by repeat (first | (with_reducible first | exact HB.out | apply below_alloc | apply pw_below_drewN | apply below_drew1 | refine below_set ?_ GE167.out) | exact HB.out)) hb); clear HO157; clear HO161; clear BK167; clear HB; have HO157 := n0_; have HO161 := n1_; have HO171 := n2_; have BK167 := n3_; have HB := n4_; clear n0_ n1_ n2_ n3_ n4_; (try clear hb); (try clear hb2); (try clear hk); (try clear hi); (try clear ho0)))
            (try simp only [Act.put, List.setIfInBounds_toArray, List.set_cons_zero, List.set_cons_succ])
            go_cut [76] (fun v76 wc => ∃ (kq : Nat) (x76_20 : Bool), v76 = .bool x76_20 ∧ Aside0 (cloisterlaw20_QuotaBack.j1 kq a1 t168 x76_20 t162 t163 t164 t165 t166 = some r) ∧ Aside0 (kq ≤ kj4) ∧ Aside0 (Kd.R k29 29 wc w.heap.size (fun k_ => k_ ≠ gb167) v170 t168) ∧ Aside0 (wc.heap[gb167]? = some (.cells #[.int .i64 t162, .int .i64 t163, .int .i64 t164, .int .i64 t165, .int .i64 t166] 29 (0, 0))) ∧ Aside0 (Below w.heap.size w wc))
            case first =>
              have H := HC21.out
              clear HC21
              by_cases c29 : t169 = 0
              · rw [if_pos c29] at H
                have c29b0 : (t169 == 0) = true := beq_iff_eq.mpr c29
                have c29b1 : (t169 != 0) = false := bne_eq_false_iff_eq.mpr c29
                clear c29
                (first | rw [c29b0] | (simp only [i64_w, i32_w]; rw [c29b0]) | skip)
                replace H := Option.bind_eq_some_iff.mp H
                obtain ⟨t172, A300, H⟩ := H
                replace H : (cloisterlaw20_QuotaBack.j1 kj4 a1 t168 (!t172) t162 t163 t164 t165 t166) = some r := H
                have A30 := Aside0.mk A300
                clear A300
                have H' := Aside0.mk H
                clear H
                obtain ⟨Ao31, co31, eo31⟩ := Kd.R_slice HO161.out
                subst eo31
                go_wp2_with (first | (go_at_call 11; (with_reducible refine (cloisterlaw20_same.calls kj4 _ _ t158 _ _ l0 t172 _ ?side1 ?side2 ?side3 ?side4 A30.out).mono ?_); (case side1 => repeat (first | exact (Kd.R_reads' HO161.out).2.2 | (with_reducible refine Kd.C_alloc ?_ _) | (with_reducible refine Kd.C_drewN ?_ _) | (with_reducible refine Kd.C_drew ?_))); (case side2 => exact (Kd.R_reads' HO161.out).2.1); (case side3 => repeat (first | exact (Kd.C_below HR0.out HB.out) | (with_reducible refine Kd.C_alloc ?_ _) | (with_reducible refine Kd.C_drewN ?_ _) | (with_reducible refine Kd.C_drew ?_))); (case side4 => exact HC0.out); rintro e w' ⟨rfl, ⟨nd, rfl⟩⟩))
                go_meet
                case rel => exact ⟨_, (!t172), (by first | rfl | (simp; done) | (simp [*]; done)), H', ⟨by have := HJ4.out; first | omega | exact Nat.le_refl _⟩, ⟨by (with_reducible repeat (first | apply Kd.R_alloc | apply Kd.R_drewN | apply Kd.R_drew)); exact Kd.R_mono HO171.out (fun _ hk => hk.2)⟩, ⟨by (with_reducible repeat (first | refine blk_drewN ?_ _ | refine blk_drew ?_ | refine blk_alloc ?_ _)); exact BK167.out⟩, ⟨by repeat (first | (with_reducible first | exact HB.out | apply below_alloc | apply pw_below_drewN | apply below_drew1 | refine below_set ?_ GE167.out) | exact HB.out)⟩⟩
              · rw [if_neg c29] at H
                have c29b0 : (t169 == 0) = false := beq_eq_false_iff_ne.mpr c29
                have c29b1 : (t169 != 0) = true := bne_iff_ne.mpr c29
                (first | rw [c29b0] | (simp only [i64_w, i32_w]; rw [c29b0]) | skip)
                have H' := Aside0.mk H
                clear H
                go_wp2
                go_meet
                case rel => exact ⟨_, (true), (by first | rfl | (simp; done) | (simp [*]; done)), H', ⟨by have := HJ4.out; first | omega | exact Nat.le_refl _⟩, ⟨by (with_reducible repeat (first | apply Kd.R_alloc | apply Kd.R_drewN | apply Kd.R_drew)); exact Kd.R_mono HO171.out (fun _ hk => hk.2)⟩, ⟨by (with_reducible repeat (first | refine blk_drewN ?_ _ | refine blk_drew ?_ | refine blk_alloc ?_ _)); exact BK167.out⟩, ⟨by repeat (first | (with_reducible first | exact HB.out | apply below_alloc | apply pw_below_drewN | apply below_drew1 | refine below_set ?_ GE167.out) | exact HB.out)⟩⟩
            case rest =>
              clear HC21
              try clear c1
              try clear c2
              try clear p2
              try clear c3
              try clear c6
              try clear p6
              try clear c7
              try clear c8
              try clear c9
              try clear c10
              try clear c12
              try clear c16
              try clear c16b0
              try clear c16b1
              try clear c18
              try clear c18b0
              try clear c18b1
              try clear c29
              try clear c29b0
              try clear c29b1
              try clear hcz27_0
              try clear hcz27_1
              try clear hcz27_2
              try clear hcz27_3
              try clear hcz27_4
              try clear hfz27_0
              try clear hfz27_1
              try clear hfz27_2
              try clear hfz27_3
              try clear hfz27_4
              try clear p2
              obtain ⟨kq, x76_20, rfl, HA, HJ20, HO_13, BK167, HB⟩ := hcut
              cases kq with
              | zero => exact absurd HA.out (by simp [cloisterlaw20_QuotaBack.j1])
              | succ kj20 =>
                have H := HA.out
                clear HA
                simp only [cloisterlaw20_QuotaBack.j1] at H
                by_cases c32 : x76_20 = true
                · subst c32
                  have H1 : (some false) = some r := by rw [if_pos rfl] at H; exact H
                  clear H
                  have H := H1
                  clear H1
                  obtain rfl := Option.some.inj H
                  go_wp2
                  go_ret
                  exact ⟨by first | rfl | (simp [errW_none, errW_some] <;> rfl) | (simp [*, errW_none, errW_some] <;> rfl), by repeat (first | (with_reducible first | exact HB.out | apply below_alloc | apply pw_below_drewN | apply below_drew1 | refine below_set ?_ GE167.out) | exact HB.out)⟩
                · replace c32 := Bool.eq_false_iff.mpr c32
                  subst c32
                  have H1 : (cloisterlaw20_QuotaBack.l0 kj20 a1 false t168 (t168.length : Int) 0 t162 t163 t164 t165 t166) = some r := by rw [if_neg (show ¬ (false = true) by decide)] at H; exact H
                  clear H
                  have H := H1
                  clear H1
                  have H' := Aside0.mk H
                  clear H
                  obtain ⟨Ao33, co33, eo33⟩ := Kd.R_slice HO_13.out
                  subst eo33
                  go_wp2
                  go_loopg [14, 79] kj20 (fun kq v14 v79 w' => ∃ (x14_3 : Bool) (x79_3 : Int), v14 = .bool x14_3 ∧ v79 = .int .i64 x79_3 ∧ Aside0 (cloisterlaw20_QuotaBack.l0 kq a1 x14_3 t168 (t168.length : Int) x79_3 t162 t163 t164 t165 t166 = some r) ∧ Aside0 (kq ≤ kj20) ∧ Aside0 (Kd.R k29 29 w' w.heap.size (fun k_ => k_ ≠ gb167) (.slice Ao33 t168.length co33) t168) ∧ Aside0 (w'.heap[gb167]? = some (.cells #[.int .i64 t162, .int .i64 t163, .int .i64 t164, .int .i64 t165, .int .i64 t166] 29 (0, 0))) ∧ Aside0 (Below w.heap.size w w'))
                  case atStart => exact ⟨(false), (0), (by first | rfl | (simp; done) | (simp [*]; done)), (by first | rfl | (simp; done) | (simp [*]; done)), H', ⟨Nat.le_refl _⟩, ⟨by (with_reducible repeat (first | apply Kd.R_alloc | apply Kd.R_drewN | apply Kd.R_drew)); exact HO_13.out⟩, ⟨by (with_reducible repeat (first | refine blk_drewN ?_ _ | refine blk_drew ?_ | refine blk_alloc ?_ _)); exact BK167.out⟩, ⟨by repeat (first | (with_reducible first | exact HB.out | apply below_alloc | apply pw_below_drewN | apply below_drew1 | refine below_set ?_ GE167.out) | exact HB.out)⟩⟩
                  case round =>
                    clear H'
                    try clear c1
                    try clear c2
                    try clear p2
                    try clear c3
                    try clear c6
                    try clear p6
                    try clear c7
                    try clear c8
                    try clear c9
                    try clear c10
                    try clear c12
                    try clear c16
                    try clear c16b0
                    try clear c16b1
                    try clear c18
                    try clear c18b0
                    try clear c18b1
                    try clear c29
                    try clear c29b0
                    try clear c29b1
                    try clear c32
                    try clear hcz27_0
                    try clear hcz27_1
                    try clear hcz27_2
                    try clear hcz27_3
                    try clear hcz27_4
                    try clear hfz27_0
                    try clear hfz27_1
                    try clear hfz27_2
                    try clear hfz27_3
                    try clear hfz27_4
                    try clear p2
                    try clear p6
                    obtain ⟨x14_3, x79_3, rfl, rfl, HA, HK3, HO_77, BK167, HB⟩ := hrel
                    cases gk with
                    | zero => exact absurd HA.out (by simp [cloisterlaw20_QuotaBack.l0])
                    | succ k3 =>
                      have H := HA.out
                      clear HA
                      simp only [cloisterlaw20_QuotaBack.l0] at H
                      by_cases c34 : x79_3 < (t168.length : Int)
                      · rw [if_pos c34] at H
                        have c34b0 : decide (x79_3 < (t168.length : Int)) = true := decide_eq_true c34
                        clear c34
                        by_cases c35 : 0 ≤ x79_3
                        · rw [if_pos c35] at H
                          have c35b0 : decide (0 ≤ x79_3) = true := decide_eq_true c35
                          clear c35
                          by_cases c36 : x79_3 < (t168.length : Int)
                          · rw [if_pos c36] at H
                            have c36b0 : decide (x79_3 < (t168.length : Int)) = true := decide_eq_true c36
                            clear c36
                            by_cases c37 : x14_3 = true
                            · subst c37
                              have H1 : (cloisterlaw20_QuotaBack.l0 k3 a1 true t168 (t168.length : Int) (wrap64 (x79_3 + 1)) t162 t163 t164 t165 t166) = some r := by rw [if_pos rfl] at H; exact H
                              clear H
                              have H := H1
                              clear H1
                              have H' := Aside0.mk H
                              clear H
                              have p173 : 0 ≤ (x79_3 : Int) := of_decide_eq_true (by first | (with_reducible assumption) | assumption)
                              have q173 : x79_3 < (t168.length : Int) := of_decide_eq_true (by first | (with_reducible assumption) | assumption)
                              obtain ⟨ad173, e173, hx173_0, hx173_1, hx173_2, hx173_3, hx173_4⟩ := at_T29 (Kd.R_reads' HO_77.out).2.2 x79_3 p173 q173
                              cases e173
                              replace p173 := eq_true p173
                              replace q173 := eq_true q173
                              go_wp2_with (first | ((with_reducible refine gate_dst (N := 16) rfl ?_); refine box_event ?hg (N := 16) ?hd (cs := #[.int .i64 0, .int .i64 0, .int .i64 0, .int .i64 0, .int .i64 0]) (t := 29) ?hr ?_; (case hd => rfl); (case hg => rfl); (case hr => first | (go_simp; done) | (go_simp; rfl)); intro gb174 hg w38 hbox hb; have n0_ := Aside0.mk (Kd.R_below (Kd.R_elderB (by (with_reducible repeat (first | apply Kd.R_alloc | apply Kd.R_drewN | apply Kd.R_drew)); exact HO_77.out) gb174 (Nat.le_of_eq hg.symm)) hb); have n1_ := Aside0.mk (blk_below (g := gb167) (o := .cells #[.int .i64 t162, .int .i64 t163, .int .i64 t164, .int .i64 t165, .int .i64 t166] 29 (0, 0)) (by (with_reducible repeat (first | refine blk_drewN ?_ _ | refine blk_drew ?_ | refine blk_alloc ?_ _)); exact BK167.out) hb); have n2_ := Aside0.mk (below_step (by repeat (first | (with_reducible first | exact HB.out | apply below_alloc | apply pw_below_drewN | apply below_drew1 | refine below_set ?_ GE167.out) | exact HB.out)) hb); have n3_ := Aside0.mk (hbox); have n4_ := Aside0.mk ((by rw [hg]; exact (below_size (by repeat (first | (with_reducible first | exact HB.out | apply below_alloc | apply pw_below_drewN | apply below_drew1 | refine below_set ?_ GE167.out) | exact HB.out))) : w.heap.size ≤ gb174)); have n5_ := Aside0.mk ((by rw [hg]; exact (below_size (by repeat (first | (with_reducible first | exact HB.out | apply below_alloc | apply pw_below_drewN | apply below_drew1 | refine below_set ?_ GE167.out) | exact HB.out))) : w.heap.size ≤ gb174)); have n6_ := Aside0.mk ((by rw [hg]; exact Nat.ne_of_lt (blk_lt (g := gb167) (o := .cells #[.int .i64 t162, .int .i64 t163, .int .i64 t164, .int .i64 t165, .int .i64 t166] 29 (0, 0)) (by (with_reducible repeat (first | refine blk_drewN ?_ _ | refine blk_drew ?_ | refine blk_alloc ?_ _)); exact BK167.out)) : gb167 ≠ gb174)); have n7_ := Aside0.mk ((by rw [hg]; exact Nat.ne_of_gt (blk_lt (g := gb167) (o := .cells #[.int .i64 t162, .int .i64 t163, .int .i64 t164, .int .i64 t165, .int .i64 t166] 29 (0, 0)) (by (with_reducible repeat (first | refine blk_drewN ?_ _ | refine blk_drew ?_ | refine blk_alloc ?_ _)); exact BK167.out)) : gb174 ≠ gb167)); clear HO_77; clear BK167; clear HB; have HO_77 := n0_; have BK167 := n1_; have HB := n2_; have BK174 := n3_; have GW174 := n4_; have GE174 := n5_; have NB167_174 := n6_; have NB174_167 := n7_; clear n0_ n1_ n2_ n3_ n4_ n5_ n6_ n7_; clear hb hbox hg; have hnb39 := NB174_167.out; have hnc39 := NB167_174.out; have hcz40_0 : w38.cell? ⟨gb174, 0, none⟩ = some (.int .i64 0) := (blk_cell BK174.out 0).trans rfl; have hcz40_1 : w38.cell? ⟨gb174, 1, none⟩ = some (.int .i64 0) := (blk_cell BK174.out 1).trans rfl; have hcz40_2 : w38.cell? ⟨gb174, 2, none⟩ = some (.int .i64 0) := (blk_cell BK174.out 2).trans rfl; have hcz40_3 : w38.cell? ⟨gb174, 3, none⟩ = some (.int .i64 0) := (blk_cell BK174.out 3).trans rfl; have hcz40_4 : w38.cell? ⟨gb174, 4, none⟩ = some (.int .i64 0) := (blk_cell BK174.out 4).trans rfl; have hfz40_0 := blk_frozen BK174.out 0; have hfz40_1 := blk_frozen BK174.out 1; have hfz40_2 := blk_frozen BK174.out 2; have hfz40_3 := blk_frozen BK174.out 3; have hfz40_4 := blk_frozen BK174.out 4))
                              go_roundg k3
                              case measure => have := HJ4.out; have := HJ20.out; have := HK3.out; omega
                              case rel => exact ⟨(true), (wrap64 (x79_3 + 1)), (by first | rfl | (simp; done) | (simp [*]; done)), (by first | rfl | (simp; done) | (simp [*]; done)), H', ⟨by have := HJ4.out; have := HJ20.out; have := HK3.out; omega⟩, ⟨by (with_reducible repeat (first | apply Kd.R_alloc | apply Kd.R_drewN | apply Kd.R_drew)); exact Kd.R_mono (Kd.R_far (p := ⟨gb174, 4, none⟩) (Kd.R_far (p := ⟨gb174, 3, none⟩) (Kd.R_far (p := ⟨gb174, 2, none⟩) (Kd.R_far (p := ⟨gb174, 1, none⟩) (Kd.R_far (p := ⟨gb174, 0, none⟩) (Kd.R_mono HO_77.out (fun k_ hk => (⟨hk, hk.2⟩ : _ ∧ k_ ≠ gb174))) (fun _ hk => hk.2) (.int .i64 ((rd_T29 t168 x79_3).f0))) (fun _ hk => hk.2) (.int .i64 ((rd_T29 t168 x79_3).f1))) (fun _ hk => hk.2) (.int .i64 ((rd_T29 t168 x79_3).f2))) (fun _ hk => hk.2) (.int .i64 ((rd_T29 t168 x79_3).f3))) (fun _ hk => hk.2) (.int .i64 ((rd_T29 t168 x79_3).f4))) (fun _ hk => hk.1.1)⟩, ⟨by (with_reducible repeat (first | refine blk_drewN ?_ _ | refine blk_drew ?_ | refine blk_alloc ?_ _)); refine blk_far ?_ NB167_174.out _; (with_reducible repeat (first | refine blk_drewN ?_ _ | refine blk_drew ?_ | refine blk_alloc ?_ _)); refine blk_far ?_ NB167_174.out _; (with_reducible repeat (first | refine blk_drewN ?_ _ | refine blk_drew ?_ | refine blk_alloc ?_ _)); refine blk_far ?_ NB167_174.out _; (with_reducible repeat (first | refine blk_drewN ?_ _ | refine blk_drew ?_ | refine blk_alloc ?_ _)); refine blk_far ?_ NB167_174.out _; (with_reducible repeat (first | refine blk_drewN ?_ _ | refine blk_drew ?_ | refine blk_alloc ?_ _)); refine blk_far ?_ NB167_174.out _; (with_reducible repeat (first | refine blk_drewN ?_ _ | refine blk_drew ?_ | refine blk_alloc ?_ _)); exact BK167.out⟩, ⟨by repeat (first | (with_reducible first | exact HB.out | apply below_alloc | apply pw_below_drewN | apply below_drew1 | refine below_set ?_ GE167.out | refine below_set ?_ GE174.out) | exact HB.out)⟩⟩
                            · replace c37 := Bool.eq_false_iff.mpr c37
                              subst c37
                              have H1 : (cloisterlaw20_QuotaBack.l0 k3 a1 (((rd_T29 t168 x79_3).f0) == a1) t168 (t168.length : Int) (wrap64 (x79_3 + 1)) t162 t163 t164 t165 t166) = some r := by rw [if_neg (show ¬ (false = true) by decide)] at H; exact H
                              clear H
                              have H := H1
                              clear H1
                              have H' := Aside0.mk H
                              clear H
                              have p173 : 0 ≤ (x79_3 : Int) := of_decide_eq_true (by first | (with_reducible assumption) | assumption)
                              have q173 : x79_3 < (t168.length : Int) := of_decide_eq_true (by first | (with_reducible assumption) | assumption)
                              obtain ⟨ad173, e173, hx173_0, hx173_1, hx173_2, hx173_3, hx173_4⟩ := at_T29 (Kd.R_reads' HO_77.out).2.2 x79_3 p173 q173
                              cases e173
                              replace p173 := eq_true p173
                              replace q173 := eq_true q173
                              go_wp2_with (first | ((with_reducible refine gate_dst (N := 16) rfl ?_); refine box_event ?hg (N := 16) ?hd (cs := #[.int .i64 0, .int .i64 0, .int .i64 0, .int .i64 0, .int .i64 0]) (t := 29) ?hr ?_; (case hd => rfl); (case hg => rfl); (case hr => first | (go_simp; done) | (go_simp; rfl)); intro gb174 hg w41 hbox hb; have n0_ := Aside0.mk (Kd.R_below (Kd.R_elderB (by (with_reducible repeat (first | apply Kd.R_alloc | apply Kd.R_drewN | apply Kd.R_drew)); exact HO_77.out) gb174 (Nat.le_of_eq hg.symm)) hb); have n1_ := Aside0.mk (blk_below (g := gb167) (o := .cells #[.int .i64 t162, .int .i64 t163, .int .i64 t164, .int .i64 t165, .int .i64 t166] 29 (0, 0)) (by (with_reducible repeat (first | refine blk_drewN ?_ _ | refine blk_drew ?_ | refine blk_alloc ?_ _)); exact BK167.out) hb); have n2_ := Aside0.mk (below_step (by repeat (first | (with_reducible first | exact HB.out | apply below_alloc | apply pw_below_drewN | apply below_drew1 | refine below_set ?_ GE167.out) | exact HB.out)) hb); have n3_ := Aside0.mk (hbox); have n4_ := Aside0.mk ((by rw [hg]; exact (below_size (by repeat (first | (with_reducible first | exact HB.out | apply below_alloc | apply pw_below_drewN | apply below_drew1 | refine below_set ?_ GE167.out) | exact HB.out))) : w.heap.size ≤ gb174)); have n5_ := Aside0.mk ((by rw [hg]; exact (below_size (by repeat (first | (with_reducible first | exact HB.out | apply below_alloc | apply pw_below_drewN | apply below_drew1 | refine below_set ?_ GE167.out) | exact HB.out))) : w.heap.size ≤ gb174)); have n6_ := Aside0.mk ((by rw [hg]; exact Nat.ne_of_lt (blk_lt (g := gb167) (o := .cells #[.int .i64 t162, .int .i64 t163, .int .i64 t164, .int .i64 t165, .int .i64 t166] 29 (0, 0)) (by (with_reducible repeat (first | refine blk_drewN ?_ _ | refine blk_drew ?_ | refine blk_alloc ?_ _)); exact BK167.out)) : gb167 ≠ gb174)); have n7_ := Aside0.mk ((by rw [hg]; exact Nat.ne_of_gt (blk_lt (g := gb167) (o := .cells #[.int .i64 t162, .int .i64 t163, .int .i64 t164, .int .i64 t165, .int .i64 t166] 29 (0, 0)) (by (with_reducible repeat (first | refine blk_drewN ?_ _ | refine blk_drew ?_ | refine blk_alloc ?_ _)); exact BK167.out)) : gb174 ≠ gb167)); clear HO_77; clear BK167; clear HB; have HO_77 := n0_; have BK167 := n1_; have HB := n2_; have BK174 := n3_; have GW174 := n4_; have GE174 := n5_; have NB167_174 := n6_; have NB174_167 := n7_; clear n0_ n1_ n2_ n3_ n4_ n5_ n6_ n7_; clear hb hbox hg; have hnb42 := NB174_167.out; have hnc42 := NB167_174.out; have hcz43_0 : w41.cell? ⟨gb174, 0, none⟩ = some (.int .i64 0) := (blk_cell BK174.out 0).trans rfl; have hcz43_1 : w41.cell? ⟨gb174, 1, none⟩ = some (.int .i64 0) := (blk_cell BK174.out 1).trans rfl; have hcz43_2 : w41.cell? ⟨gb174, 2, none⟩ = some (.int .i64 0) := (blk_cell BK174.out 2).trans rfl; have hcz43_3 : w41.cell? ⟨gb174, 3, none⟩ = some (.int .i64 0) := (blk_cell BK174.out 3).trans rfl; have hcz43_4 : w41.cell? ⟨gb174, 4, none⟩ = some (.int .i64 0) := (blk_cell BK174.out 4).trans rfl; have hfz43_0 := blk_frozen BK174.out 0; have hfz43_1 := blk_frozen BK174.out 1; have hfz43_2 := blk_frozen BK174.out 2; have hfz43_3 := blk_frozen BK174.out 3; have hfz43_4 := blk_frozen BK174.out 4))
                              go_roundg k3
                              case measure => have := HJ4.out; have := HJ20.out; have := HK3.out; omega
                              case rel => exact ⟨((((rd_T29 t168 x79_3).f0) == a1)), (wrap64 (x79_3 + 1)), (by first | rfl | (simp; done) | (simp [*]; done)), (by first | rfl | (simp; done) | (simp [*]; done)), H', ⟨by have := HJ4.out; have := HJ20.out; have := HK3.out; omega⟩, ⟨by (with_reducible repeat (first | apply Kd.R_alloc | apply Kd.R_drewN | apply Kd.R_drew)); exact Kd.R_mono (Kd.R_far (p := ⟨gb174, 4, none⟩) (Kd.R_far (p := ⟨gb174, 3, none⟩) (Kd.R_far (p := ⟨gb174, 2, none⟩) (Kd.R_far (p := ⟨gb174, 1, none⟩) (Kd.R_far (p := ⟨gb174, 0, none⟩) (Kd.R_mono HO_77.out (fun k_ hk => (⟨hk, hk.2⟩ : _ ∧ k_ ≠ gb174))) (fun _ hk => hk.2) (.int .i64 ((rd_T29 t168 x79_3).f0))) (fun _ hk => hk.2) (.int .i64 ((rd_T29 t168 x79_3).f1))) (fun _ hk => hk.2) (.int .i64 ((rd_T29 t168 x79_3).f2))) (fun _ hk => hk.2) (.int .i64 ((rd_T29 t168 x79_3).f3))) (fun _ hk => hk.2) (.int .i64 ((rd_T29 t168 x79_3).f4))) (fun _ hk => hk.1.1)⟩, ⟨by (with_reducible repeat (first | refine blk_drewN ?_ _ | refine blk_drew ?_ | refine blk_alloc ?_ _)); refine blk_far ?_ NB167_174.out _; (with_reducible repeat (first | refine blk_drewN ?_ _ | refine blk_drew ?_ | refine blk_alloc ?_ _)); refine blk_far ?_ NB167_174.out _; (with_reducible repeat (first | refine blk_drewN ?_ _ | refine blk_drew ?_ | refine blk_alloc ?_ _)); refine blk_far ?_ NB167_174.out _; (with_reducible repeat (first | refine blk_drewN ?_ _ | refine blk_drew ?_ | refine blk_alloc ?_ _)); refine blk_far ?_ NB167_174.out _; (with_reducible repeat (first | refine blk_drewN ?_ _ | refine blk_drew ?_ | refine blk_alloc ?_ _)); refine blk_far ?_ NB167_174.out _; (with_reducible repeat (first | refine blk_drewN ?_ _ | refine blk_drew ?_ | refine blk_alloc ?_ _)); exact BK167.out⟩, ⟨by repeat (first | (with_reducible first | exact HB.out | apply below_alloc | apply pw_below_drewN | apply below_drew1 | refine below_set ?_ GE167.out | refine below_set ?_ GE174.out) | exact HB.out)⟩⟩
                          · rw [if_neg c36] at H
                            exact absurd H (by simp)
                        · rw [if_neg c35] at H
                          exact absurd H (by simp)
                      · rw [if_neg c34] at H
                        have c34b0 : decide (x79_3 < (t168.length : Int)) = false := decide_eq_false c34
                        clear c34
                        by_cases c44 : t163 > 0
                        · rw [if_pos c44] at H
                          have c44b0 : decide (0 < t163) = true := decide_eq_true c44
                          clear c44
                          obtain rfl := Option.some.inj H
                          have hcz45_0 : wr.cell? ⟨gb167, 0, none⟩ = some (.int .i64 t162) := (blk_cell BK167.out 0).trans rfl
                          have hcz45_1 : wr.cell? ⟨gb167, 1, none⟩ = some (.int .i64 t163) := (blk_cell BK167.out 1).trans rfl
                          have hcz45_2 : wr.cell? ⟨gb167, 2, none⟩ = some (.int .i64 t164) := (blk_cell BK167.out 2).trans rfl
                          have hcz45_3 : wr.cell? ⟨gb167, 3, none⟩ = some (.int .i64 t165) := (blk_cell BK167.out 3).trans rfl
                          have hcz45_4 : wr.cell? ⟨gb167, 4, none⟩ = some (.int .i64 t166) := (blk_cell BK167.out 4).trans rfl
                          have hfz45_0 := blk_frozen BK167.out 0
                          have hfz45_1 := blk_frozen BK167.out 1
                          have hfz45_2 := blk_frozen BK167.out 2
                          have hfz45_3 := blk_frozen BK167.out 3
                          have hfz45_4 := blk_frozen BK167.out 4
                          go_wp2
                          go_ret
                          exact ⟨by first | rfl | (simp [errW_none, errW_some] <;> rfl) | (simp [*, errW_none, errW_some] <;> rfl), by repeat (first | (with_reducible first | exact HB.out | apply below_alloc | apply pw_below_drewN | apply below_drew1 | refine below_set ?_ GE167.out) | exact HB.out)⟩
                        · rw [if_neg c44] at H
                          have c44b0 : decide (0 < t163) = false := decide_eq_false c44
                          clear c44
                          obtain rfl := Option.some.inj H
                          have hcz46_0 : wr.cell? ⟨gb167, 0, none⟩ = some (.int .i64 t162) := (blk_cell BK167.out 0).trans rfl
                          have hcz46_1 : wr.cell? ⟨gb167, 1, none⟩ = some (.int .i64 t163) := (blk_cell BK167.out 1).trans rfl
                          have hcz46_2 : wr.cell? ⟨gb167, 2, none⟩ = some (.int .i64 t164) := (blk_cell BK167.out 2).trans rfl
                          have hcz46_3 : wr.cell? ⟨gb167, 3, none⟩ = some (.int .i64 t165) := (blk_cell BK167.out 3).trans rfl
                          have hcz46_4 : wr.cell? ⟨gb167, 4, none⟩ = some (.int .i64 t166) := (blk_cell BK167.out 4).trans rfl
                          have hfz46_0 := blk_frozen BK167.out 0
                          have hfz46_1 := blk_frozen BK167.out 1
                          have hfz46_2 := blk_frozen BK167.out 2
                          have hfz46_3 := blk_frozen BK167.out 3
                          have hfz46_4 := blk_frozen BK167.out 4
                          go_wp2
                          go_ret
                          exact ⟨by first | rfl | (simp [errW_none, errW_some] <;> rfl) | (simp [*, errW_none, errW_some] <;> rfl), by repeat (first | (with_reducible first | exact HB.out | apply below_alloc | apply pw_below_drewN | apply below_drew1 | refine below_set ?_ GE167.out) | exact HB.out)⟩
          · rw [if_neg c18] at H
            have c18b0 : (t159 == 0) = false := beq_eq_false_iff_ne.mpr c18
            have c18b1 : (t159 != 0) = true := bne_iff_ne.mpr c18
            by_cases c47 : t159 = 52
            · rw [if_pos c47] at H
              have c47b0 : (t159 == 52) = true := beq_iff_eq.mpr c47
              have c47b1 : (t159 != 52) = false := bne_eq_false_iff_eq.mpr c47
              clear c47
              by_cases c48 : a2 < 0
              · rw [if_pos c48] at H
                have c48b0 : decide (a2 < 0) = true := decide_eq_true c48
                clear c48
                obtain rfl := Option.some.inj H
                go_wp2_with (first | ((with_reducible refine gate_callee (f := 8) rfl ?_); refine goesL_ (some 30) rfl rfl Try.func8 (by kernel_rfl) rfl #[.slice A0 l0.length c0, .int .i64 a1, .int .i64 a2, .int .i64 a3] rfl (by (try simp only [List.map_toArray, List.map_cons, List.map_nil]); first | done | rfl | (simp only [List.length_drop, List.length_take]; rfl)) ?_; (with_reducible refine (quota_Charge.calls _ _ l0 a1 a2 a3 t154 t155 _ ?side1 ?side2 A15.out).mono ?_); (case side1 => repeat (first | exact (Kd.C_below HR0.out HB.out) | (with_reducible refine Kd.C_alloc ?_ _) | (with_reducible refine Kd.C_drewN ?_ _) | (with_reducible refine Kd.C_drew ?_))); (case side2 => exact HC0.out); rintro e w49 ⟨v156, rfl, ho0, hb⟩; refine ⟨_, rfl, ?_⟩; have n0_ := Aside0.mk (Kd.R_lower ho0 (below_size (by repeat (first | (with_reducible first | exact HB.out | apply below_alloc | apply pw_below_drewN | apply below_drew1) | exact HB.out)))); have n1_ := Aside0.mk (below_step (by repeat (first | (with_reducible first | exact HB.out | apply below_alloc | apply pw_below_drewN | apply below_drew1) | exact HB.out)) hb); clear HB; have HO157 := n0_; have HB := n1_; clear n0_ n1_; (try clear hb); (try clear hb2); (try clear hk); (try clear hi); (try clear ho0); obtain ⟨Ao50, co50, eo50⟩ := Kd.R_slice HO157.out; subst eo50) | ((with_reducible refine gate_callee (f := 8) rfl ?_); refine goesL_ (some 45) rfl rfl Try.func8 (by kernel_rfl) rfl #[.slice Ao50 t154.length co50, .int .i64 a1, .int .i64 (wrap64 (-a2)), .int .i64 (wrap64 (-a3))] rfl (by (try simp only [List.map_toArray, List.map_cons, List.map_nil]); first | done | rfl | (simp only [List.length_drop, List.length_take]; rfl)) ?_; (with_reducible refine (quota_Charge.calls _ _ t154 a1 (wrap64 (-a2)) (wrap64 (-a3)) t158 t159 _ ?side1 ?side2 A17.out).mono ?_); (case side1 => repeat (first | exact (Kd.R_reads' HO157.out).2.2 | (with_reducible refine Kd.C_alloc ?_ _) | (with_reducible refine Kd.C_drewN ?_ _) | (with_reducible refine Kd.C_drew ?_))); (case side2 => exact (Kd.R_reads' HO157.out).2.1); rintro e w51 ⟨v160, rfl, ho0, hb⟩; refine ⟨_, rfl, ?_⟩; have n0_ := Aside0.mk (Kd.R_elder' (by (with_reducible repeat (first | apply Kd.R_alloc | apply Kd.R_drewN | apply Kd.R_drew)); exact HO157.out) (Kd.R_base ho0) hb); have n1_ := Aside0.mk (Kd.R_lower (Kd.R_new' ho0 (Kd.R_lt (by (with_reducible repeat (first | apply Kd.R_alloc | apply Kd.R_drewN | apply Kd.R_drew)); exact HO157.out))) (below_size (by repeat (first | (with_reducible first | exact HB.out | apply below_alloc | apply pw_below_drewN | apply below_drew1) | exact HB.out)))); have n2_ := Aside0.mk (below_step (by repeat (first | (with_reducible first | exact HB.out | apply below_alloc | apply pw_below_drewN | apply below_drew1) | exact HB.out)) hb); clear HO157; clear HB; have HO157 := n0_; have HO161 := n1_; have HB := n2_; clear n0_ n1_ n2_; (try clear hb); (try clear hb2); (try clear hk); (try clear hi); (try clear ho0)))
                go_ret
                exact ⟨by first | rfl | (simp [errW_none, errW_some] <;> rfl) | (simp [*, errW_none, errW_some] <;> rfl), by repeat (first | (with_reducible first | exact HB.out | apply below_alloc | apply pw_below_drewN | apply below_drew1) | exact HB.out)⟩
              · rw [if_neg c48] at H
                have c48b0 : decide (a2 < 0) = false := decide_eq_false c48
                clear c48
                obtain rfl := Option.some.inj H
                go_wp2_with (first | ((with_reducible refine gate_callee (f := 8) rfl ?_); refine goesL_ (some 30) rfl rfl Try.func8 (by kernel_rfl) rfl #[.slice A0 l0.length c0, .int .i64 a1, .int .i64 a2, .int .i64 a3] rfl (by (try simp only [List.map_toArray, List.map_cons, List.map_nil]); first | done | rfl | (simp only [List.length_drop, List.length_take]; rfl)) ?_; (with_reducible refine (quota_Charge.calls _ _ l0 a1 a2 a3 t154 t155 _ ?side1 ?side2 A15.out).mono ?_); (case side1 => repeat (first | exact (Kd.C_below HR0.out HB.out) | (with_reducible refine Kd.C_alloc ?_ _) | (with_reducible refine Kd.C_drewN ?_ _) | (with_reducible refine Kd.C_drew ?_))); (case side2 => exact HC0.out); rintro e w52 ⟨v156, rfl, ho0, hb⟩; refine ⟨_, rfl, ?_⟩; have n0_ := Aside0.mk (Kd.R_lower ho0 (below_size (by repeat (first | (with_reducible first | exact HB.out | apply below_alloc | apply pw_below_drewN | apply below_drew1) | exact HB.out)))); have n1_ := Aside0.mk (below_step (by repeat (first | (with_reducible first | exact HB.out | apply below_alloc | apply pw_below_drewN | apply below_drew1) | exact HB.out)) hb); clear HB; have HO157 := n0_; have HB := n1_; clear n0_ n1_; (try clear hb); (try clear hb2); (try clear hk); (try clear hi); (try clear ho0); obtain ⟨Ao53, co53, eo53⟩ := Kd.R_slice HO157.out; subst eo53) | ((with_reducible refine gate_callee (f := 8) rfl ?_); refine goesL_ (some 45) rfl rfl Try.func8 (by kernel_rfl) rfl #[.slice Ao53 t154.length co53, .int .i64 a1, .int .i64 (wrap64 (-a2)), .int .i64 (wrap64 (-a3))] rfl (by (try simp only [List.map_toArray, List.map_cons, List.map_nil]); first | done | rfl | (simp only [List.length_drop, List.length_take]; rfl)) ?_; (with_reducible refine (quota_Charge.calls _ _ t154 a1 (wrap64 (-a2)) (wrap64 (-a3)) t158 t159 _ ?side1 ?side2 A17.out).mono ?_); (case side1 => repeat (first | exact (Kd.R_reads' HO157.out).2.2 | (with_reducible refine Kd.C_alloc ?_ _) | (with_reducible refine Kd.C_drewN ?_ _) | (with_reducible refine Kd.C_drew ?_))); (case side2 => exact (Kd.R_reads' HO157.out).2.1); rintro e w54 ⟨v160, rfl, ho0, hb⟩; refine ⟨_, rfl, ?_⟩; have n0_ := Aside0.mk (Kd.R_elder' (by (with_reducible repeat (first | apply Kd.R_alloc | apply Kd.R_drewN | apply Kd.R_drew)); exact HO157.out) (Kd.R_base ho0) hb); have n1_ := Aside0.mk (Kd.R_lower (Kd.R_new' ho0 (Kd.R_lt (by (with_reducible repeat (first | apply Kd.R_alloc | apply Kd.R_drewN | apply Kd.R_drew)); exact HO157.out))) (below_size (by repeat (first | (with_reducible first | exact HB.out | apply below_alloc | apply pw_below_drewN | apply below_drew1) | exact HB.out)))); have n2_ := Aside0.mk (below_step (by repeat (first | (with_reducible first | exact HB.out | apply below_alloc | apply pw_below_drewN | apply below_drew1) | exact HB.out)) hb); clear HO157; clear HB; have HO157 := n0_; have HO161 := n1_; have HB := n2_; clear n0_ n1_ n2_; (try clear hb); (try clear hb2); (try clear hk); (try clear hi); (try clear ho0)))
                go_ret
                exact ⟨by first | rfl | (simp [errW_none, errW_some] <;> rfl) | (simp [*, errW_none, errW_some] <;> rfl), by repeat (first | (with_reducible first | exact HB.out | apply below_alloc | apply pw_below_drewN | apply below_drew1) | exact HB.out)⟩
            · rw [if_neg c47] at H
              have c47b0 : (t159 == 52) = false := beq_eq_false_iff_ne.mpr c47
              have c47b1 : (t159 != 52) = true := bne_iff_ne.mpr c47
              obtain rfl := Option.some.inj H
              go_wp2_with (first | ((with_reducible refine gate_callee (f := 8) rfl ?_); refine goesL_ (some 30) rfl rfl Try.func8 (by kernel_rfl) rfl #[.slice A0 l0.length c0, .int .i64 a1, .int .i64 a2, .int .i64 a3] rfl (by (try simp only [List.map_toArray, List.map_cons, List.map_nil]); first | done | rfl | (simp only [List.length_drop, List.length_take]; rfl)) ?_; (with_reducible refine (quota_Charge.calls _ _ l0 a1 a2 a3 t154 t155 _ ?side1 ?side2 A15.out).mono ?_); (case side1 => repeat (first | exact (Kd.C_below HR0.out HB.out) | (with_reducible refine Kd.C_alloc ?_ _) | (with_reducible refine Kd.C_drewN ?_ _) | (with_reducible refine Kd.C_drew ?_))); (case side2 => exact HC0.out); rintro e w55 ⟨v156, rfl, ho0, hb⟩; refine ⟨_, rfl, ?_⟩; have n0_ := Aside0.mk (Kd.R_lower ho0 (below_size (by repeat (first | (with_reducible first | exact HB.out | apply below_alloc | apply pw_below_drewN | apply below_drew1) | exact HB.out)))); have n1_ := Aside0.mk (below_step (by repeat (first | (with_reducible first | exact HB.out | apply below_alloc | apply pw_below_drewN | apply below_drew1) | exact HB.out)) hb); clear HB; have HO157 := n0_; have HB := n1_; clear n0_ n1_; (try clear hb); (try clear hb2); (try clear hk); (try clear hi); (try clear ho0); obtain ⟨Ao56, co56, eo56⟩ := Kd.R_slice HO157.out; subst eo56) | ((with_reducible refine gate_callee (f := 8) rfl ?_); refine goesL_ (some 45) rfl rfl Try.func8 (by kernel_rfl) rfl #[.slice Ao56 t154.length co56, .int .i64 a1, .int .i64 (wrap64 (-a2)), .int .i64 (wrap64 (-a3))] rfl (by (try simp only [List.map_toArray, List.map_cons, List.map_nil]); first | done | rfl | (simp only [List.length_drop, List.length_take]; rfl)) ?_; (with_reducible refine (quota_Charge.calls _ _ t154 a1 (wrap64 (-a2)) (wrap64 (-a3)) t158 t159 _ ?side1 ?side2 A17.out).mono ?_); (case side1 => repeat (first | exact (Kd.R_reads' HO157.out).2.2 | (with_reducible refine Kd.C_alloc ?_ _) | (with_reducible refine Kd.C_drewN ?_ _) | (with_reducible refine Kd.C_drew ?_))); (case side2 => exact (Kd.R_reads' HO157.out).2.1); rintro e w57 ⟨v160, rfl, ho0, hb⟩; refine ⟨_, rfl, ?_⟩; have n0_ := Aside0.mk (Kd.R_elder' (by (with_reducible repeat (first | apply Kd.R_alloc | apply Kd.R_drewN | apply Kd.R_drew)); exact HO157.out) (Kd.R_base ho0) hb); have n1_ := Aside0.mk (Kd.R_lower (Kd.R_new' ho0 (Kd.R_lt (by (with_reducible repeat (first | apply Kd.R_alloc | apply Kd.R_drewN | apply Kd.R_drew)); exact HO157.out))) (below_size (by repeat (first | (with_reducible first | exact HB.out | apply below_alloc | apply pw_below_drewN | apply below_drew1) | exact HB.out)))); have n2_ := Aside0.mk (below_step (by repeat (first | (with_reducible first | exact HB.out | apply below_alloc | apply pw_below_drewN | apply below_drew1) | exact HB.out)) hb); clear HO157; clear HB; have HO157 := n0_; have HO161 := n1_; have HB := n2_; clear n0_ n1_ n2_; (try clear hb); (try clear hb2); (try clear hk); (try clear hi); (try clear ho0)))
              go_ret
              exact ⟨by first | rfl | (simp [errW_none, errW_some] <;> rfl) | (simp [*, errW_none, errW_some] <;> rfl), by repeat (first | (with_reducible first | exact HB.out | apply below_alloc | apply pw_below_drewN | apply below_drew1) | exact HB.out)⟩
        · rw [if_neg c16] at H
          have c16b0 : (t155 == 0) = false := beq_eq_false_iff_ne.mpr c16
          have c16b1 : (t155 != 0) = true := bne_iff_ne.mpr c16
          obtain rfl := Option.some.inj H
          go_wp2_with (first | ((with_reducible refine gate_callee (f := 8) rfl ?_); refine goesL_ (some 30) rfl rfl Try.func8 (by kernel_rfl) rfl #[.slice A0 l0.length c0, .int .i64 a1, .int .i64 a2, .int .i64 a3] rfl (by (try simp only [List.map_toArray, List.map_cons, List.map_nil]); first | done | rfl | (simp only [List.length_drop, List.length_take]; rfl)) ?_; (with_reducible refine (quota_Charge.calls _ _ l0 a1 a2 a3 t154 t155 _ ?side1 ?side2 A15.out).mono ?_); (case side1 => repeat (first | exact (Kd.C_below HR0.out HB.out) | (with_reducible refine Kd.C_alloc ?_ _) | (with_reducible refine Kd.C_drewN ?_ _) | (with_reducible refine Kd.C_drew ?_))); (case side2 => exact HC0.out); rintro e w58 ⟨v156, rfl, ho0, hb⟩; refine ⟨_, rfl, ?_⟩; have n0_ := Aside0.mk (Kd.R_lower ho0 (below_size (by repeat (first | (with_reducible first | exact HB.out | apply below_alloc | apply pw_below_drewN | apply below_drew1) | exact HB.out)))); have n1_ := Aside0.mk (below_step (by repeat (first | (with_reducible first | exact HB.out | apply below_alloc | apply pw_below_drewN | apply below_drew1) | exact HB.out)) hb); clear HB; have HO157 := n0_; have HB := n1_; clear n0_ n1_; (try clear hb); (try clear hb2); (try clear hk); (try clear hi); (try clear ho0); obtain ⟨Ao59, co59, eo59⟩ := Kd.R_slice HO157.out; subst eo59))
          go_ret
          exact ⟨by first | rfl | (simp [errW_none, errW_some] <;> rfl) | (simp [*, errW_none, errW_some] <;> rfl), by repeat (first | (with_reducible first | exact HB.out | apply below_alloc | apply pw_below_drewN | apply below_drew1) | exact HB.out)⟩

end Go.Proofs.Ytahlmlhdfoijhaa.PQ
