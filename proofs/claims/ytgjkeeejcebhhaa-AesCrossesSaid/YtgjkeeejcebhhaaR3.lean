/-
  The reference's Keys.
-/
import Derived.Test.YtgjkeeejcebhhaaR2
namespace Go.Proofs.Ytgjkeeejcebhhaa
open Go.RowKit
theorem times_two (r : Byte) : times r 2#8 = twice r := times_x2 r.toFin
theorem glue_zero (f h : Nat → Byte) (i : Nat) : glue 0 f h i = h i := by unfold glue; rw [if_neg (by omega), Nat.sub_zero]
attribute [local go_sem] xorB
set_option maxRecDepth 100000 in
set_option maxHeartbeats 4000000 in
theorem keysR_any (key : Nat → Byte) (gb : Nat) (w : World) (hbox : Row w gb 5 256 sbox) :
    Calls Try.prog 16 #[.agg (Fs 16 key), .slice (some ⟨gb, 0, none⟩) 256 256] w fun e w' => ∃ a cap, e = .returned (.slice a 176 cap) ∧ OwnB w' w.heap.size a 176 cap (ks key 40).1 ∧ Kept (fun _ => False) w w' := by
  have hgb := hbox.lt
  go_enter Try.func16, Try.ntmps16
  have hkey : Row ((w.alloc (.cells (Fs 16 key) 22)).alloc (.cells #[] 5)) w.heap.size 22 16 key := (Row.new w 22 16 key).alloc _
  have hem : Row ((w.alloc (.cells (Fs 16 key) 22)).alloc (.cells #[] 5)) (w.heap.size + 1) 5 0 (fun _ => 0#8) := heap_alloc2_new w _ _
  have hbx0 : Row ((w.alloc (.cells (Fs 16 key) 22)).alloc (.cells #[] 5)) gb 5 256 sbox := (hbox.alloc _).alloc _
  have hK0 : Kept (fun _ => False) w ((w.alloc (.cells (Fs 16 key) 22)).alloc (.cells #[] 5)) := ((Kept.refl _ w).alloc _).alloc _
  go_wp2_with (refine appendN rfl (.tmp 10) (.tmp 11) rfl w.heap.size (some ⟨w.heap.size + 1, 0, none⟩) 0 0 (fun _ => 0#8) rfl (OwnB.new hem (by omega) (by omega)) ⟨w.heap.size, 0, none⟩ 16 16 key rfl hkey.bytes (by omega) (by omega) (by simp; omega) ?_)
  intro a0 cap0 w0 hO0 hk0
  have hO0 := (hO0.congr fun i _ => glue_zero _ key i)
  have hb0 : Row w0 gb 5 256 sbox := hk0.kept.at hbx0 (fun h => by have := some_eq h; omega)
  have hK0 : Kept (fun _ => False) w w0 := hK0.trans hk0.kept (fun i hi h => by have := some_eq h; omega)
  clear hk0 hkey hem hbx0
  go_wp2_with fail
  go_loopg [5, 6, 7] 40 (fun k v r i wr => ∃ (n : Nat) (a : Option Addr) (cap : Nat), 4 ≤ n ∧ n + k = 44 ∧ i = .int .i64 (4 * (n : Int)) ∧ r = B (ks key (n - 4)).2 ∧ v = .slice a (4 * n) cap ∧ OwnB wr w.heap.size a (4 * n) cap (ks key (n - 4)).1 ∧ Row wr gb 5 256 sbox ∧ Kept (fun _ => False) w wr)
  case atStart => exact ⟨4, a0, cap0, by omega, rfl, rfl, rfl, rfl, hO0.congr fun i hi => by show key i = if i < 16 then key i else 0; rw [if_pos (by omega)], hb0, hK0⟩
  case round =>
    clear hO0 hb0 hK0
    obtain ⟨n, a, cap, hn4, hn, rfl, rfl, rfl, hO, hB, hK⟩ := hrel
    obtain ⟨gn, rfl⟩ : ∃ g : Nat, g = gk := ⟨_, rfl⟩
    have Hn := Lib.hid hn
    have hn' : n ≤ 44 := by omega
    clear hn
    by_cases hlt : n < 44
    · have q44 : 4 * (n : Int) < 176 := by omega
      have q43 : (4 : Int) ≤ n := by omega
      have q42 : (n : Int) < 44 := by omega
      obtain ⟨W, hW⟩ : ∃ W, W = (ks key (n - 4)).1 := ⟨_, rfl⟩
      obtain ⟨R, hR⟩ : ∃ R, R = (ks key (n - 4)).2 := ⟨_, rfl⟩
      rw [← hW] at hO
      rw [← hR]
      have hnext1 : (ks key (n + 1 - 4)).1 = partW W n R 4 := by
        rw [show n + 1 - 4 = (n - 4) + 1 by omega, hW, hR]; show partW _ (n - 4 + 4) _ 4 = _; rw [show n - 4 + 4 = n by omega]
      have hnext2 : (ks key (n + 1 - 4)).2 = nextR n R := by
        rw [show n + 1 - 4 = (n - 4) + 1 by omega, hR]; show nextR (n - 4 + 4) _ = _; rw [show n - 4 + 4 = n by omega]
      have HN1 := Lib.hid hnext1
      have HN2 := Lib.hid hnext2
      clear hnext1 hnext2 hW hR
      obtain ⟨g, ha, hg, hgl, hc, _⟩ := hO.cell (by omega)
      subst ha
      obtain ⟨x0, h0⟩ : ∃ x, x = W (4 * (n - 1)) := ⟨_, rfl⟩
      obtain ⟨x1, h1⟩ : ∃ x, x = W (4 * (n - 1) + 1) := ⟨_, rfl⟩
      obtain ⟨x2, h2⟩ : ∃ x, x = W (4 * (n - 1) + 2) := ⟨_, rfl⟩
      obtain ⟨x3, h3⟩ : ∃ x, x = W (4 * (n - 1) + 3) := ⟨_, rfl⟩
      have c0 : wr.cell? ⟨g, 4 * n - 4, none⟩ = some (B x0) := by rw [h0, show 4 * n - 4 = 4 * (n - 1) by omega]; exact hc _ (by omega)
      have c1 : wr.cell? ⟨g, 4 * n - 3, none⟩ = some (B x1) := by rw [h1, show 4 * n - 3 = 4 * (n - 1) + 1 by omega]; exact hc _ (by omega)
      have c2 : wr.cell? ⟨g, 4 * n - 2, none⟩ = some (B x2) := by rw [h2, show 4 * n - 2 = 4 * (n - 1) + 2 by omega]; exact hc _ (by omega)
      have c3 : wr.cell? ⟨g, 4 * n - 1, none⟩ = some (B x3) := by rw [h3, show 4 * n - 1 = 4 * (n - 1) + 3 by omega]; exact hc _ (by omega)
      clear hc
      have hgl2 := hB.lt
      have hbox : ∀ x : Byte, wr.cell? ⟨gb, (iB x).toNat, none⟩ = some (B (sbox x.toNat)) := fun x => by
        rw [iB_toNat]; exact hB.cell x.isLt
      have i0 := iB_ge x0
      have i1 := iB_ge x1
      have i2 := iB_ge x2
      have i3 := iB_ge x3
      have j0 := iB_lt x0
      have j1 := iB_lt x1
      have j2 := iB_lt x2
      have j3 := iB_lt x3
      have H0 := Lib.hid h0
      have H1 := Lib.hid h1
      have H2 := Lib.hid h2
      have H3 := Lib.hid h3
      clear h0 h1 h2 h3
      have x0' : (4 : Int) ≤ 4 * (n : Int) := by omega
      have x1' : (3 : Int) ≤ 4 * (n : Int) := by omega
      have x2' : (2 : Int) ≤ 4 * (n : Int) := by omega
      have x3' : (1 : Int) ≤ 4 * (n : Int) := by omega
      have y4 : 4 * (n : Int) - 4 < 4 * (n : Int) := by omega
      have y3 : 4 * (n : Int) - 3 < 4 * (n : Int) := by omega
      have y2 : 4 * (n : Int) - 2 < 4 * (n : Int) := by omega
      have y1 : 4 * (n : Int) - 1 < 4 * (n : Int) := by omega
      by_cases hm : n % 4 = 0
      · have hb : (4 * (n : Int) % 16 == 0) = true := by simp; omega
        have Hm := Lib.hid hm
        clear hm
        go_wp2_with fail
        refine region_tail 20 (by kernel_rfl) (by kernel_rfl) ?_
        simp only [List.take_succ_cons, List.take_zero, List.drop_succ_cons, List.drop_zero]
        repeat (refine wpStill_step (fun K hK => ?_); go_simp; (try go_bits); refine hK _ ?_; clear hK K)
        refine wpStill_nil ?_
        go_wp2_with fail
        refine region_tail 26 (by kernel_rfl) (by kernel_rfl) ?_
        simp only [List.take_succ_cons, List.take_zero, List.drop_succ_cons, List.drop_zero]
        repeat (refine wpStill_step (fun K hK => ?_); go_simp; (try go_bits); refine hK _ ?_; clear hK K)
        refine wpStill_nil ?_
        go_wp2_with fail
        refine (times_any R 2#8 _).mono ?_
        rintro e w' ⟨rfl, rfl⟩
        rw [times_two]
        go_wp2_with fail
        obtain ⟨wo, rfl⟩ : ∃ wo : World, wo = wr := ⟨_, rfl⟩
        obtain ⟨wq, hwq⟩ : ∃ wq : World, wq = (((wo.alloc (.cells #[B x0, B x1, B x2, B x3] 5)).alloc (.cells #[B (sbox x1.toNat ^^^ R), B (sbox x2.toNat), B (sbox x3.toNat), B (sbox x0.toNat)] 5))).drew.drew := ⟨_, rfl⟩
        have hzt : wo.heap.size + 1 < wq.heap.size := by rw [hwq]; simp
        have htq : Row wq (wo.heap.size + 1) 5 4 (tword W n R) := by
          rw [hwq]
          show (((wo.alloc (.cells #[B x0, B x1, B x2, B x3] 5)).alloc _)).heap[wo.heap.size + 1]? = _
          rw [heap_alloc2_new, show Fs 4 (tword W n R) = #[B (tword W n R 0), B (tword W n R 1), B (tword W n R 2), B (tword W n R 3)] from rfl, tword_a W R Hm.out, tword_b W R Hm.out, tword_c W R Hm.out, tword_d W R Hm.out, H0.out, H1.out, H2.out, H3.out]
        have hoq : OwnB wq w.heap.size (some ⟨g, 0, none⟩) (4 * n) cap W := by rw [hwq]; exact (hO.alloc _).alloc _
        have hbq : Row wq gb 5 256 sbox := by rw [hwq]; exact (hB.alloc _).alloc _
        have hkq : Kept (fun _ => False) w wq := by rw [hwq]; exact ((hK.alloc _).alloc _).drew.drew
        rw [← hwq]
        clear hwq hbox c0 c1 c2 c3 i0 i1 i2 i3 j0 j1 j2 j3 hb hO hB hK x0' x1' x2' x3' y1 y2 y3 y4
        go_loopg [5, 9] 4 (fun k v i wp => ∃ (m : Nat) (a : Option Addr) (cap : Nat), m + k = 4 ∧ i = .int .i64 (m : Int) ∧ v = .slice a (4 * n + m) cap ∧ OwnB wp w.heap.size a (4 * n + m) cap (partW W n R m) ∧ (∀ g, a = some ⟨g, 0, none⟩ → g ≠ wo.heap.size + 1) ∧ Row wp (wo.heap.size + 1) 5 4 (tword W n R) ∧ Row wp gb 5 256 sbox ∧ Kept (fun _ => False) w wp ∧ wo.heap.size + 1 < wp.heap.size)
        case atStart => exact ⟨0, _, _, rfl, rfl, rfl, by rw [partW_zero]; exact hoq, fun g' h => by simp at h; omega, htq, hbq, hkq, hzt⟩
        case round =>
          clear hoq htq hbq hkq hzt
          obtain ⟨m, a, cap, hm, rfl, rfl, hO, hne, hT, hB, hK, hz⟩ := hrel
          have hm' : m ≤ 4 := by omega
          have Hmk := Lib.hid hm
          have Hne := Lib.hid hne
          clear hm hne
          by_cases hlm : m < 4
          · obtain ⟨g, ha, hg, hgl, hc, _⟩ := hO.cell (by omega)
            subst ha
            have e1 : wr.cell? ⟨g, 4 * n - 16 + m, none⟩ = some (B (W (4 * (n - 4) + m))) := by
              rw [← partW_old W n R m (4 * (n - 4) + m) (by omega), show 4 * n - 16 + m = 4 * (n - 4) + m by omega]; exact hc _ (by omega)
            have e2 := hT.cell (i := m) hlm
            have q3 : (m : Int) < 4 := by omega
            have q0 : (16 : Int) ≤ 4 * (n : Int) := by omega
            have q5 : 0 ≤ 4 * (n : Int) - 16 + m := by omega
            have q6 : 4 * (n : Int) - 16 + m < 4 * n + m := by omega
            have Hc := Lib.hid hc
            clear hc
            go_wp2_with fail
            refine region_perm (fun WW => WW.cell? ⟨g, 4 * n - 16 + m, none⟩ = some (B (W (4 * (n - 4) + m))) ∧ WW.cell? ⟨wo.heap.size + 1, m, none⟩ = some (B (tword W n R m))) [(0, true), (1, true), (2, true), (3, true), (4, true), (5, true), (6, true), (7, true), (8, true), (9, true), (10, true), (11, true), (12, true), (13, false), (14, false), (15, true)] (by kernel_rfl) (by kernel_rfl) (by intro c a d v w h; cases d <;> exact h) ⟨e1, e2⟩ ?_
            repeat (apply HeldSeq.take; (focus rfl); (focus rfl); (focus (intro W _; go_simp; (try go_bits); rfl)); simp only [List.getElem_toArray, List.getElem_cons_zero, List.getElem_cons_succ, Act.put, List.setIfInBounds_toArray, List.set_cons_zero, List.set_cons_succ])
            have hg2 : g ≠ wo.heap.size + 1 := Hne.out g rfl
            have hzz : w.heap.size ≤ wr.heap.size := hK.size
            refine HeldSeq.run rfl rfl (fun K hK => ?_)
            go_simp
            refine hK _ _ ⟨(World.cell?_alloc_past _ _ _ hgl).trans e1, (World.cell?_alloc_past _ _ _ hz).trans e2⟩ ?_
            clear hK K
            refine HeldSeq.run rfl rfl (fun K hKK => ?_)
            refine wp_append1 (.tmp 74) (.tmp 87) rfl w.heap.size (some ⟨g, 0, none⟩) (4 * n + m) cap (partW W n R m) rfl (hO.alloc _).drew wr.heap.size 1 (W (4 * (n - 4) + m) ^^^ tword W n R m) rfl (by simp) (by omega) (by simp; omega) ?_
            intro a' cap' w2 hO2 hk2
            rw [partW_upd W n R m hn4] at hO2
            have hT2 : Row w2 _ 5 4 (tword W n R) := hk2.kept.at (hT.alloc _) (fun h => hg2 (some_eq h))
            have hB2 : Row w2 gb 5 256 sbox := hk2.kept.at (hB.alloc _) (fun h => by have := some_eq h; omega)
            have hK2 : Kept (fun _ => False) w w2 := (hK.alloc _).drew.trans hk2.kept (fun i hi h => by have := some_eq h; omega)
            have hz2 := hk2.kept.size
            have hne2 : ∀ g', a' = some ⟨g', 0, none⟩ → g' ≠ wo.heap.size + 1 := fun g' h e => by
              rcases hk2.fresh g' h with h3 | h3
              · have := some_eq h3; omega
              · simp at h3; omega
            have Hne2 := Lib.hid hne2
            refine hKK _ _ ⟨(hk2.cells g rfl _ (by omega)).trans ((World.cell?_alloc_past _ _ _ hgl).trans e1), hT2.cell hlm⟩ ?_
            clear hKK K hk2 hO hT hB hK e1 e2 hg2 hne2
            repeat (apply HeldSeq.take; (focus rfl); (focus rfl); (focus (intro W _; go_simp; (try go_bits); rfl)); simp only [List.getElem_toArray, List.getElem_cons_zero, List.getElem_cons_succ, Act.put, List.setIfInBounds_toArray, List.set_cons_zero, List.set_cons_succ])
            refine HeldSeq.done ?_
            go_wp2_with fail
            go_roundg (gk - 1)
            case measure => have := Hmk.out; omega
            case rel =>
              have := Hmk.out
              exact ⟨m + 1, a', cap', by omega, by go_num, rfl, hO2, Hne2.out, hT2, hB2, hK2, by simp at hz2; omega⟩
          · have H4 := Lib.hid (show m = 4 by omega)
            have hO : OwnB wr w.heap.size a (4 * (n + 1)) cap (partW W n R 4) := by have e := hO; rw [H4.out] at e; exact e
            go_wp2_with fail
            go_roundg (gn - 1)
            case measure => have := Hn.out; omega
            case rel =>
              have h1 := Hn.out
              have h4 := H4.out
              exact ⟨n + 1, a, cap, by omega, by omega, by go_num, by rw [HN2.out]; unfold nextR; rw [if_pos Hm.out], by rw [show 4 * n + m = 4 * (n + 1) by omega], by rw [HN1.out]; exact hO, hB, hK⟩
      · have hb : (4 * (n : Int) % 16 == 0) = false := by simp; omega
        have Hm := Lib.hid hm
        clear hm
        go_wp2_with fail
        refine region_tail 20 (by kernel_rfl) (by kernel_rfl) ?_
        simp only [List.take_succ_cons, List.take_zero, List.drop_succ_cons, List.drop_zero]
        repeat (refine wpStill_step (fun K hK => ?_); go_simp; (try go_bits); refine hK _ ?_; clear hK K)
        refine wpStill_nil ?_
        go_wp2_with fail
        obtain ⟨wo, rfl⟩ : ∃ wo : World, wo = wr := ⟨_, rfl⟩
        obtain ⟨wq, hwq⟩ : ∃ wq : World, wq = (wo.alloc (.cells #[B x0, B x1, B x2, B x3] 5)).drew := ⟨_, rfl⟩
        have hzt : wo.heap.size < wq.heap.size := by rw [hwq]; simp
        have htq : Row wq (wo.heap.size) 5 4 (tword W n R) := by
          rw [hwq]
          show ((wo.alloc _)).heap[wo.heap.size]? = _
          rw [heap_alloc_new, show Fs 4 (tword W n R) = #[B (tword W n R 0), B (tword W n R 1), B (tword W n R 2), B (tword W n R 3)] from rfl, tword_n W R _ Hm.out, tword_n W R _ Hm.out, tword_n W R _ Hm.out, tword_n W R _ Hm.out, H0.out, H1.out, H2.out, H3.out]; rfl
        have hoq : OwnB wq w.heap.size (some ⟨g, 0, none⟩) (4 * n) cap W := by rw [hwq]; exact hO.alloc _
        have hbq : Row wq gb 5 256 sbox := by rw [hwq]; exact hB.alloc _
        have hkq : Kept (fun _ => False) w wq := by rw [hwq]; exact (hK.alloc _).drew
        rw [← hwq]
        clear hwq hbox c0 c1 c2 c3 i0 i1 i2 i3 j0 j1 j2 j3 hb hO hB hK x0' x1' x2' x3' y1 y2 y3 y4
        go_loopg [5, 9] 4 (fun k v i wp => ∃ (m : Nat) (a : Option Addr) (cap : Nat), m + k = 4 ∧ i = .int .i64 (m : Int) ∧ v = .slice a (4 * n + m) cap ∧ OwnB wp w.heap.size a (4 * n + m) cap (partW W n R m) ∧ (∀ g, a = some ⟨g, 0, none⟩ → g ≠ wo.heap.size) ∧ Row wp (wo.heap.size) 5 4 (tword W n R) ∧ Row wp gb 5 256 sbox ∧ Kept (fun _ => False) w wp ∧ wo.heap.size < wp.heap.size)
        case atStart => exact ⟨0, _, _, rfl, rfl, rfl, by rw [partW_zero]; exact hoq, fun g' h => by simp at h; omega, htq, hbq, hkq, hzt⟩
        case round =>
          clear hoq htq hbq hkq hzt
          obtain ⟨m, a, cap, hm, rfl, rfl, hO, hne, hT, hB, hK, hz⟩ := hrel
          have hm' : m ≤ 4 := by omega
          have Hmk := Lib.hid hm
          have Hne := Lib.hid hne
          clear hm hne
          by_cases hlm : m < 4
          · obtain ⟨g, ha, hg, hgl, hc, _⟩ := hO.cell (by omega)
            subst ha
            have e1 : wr.cell? ⟨g, 4 * n - 16 + m, none⟩ = some (B (W (4 * (n - 4) + m))) := by
              rw [← partW_old W n R m (4 * (n - 4) + m) (by omega), show 4 * n - 16 + m = 4 * (n - 4) + m by omega]; exact hc _ (by omega)
            have e2 := hT.cell (i := m) hlm
            have q3 : (m : Int) < 4 := by omega
            have q0 : (16 : Int) ≤ 4 * (n : Int) := by omega
            have q5 : 0 ≤ 4 * (n : Int) - 16 + m := by omega
            have q6 : 4 * (n : Int) - 16 + m < 4 * n + m := by omega
            have Hc := Lib.hid hc
            clear hc
            go_wp2_with fail
            refine region_perm (fun WW => WW.cell? ⟨g, 4 * n - 16 + m, none⟩ = some (B (W (4 * (n - 4) + m))) ∧ WW.cell? ⟨wo.heap.size, m, none⟩ = some (B (tword W n R m))) [(0, true), (1, true), (2, true), (3, true), (4, true), (5, true), (6, true), (7, true), (8, true), (9, true), (10, true), (11, true), (12, true), (13, false), (14, false), (15, true)] (by kernel_rfl) (by kernel_rfl) (by intro c a d v w h; cases d <;> exact h) ⟨e1, e2⟩ ?_
            repeat (apply HeldSeq.take; (focus rfl); (focus rfl); (focus (intro W _; go_simp; (try go_bits); rfl)); simp only [List.getElem_toArray, List.getElem_cons_zero, List.getElem_cons_succ, Act.put, List.setIfInBounds_toArray, List.set_cons_zero, List.set_cons_succ])
            have hg2 : g ≠ wo.heap.size := Hne.out g rfl
            have hzz : w.heap.size ≤ wr.heap.size := hK.size
            refine HeldSeq.run rfl rfl (fun K hK => ?_)
            go_simp
            refine hK _ _ ⟨(World.cell?_alloc_past _ _ _ hgl).trans e1, (World.cell?_alloc_past _ _ _ hz).trans e2⟩ ?_
            clear hK K
            refine HeldSeq.run rfl rfl (fun K hKK => ?_)
            refine wp_append1 (.tmp 74) (.tmp 87) rfl w.heap.size (some ⟨g, 0, none⟩) (4 * n + m) cap (partW W n R m) rfl (hO.alloc _).drew wr.heap.size 1 (W (4 * (n - 4) + m) ^^^ tword W n R m) rfl (by simp) (by omega) (by simp; omega) ?_
            intro a' cap' w2 hO2 hk2
            rw [partW_upd W n R m hn4] at hO2
            have hT2 : Row w2 _ 5 4 (tword W n R) := hk2.kept.at (hT.alloc _) (fun h => hg2 (some_eq h))
            have hB2 : Row w2 gb 5 256 sbox := hk2.kept.at (hB.alloc _) (fun h => by have := some_eq h; omega)
            have hK2 : Kept (fun _ => False) w w2 := (hK.alloc _).drew.trans hk2.kept (fun i hi h => by have := some_eq h; omega)
            have hz2 := hk2.kept.size
            have hne2 : ∀ g', a' = some ⟨g', 0, none⟩ → g' ≠ wo.heap.size := fun g' h e => by
              rcases hk2.fresh g' h with h3 | h3
              · have := some_eq h3; omega
              · simp at h3; omega
            have Hne2 := Lib.hid hne2
            refine hKK _ _ ⟨(hk2.cells g rfl _ (by omega)).trans ((World.cell?_alloc_past _ _ _ hgl).trans e1), hT2.cell hlm⟩ ?_
            clear hKK K hk2 hO hT hB hK e1 e2 hg2 hne2
            repeat (apply HeldSeq.take; (focus rfl); (focus rfl); (focus (intro W _; go_simp; (try go_bits); rfl)); simp only [List.getElem_toArray, List.getElem_cons_zero, List.getElem_cons_succ, Act.put, List.setIfInBounds_toArray, List.set_cons_zero, List.set_cons_succ])
            refine HeldSeq.done ?_
            go_wp2_with fail
            go_roundg (gk - 1)
            case measure => have := Hmk.out; omega
            case rel =>
              have := Hmk.out
              exact ⟨m + 1, a', cap', by omega, by go_num, rfl, hO2, Hne2.out, hT2, hB2, hK2, by simp at hz2; omega⟩
          · have H4 := Lib.hid (show m = 4 by omega)
            have hO : OwnB wr w.heap.size a (4 * (n + 1)) cap (partW W n R 4) := by have e := hO; rw [H4.out] at e; exact e
            go_wp2_with fail
            go_roundg (gn - 1)
            case measure => have := Hn.out; omega
            case rel =>
              have h1 := Hn.out
              have h4 := H4.out
              exact ⟨n + 1, a, cap, by omega, by omega, by go_num, by rw [HN2.out]; unfold nextR; rw [if_neg Hm.out], by rw [show 4 * n + m = 4 * (n + 1) by omega], by rw [HN1.out]; exact hO, hB, hK⟩
    · have h44 : n = 44 := by omega
      subst h44
      go_wp2_with fail
      go_ret
      exact ⟨_, _, rfl, hO, hK⟩
end Go.Proofs.Ytgjkeeejcebhhaa
