/-
  The walk of the reference's crypt.
-/
import Derived.Test.YtgjkeeejcebhhaaR4
namespace Go.Proofs.Ytgjkeeejcebhhaa
open Go.RowKit
attribute [local go_sem] xorB
theorem addTo_cf (W b : Nat → Byte) (r k : Nat) : upd (addTo (cf W) b r k) k (addTo (cf W) b r k k ^^^ W (16 * r + k)) = addTo (cf W) b r (k + 1) := by
  have := addTo_upd (cf W) b r k
  rw [show 256 + 16 * r + k = 256 + (16 * r + k) by omega, cf_hi] at this
  exact this
def putTo (W t b : Nat → Byte) (r k : Nat) : Nat → Byte := fun i => if i < k then t i ^^^ W (16 * r + i) else b i
theorem putTo_upd (W t b : Nat → Byte) (r k : Nat) : upd (putTo W t b r k) k (t k ^^^ W (16 * r + k)) = putTo W t b r (k + 1) := by
  funext i; unfold upd putTo
  by_cases h : i = k
  · subst h; simp
  · rw [if_neg h]
    by_cases h2 : i < k
    · rw [if_pos h2, if_pos (by omega)]
    · rw [if_neg h2, if_neg (by omega)]
theorem putTo_add (W t b : Nat → Byte) (r : Nat) : Agree 16 (putTo W t b r 16) (addTo (cf W) t r 16) := fun i hi => by
  unfold putTo addTo
  rw [if_pos hi, if_pos hi, show 256 + 16 * r + i = 256 + (16 * r + i) by omega, cf_hi]
theorem subTo_cf (W b : Nat → Byte) (c m : Nat) (hm : m < 4) : upd (subTo (cf W) b (4 * c + m)) (4 * c + m) (sbox (b (4 * ((c + m) % 4) + m)).toNat) = subTo (cf W) b (4 * c + (m + 1)) := by
  have := subTo_upd (cf W) b (4 * c + m)
  rw [cf_lo _ _ (BitVec.isLt _), show (4 * c + m + 4 * ((4 * c + m) % 4)) % 16 = 4 * ((c + m) % 4) + m by omega] at this
  exact this
theorem mixB_at (t : Nat → Byte) (c m : Nat) (hm : m < 4) : mixB t (4 * c + m) = times 2#8 (t (4 * c + m)) ^^^ times 3#8 (t (4 * c + (m + 1) % 4)) ^^^ t (4 * c + (m + 2) % 4) ^^^ t (4 * c + (m + 3) % 4) := by
  unfold mixB
  rw [show (4 * c + m) / 4 = c by omega, show (4 * c + m + 1) % 4 = (m + 1) % 4 by omega, show (4 * c + m + 2) % 4 = (m + 2) % 4 by omega, show (4 * c + m + 3) % 4 = (m + 3) % 4 by omega]
theorem times_2 (x : Byte) (w : World) : Calls Try.prog 22 #[.int .u8 2, B x] w fun e w' => e = .returned (B (times 2#8 x)) ∧ w' = w := by
  have h := times_any 2#8 x w
  rwa [show B 2#8 = .int .u8 2 from congrArg (Value.int .u8) (by unfold iB; rfl)] at h
theorem times_3 (x : Byte) (w : World) : Calls Try.prog 22 #[.int .u8 3, B x] w fun e w' => e = .returned (B (times 3#8 x)) ∧ w' = w := by
  have h := times_any 3#8 x w
  rwa [show B 3#8 = .int .u8 3 from congrArg (Value.int .u8) (by unfold iB; rfl)] at h
set_option maxRecDepth 100000 in
set_option maxHeartbeats 3000000 in
theorem crypt_any (gw capw gb : Nat) (W b : Nat → Byte) (w : World) (hW : ∀ i, i < 176 → w.cell? ⟨gw, i, none⟩ = some (B (W i))) (hbox : Row w gb 5 256 sbox) :
    Calls Try.prog 15 #[.slice (some ⟨gw, 0, none⟩) 176 capw, .slice (some ⟨gb, 0, none⟩) 256 256, .agg (Fs 16 b)] w fun e w' => e = .returned (.agg (Fs 16 (enc (cf W) b 10))) ∧ Kept (fun _ => False) w w' := by
  have hgb := hbox.lt
  have HW := Lib.hid hW
  go_enter Try.func15, Try.ntmps15
  go_upto_region 1 with fail
  generalize hw0 : World.alloc (World.alloc w _) _ = w1
  have h5 : Row w1 w.heap.size 22 16 b := by rw [← hw0]; exact (Row.new w 22 16 b).alloc _
  have h6 : Row w1 (w.heap.size + 1) 22 16 (fun _ => 0#8) := by rw [← hw0]; exact heap_alloc2_new w _ _
  have hK : Kept (fun _ => False) w w1 := by rw [← hw0]; exact ((Kept.refl _ w).alloc _).alloc _
  have hs1 : w1.heap.size = w.heap.size + 1 + 1 := by rw [← hw0, size_alloc, size_alloc]
  clear hw0 hW
  have hn7 : Row (w1.alloc (.cells (Fs 16 fun _ => 0#8) 22)) w1.heap.size 22 16 (fun _ => 0#8) := Row.new w1 _ _ _
  have HS1 := Lib.hid hs1
  clear hs1
  go_wp2_with (first | (refine wpList_load_row rfl 22 (.tmp 5) rfl w.heap.size rfl 22 (Fs 16 b) (0, 0) _ h5 Try.underlying22 rfl (info22F _) ?_) | (refine wpList_store_row rfl 22 (.tmp 7) (.tmp 17) rfl w1.heap.size (Fs 16 b) rfl rfl 22 _ hn7 (info22F _) (by simp only [Fs_size]) (Fs_one _ _) ?_))
  generalize hw0 : World.setRow (World.alloc w1 _) _ _ = w2
  have h7 : Row w2 w1.heap.size 22 16 b := by rw [← hw0]; exact hn7.row
  have h6' : Row w2 (w.heap.size + 1) 22 16 (fun _ => 0#8) := by rw [← hw0]; exact (h6.alloc _).rowOther (by rw [HS1.out]; omega) _
  have hK2 : Kept (fun _ => False) w w2 := by rw [← hw0]; exact (hK.alloc _).setRowNew (by rw [HS1.out]; omega) _
  clear hw0 h5 h6 hK hn7
  have hbs := HS1.out
  clear HS1
  generalize w1.heap.size = bb at hbs h7 ⊢
  have HBS := Lib.hid hbs
  clear hbs
  go_loopg [8] 16 (fun k i wr => ∃ n : Nat, n + k = 16 ∧ i = .int .i64 (n : Int) ∧ Row wr bb 22 16 (addTo (cf W) b 0 n) ∧ Row wr (w.heap.size + 1) 22 16 (fun _ => 0#8) ∧ Kept (fun _ => False) w wr)
  case atStart => exact ⟨0, rfl, rfl, h7.congr fun i _ => by simp [addTo], h6', hK2⟩
  case round =>
    clear h7 h6' hK2
    obtain ⟨n, hn, rfl, h7, h6, hK⟩ := hrel
    have Hn := Lib.hid hn
    have hn2 : n ≤ 16 := by omega
    clear hn
    by_cases hlt : n < 16
    · have q : (n : Int) < 16 := by omega
      have q2 : (n : Int) < 176 := by omega
      have c1 := h7.cell (i := n) hlt
      have f1 := h7.free n
      have c2 : wr.cell? ⟨gw, n, none⟩ = some (B (W n)) := hK.cell (HW.out n (by omega))
      go_wp2_with fail
      refine region_tail 9 (by kernel_rfl) (by kernel_rfl) ?_
      simp only [List.take_succ_cons, List.take_zero, List.drop_succ_cons, List.drop_zero]
      repeat (refine wpStill_step (fun K hK => ?_); go_simp; (try go_bits); refine hK _ ?_; clear hK K)
      refine wpStill_nil ?_
      go_wp2_with fail
      go_roundg (gk - 1)
      case measure => have := Hn.out; omega
      case rel =>
        have := Hn.out
        have hb3 := HBS.out
        refine ⟨n + 1, by omega, by go_num, ?_, h6.other (by simp; omega) _, (hK.setNew (by simp; omega) _).drew⟩
        rw [← addTo_cf, show 16 * 0 + n = n by omega]
        exact (show Row wr.drew _ _ _ _ from h7).set n _
    · have H16 := Lib.hid (show n = 16 by omega)
      have h7 : Row wr bb 22 16 (enc (cf W) b 0) := by have e := h7; rw [H16.out] at e; exact e
      go_wp2_with fail
      go_loopg [9] 11 (fun k i wr => ∃ r : Nat, 1 ≤ r ∧ r ≤ 11 ∧ r + k = 12 ∧ i = .int .i64 (r : Int) ∧ Row wr bb 22 16 (enc (cf W) b (r - 1)) ∧ Row wr (w.heap.size + 1) 22 16 (fun _ => 0#8) ∧ Kept (fun _ => False) w wr)
      case atStart => exact ⟨1, by omega, by omega, rfl, rfl, h7, h6, hK⟩
      case round =>
        clear h7 h6 hK
        obtain ⟨r, hr1, hr2, hr, rfl, h7, h6, hK⟩ := hrel
        obtain ⟨gr, rfl⟩ : ∃ g : Nat, g = gk := ⟨_, rfl⟩
        have Hr := Lib.hid hr
        clear hr
        by_cases hlr : r ≤ 10
        · have q10 : (r : Int) ≤ 10 := by omega
          obtain ⟨b', hb'⟩ : ∃ f, f = enc (cf W) b (r - 1) := ⟨_, rfl⟩
          rw [← hb'] at h7
          have HB := Lib.hid hb'
          clear hb'
          have hz0 := h7.lt
          have hz1 := h6.lt
          go_wp2_with fail
          obtain ⟨wo, rfl⟩ : ∃ wo : World, wo = wr := ⟨_, rfl⟩
          go_loopg [11] 4 (fun k i wp => ∃ c : Nat, c ≤ 4 ∧ c + k = 4 ∧ i = .int .i64 (c : Int) ∧ Row wp wo.heap.size 22 16 (subTo (cf W) b' (4 * c)) ∧ Row wp bb 22 16 b' ∧ Row wp (w.heap.size + 1) 22 16 (fun _ => 0#8) ∧ Kept (fun _ => False) w wp)
          case atStart => exact ⟨0, by omega, rfl, rfl, (Row.new wo 22 16 (fun _ => 0#8)).congr fun i _ => by simp [subTo], h7.alloc _, h6.alloc _, hK.alloc _⟩
          case round =>
            clear h7 h6 hK
            obtain ⟨c, hc4, hc, rfl, hT, h7, h6, hK⟩ := hrel
            obtain ⟨gc, rfl⟩ : ∃ g : Nat, g = gk := ⟨_, rfl⟩
            have Hc := Lib.hid hc
            clear hc
            by_cases hlc : c < 4
            · have qc : (c : Int) < 4 := by omega
              go_wp2_with fail
              obtain ⟨wn, rfl⟩ : ∃ wn : World, wn = wr := ⟨_, rfl⟩
              go_loopg [12] 4 (fun k i wp => ∃ m : Nat, m ≤ 4 ∧ m + k = 4 ∧ i = .int .i64 (m : Int) ∧ Row wp wo.heap.size 22 16 (subTo (cf W) b' (4 * c + m)) ∧ Row wp bb 22 16 b' ∧ Row wp (w.heap.size + 1) 22 16 (fun _ => 0#8) ∧ Kept (fun _ => False) w wp)
              case atStart => exact ⟨0, by omega, rfl, rfl, hT, h7, h6, hK⟩
              case round =>
                clear hT h7 h6 hK
                obtain ⟨m, hm4, hm, rfl, hT, h7, h6, hK⟩ := hrel
                have Hm := Lib.hid hm
                clear hm
                by_cases hlm : m < 4
                · have qm : (m : Int) < 4 := by omega
                  have q1 : 4 * (c : Int) + m < 16 := by omega
                  have q2 : 4 * (((c : Int) + m) % 4) + m < 16 := by omega
                  have q3 : 0 ≤ 4 * (((c : Int) + m) % 4) + m := by omega
                  obtain ⟨x, hx⟩ : ∃ x, x = b' (4 * ((c + m) % 4) + m) := ⟨_, rfl⟩
                  have c1 : wr.cell? ⟨bb, 4 * ((c + m) % 4) + m, none⟩ = some (B x) := by rw [hx]; exact h7.cell (by omega)
                  have c2 : wr.cell? ⟨gb, (iB x).toNat, none⟩ = some (B (sbox x.toNat)) := by
                    rw [iB_toNat]; exact (show Row wr gb 5 256 sbox from hK.at hbox (fun h => h)).cell (by have := x.isLt; omega)
                  have c3 := hT.cell (i := 4 * c + m) (by omega)
                  have c4 := hT.free (4 * c + m)
                  have i0 := iB_ge x
                  have i1 := iB_lt x
                  have HX := Lib.hid hx
                  clear hx
                  go_wp2_with fail
                  go_roundg (gk - 1)
                  case measure => have := Hm.out; omega
                  case rel =>
                    have := Hm.out
                    have hb3 := HBS.out
                    refine ⟨m + 1, by omega, by omega, by go_num, ?_, h7.other (by simp; omega) _, h6.other (by simp; omega) _, (hK.setNew (by simp; omega) _)⟩
                    rw [← subTo_cf W b' c m hlm, ← HX.out]
                    exact (show Row wr _ _ _ _ from hT).set _ _
                · have Hm4 := Lib.hid (show m = 4 by omega)
                  go_wp2_with fail
                  go_roundg (gc - 1)
                  case measure => have := Hc.out; omega
                  case rel =>
                    have := Hc.out
                    have h4 := Hm4.out
                    exact ⟨c + 1, by omega, by omega, by go_num, by rw [show 4 * (c + 1) = 4 * c + m by omega]; exact hT, h7, h6, hK⟩
            · have Hc4 := Lib.hid (show c = 4 by omega)
              have hT : Row wr wo.heap.size 22 16 (subTo (cf W) b' 16) := by have e := hT; rw [Hc4.out] at e; exact e
              by_cases hr10 : r < 10
              · have q10 : (r : Int) < 10 := by omega
                generalize htt : subTo (cf W) b' 16 = tt at hT
                have HTT := Lib.hid htt
                clear htt
                have hn13 : Row (wr.alloc (.cells (Fs 16 fun _ => 0#8) 22)) wr.heap.size 22 16 (fun _ => 0#8) := Row.new wr _ _ _
                have hzT := hT.lt
                have hz7 := h7.lt
                have hz6 := h6.lt
                have hzK := hK.size
                go_wp2_with (first | (refine wpList_load_row rfl 22 (.tmp 10) rfl wo.heap.size rfl 22 (Fs 16 tt) (0, 0) _ hT Try.underlying22 rfl (info22F _) ?_) | (refine wpList_store_row rfl 22 (.tmp 13) (.tmp 62) rfl wr.heap.size (Fs 16 tt) rfl rfl 22 _ hn13 (info22F _) (by simp only [Fs_size]) (Fs_one _ _) ?_))
                generalize hw0 : World.setRow (World.alloc wr _) _ _ = w3
                have hC : Row w3 wr.heap.size 22 16 tt := by rw [← hw0]; exact hn13.row
                have hT3 : Row w3 wo.heap.size 22 16 tt := by rw [← hw0]; exact (hT.alloc _).rowOther (by omega) _
                have h73 : Row w3 bb 22 16 b' := by rw [← hw0]; exact (h7.alloc _).rowOther (by omega) _
                have h63 : Row w3 (w.heap.size + 1) 22 16 (fun _ => 0#8) := by rw [← hw0]; exact (h6.alloc _).rowOther (by omega) _
                have hK3 : Kept (fun _ => False) w w3 := by rw [← hw0]; exact (hK.alloc _).setRowNew (by omega) _
                clear hw0 hT h7 h6 hK hn13
                have hbc1 : w.heap.size ≤ wr.heap.size := hzK
                have hbc2 : wr.heap.size ≠ wo.heap.size := by omega
                have hbc3 : wr.heap.size ≠ bb := by omega
                have hbc4 : wr.heap.size ≠ w.heap.size + 1 := by omega
                clear hzT hz7 hz6 hzK
                generalize wr.heap.size = bc at hbc1 hbc2 hbc3 hbc4 hC ⊢
                go_loopg [14] 4 (fun k i wp => ∃ c : Nat, c ≤ 4 ∧ c + k = 4 ∧ i = .int .i64 (c : Int) ∧ Row wp wo.heap.size 22 16 (mixR tt (4 * c)) ∧ Row wp bc 22 16 tt ∧ Row wp bb 22 16 b' ∧ Row wp (w.heap.size + 1) 22 16 (fun _ => 0#8) ∧ Kept (fun _ => False) w wp)
                case atStart => exact ⟨0, by omega, rfl, rfl, hT3.congr fun i _ => by simp [mixR], hC, h73, h63, hK3⟩
                case round =>
                  clear hT3 hC h73 h63 hK3
                  obtain ⟨c, hc4, hc, rfl, hT, hC, h7, h6, hK⟩ := hrel
                  obtain ⟨gc, rfl⟩ : ∃ g : Nat, g = gk := ⟨_, rfl⟩
                  have Hc := Lib.hid hc
                  clear hc
                  by_cases hlc : c < 4
                  · have qc : (c : Int) < 4 := by omega
                    go_wp2_with fail
                    go_loopg [15] 4 (fun k i wp => ∃ m : Nat, m ≤ 4 ∧ m + k = 4 ∧ i = .int .i64 (m : Int) ∧ Row wp wo.heap.size 22 16 (mixR tt (4 * c + m)) ∧ Row wp bc 22 16 tt ∧ Row wp bb 22 16 b' ∧ Row wp (w.heap.size + 1) 22 16 (fun _ => 0#8) ∧ Kept (fun _ => False) w wp)
                    case atStart => exact ⟨0, by omega, rfl, rfl, hT, hC, h7, h6, hK⟩
                    case round =>
                      clear hT hC h7 h6 hK
                      obtain ⟨m, hm4, hm, rfl, hT, hC, h7, h6, hK⟩ := hrel
                      have Hm := Lib.hid hm
                      clear hm
                      by_cases hlm : m < 4
                      · have qm : (m : Int) < 4 := by omega
                        have q0 : 4 * (c : Int) + m < 16 := by omega
                        have p0 : 0 ≤ 4 * (c : Int) + (m : Int) := by omega
                        have q1 : 4 * (c : Int) + ((m : Int) + 1) % 4 < 16 := by omega
                        have q2 : 4 * (c : Int) + ((m : Int) + 2) % 4 < 16 := by omega
                        have q3 : 4 * (c : Int) + ((m : Int) + 3) % 4 < 16 := by omega
                        have p1 : 0 ≤ 4 * (c : Int) + ((m : Int) + 1) % 4 := by omega
                        have p2 : 0 ≤ 4 * (c : Int) + ((m : Int) + 2) % 4 := by omega
                        have p3 : 0 ≤ 4 * (c : Int) + ((m : Int) + 3) % 4 := by omega
                        have d0 := hC.cell (i := 4 * c + m) (by omega)
                        have d1 := hC.cell (i := 4 * c + (m + 1) % 4) (by omega)
                        have d2 := hC.cell (i := 4 * c + (m + 2) % 4) (by omega)
                        have d3 := hC.cell (i := 4 * c + (m + 3) % 4) (by omega)
                        have c3 := hT.cell (i := 4 * c + m) (by omega)
                        have c4 := hT.free (4 * c + m)
                        go_wp2_with fail
                        refine region_tail 40 (by kernel_rfl) (by kernel_rfl) ?_
                        simp only [List.take_succ_cons, List.take_zero, List.drop_succ_cons, List.drop_zero]
                        iterate 10 (refine wpStill_step (fun K hK => ?_); go_simp; (try go_bits); refine hK _ ?_; clear hK K)
                        (refine wpStill_step (fun K hK => ?_); go_simp; refine ⟨_, times_2 (tt (4 * c + m)) _, hK _ ?_⟩; clear hK K)
                        iterate 8 (refine wpStill_step (fun K hK => ?_); go_simp; (try go_bits); refine hK _ ?_; clear hK K)
                        (refine wpStill_step (fun K hK => ?_); go_simp; refine ⟨_, times_3 (tt (4 * c + (m + 1) % 4)) _, hK _ ?_⟩; clear hK K)
                        iterate 20 (refine wpStill_step (fun K hK => ?_); go_simp; (try go_bits); refine hK _ ?_; clear hK K)
                        refine wpStill_nil ?_
                        go_wp2_with fail
                        go_roundg (gk - 1)
                        case measure => have := Hm.out; omega
                        case rel =>
                          have := Hm.out
                          have hb3 := HBS.out
                          refine ⟨m + 1, by omega, by omega, by go_num, ?_, hC.other (by simp; omega) _, h7.other (by simp; omega) _, h6.other (by simp; omega) _, (hK.setNew (by simp; omega) _).drew⟩
                          rw [show 4 * c + (m + 1) = 4 * c + m + 1 by omega, ← mixR_upd, mixB_at tt c m hlm]
                          exact (show Row wr.drew _ _ _ _ from hT).set _ _
                      · have Hm4 := Lib.hid (show m = 4 by omega)
                        go_wp2_with fail
                        go_roundg (gc - 1)
                        case measure => have := Hc.out; omega
                        case rel =>
                          have := Hc.out
                          have h4 := Hm4.out
                          exact ⟨c + 1, by omega, by omega, by go_num, by rw [show 4 * (c + 1) = 4 * c + m by omega]; exact hT, hC, h7, h6, hK⟩
                  · have Hc5 := Lib.hid (show c = 4 by omega)
                    have hT : Row wr wo.heap.size 22 16 (mixTo (subTo (cf W) b' 16) 4) := by
                      have e := hT; rw [Hc5.out] at e; rw [HTT.out]; exact e.congr fun i hi => mixR_mix tt i hi
                    clear hC
                    go_wp2_with fail
                    go_loopg [16] 16 (fun k i wp => ∃ m : Nat, m ≤ 16 ∧ m + k = 16 ∧ i = .int .i64 (m : Int) ∧ Row wp wo.heap.size 22 16 (mixTo (subTo (cf W) b' 16) 4) ∧ Row wp bb 22 16 (putTo W (mixTo (subTo (cf W) b' 16) 4) b' r m) ∧ Row wp (w.heap.size + 1) 22 16 (fun _ => 0#8) ∧ Kept (fun _ => False) w wp)
                    case atStart => exact ⟨0, by omega, rfl, rfl, hT, h7.congr fun i _ => by simp [putTo], h6, hK⟩
                    case round =>
                      clear hT h7 h6 hK
                      obtain ⟨m, hm4, hm, rfl, hT, h7, h6, hK⟩ := hrel
                      have Hm := Lib.hid hm
                      clear hm
                      by_cases hlm : m < 16
                      · have qm : (m : Int) < 16 := by omega
                        have q1 : 0 ≤ 16 * (r : Int) + m := by omega
                        have q2 : 16 * (r : Int) + m < 176 := by omega
                        have c1 := hT.cell (i := m) hlm
                        have c2 : wr.cell? ⟨gw, 16 * r + m, none⟩ = some (B (W (16 * r + m))) := hK.cell (HW.out _ (by omega))
                        have c3 := h7.cell (i := m) hlm
                        have c4 := h7.free m
                        generalize hx : (mixTo (subTo (cf W) b' 16) 4) m = x at c1
                        have HX := Lib.hid hx
                        clear hx
                        go_wp2_with fail
                        refine region_tail 13 (by kernel_rfl) (by kernel_rfl) ?_
                        simp only [List.take_succ_cons, List.take_zero, List.drop_succ_cons, List.drop_zero]
                        repeat (refine wpStill_step (fun K hK => ?_); go_simp; (try go_bits); refine hK _ ?_; clear hK K)
                        refine wpStill_nil ?_
                        go_wp2_with fail
                        go_roundg (gk - 1)
                        case measure => have := Hm.out; omega
                        case rel =>
                          have := Hm.out
                          have hb3 := HBS.out
                          refine ⟨m + 1, by omega, by omega, by go_num, hT.other (by simp; omega) _, ?_, h6.other (by simp; omega) _, (hK.setNew (by simp; omega) _).drew⟩
                          rw [← putTo_upd, HX.out]
                          exact (show Row wr.drew _ _ _ _ from h7).set _ _
                      · have Hm4 := Lib.hid (show m = 16 by omega)
                        go_wp2_with fail
                        go_roundg (gr - 1)
                        case measure => have := Hr.out; omega
                        case rel =>
                          have := Hr.out
                          have h7 : Row wr bb 22 16 (putTo W (mixTo (subTo (cf W) b' 16) 4) b' r 16) := by have e := h7; rw [Hm4.out] at e; exact e
                          refine ⟨r + 1, by omega, by omega, by omega, by go_num, ?_, h6, hK⟩
                          refine h7.congr fun i hi => ?_
                          rw [putTo_add W _ b' r i hi, show r + 1 - 1 = (r - 1) + 1 by omega]
                          show _ = roundOf (cf W) (enc (cf W) b (r - 1)) (r - 1 + 1) i
                          rw [← HB.out, show r - 1 + 1 = r by omega]
                          unfold roundOf
                          rw [if_pos hr10]
              · have q10 : (10 : Int) ≤ r := by omega
                go_wp2_with fail
                go_loopg [16] 16 (fun k i wp => ∃ m : Nat, m ≤ 16 ∧ m + k = 16 ∧ i = .int .i64 (m : Int) ∧ Row wp wo.heap.size 22 16 (subTo (cf W) b' 16) ∧ Row wp bb 22 16 (putTo W (subTo (cf W) b' 16) b' r m) ∧ Row wp (w.heap.size + 1) 22 16 (fun _ => 0#8) ∧ Kept (fun _ => False) w wp)
                case atStart => exact ⟨0, by omega, rfl, rfl, hT, h7.congr fun i _ => by simp [putTo], h6, hK⟩
                case round =>
                  clear hT h7 h6 hK
                  obtain ⟨m, hm4, hm, rfl, hT, h7, h6, hK⟩ := hrel
                  have Hm := Lib.hid hm
                  clear hm
                  by_cases hlm : m < 16
                  · have qm : (m : Int) < 16 := by omega
                    have q1 : 0 ≤ 16 * (r : Int) + m := by omega
                    have q2 : 16 * (r : Int) + m < 176 := by omega
                    have c1 := hT.cell (i := m) hlm
                    have c2 : wr.cell? ⟨gw, 16 * r + m, none⟩ = some (B (W (16 * r + m))) := hK.cell (HW.out _ (by omega))
                    have c3 := h7.cell (i := m) hlm
                    have c4 := h7.free m
                    generalize hx : (subTo (cf W) b' 16) m = x at c1
                    have HX := Lib.hid hx
                    clear hx
                    go_wp2_with fail
                    refine region_tail 13 (by kernel_rfl) (by kernel_rfl) ?_
                    simp only [List.take_succ_cons, List.take_zero, List.drop_succ_cons, List.drop_zero]
                    repeat (refine wpStill_step (fun K hK => ?_); go_simp; (try go_bits); refine hK _ ?_; clear hK K)
                    refine wpStill_nil ?_
                    go_wp2_with fail
                    go_roundg (gk - 1)
                    case measure => have := Hm.out; omega
                    case rel =>
                      have := Hm.out
                      have hb3 := HBS.out
                      refine ⟨m + 1, by omega, by omega, by go_num, hT.other (by simp; omega) _, ?_, h6.other (by simp; omega) _, (hK.setNew (by simp; omega) _).drew⟩
                      rw [← putTo_upd, HX.out]
                      exact (show Row wr.drew _ _ _ _ from h7).set _ _
                  · have Hm4 := Lib.hid (show m = 16 by omega)
                    go_wp2_with fail
                    go_roundg (gr - 1)
                    case measure => have := Hr.out; omega
                    case rel =>
                      have := Hr.out
                      have h7 : Row wr bb 22 16 (putTo W (subTo (cf W) b' 16) b' r 16) := by have e := h7; rw [Hm4.out] at e; exact e
                      refine ⟨r + 1, by omega, by omega, by omega, by go_num, ?_, h6, hK⟩
                      refine h7.congr fun i hi => ?_
                      rw [putTo_add W _ b' r i hi, show r + 1 - 1 = (r - 1) + 1 by omega]
                      show _ = roundOf (cf W) (enc (cf W) b (r - 1)) (r - 1 + 1) i
                      rw [← HB.out, show r - 1 + 1 = r by omega]
                      unfold roundOf
                      rw [if_neg hr10]
        · have H11 := Lib.hid (show r = 11 by omega)
          have h7 : Row wr bb 22 16 (enc (cf W) b 10) := by have e := h7; rw [H11.out] at e; exact e
          have hb3 := HBS.out
          go_wp2_with (first | (refine wpList_load_row rfl 22 (.tmp 7) rfl bb rfl 22 (Fs 16 (enc (cf W) b 10)) (0, 0) _ h7 Try.underlying22 rfl (info22F _) ?_) | (refine wpList_store_row rfl 22 (.tmp 6) (.tmp 128) rfl (w.heap.size + 1) (Fs 16 (enc (cf W) b 10)) rfl rfl 22 _ h6 (info22F _) (by simp only [Fs_size]) (Fs_one _ _) ?_))
          exact bodyPost_ret (v := .agg (Fs 16 (enc (cf W) b 10))) (results_cell_row rfl _ _ (w.heap.size + 1) 22 _ (0, 0) _ rfl h6.row Try.underlying22 rfl (info22F _)) rfl ⟨rfl, hK.setRowNew (by omega) _⟩
end Go.Proofs.Ytgjkeeejcebhhaa
