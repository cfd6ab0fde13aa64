/-
  The walk of the reference's Over.
-/
import Derived.Test.YtgjkeeejcebhhaaR6
import Derived.Test.YtgjkeeejcebhhaaA12
namespace Go.Proofs.Ytgjkeeejcebhhaa
open Go.RowKit
def ctrUp (e s n k : Nat) : Nat → Byte := fun i => if i < 12 + k then ctr e s n i else 0#8
theorem ctrUp_0 (e s n i : Nat) (h : i < 16) : ctrTo e s 6 i = ctrUp e s n 0 i := by
  unfold ctrTo ctrUp
  by_cases h2 : i < 12
  · rw [if_pos (by omega), if_pos (by omega), ctr_old e s n i h2]
  · rw [if_neg (by omega), if_neg (by omega)]
theorem ctrUp_upd (e s n k : Nat) (hk : k < 4) : upd (ctrUp e s n k) (12 + k) (by8 (n / 2 ^ (24 - 8 * k))) = ctrUp e s n (k + 1) := by
  funext i; unfold upd ctrUp
  by_cases h : i = 12 + k
  · subst h
    rw [if_pos rfl, if_pos (by omega)]
    unfold ctr
    rw [if_neg (by omega), if_neg (by omega)]
    obtain rfl | rfl | rfl | rfl : k = 0 ∨ k = 1 ∨ k = 2 ∨ k = 3 := by omega
    all_goals simp
  · rw [if_neg h]
    by_cases h2 : i < 12 + k
    · rw [if_pos h2, if_pos (by omega)]
    · rw [if_neg h2, if_neg (by omega)]
theorem OwnB.rowAt {w w' : World} {base n cap : Nat} {a : Option Addr} {f : Nat → Byte} (h : OwnB w base a n cap f) (k : ∀ g, a = some ⟨g, 0, none⟩ → w'.heap[g]? = w.heap[g]?) : OwnB w' base a n cap f := by
  refine ⟨h.1, ?_⟩
  rcases h.2 with h1 | ⟨g, cap', cur, hv, hb, hg, r⟩
  · exact .inl h1
  · refine .inr ⟨g, cap', cur, hv, hb, ?_, r⟩
    rw [k g (by simp only [Value.slice.injEq] at hv; exact hv.1)]; exact hg
theorem OwnB.setOther {w : World} {base n cap b i : Nat} {a : Option Addr} {f : Nat → Byte} {v : Value} (h : OwnB w base a n cap f) (k : ∀ g, a = some ⟨g, 0, none⟩ → g < b) : OwnB (w.setCell ⟨b, i, none⟩ v) base a n cap f :=
  h.rowAt fun g hg => heap_setCell_other w ⟨b, i, none⟩ g v (by have := k g hg; simp; omega)
attribute [local go_sem] xorB by8_iB
set_option maxRecDepth 100000 in
set_option maxHeartbeats 3000000 in
theorem over_any (key : Nat → Byte) (gb : Nat) (e s : Nat) (a : Option Addr) (len cap : Nat) (f : Nat → Byte) (w : World) (hb : BytesAt w a len f) (hlen : len ≤ 140737488351232) (hbox : Row w gb 5 256 sbox) :
    Calls Try.prog 17 #[.slice (some ⟨gb, 0, none⟩) 256 256, .agg (Fs 16 key), .int .u64 e, .int .u64 s, .slice a len cap] w fun r w' => ∃ a' cap', r = .returned (.slice a' len cap') ∧ OwnB w' w.heap.size a' len cap' (crossF key e s f) ∧ Kept (fun _ => False) w w' := by
  have hgb := hbox.lt
  go_enter Try.func17, Try.ntmps17
  have h1 : Row (w.alloc (.cells (Fs 16 key) 22)) w.heap.size 22 16 key := Row.new w _ _ _
  go_wp2_with (refine wpList_load_row rfl 22 (.tmp 6) rfl w.heap.size rfl 22 (Fs 16 key) (0, 0) _ h1 Try.underlying22 rfl (info22F _) ?_)
  refine (keysR_any key gb _ (hbox.alloc _)).mono ?_
  rintro r w1 ⟨aw, capw, rfl, hO, hk⟩
  obtain ⟨gw, rfl, hgw, hgl, hcw, _⟩ := hO.cell (by omega)
  have hK1 : Kept (fun _ => False) w w1 := ((Kept.refl _ w).alloc _).trans hk (fun _ _ h => h)
  have hb1 : BytesAt w1 a len f := hb.kept hK1
  have hbox1 : Row w1 gb 5 256 sbox := hK1.at hbox (fun h => h)
  clear hk h1 hO hb hbox
  have HCW := Lib.hid hcw
  clear hcw
  go_wp2_with fail
  go_loopg [12, 13] (len + 1) (fun k v i wr => ∃ (n cnt : Nat) (a' : Option Addr) (cap' : Nat), n + k = len + 1 ∧ n ≤ len ∧ cnt ≤ len ∧ (16 * n < len → cnt = 16 * n) ∧ (len ≤ 16 * n → cnt = len) ∧ i = .int .i64 (16 * (n : Int)) ∧ v = .slice a' cnt cap' ∧ OwnB wr w1.heap.size a' cnt cap' (crossF key e s f) ∧ Kept (fun _ => False) w1 wr)
  case atStart => exact ⟨0, 0, _, _, by omega, by omega, by omega, fun _ => rfl, fun h => by omega, rfl, rfl, OwnB.nil _ _ _, Kept.refl _ _⟩
  case round =>
    obtain ⟨n, cnt, a', cap', hn, hnl, hcl, hc1, hc2, rfl, rfl, hO, hK⟩ := hrel
    have Hn := Lib.hid hn
    clear hn
    obtain ⟨gn, rfl⟩ : ∃ g : Nat, g = gk := ⟨_, rfl⟩
    by_cases hlt : 16 * n < len
    · have hcnt := hc1 hlt
      subst hcnt
      clear hc1 hc2
      have q0 : 16 * (n : Int) < len := by omega
      have qlen : (len : Int) ≤ 140737488351232 := by omega
      go_wp2_with fail
      obtain ⟨wo, rfl⟩ : ∃ wo : World, wo = wr := ⟨_, rfl⟩
      have hzo := hK.size
      go_loopg [16] 6 (fun k i wp => ∃ m : Nat, m + k = 6 ∧ i = .int .i64 (m : Int) ∧ Row wp wo.heap.size 22 16 (ctrTo e s m) ∧ OwnB wp w1.heap.size a' (16 * n) cap' (crossF key e s f) ∧ (∀ g, a' = some ⟨g, 0, none⟩ → g < wo.heap.size) ∧ Kept (fun _ => False) w1 wp ∧ wo.heap.size < wp.heap.size)
      case atStart =>
        refine ⟨0, rfl, rfl, (Row.new wo 22 16 (fun _ => 0#8)).congr fun i _ => by unfold ctrTo; rw [if_neg (by omega)], hO.alloc _, fun g hg => ?_, hK.alloc _, by simp⟩
        rcases hO.at with ⟨h, _⟩ | ⟨g', cur, h, _, h3, _⟩
        · rw [h] at hg; cases hg
        · rw [h] at hg; rw [← some_eq hg]; exact lt_of_at h3
      case round =>
        have HZO := Lib.hid hzo
        clear hO hK hzo
        obtain ⟨m, hm, rfl, hI, hO, hal, hK, hz⟩ := hrel
        have Hm := Lib.hid hm
        have hm6 : m ≤ 6 := by omega
        have Hal := Lib.hid hal
        clear hm hal
        by_cases hlm : m < 6
        · have q6 : (m : Int) < 6 := by omega
          have q10 : (m : Int) < 10 := by omega
          have q16 : (m : Int) < 16 := by omega
          have q17 : 6 + (m : Int) < 16 := by omega
          have c1 := hI.cell (i := m) (by omega)
          have f1 := hI.free m
          have f2 := hI.free (6 + m)
          have c2 := fun v => (hI.set m v).cell (i := 6 + m) (by omega)
          go_upto_region 12 with fail
          have e1 : (e : Int) / 2 ^ (40 - 8 * m) % 256 = iB (by8 (e / 2 ^ (40 - 8 * m))) := by rw [← by8_iB]; simp
          have e2 : (s : Int) / 2 ^ (40 - 8 * m) % 256 = iB (by8 (s / 2 ^ (40 - 8 * m))) := by rw [← by8_iB]; simp
          rw [e1]
          have c2 := c2 (by8 (e / 2 ^ (40 - 8 * m)))
          go_wp2_with fail
          rw [e2]
          clear e1 e2
          go_roundg (gk - 1)
          case measure => have := Hm.out; omega
          case rel =>
            have := Hm.out
            refine ⟨m + 1, by omega, by go_num, ?_, (hO.setOther Hal.out).setOther Hal.out, Hal.out, (hK.setNew (by have := HZO.out; simp; omega) _).setNew (by have := HZO.out; simp; omega) _, by simpa using hz⟩
            rw [← ctrTo_upd e s m hlm]
            exact (hI.set m _).set (6 + m) _
        · have H6 := Lib.hid (show m = 6 by omega)
          have hI : Row wr wo.heap.size 22 16 (ctrUp e s n 0) := by
            have e1 := hI; rw [H6.out] at e1; exact e1.congr fun i hi => ctrUp_0 e s n i hi
          go_wp2_with fail
          go_loopg [17] 4 (fun k i wp => ∃ m : Nat, m + k = 4 ∧ i = .int .i64 (m : Int) ∧ Row wp wo.heap.size 22 16 (ctrUp e s n m) ∧ OwnB wp w1.heap.size a' (16 * n) cap' (crossF key e s f) ∧ Kept (fun _ => False) w1 wp ∧ wo.heap.size < wp.heap.size)
          case atStart => exact ⟨0, rfl, rfl, hI, hO, hK, hz⟩
          case round =>
            clear hI hO hK hz
            obtain ⟨m, hm, rfl, hI, hO, hK, hz⟩ := hrel
            have Hm := Lib.hid hm
            have hm4 : m ≤ 4 := by omega
            clear hm
            by_cases hlm : m < 4
            · have q4 : (m : Int) < 4 := by omega
              have q16 : 12 + (m : Int) < 16 := by omega
              have c1 := hI.cell (i := 12 + m) (by omega)
              have f1 := hI.free (12 + m)
              go_wp2_with fail
              have e1 : (n : Int) / 2 ^ (24 - 8 * m) % 256 = iB (by8 (n / 2 ^ (24 - 8 * m))) := by rw [← by8_iB]; simp
              rw [e1]
              clear e1
              go_roundg (gk - 1)
              case measure => have := Hm.out; omega
              case rel =>
                have := Hm.out
                refine ⟨m + 1, by omega, by go_num, ?_, hO.setOther Hal.out, hK.setNew (by have := HZO.out; simp; omega) _, by simpa using hz⟩
                rw [← ctrUp_upd e s n m hlm]
                exact hI.set (12 + m) _
            · have H4 := Lib.hid (show m = 4 by omega)
              have hI : Row wr wo.heap.size 22 16 (ctr e s n) := by
                have e1 := hI; rw [H4.out] at e1; exact e1.congr fun i hi => by unfold ctrUp; rw [if_pos (by omega)]
              go_wp2_with (refine wpList_load_row rfl 22 (.tmp 14) rfl wo.heap.size rfl 22 (Fs 16 (ctr e s n)) (0, 0) _ hI Try.underlying22 rfl (info22F _) ?_)
              refine (crypt_any gw capw gb (ks key 40).1 (ctr e s n) _ (fun i hi => hK.cell (HCW.out i hi)) (hK.at hbox1 (fun h => h))).mono ?_
              rintro r w2 ⟨rfl, hk2⟩
              have hO2 := hO.kept hk2 (fun _ _ h => h)
              have hK2 := hK.trans hk2 (fun _ _ h => h)
              have hz2 : wo.heap.size < w2.heap.size := Nat.lt_of_lt_of_le hz hk2.size
              clear hI hO hK hz hk2
              have hn18 : Row (w2.alloc (.cells (Fs 16 fun _ => 0#8) 22)) w2.heap.size 22 16 (fun _ => 0#8) := Row.new w2 _ _ _
              go_wp2_with (refine wpList_store_row rfl 22 (.tmp 18) (.tmp 72) rfl w2.heap.size (Fs 16 (enc (cf (ks key 40).1) (ctr e s n) 10)) rfl rfl 22 _ hn18 (info22F _) (by simp only [Fs_size]) (Fs_one _ _) ?_)
              generalize hw0 : World.setRow (World.alloc w2 _) _ _ = w3
              have hS : Row w3 w2.heap.size 22 16 (aesBlock key (ctr e s n)) := by rw [← hw0]; exact hn18.row
              have hO : OwnB w3 w1.heap.size a' (16 * n) cap' (crossF key e s f) := by rw [← hw0]; exact (hO2.alloc _).rowAt fun g h => setRow_other _ _ g _ (by have := Hal.out g h; omega)
              have hK : Kept (fun _ => False) w1 w3 := by rw [← hw0]; exact (hK2.alloc _).setRowNew (by have := HZO.out; omega) _
              have hz : w2.heap.size < w3.heap.size := by rw [← hw0]; simp
              have hne : ∀ g, a' = some ⟨g, 0, none⟩ → g ≠ w2.heap.size := fun g h => by have := Hal.out g h; omega
              have hz1 : w1.heap.size ≤ w2.heap.size := hK2.size
              clear hw0 hO2 hK2 hn18 hz2
              generalize w2.heap.size = bs at hS hz hne hz1 ⊢
              generalize hT : aesBlock key (ctr e s n) = T at hS
              have HT := Lib.hid hT
              clear hT
              have Hne := Lib.hid hne
              clear hne
              go_loopg [12, 19] 16 (fun k v i wp => ∃ (m : Nat) (a' : Option Addr) (cap' : Nat), m + k = 16 ∧ m ≤ 16 ∧ 16 * n + m ≤ len ∧ i = .int .i64 (m : Int) ∧ v = .slice a' (16 * n + m) cap' ∧ OwnB wp w1.heap.size a' (16 * n + m) cap' (crossF key e s f) ∧ (∀ g, a' = some ⟨g, 0, none⟩ → g ≠ bs) ∧ Row wp bs 22 16 T ∧ Kept (fun _ => False) w1 wp ∧ bs < wp.heap.size)
              case atStart => exact ⟨0, _, _, rfl, by omega, by omega, rfl, rfl, hO, Hne.out, hS, hK, hz⟩
              case round =>
                clear hO hS hK hz
                obtain ⟨m, a', cap', hm, hm16, hml, rfl, rfl, hO, hne, hS, hK, hz⟩ := hrel
                have Hm := Lib.hid hm
                have Hne2 := Lib.hid hne
                clear hm hne
                by_cases hlm : m < 16
                · have q3 : (m : Int) < 16 := by omega
                  by_cases hll : 16 * n + m < len
                  · have q5 : 16 * (n : Int) + m < len := by omega
                    have q6 : 0 ≤ 16 * (n : Int) + m := by omega
                    obtain ⟨gx, ox, rfl, hcx⟩ := hb1.resolve_left (by omega)
                    have e1 := hK.cell (hcx (16 * n + m) hll)
                    have e2 := hS.cell (i := m) hlm
                    have e3 := block_lt_of_cell (hcx (16 * n + m) hll)
                    have HCX := Lib.hid hcx
                    clear hcx
                    go_wp2_with fail
                    have hzK : w1.heap.size ≤ wr.heap.size := hK.size
                    refine region_perm (fun WW => WW.cell? ⟨gx, ox + (16 * n + m), none⟩ = some (B (f (16 * n + m))) ∧ WW.cell? ⟨bs, m, none⟩ = some (B (T m))) [(0, true), (1, true), (2, true), (3, true), (4, true), (5, true), (6, true), (7, true), (8, true), (9, true), (10, true), (11, false), (12, false), (13, true)] (by kernel_rfl) (by kernel_rfl) (by intro c a d v w h; cases d <;> exact h) ⟨e1, e2⟩ ?_
                    repeat (apply HeldSeq.take; (focus rfl); (focus rfl); (focus (intro W _; go_simp; (try go_bits); rfl)); simp only [List.getElem_toArray, List.getElem_cons_zero, List.getElem_cons_succ, Act.put, List.setIfInBounds_toArray, List.set_cons_zero, List.set_cons_succ])
                    refine HeldSeq.run rfl rfl (fun K hK => ?_)
                    go_simp
                    refine hK _ _ ⟨(World.cell?_alloc_past _ _ _ (by omega)).trans e1, (World.cell?_alloc_past _ _ _ hz).trans e2⟩ ?_
                    clear hK K
                    refine HeldSeq.run rfl rfl (fun K hKK => ?_)
                    refine wp_append1 (.tmp 85) (.tmp 96) rfl w1.heap.size a' (16 * n + m) cap' (crossF key e s f) rfl (hO.alloc _).drew wr.heap.size 1 (f (16 * n + m) ^^^ T m) rfl (by simp) (by omega) (by simp; omega) ?_
                    intro a2 cap2 w4 hO2 hk2
                    have hO3 : OwnB w4 w1.heap.size a2 (16 * n + (m + 1)) cap2 (crossF key e s f) := by
                      refine OwnB.congr hO2 fun i hi => ?_
                      unfold upd
                      by_cases h : i = 16 * n + m
                      · rw [if_pos h, h]
                        unfold crossF
                        rw [show (16 * n + m) / 16 = n by omega, show (16 * n + m) % 16 = m by omega, HT.out]
                      · rw [if_neg h]
                    have hS2 : Row w4 bs 22 16 T := hk2.kept.at (hS.alloc _) (fun h => Hne2.out _ h rfl)
                    have hK2 : Kept (fun _ => False) w1 w4 := (hK.alloc _).drew.trans hk2.kept (fun i hi h => by
                      rcases hO.at with ⟨h0, _⟩ | ⟨g', cur, h0, h3, _⟩
                      · rw [h0] at h; cases h
                      · rw [h0] at h; have := some_eq h; omega)
                    have hz2 := hk2.kept.size
                    have hne2 : ∀ g', a2 = some ⟨g', 0, none⟩ → g' ≠ bs := fun g' h => by
                      rcases hk2.fresh g' h with h3 | h3
                      · exact Hne2.out _ h3
                      · simp at h3; omega
                    have Hne3 := Lib.hid hne2
                    refine hKK _ _ ⟨(hK2.cell (HCX.out _ hll)), hS2.cell hlm⟩ ?_
                    clear hKK K hk2 hO hS hK e1 e2 hne2 hO2
                    repeat (apply HeldSeq.take; (focus rfl); (focus rfl); (focus (intro W _; go_simp; (try go_bits); rfl)); simp only [List.getElem_toArray, List.getElem_cons_zero, List.getElem_cons_succ, Act.put, List.setIfInBounds_toArray, List.set_cons_zero, List.set_cons_succ])
                    refine HeldSeq.done ?_
                    go_wp2_with fail
                    go_roundg (gk - 1)
                    case measure => have := Hm.out; omega
                    case rel =>
                      have := Hm.out
                      exact ⟨m + 1, a2, cap2, by omega, by omega, by omega, by go_num, rfl, hO3, Hne3.out, hS2, hK2, by simp at hz2; omega⟩
                  · have q5 : (len : Int) ≤ 16 * (n : Int) + m := by omega
                    go_wp2_with fail
                    go_roundg (gn - 1)
                    case measure => have := Hn.out; omega
                    case rel =>
                      have := Hn.out
                      exact ⟨n + 1, 16 * n + m, a', cap', by omega, by omega, by omega, fun h => by omega, fun h => by omega, by go_num, rfl, hO, hK⟩
                · have q3 : (16 : Int) ≤ m := by omega
                  go_wp2_with fail
                  go_roundg (gn - 1)
                  case measure => have := Hn.out; omega
                  case rel =>
                    have := Hn.out
                    exact ⟨n + 1, 16 * n + m, a', cap', by omega, by omega, by omega, fun h => by omega, fun h => by omega, by go_num, rfl, hO, hK⟩
    · have hcnt : cnt = len := hc2 (by omega)
      subst hcnt
      have q0 : (cnt : Int) ≤ 16 * (n : Int) := by omega
      go_wp2_with fail
      go_ret
      exact ⟨_, _, rfl, hO.lower hK1.size, hK1.trans hK (fun _ _ h => h)⟩
end Go.Proofs.Ytgjkeeejcebhhaa
