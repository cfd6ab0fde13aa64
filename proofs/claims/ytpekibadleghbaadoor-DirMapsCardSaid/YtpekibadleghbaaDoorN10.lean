/-
  The walk of mac.Mac.
-/
import Derived.Test.YtpekibadleghbaaDoorN9
namespace Go.Proofs.YtpekibadleghbaaDoor
open Go.RowKit
set_option linter.unusedVariables false
set_option linter.unusedSimpArgs false
theorem FF_congr {v : Nat → Word} {f f' : Nat → Byte} : ∀ k, (∀ i, i < 64 * k → f i = f' i) → FF v f k = FF v f' k
  | 0, _ => rfl
  | k + 1, h => by
    unfold FF
    rw [FF_congr k (fun i hi => h i (by omega)), comp_congr (fun i hi => h (64 * k + i) (by omega))]
theorem dig_mac (p msg : Nat → Byte) (ml : Nat) : bytesOf (FF (FF (FF h0 p (64 / 64)) msg (ml / 64)) (padE (fun i => msg (64 * (ml / 64) + i)) (ml % 64) (64 + ml)) (padLen (ml % 64) / 64)) = dig (glueB 64 p msg) (64 + ml) := by
  rw [← dig_eq]
  have e1 : (64 + ml) / 64 = 1 + ml / 64 := by omega
  have e2 : (64 + ml) % 64 = ml % 64 := by omega
  have e3 : (fun i => glueB 64 p msg (64 * ((64 + ml) / 64) + i)) = fun i => msg (64 * (ml / 64) + i) := funext fun i => by
    unfold glueB
    rw [if_neg (by omega), show 64 * ((64 + ml) / 64) + i - 64 = 64 * (ml / 64) + i by omega]
  have e4 : FF h0 (glueB 64 p msg) (1 + ml / 64) = FF (FF h0 p (64 / 64)) msg (ml / 64) := by
    have e6 : FF h0 (glueB 64 p msg) 1 = FF h0 p (64 / 64) := FF_congr 1 fun i hi => by unfold glueB; rw [if_pos (by omega)]
    have e5 := FF_add h0 (glueB 64 p msg) 1 (ml / 64)
    rw [show (fun i => glueB 64 p msg (64 * 1 + i)) = msg from funext fun i => by unfold glueB; rw [if_neg (by omega), show 64 * 1 + i - 64 = i by omega], e6] at e5
    exact e5.symm
  rw [e3, e2, e1, e4]
theorem OwnB.lt_size {w : World} {base n cap : Nat} {a : Option Addr} {f : Nat → Byte} (h : OwnB w base a n cap f) (hn : 0 < n) : a ≠ none ∧ ∀ gb o, a = some ⟨gb, o, none⟩ → gb < w.heap.size := by
  rcases h.at with ⟨_, h1, _⟩ | ⟨g, cur, rfl, _, hg, _⟩
  · omega
  · refine ⟨by simp, fun gb o he => ?_⟩
    simp only [Option.some.injEq, Addr.mk.injEq] at he
    have := lt_of_at hg
    omega
set_option maxRecDepth 100000 in
set_option maxHeartbeats 8000000 in
theorem mac_any (ka : Option Addr) (kl kc : Nat) (key : Nat → Byte) (ma : Option Addr) (ml mc : Nat) (msg : Nat → Byte) (w : World) (hkey : KeysAt w) (hk : BytesAt w ka kl key) (hkl : kl ≤ 64) (hm : BytesAt w ma ml msg) (hnil : ma = none → ml = 0) (hlc : ml ≤ mc) (hcap : ml ≤ 140737488351232) (hml : ∀ gb o, ma = some ⟨gb, o, none⟩ → gb < w.heap.size) :
    Calls Tryd.prog 36 #[.slice ka kl kc, .slice ma ml mc] w fun r w' => r = .returned (.agg (Fs 32 (macOf key kl msg ml))) ∧ Kept (fun _ => False) w w' := by
  have h1 := hkey.lt
  go_enter Tryd.func36, Tryd.ntmps36
  go_upto_region 1 with fail
  generalize hwA : World.alloc w _ = wA
  have hR : Row wA w.heap.size 70 32 (fun _ => 0#8) := by rw [← hwA]; exact heap_alloc_new w _
  have hK : Kept (fun _ => False) w wA := by rw [← hwA]; exact (Kept.refl _ w).alloc _
  have hz : w.heap.size + 1 ≤ wA.heap.size := hR.lt
  clear hwA
  go_wp2_with fail
  refine (new_any wA).mono ?_
  rintro r w2 ⟨g, rfl, hg, hs, hk2⟩
  have hK2 := hK.trans hk2 (fun _ _ h => h)
  go_wp2_with fail
  refine (padded_any ka kl kc key 54#8 w2 (hk.kept hK2) hkl).mono ?_
  rintro r w3 ⟨gp, rfl, hgp, hp, hk3⟩
  have hs2 : Hs w3 g h0 (.slice none 0 0) 0 := hk3.at hs (fun h => h)
  have hK3 := hK2.trans hk3 (fun _ _ h => h)
  have hgl : g < w2.heap.size := lt_of_at hs
  go_wp2_with fail
  refine (add_any g h0 0 (some ⟨gp, 0, none⟩) 64 64 (keyPad key kl 54#8) w3 (hkey.kept hK3) (by omega) hs2 hp.bytes (fun gb o h => by simp only [Option.some.injEq, Addr.mk.injEq] at h; omega) (fun h => by cases h) (by omega) (by omega) (by omega)).mono ?_
  rintro r w4 ⟨rfl, ra, rc, hs4, hz4, ho4, hk4⟩
  obtain ⟨rfl, rfl⟩ := hz4 rfl
  have hK4 : Kept (fun _ => False) w w4 := hK3.trans hk4 (fun i hi h => by omega)
  go_wp2_with fail
  refine (add_any g (FF h0 (keyPad key kl 54#8) (64 / 64)) 64 ma ml mc msg w4 (hkey.kept hK4) (by omega) hs4 (hm.kept hK4) (fun gb o h => by have := hml gb o h; omega) hnil hlc (by omega) (by omega)).mono ?_
  rintro r w5 ⟨rfl, ra, rc, hs5, hz5, ho5, hk5⟩
  have hK5 : Kept (fun _ => False) w w5 := hK4.trans hk5 (fun i hi h => by omega)
  go_wp2_with fail
  refine (sum_any g _ (64 + ml) ra (ml % 64) rc (fun i => msg (64 * (ml / 64) + i)) w5 (hkey.kept hK5) (by omega) hs5 ho5.bytes (by omega) (by omega)).mono ?_
  rw [dig_mac]
  rintro r w6 ⟨rfl, hk6⟩
  have hK6 := hK5.trans hk6 (fun _ _ h => h)
  obtain ⟨D, hD⟩ : ∃ D, D = dig (glueB 64 (keyPad key kl 54#8) msg) (64 + ml) := ⟨_, rfl⟩
  rw [← hD]
  have HD := Lib.hid hD
  have hR6 : Row w6 w.heap.size 70 32 (fun _ => 0#8) := hk6.at (hk5.at (hk4.at (hk3.at (hk2.at hR (fun h => h)) (fun h => h)) (by omega)) (by omega)) (fun h => h)
  clear hs hs2 hs4 hs5 ho4 ho5 hk2 hk3 hk4 hk5 hk6 hK2 hK3 hK4 hK5 hp hR hK hz4 hz5 hD
  have ht : Row (w6.alloc (.cells (Fs 32 fun _ => 0#8) 70)) w6.heap.size 70 32 (fun _ => 0#8) := Row.new w6 _ _ _
  go_wp2_with (first | (refine wpList_store_row rfl 70 (.tmp 6) (.tmp 19) rfl w6.heap.size (Fs 32 D) rfl rfl 70 _ ht (info70F _) (by rw [Fs_size, Fs_size]) (Fs_one _ _) ?_))
  generalize hw7 : World.setRow (World.alloc w6 _) _ _ = w7
  have hI : Row w7 w6.heap.size 70 32 D := by rw [← hw7]; exact Row.row ht
  have hK7 : Kept (fun _ => False) w w7 := by rw [← hw7]; exact (hK6.alloc _).setRowNew hK6.size _
  have hR7 : Row w7 w.heap.size 70 32 (fun _ => 0#8) := by
    rw [← hw7]
    exact (hR6.alloc _).rowOther (by have := hR6.lt; omega) _
  have hz7 : w.heap.size < w6.heap.size := hR6.lt
  generalize hgi : w6.heap.size = gi at *
  clear hw7 hK6 hR6 ht hgi
  go_upto_region 5 with fail
  refine region_perm (fun _ => True) [(0, true), (2, true), (1, false), (3, false), (4, false), (5, false)] (by kernel_rfl) (by kernel_rfl) (by intro c a d v w h; cases d <;> exact h) trivial ?_
  repeat (apply HeldSeq.take; (focus rfl); (focus rfl); (focus (intro W _; go_simp; (try go_bits); rfl)); simp only [List.getElem_toArray, List.getElem_cons_zero, List.getElem_cons_succ, Act.put, List.setIfInBounds_toArray, List.set_cons_zero, List.set_cons_succ])
  refine HeldSeq.run rfl rfl (fun K hK => ?_)
  go_simp
  refine (padded_any ka kl kc key 92#8 w7.drew ((hk.kept hK7).kept (Kept.refl _ w7).drew) hkl).mono ?_
  rintro r w8 ⟨gq, rfl, hgq, hq, hk8⟩
  have hI8 : Row w8 gi 70 32 D := hk8.at hI (fun h => h)
  have hR8 : Row w8 w.heap.size 70 32 (fun _ => 0#8) := hk8.at hR7 (fun h => h)
  have hK8 : Kept (fun _ => False) w w8 := hK7.drew.trans hk8 (fun _ _ h => h)
  have hO8 : OwnB w8 gq (some ⟨gq, 0, none⟩) 64 64 (keyPad key kl 92#8) := OwnB.new hq (Nat.le_refl _) (by omega)
  have hql := hq.lt
  have hgq' : w7.heap.size ≤ gq := hgq
  have hz8 := hR7.lt
  refine hK _ _ trivial ?_
  clear hK hk8 hI hR7 hK7 K hq
  refine HeldSeq.run rfl rfl (fun K hK => ?_)
  refine wp_appendA (.tmp 22) (.tmp 23) rfl gq (some ⟨gq, 0, none⟩) 64 64 (keyPad key kl 92#8) rfl hO8 (some ⟨gi, 0, none⟩) 32 32 D rfl hI8.bytes (by omega) (by omega) ?_
  intro a9 c9 w9 hO9 hP9 _
  have hK9 : Kept (fun _ => False) w w9 := hK8.trans hP9.kept (fun i hi h => by simp only [Option.some.injEq, Addr.mk.injEq, and_true] at h; omega)
  have hR9 : Row w9 w.heap.size 70 32 (fun _ => 0#8) := hP9.kept.at hR8 (fun h => by simp only [Option.some.injEq, Addr.mk.injEq, and_true] at h; omega)
  have hc9 : 96 ≤ c9 := hO9.le_cap
  have hb9 : BytesAt w9 a9 96 (glueB 64 (keyPad key kl 92#8) D) := hO9.bytes
  have hl9 := hO9.lt_size (by omega)
  refine hK _ _ trivial ?_
  clear hK hK8 hR8 hI8 hO8 hP9 hO9 K
  refine HeldSeq.run rfl rfl (fun K hK => ?_)
  go_simp
  refine (shaSum_any a9 96 c9 (glueB 64 (keyPad key kl 92#8) D) w9 (hkey.kept hK9) hb9 (fun h => absurd h hl9.1) hc9 (by omega) hl9.2).mono ?_
  rintro r w10 ⟨rfl, hk10⟩
  have hR10 : Row w10 w.heap.size 70 32 (fun _ => 0#8) := hk10.at hR9 (fun h => h)
  have hK10 := hK9.trans hk10 (fun _ _ h => h)
  have eM : dig (glueB 64 (keyPad key kl 92#8) D) 96 = macOf key kl msg ml := by rw [HD.out]; rfl
  rw [eM]
  refine hK _ _ trivial ?_
  clear hK hk10 hR9 hK9 hb9 eM K
  refine HeldSeq.run rfl rfl (fun K hK => ?_)
  refine wp_store_row 70 (.tmp 4) (.tmp 25) rfl w.heap.size (Fs 32 (macOf key kl msg ml)) rfl rfl 70 _ hR10 (info70F _) (by rw [Fs_size, Fs_size]) (Fs_one _ _) ?_
  refine hK _ _ trivial ?_
  refine HeldSeq.done ?_
  have hR11 : Row (w10.setRow w.heap.size (Fs 32 (macOf key kl msg ml))) w.heap.size 70 32 (macOf key kl msg ml) := Row.row hR10
  have hK11 : Kept (fun _ => False) w (w10.setRow w.heap.size (Fs 32 (macOf key kl msg ml))) := hK10.setRowNew (Nat.le_refl _) _
  go_wp2_with fail
  exact bodyPost_ret (results_cell_row rfl _ _ w.heap.size 70 (Fs 32 (macOf key kl msg ml)) (0, 0) _ rfl hR11 Tryd.underlying70 rfl (info70F _)) rfl ⟨rfl, hK11⟩
end Go.Proofs.YtpekibadleghbaaDoor
