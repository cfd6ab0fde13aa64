/-
  The walk of the reference's Mac.
-/
import Derived.Test.YtpekibadleghbaaDoorN21
import Derived.Test.YtpekibadleghbaaDoorN10
namespace Go.Proofs.YtpekibadleghbaaDoor
open Go.RowKit
set_option linter.unusedVariables false
set_option linter.unusedSimpArgs false
theorem upd_self (f : Nat → Byte) (n : Nat) : upd f n (f n) = f := by
  funext i; unfold upd
  by_cases h : i = n
  · subst h; simp
  · rw [if_neg h]
theorem Apart_none : ∀ (b : Option Addr) (g : Nat), (none : Option Addr) = some ⟨g, 0, none⟩ → b ≠ some ⟨g, 0, none⟩ := fun _ _ h => by cases h
theorem cut_upd (f : Nat → Byte) (n : Nat) : upd (cut n f) n (f n) = cut (n + 1) f := by
  funext i; unfold upd cut
  by_cases h : i = n
  · subst h; simp
  · rw [if_neg h]
    by_cases h2 : i < n
    · rw [if_pos h2, if_pos (by omega)]
    · rw [if_neg h2, if_neg (by omega)]
theorem xor54 (b : Byte) : bits .xor .u8 (iB b) (54 : Int) = iB (b ^^^ 54#8) := xorB b 54#8
theorem xor92 (b : Byte) : bits .xor .u8 (iB b) (92 : Int) = iB (b ^^^ 92#8) := xorB b 92#8
/-- Two slices that don't meet. -/
def Apart (a b : Option Addr) : Prop := ∀ g, a = some ⟨g, 0, none⟩ → b ≠ some ⟨g, 0, none⟩
theorem Apart.symm {a b : Option Addr} (h : Apart a b) : Apart b a := fun g h1 h2 => h g h2 h1
theorem Apart.push {w w' : World} {base n m cap : Nat} {a a' b : Option Addr} {f : Nat → Byte} (h : Apart a b) (p : Pushed a m a' w w') (hb : OwnB w base b n cap f) : Apart a' b := fun g h1 h2 => by
  rcases p.fresh g h1 with h3 | h3
  · exact h g h3 h2
  · subst h2
    rcases hb.at with ⟨h4, _⟩ | ⟨g', cur, h4, _, hg, _⟩
    · cases h4
    · have := lt_of_at hg
      simp only [Option.some.injEq, Addr.mk.injEq] at h4
      omega
theorem OwnB.pushOther {w w' : World} {base n m cap : Nat} {a a' b : Option Addr} {f : Nat → Byte} (hb : OwnB w base b n cap f) (h : Apart a b) (p : Pushed a m a' w w') : OwnB w' base b n cap f :=
  hb.kept p.kept (fun g h1 h2 => h g h2 h1)
attribute [local go_sem] make64 xor54 xor92
set_option maxRecDepth 100000 in
set_option maxHeartbeats 16000000 in
theorem refMac_any (kg ko lk kc : Nat) (key : Nat → Byte) (ma : Option Addr) (ml mc : Nat) (msg : Nat → Byte) (w : World) (hkey : KeysRef w) (hk : ∀ i, i < lk → w.cell? ⟨kg, ko + i, none⟩ = some (B (key i))) (hlk : lk ≤ 64) (hm : BytesAt w ma ml msg) (hml : ml ≤ 140737488351232) :
    Calls Tryd.prog 37 #[.slice (some ⟨kg, ko, none⟩) lk kc, .slice ma ml mc] w fun r w' => r = .returned (.agg (Fs 32 (macOf key lk msg ml))) ∧ Kept (fun _ => False) w w' := by
  have q1 : ¬ (64 : Int) < lk := by omega
  go_enter Tryd.func37, Tryd.ntmps37
  go_upto_region 7 with fail
  generalize hwx : World.alloc (World.alloc w _) _ = wx
  have hR : Row wx w.heap.size 70 32 (fun _ => 0#8) := by rw [← hwx]; exact Row.alloc (t := 70) (n := 32) (f := fun _ => 0#8) (heap_alloc_new w _) _
  have hF : Row wx (w.heap.size + 1) 5 64 (cut 0 key) := by
    rw [← hwx]
    have := Row.new (w.alloc (.cells (Fs 32 fun _ => 0#8) 70)) 5 64 (cut 0 key)
    rw [size_alloc] at this
    exact this
  have hK : Kept (fun _ => False) w wx := by rw [← hwx]; exact ((Kept.refl _ w).alloc _).alloc _
  clear hwx
  go_loopg [8] (lk + 1) (fun k i wr => ∃ j : Nat, j + k = lk + 1 ∧ j ≤ lk ∧ i = .int .i64 (j : Int) ∧ Row wr w.heap.size 70 32 (fun _ => 0#8) ∧ Row wr (w.heap.size + 1) 5 64 (cut j key) ∧ Kept (fun _ => False) w wr)
  case atStart => exact ⟨0, by omega, by omega, rfl, hR, hF, hK⟩
  case round =>
    clear hR hF hK
    obtain ⟨j, hj, hj2, rfl, hR, hF, hK⟩ := hrel
    have Hj := Lib.hid hj
    clear hj
    by_cases hlt : j < lk
    · have q2 : (j : Int) < lk := by omega
      have q3 : (0 : Int) ≤ j := by omega
      have q4 : (j : Int) < 64 := by omega
      have ck := hK.cell (hk j hlt)
      have cf := hF.cell (i := j) (by omega)
      have ff := hF.free j
      go_wp2_with fail
      go_roundg (gk - 1)
      case measure => have := Hj.out; omega
      case rel =>
        have := Hj.out
        refine ⟨j + 1, by omega, by omega, by go_num, hR.other (by simp) _, ?_, hK.setNew (by simp) _⟩
        rw [← cut_upd]
        exact hF.set j _
    · obtain rfl : lk = j := by omega
      clear hlt hj2 Hj
      go_upto_region 12 with fail
      go_loopg [9, 10, 11] 64 (fun k si so i wr => ∃ (j : Nat) (ai : Option Addr) (ci : Nat) (ao : Option Addr) (co : Nat), j + k = 64 ∧ j ≤ 64 ∧ i = .int .i64 (j : Int) ∧ si = .slice ai j ci ∧ so = .slice ao j co ∧ OwnB wr (w.heap.size + 2) ai j ci (keyPad key lk 54#8) ∧ OwnB wr (w.heap.size + 2) ao j co (keyPad key lk 92#8) ∧ Apart ai ao ∧ Row wr w.heap.size 70 32 (fun _ => 0#8) ∧ Row wr (w.heap.size + 1) 5 64 (cut lk key) ∧ Kept (fun _ => False) w wr)
      case atStart => exact ⟨0, none, 0, none, 0, by omega, by omega, rfl, rfl, rfl, OwnB.nil _ _ _, OwnB.nil _ _ _, Apart_none none, hR, hF, hK⟩
      case round =>
        clear hR hF hK
        obtain ⟨j, ai, ci, ao, co, hj, hj2, rfl, rfl, rfl, hI, hO, hA, hR, hF, hK⟩ := hrel
        have Hj := Lib.hid hj
        clear hj
        have hz := hF.lt
        by_cases hlt : j < 64
        · have q2 : (j : Int) < 64 := by omega
          have q3 : (0 : Int) ≤ j := by omega
          have cf := hF.cell (i := j) (by omega)
          have hx54 : cut lk key j ^^^ 54#8 = keyPad key lk 54#8 j := rfl
          have hx92 : cut lk key j ^^^ 92#8 = keyPad key lk 92#8 j := rfl
          have H54 := Lib.hid hx54
          have H92 := Lib.hid hx92
          clear hx54 hx92
          obtain ⟨x, hx⟩ : ∃ x, x = cut lk key j := ⟨_, rfl⟩
          rw [← hx] at cf H54 H92
          have HX := Lib.hid hx
          clear hx
          go_upto_region 15 with (first | (refine append1 rfl (.tmp 38) (.tmp 44) rfl (w.heap.size + 2) ai j ci (keyPad key lk 54#8) rfl (hI.alloc _) wr.heap.size 1 (x ^^^ 54#8) rfl (by first | (simp; done) | (simp; rfl)) (by omega) (by simp; omega) ?_))
          intro a1 c1 w1 hI1 hP1
          have hR1 : Row w1 w.heap.size 70 32 (fun _ => 0#8) := hP1.kept.at (hR.alloc _) (fun h => by subst h; have := hI.base_le; omega)
          have hF1 : Row w1 (w.heap.size + 1) 5 64 (cut lk key) := hP1.kept.at (hF.alloc _) (fun h => by subst h; have := hI.base_le; omega)
          have hK1 : Kept (fun _ => False) w w1 := (hK.alloc _).trans hP1.kept (fun i hi h => by subst h; have := hI.base_le; omega)
          have hO1 : OwnB w1 (w.heap.size + 2) ao j co (keyPad key lk 92#8) := (hO.alloc _).pushOther hA hP1
          have hA1 : Apart a1 ao := hA.push hP1 (hO.alloc _)
          have hI1 : OwnB w1 (w.heap.size + 2) a1 (j + 1) c1 (keyPad key lk 54#8) := by rw [H54.out, upd_self] at hI1; exact hI1
          clear hI hO hA hR hF hK hP1 hz cf
          have cf := hF1.cell (i := j) (by omega)
          rw [← HX.out] at cf
          have hz := hF1.lt
          go_upto_region 15 with fail
          go_upto_region 13 with (first | (refine append1 rfl (.tmp 46) (.tmp 52) rfl (w.heap.size + 2) ao j co (keyPad key lk 92#8) rfl (hO1.alloc _) w1.heap.size 1 (x ^^^ 92#8) rfl (by first | (simp; done) | (simp; rfl)) (by omega) (by simp; omega) ?_))
          intro a2 c2 w2 hO2 hP2
          have hR2 : Row w2 w.heap.size 70 32 (fun _ => 0#8) := hP2.kept.at (hR1.alloc _) (fun h => by subst h; have := hO1.base_le; omega)
          have hF2 : Row w2 (w.heap.size + 1) 5 64 (cut lk key) := hP2.kept.at (hF1.alloc _) (fun h => by subst h; have := hO1.base_le; omega)
          have hK2 : Kept (fun _ => False) w w2 := (hK1.alloc _).trans hP2.kept (fun i hi h => by subst h; have := hO1.base_le; omega)
          have hI2 : OwnB w2 (w.heap.size + 2) a1 (j + 1) c1 (keyPad key lk 54#8) := (hI1.alloc _).pushOther hA1.symm hP2
          have hA2 : Apart a1 a2 := (hA1.symm.push hP2 (hI1.alloc _)).symm
          have hO2 : OwnB w2 (w.heap.size + 2) a2 (j + 1) c2 (keyPad key lk 92#8) := by rw [H92.out, upd_self] at hO2; exact hO2
          clear hI1 hO1 hA1 hR1 hF1 hK1 hP2 hz cf
          go_wp2_with fail
          go_roundg (gk - 1)
          case measure => have := Hj.out; omega
          case rel =>
            have := Hj.out
            exact ⟨j + 1, a1, c1, a2, c2, by omega, by omega, by go_num, rfl, rfl, hI2, hO2, hA2, hR2, hF2, hK2⟩
        · obtain rfl : j = 64 := by omega
          clear hj2 hlt Hj hz hF
          have hM := hm.kept hK
          have hsz := hK.size
          have hz := hR.lt
          have hbase : w.heap.size + 2 ≤ wr.heap.size := by
            obtain ⟨g, _, h1, h2, _⟩ := hI.cell (by omega)
            omega
          go_upto_region 17 with (first | (refine appendA rfl (.tmp 54) (.tmp 55) rfl (w.heap.size + 2) ai 64 ci (keyPad key lk 54#8) rfl hI ma ml mc msg rfl hM (by omega) hbase ?_))
          intro a1 c1 w1 hI1 hP1 _
          have hR1 : Row w1 w.heap.size 70 32 (fun _ => 0#8) := hP1.kept.at hR (fun h => by subst h; have := hI.base_le; omega)
          have hK1 : Kept (fun _ => False) w w1 := hK.trans hP1.kept (fun i hi h => by subst h; have := hI.base_le; omega)
          have hO1 : OwnB w1 (w.heap.size + 2) ao 64 co (keyPad key lk 92#8) := hO.pushOther hA hP1
          clear hI hO hA hR hK hP1 hM
          have hb1 : BytesAt w1 a1 (64 + ml) (glueB 64 (keyPad key lk 54#8) msg) := hI1.bytes
          obtain ⟨D, hD⟩ : ∃ D, D = dig (glueB 64 (keyPad key lk 54#8) msg) (64 + ml) := ⟨_, rfl⟩
          have hcon := refSum_any a1 (64 + ml) c1 (glueB 64 (keyPad key lk 54#8) msg) w1 (hkey.kept hK1) hb1 (by omega)
          rw [← hD] at hcon
          have HC := Lib.hid hcon
          have HD := Lib.hid hD
          clear hcon hD hb1 hI1
          go_wp2_with fail
          refine (HC.out).mono ?_
          rintro r w2 ⟨rfl, hk2⟩
          have hR2 : Row w2 w.heap.size 70 32 (fun _ => 0#8) := hk2.at hR1 (fun h => h)
          have hK2 := hK1.trans hk2 (fun _ _ h => h)
          have hO2 : OwnB w2 (w.heap.size + 2) ao 64 co (keyPad key lk 92#8) := hO1.kept hk2 (fun _ _ h => h)
          have ht : Row (w2.alloc (.cells (Fs 32 fun _ => 0#8) 70)) w2.heap.size 70 32 (fun _ => 0#8) := Row.new w2 _ _ _
          clear HC hk2 hR1 hK1 hO1
          go_upto_region 17 with (first | (refine wpList_store_row rfl 70 (.tmp 12) (.tmp 57) rfl w2.heap.size (Fs 32 D) rfl rfl 70 _ ht (info70F _) (by rw [Fs_size, Fs_size]) (Fs_one _ _) ?_))
          generalize hwm : World.setRow (World.alloc w2 _) _ _ = wm
          have hz2 := hR2.lt
          have hDm : Row wm w2.heap.size 70 32 D := by rw [← hwm]; exact Row.row ht
          have hRm : Row wm w.heap.size 70 32 (fun _ => 0#8) := by rw [← hwm]; exact Row.rowOther (hR2.alloc _) (by omega) _
          have hKm : Kept (fun _ => False) w wm := by rw [← hwm]; exact (hK2.alloc _).setRowNew (by omega) _
          have hOm : OwnB wm (w.heap.size + 2) ao 64 co (keyPad key lk 92#8) := by
            rw [← hwm]
            refine (hO2.alloc _).kept ((Kept.refl (fun k => k = w2.heap.size) _).setRow (fun _ => rfl) _) (fun g h1 h2 => ?_)
            subst h1
            have := (hO2.lt_size (by omega)).2 g 0 rfl
            omega
          have hbm : w.heap.size + 2 ≤ wm.heap.size := by
            have := hDm.lt
            obtain ⟨g, _, h1, h2, _⟩ := hOm.cell (by omega)
            omega
          clear hwm ht hR2 hK2 hO2
          generalize w2.heap.size = gd at *
          go_wp2_with (first | (refine appendA rfl (.tmp 58) (.tmp 59) rfl (w.heap.size + 2) ao 64 co (keyPad key lk 92#8) rfl hOm (some ⟨gd, 0, none⟩) 32 32 D rfl hDm.bytes (by omega) hbm ?_))
          intro a3 c3 w3 hO3 hP3
          have hR3 : Row w3 w.heap.size 70 32 (fun _ => 0#8) := hP3.kept.at hRm (fun h => by subst h; have := hOm.base_le; omega)
          have hK3 : Kept (fun _ => False) w w3 := hKm.trans hP3.kept (fun i hi h => by subst h; have := hOm.base_le; omega)
          have hb3 : BytesAt w3 a3 96 (glueB 64 (keyPad key lk 92#8) D) := hO3.bytes
          have eM : dig (glueB 64 (keyPad key lk 92#8) D) 96 = macOf key lk msg ml := by rw [HD.out]; rfl
          have hcon := refSum_any a3 96 c3 (glueB 64 (keyPad key lk 92#8) D) w3 (hkey.kept hK3) hb3 (by omega)
          rw [eM] at hcon
          have HC := Lib.hid hcon
          clear hcon eM hb3 hO3 hP3 hRm hKm hOm hDm HD
          go_wp2_with fail
          refine (HC.out).mono ?_
          rintro r w4 ⟨rfl, hk4⟩
          have hR4 : Row w4 w.heap.size 70 32 (fun _ => 0#8) := hk4.at hR3 (fun h => h)
          have hK4 := hK3.trans hk4 (fun _ _ h => h)
          clear HC hk4 hR3 hK3
          go_wp2_with (first | (refine wpList_store_row rfl 70 (.tmp 4) (.tmp 61) rfl w.heap.size (Fs 32 (macOf key lk msg ml)) rfl rfl 70 _ hR4 (info70F _) (by rw [Fs_size, Fs_size]) (Fs_one _ _) ?_))
          have hR5 : Row (w4.setRow w.heap.size (Fs 32 (macOf key lk msg ml))) w.heap.size 70 32 (macOf key lk msg ml) := Row.row hR4
          exact bodyPost_ret (results_cell_row rfl _ _ w.heap.size 70 (Fs 32 (macOf key lk msg ml)) (0, 0) _ rfl hR5 Tryd.underlying70 rfl (info70F _)) rfl ⟨rfl, hK4.setRowNew (Nat.le_refl _) _⟩
end Go.Proofs.YtpekibadleghbaaDoor
