/-
  The walk of the reference's Hash.
-/
import Derived.Test.YtpekibadleghbaaDoorN22
import Derived.Test.YtpekibadleghbaaDoorN11
namespace Go.Proofs.YtpekibadleghbaaDoor
open Go.RowKit
set_option linter.unusedVariables false
set_option linter.unusedSimpArgs false
theorem or_add8 (x : Word) (b : Byte) : x <<< 8 + zx b = x <<< 8 ||| zx b := by
  refine BitVec.add_eq_or_of_and_eq_zero _ _ ?_
  apply BitVec.eq_of_getLsbD_eq
  intro i hi
  unfold zx
  by_cases h : i < 8
  · simp [h]
  · simp [BitVec.getLsbD_of_ge b i (by omega)]
theorem addB (x : Word) (b : Byte) : (iW x + iB b) % (4294967296 : Int) = iW (x + zx b) := by rw [← iW_zx, addW]
attribute [local go_sem] modB shl8W addB
set_option maxRecDepth 100000 in
set_option maxHeartbeats 8000000 in
theorem refHash_any (salt : Nat → Byte) (s : ByteArray) (w : World) (hkey : KeysRef w) (hs : s.size ≤ 140737488351232) :
    Calls Tryd.prog 12 #[.agg (Fs 16 salt), .string s] w fun r w' => r = .returned (W (hashOf salt s)) ∧ Kept (fun _ => False) w w' := by
  go_enter Tryd.func12, Tryd.ntmps12
  obtain ⟨cap, w2, hr, hcap, hb, hk, hz⟩ := strSlice (w.alloc (.cells (Fs 16 salt) 22)) s
  have hS : Row (w.alloc (.cells (Fs 16 salt) 22)) w.heap.size 22 16 salt := Row.new w 22 16 salt
  have hS2 : Row w2 w.heap.size 22 16 salt := hk.at hS (fun h => h)
  have hK2 : Kept (fun _ => False) w w2 := ((Kept.refl _ w).alloc _).trans hk (fun _ _ h => h)
  rw [size_alloc] at hr hb hz
  go_upto_region 1 with fail
  go_wp2_with fail
  refine (refMac_any w.heap.size 0 16 16 salt (some ⟨w.heap.size + 1, 0, none⟩) s.size cap (sB s) w2 (hkey.kept hK2) (fun i hi => by rw [Nat.zero_add]; exact hS2.cell hi) (by omega) hb hs).mono ?_
  obtain ⟨M, hM⟩ : ∃ M, M = macOf salt 16 (sB s) s.size := ⟨_, rfl⟩
  rw [← hM]
  have HM := Lib.hid hM
  clear hM
  rintro r w3 ⟨rfl, hk3⟩
  have hK3 : Kept (fun _ => False) w w3 := hK2.trans hk3 (fun _ _ h => h)
  have ht : Row (w3.alloc (.cells (Fs 32 fun _ => 0#8) 70)) w3.heap.size 70 32 (fun _ => 0#8) := Row.new w3 _ _ _
  clear hr hb hk hS hS2 hK2 hk3 hcap hz
  go_upto_region 4 with (first | (refine wpList_store_row rfl 70 (.tmp 5) (.tmp 11) rfl w3.heap.size (Fs 32 M) rfl rfl 70 _ ht (info70F _) (by rw [Fs_size, Fs_size]) (Fs_one _ _) ?_))
  generalize hwm : World.setRow (World.alloc w3 _) _ _ = wm
  have hm : Row wm w3.heap.size 70 32 M := by rw [← hwm]; exact Row.row ht
  have hKm : Kept (fun _ => False) w wm := by rw [← hwm]; exact (hK3.alloc _).setRowNew hK3.size _
  generalize w3.heap.size = gm at *
  clear hwm ht hK3
  go_loopg [6, 7] 4 (fun k u i wr => ∃ j : Nat, j + k = 4 ∧ j ≤ 4 ∧ i = .int .i64 (j : Int) ∧ u = W (pw M 0 j) ∧ wr = wm)
  case atStart => exact ⟨0, by omega, by omega, rfl, rfl, rfl⟩
  case round =>
    obtain ⟨j, hj, hj2, rfl, rfl, hw⟩ := hrel
    subst hw
    have Hj := Lib.hid hj
    clear hj
    by_cases hlt : j < 4
    · have q2 : (j : Int) < 4 := by omega
      have q3 : (0 : Int) ≤ j := by omega
      have q4 : (j : Int) < 32 := by omega
      have cm := hm.cell (i := j) (by omega)
      have hS : pw M 0 j <<< 8 + zx (M j) = pw M 0 (j + 1) := by rw [or_add8]; unfold pw; rw [Nat.zero_add]; cases j <;> rfl
      have HS := Lib.hid hS
      clear hS
      generalize pw M 0 j = x at *
      go_wp2_with fail
      go_roundg (gk - 1)
      case measure => have := Hj.out; omega
      case rel =>
        have := Hj.out
        exact ⟨j + 1, by omega, by omega, by go_num, by rw [← HS.out, addB], rfl⟩
    · obtain rfl : j = 4 := by omega
      have e : pw M 0 4 = hashOf salt s := by rw [pw_4]; unfold hashOf; rw [← HM.out]
      have HE := Lib.hid e
      generalize pw M 0 4 = x at *
      go_wp2_with fail
      go_ret
      exact ⟨by rw [← HE.out]; rfl, hKm⟩
end Go.Proofs.YtpekibadleghbaaDoor
