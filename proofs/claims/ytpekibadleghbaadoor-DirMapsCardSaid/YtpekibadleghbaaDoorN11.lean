/-
  The walk of names.Hash.
-/
import Derived.Test.YtpekibadleghbaaDoorN10
import Derived.Test.YtpekibadleghbaaDoorN2
import Derived.Laws.IdiomStrings
import Derived.IntWalk
namespace Go.Proofs.YtpekibadleghbaaDoor
open Go.RowKit
set_option linter.unusedVariables false
set_option linter.unusedSimpArgs false
/-- A string's bytes. -/
def sB (s : ByteArray) : Nat → Byte := fun i => BitVec.ofNat 8 (s.data[i]?.getD 0).toNat
def hashOf (salt : Nat → Byte) (s : ByteArray) : Word := wordAt (macOf salt 16 (sB s) s.size) 0
theorem B_sB (s : ByteArray) (i : Nat) (h : i < s.data.size) : Value.int .u8 (s.data[i].toNat : Int) = B (sB s i) := by
  unfold B iB sB
  rw [Array.getElem?_eq_getElem h, BitVec.toNat_ofNat]
  simp only [Option.getD_some]
  rw [Nat.mod_eq_of_lt (UInt8.toNat_lt _)]
theorem strSlice (w : World) (s : ByteArray) : ∃ cap w', (convert 9 37 (.string s)).run Tryd.prog w = .ok (.slice (some ⟨w.heap.size, 0, none⟩) s.size cap) w' ∧ s.size ≤ cap ∧ BytesAt w' (some ⟨w.heap.size, 0, none⟩) s.size (sB s) ∧ Kept (fun _ => False) w w' ∧ w'.heap.size = w.heap.size + 1 := by
  refine ⟨_, _, run_bytes_of_string w 9 37 5 s Tryd.underlying9 Tryd.underlying37 Tryd.underlying5, grownCap_ge _ _ _ _, .inr ⟨w.heap.size, 0, rfl, fun i hi => ?_⟩, (Kept.refl _ w).drew.alloc _, by rw [size_alloc]; rfl⟩
  have hi2 : i < s.data.size := hi
  rw [Nat.zero_add, cell_of_row _ w.heap.size i _ 5 _ (heap_alloc_new w.drew _), ← B_sB s i hi2]
  unfold bytesRow
  rw [Array.getElem?_append_left (by simpa using hi2)]
  simp only [Array.getElem?_map, Array.getElem?_eq_getElem hi2, Option.map_some]
attribute [local go_sem] modB shl24 shl16 shl8 orW orB
set_option maxRecDepth 100000 in
set_option maxHeartbeats 8000000 in
theorem hash_any (salt : Nat → Byte) (s : ByteArray) (w : World) (hkey : KeysAt w) (hs : s.size ≤ 140737488351232) :
    Calls Tryd.prog 10 #[.agg (Fs 16 salt), .string s] w fun r w' => r = .returned (W (hashOf salt s)) ∧ Kept (fun _ => False) w w' := by
  have h1 := hkey.lt
  go_enter Tryd.func10, Tryd.ntmps10
  obtain ⟨cap, w2, hr, hcap, hb, hk, hz⟩ := strSlice (w.alloc (.cells (Fs 16 salt) 22)) s
  have hS : Row (w.alloc (.cells (Fs 16 salt) 22)) w.heap.size 22 16 salt := Row.new w 22 16 salt
  have hS2 : Row w2 w.heap.size 22 16 salt := hk.at hS (fun h => h)
  have hK2 : Kept (fun _ => False) w w2 := ((Kept.refl _ w).alloc _).trans hk (fun _ _ h => h)
  rw [size_alloc] at hr hb hz
  go_upto_region 1 with fail
  go_wp2_with fail
  refine (mac_any (some ⟨w.heap.size, 0, none⟩) 16 16 salt (some ⟨w.heap.size + 1, 0, none⟩) s.size cap (sB s) w2 (hkey.kept hK2) hS2.bytes (by omega) hb (fun h => by cases h) hcap hs (fun gb o h => by simp only [Option.some.injEq, Addr.mk.injEq] at h; omega)).mono ?_
  obtain ⟨M, hM⟩ : ∃ M, M = macOf salt 16 (sB s) s.size := ⟨_, rfl⟩
  rw [← hM]
  have HM := Lib.hid hM
  clear hM
  rintro r w3 ⟨rfl, hk3⟩
  have hK3 : Kept (fun _ => False) w w3 := hK2.trans hk3 (fun _ _ h => h)
  have ht : Row (w3.alloc (.cells (Fs 32 fun _ => 0#8) 70)) w3.heap.size 70 32 (fun _ => 0#8) := Row.new w3 _ _ _
  clear hr hb hk hS hS2 hK2 hk3 hcap hz
  go_upto_region 2 with (first | (refine wpList_store_row rfl 70 (.tmp 5) (.tmp 9) rfl w3.heap.size (Fs 32 M) rfl rfl 70 _ ht (info70F _) (by rw [Fs_size, Fs_size]) (Fs_one _ _) ?_))
  generalize hwm : World.setRow (World.alloc w3 _) _ _ = wm
  have hm : Row wm w3.heap.size 70 32 M := by rw [← hwm]; exact Row.row ht
  have hKm : Kept (fun _ => False) w wm := by rw [← hwm]; exact (hK3.alloc _).setRowNew hK3.size _
  have c0 := hm.cell (i := 0) (by omega)
  have c1 := hm.cell (i := 1) (by omega)
  have c2 := hm.cell (i := 2) (by omega)
  have c3 := hm.cell (i := 3) (by omega)
  clear hwm ht hm
  go_wp2_with fail
  go_ret
  refine ⟨?_, hKm⟩
  unfold hashOf
  rw [← HM.out]
  rfl
end Go.Proofs.YtpekibadleghbaaDoor
