/-
  The walk of fixed, and of the law AesKeys.
-/
import Derived.Test.YtgjkeeejcebhhaaA7
import Derived.Test.YtgjkeeejcebhhaaA8
namespace Go.Proofs.Ytgjkeeejcebhhaa
open Go.RowKit
def fT (f : Nat → Byte) (n : Nat) : Nat → Byte := fun i => if i < n then f i else 0#8
theorem fT_upd (f : Nat → Byte) (n : Nat) : upd (fT f n) n (f n) = fT f (n + 1) := by
  funext i; unfold upd fT
  by_cases h : i = n
  · subst h; simp
  · rw [if_neg h]
    by_cases h2 : i < n
    · rw [if_pos h2, if_pos (by omega)]
    · rw [if_neg h2, if_neg (by omega)]
theorem fkey_iB (n : Nat) (h : n < 16) : (n : Int) = iB (fkey n) := by unfold iB fkey; rw [BitVec.toNat_ofNat]; omega
theorem fblk_iB (n : Nat) (h : n < 16) : (17 : Int) * (n : Int) = iB (fblk n) := by unfold iB fblk; rw [BitVec.toNat_ofNat]; omega
theorem Fs_zero16 : Fs 16 (fun _ => 0#8) = #[.int .u8 0, .int .u8 0, .int .u8 0, .int .u8 0, .int .u8 0, .int .u8 0, .int .u8 0, .int .u8 0, .int .u8 0, .int .u8 0, .int .u8 0, .int .u8 0, .int .u8 0, .int .u8 0, .int .u8 0, .int .u8 0] := rfl
set_option maxRecDepth 100000 in
set_option maxHeartbeats 2000000 in
theorem fixed_any (w : World) : Calls Try.prog 7 #[] w fun e w' => e = .returned (.bool true) ∧ Kept (fun _ => False) w w' := by
  go_enter Try.func7, Try.ntmps7
  go_wp2_with fail
  go_loopg [5] 16 (fun k i wr => ∃ n : Nat, n + k = 16 ∧ i = .int .i64 n ∧ Row wr w.heap.size 22 16 (fT fkey n) ∧ Row wr (w.heap.size + 1) 22 16 (fT fblk n) ∧ Kept (fun _ => False) w wr)
  case atStart => exact ⟨0, rfl, rfl, heap_alloc2_old w _ _, heap_alloc2_new w _ _, ((Kept.refl _ w).alloc _).alloc _⟩
  case round =>
    obtain ⟨n, hn, rfl, h1, h2, hK⟩ := hrel
    have Hn := Lib.hid hn
    have hn' : n ≤ 16 := by omega
    clear hn
    by_cases hlt : n < 16
    · have q1 : (n : Int) < 16 := by omega
      have c1 := h1.cell (i := n) hlt
      have c2 := h2.cell (i := n) hlt
      have f1 := h1.free n
      have f2 := h2.free n
      go_wp2_with fail
      go_roundg (gk - 1)
      case measure => have := Hn.out; omega
      case rel =>
        have := Hn.out
        rw [fblk_iB n hlt, show (Value.int .u8 (n : Int)) = B (fkey n) from congrArg _ (fkey_iB n hlt)]
        refine ⟨n + 1, by omega, by go_num, ?_, ?_, ?_⟩
        · rw [← fT_upd]; exact (h1.set n _).other (by simp) _
        · rw [← fT_upd]; exact (h2.other (by simp) _).set n _
        · exact (hK.setNew (by simp) _).setNew (by simp) _
    · have H16 := Lib.hid (show n = 16 by omega)
      have h1 : Row wr w.heap.size 22 16 fkey := h1.congr fun i hi => by unfold fT; rw [if_pos (by rw [H16.out]; exact hi)]
      have h2 : Row wr (w.heap.size + 1) 22 16 fblk := h2.congr fun i hi => by unfold fT; rw [if_pos (by rw [H16.out]; exact hi)]
      have e0 := fixed_block 0 (by omega)
      have e1 := fixed_block 1 (by omega)
      have e15 := fixed_block 15 (by omega)
      have E0 := Lib.hid e0
      have E1 := Lib.hid e1
      have E15 := Lib.hid e15
      clear e0 e1 e15
      go_wp2_with (first | (refine wpList_load_row rfl 22 (.tmp 1) rfl w.heap.size rfl 22 (Fs 16 fkey) (0, 0) _ h1 Try.underlying22 rfl (info22F _) ?_) | (refine wpList_load_row rfl 22 (.tmp 2) rfl (w.heap.size + 1) rfl 22 (Fs 16 fblk) (0, 0) _ h2 Try.underlying22 rfl (info22F _) ?_) )
      refine (Block_any fkey fblk _).mono ?_
      rintro e w1 ⟨rfl, hk⟩
      have hK1 : Kept (fun _ => False) w w1 := hK.trans hk (fun _ _ h => h)
      have hz := hK1.size
      clear hk h1 h2 hK
      have v0 : aesBlock fkey fblk 0 = 105#8 := E0.out.trans rfl
      have v1 : aesBlock fkey fblk 1 = 196#8 := E1.out.trans rfl
      have v15 : aesBlock fkey fblk 15 = 90#8 := E15.out.trans rfl
      obtain ⟨F, hF⟩ : ∃ F, F = aesBlock fkey fblk := ⟨_, rfl⟩
      rw [← hF] at v0 v1 v15
      rw [← hF]
      have x0 : iB (F 0) = 105 := by rw [v0]; rfl
      have x1 : iB (F 1) = 196 := by rw [v1]; rfl
      have x15 : iB (F 15) = 90 := by rw [v15]; rfl
      clear v0 v1 v15 hF
      have ht : Row (w1.alloc (.cells (Fs 16 fun _ => 0#8) 22)) w1.heap.size 22 16 (fun _ => 0#8) := Row.new w1 _ _ _
      have ht2 := ht.row (f' := F)
      have d0 := ht2.cell (i := 0) (by omega)
      have d1 := ht2.cell (i := 1) (by omega)
      have d15 := ht2.cell (i := 15) (by omega)
      rw [Fs_zero16] at d0 d1 d15
      go_wp2_with (refine wpList_store_row rfl 22 (.tmp 4) (.tmp 20) rfl w1.heap.size (Fs 16 F) rfl rfl 22 _ ht (info22F _) (by simp only [Fs_size]) (Fs_one _ _) ?_)
      go_ret
      exact ⟨rfl, (hK1.alloc _).setRowNew (by omega) _⟩
end Go.Proofs.Ytgjkeeejcebhhaa
