/-
  The walk of aes.Block.
-/
import Derived.Test.YtgjkeeejcebhhaaA5
import Derived.Test.YtgjkeeejcebhhaaReg
namespace Go.Proofs.Ytgjkeeejcebhhaa
open Go.RowKit
/-- A block's block. -/
def aesBlock (key b : Nat → Byte) : Nat → Byte := enc (cf (ks key 40).1) b 10
theorem info22F (f : Nat → Byte) : (Try.prog.info? 22).map (·.size) = some (Fs 16 f).size := by rw [Fs_size]; exact info22
set_option maxRecDepth 100000 in
set_option maxHeartbeats 2000000 in
theorem Block_any (key b : Nat → Byte) (w : World) :
    Calls Try.prog 8 #[.agg (Fs 16 key), .agg (Fs 16 b)] w fun e w' => e = .returned (.agg (Fs 16 (aesBlock key b))) ∧ Kept (fun _ => False) w w' := by
  go_enter Try.func8, Try.ntmps8
  go_wp2_with fail
  generalize hW : World.alloc (World.alloc (World.alloc w _) _) _ = w3
  have h2 : Row w3 w.heap.size 22 16 key := by rw [← hW]; exact ((Row.new w 22 16 key).alloc _).alloc _
  have h3 : Row w3 (w.heap.size + 1) 22 16 b := by
    have := (Row.new (w.alloc (.cells (Fs 16 key) 22)) 22 16 b).alloc (.cells (Fs 16 fun _ => 0#8) 22)
    rw [size_alloc] at this; rw [← hW]; exact this
  have h4 : Row w3 (w.heap.size + 1 + 1) 22 16 (fun _ => 0#8) := by
    have := Row.new ((w.alloc (.cells (Fs 16 key) 22)).alloc (.cells (Fs 16 b) 22)) 22 16 (fun _ => 0#8)
    rw [size_alloc, size_alloc] at this; rw [← hW]; exact this
  have hK : Kept (fun _ => False) w w3 := by rw [← hW]; exact (((Kept.refl _ w).alloc _).alloc _).alloc _
  clear hW
  have h2' : Row w3.drew w.heap.size 22 16 key := h2
  have h3' : Row w3.drew (w.heap.size + 1) 22 16 b := h3
  have h4' : Row w3.drew (w.heap.size + 1 + 1) 22 16 (fun _ => 0#8) := h4
  have hK' : Kept (fun _ => False) w w3.drew := hK.drew
  clear h2 h3 h4 hK
  refine region_perm (fun W => Row W w.heap.size 22 16 key ∧ Row W (w.heap.size + 1) 22 16 b) [(0, true), (2, true), (1, false), (3, false), (4, false)] (by kernel_rfl) (by kernel_rfl) (by intro c a d v w h; cases d <;> exact h) ⟨h2', h3'⟩ ?_
  refine HeldSeq.take rfl rfl (fun W hS => yields_row 22 (.tmp 2) rfl w.heap.size rfl 22 (Fs 16 key) (0, 0) _ hS.1 Try.underlying22 rfl (info22F _)) ?_
  refine HeldSeq.take rfl rfl (fun W hS => yields_row 22 (.tmp 3) rfl (w.heap.size + 1) rfl 22 (Fs 16 b) (0, 0) _ hS.2 Try.underlying22 rfl (info22F _)) ?_
  refine HeldSeq.run rfl rfl (fun K hK => ?_)
  go_simp
  refine (made_any key _).mono ?_
  rintro e w1 ⟨g, rfl, hg, hc, hk⟩
  refine hK _ _ ⟨hk.at h2' (fun h => h), hk.at h3' (fun h => h)⟩ ?_
  have h4w : Row w1 (w.heap.size + 1 + 1) 22 16 (fun _ => 0#8) := hk.at h4' (fun h => h)
  have h2w : Row w1 w.heap.size 22 16 key := hk.at h2' (fun h => h)
  have h3w : Row w1 (w.heap.size + 1) 22 16 b := hk.at h3' (fun h => h)
  have hKw : Kept (fun _ => False) w w1 := hK'.trans hk (fun _ _ h => h)
  clear hK K hk
  refine HeldSeq.run rfl rfl (fun K hK => ?_)
  go_simp
  refine (block_any _ _ b _ hc).mono ?_
  rintro e w2 ⟨rfl, hk⟩
  have h4x : Row w2 (w.heap.size + 1 + 1) 22 16 (fun _ => 0#8) := hk.at h4w (fun h => h)
  have hKx : Kept (fun _ => False) w w2 := hKw.trans hk (fun _ _ h => h)
  refine hK _ _ ⟨hk.at h2w (fun h => h), hk.at h3w (fun h => h)⟩ ?_
  have h2x : Row w2 w.heap.size 22 16 key := hk.at h2w (fun h => h)
  have h3x : Row w2 (w.heap.size + 1) 22 16 b := hk.at h3w (fun h => h)
  clear hK K hk
  refine HeldSeq.run rfl rfl (fun K hK => ?_)
  refine wp_store_row 22 (.tmp 4) (.tmp 8) rfl (w.heap.size + 1 + 1) (Fs 16 (aesBlock key b)) rfl rfl 22 _ h4x (info22F _) (by simp only [Fs_size]) (Fs_one _ _) ?_
  refine hK _ _ ⟨h2x.rowOther (by omega) _, h3x.rowOther (by omega) _⟩ ?_
  refine HeldSeq.done ?_
  go_wp2
  exact bodyPost_ret (v := .agg (Fs 16 (aesBlock key b))) (results_cell_row rfl _ _ (w.heap.size + 1 + 1) 22 _ (0, 0) _ rfl h4x.row Try.underlying22 rfl (info22F _)) rfl ⟨rfl, hKx.setRowNew (by omega) _⟩
end Go.Proofs.Ytgjkeeejcebhhaa
