/-
  The walk of the reference's Block, and of AesBlocks.
-/
import Derived.Test.YtgjkeeejcebhhaaR5
import Derived.Test.YtgjkeeejcebhhaaA11
namespace Go.Proofs.Ytgjkeeejcebhhaa
open Go.RowKit
set_option maxRecDepth 100000 in
set_option maxHeartbeats 2000000 in
theorem BlockR_any (key b : Nat → Byte) (w : World) :
    Calls Try.prog 9 #[.agg (Fs 16 key), .agg (Fs 16 b)] w fun e w' => e = .returned (.agg (Fs 16 (aesBlock key b))) ∧ Kept (fun _ => False) w w' := by
  go_enter Try.func9, Try.ntmps9
  go_upto_region 1 with fail
  generalize hW : World.alloc (World.alloc (World.alloc w _) _) _ = w3
  have h2 : Row w3 w.heap.size 22 16 key := by rw [← hW]; exact ((Row.new w 22 16 key).alloc _).alloc _
  have h3 : Row w3 (w.heap.size + 1) 22 16 b := by
    have := (Row.new (w.alloc (.cells (Fs 16 key) 22)) 22 16 b).alloc (.cells (Fs 16 fun _ => 0#8) 22)
    rw [size_alloc] at this; rw [← hW]; exact this
  have h4 : Row w3 (w.heap.size + 1 + 1) 22 16 (fun _ => 0#8) := by
    have := Row.new ((w.alloc (.cells (Fs 16 key) 22)).alloc (.cells (Fs 16 b) 22)) 22 16 (fun _ => 0#8)
    rw [size_alloc, size_alloc] at this; rw [← hW]; exact this
  have hK : Kept (fun _ => False) w w3 := by rw [← hW]; exact (((Kept.refl _ w).alloc _).alloc _).alloc _
  clear hW
  go_wp2_with fail
  refine (box_any _).mono ?_
  rintro e w4 ⟨gb, rfl, hgb, hbox, hk⟩
  have j2 : Row w4 w.heap.size 22 16 key := hk.at h2 (fun h => h)
  have j3 : Row w4 (w.heap.size + 1) 22 16 b := hk.at h3 (fun h => h)
  have j4 : Row w4 (w.heap.size + 1 + 1) 22 16 (fun _ => 0#8) := hk.at h4 (fun h => h)
  have jK : Kept (fun _ => False) w w4 := hK.trans hk (fun _ _ h => h)
  clear h2 h3 h4 hK hk hgb
  go_wp2_with fail
  have h2' : Row w4.drew w.heap.size 22 16 key := j2
  have h3' : Row w4.drew (w.heap.size + 1) 22 16 b := j3
  have h4' : Row w4.drew (w.heap.size + 1 + 1) 22 16 (fun _ => 0#8) := j4
  have hb' : Row w4.drew gb 5 256 sbox := hbox
  have hK' : Kept (fun _ => False) w w4.drew := jK.drew
  clear j2 j3 j4 jK hbox
  refine region_perm (fun W => Row W w.heap.size 22 16 key ∧ Row W (w.heap.size + 1) 22 16 b) [(0, true), (1, true), (3, true), (4, true), (2, false), (5, false), (6, false)] (by kernel_rfl) (by kernel_rfl) (by intro c a d v w h; cases d <;> exact h) ⟨h2', h3'⟩ ?_
  refine HeldSeq.take rfl rfl (fun W hS => yields_row 22 (.tmp 2) rfl w.heap.size rfl 22 (Fs 16 key) (0, 0) _ hS.1 Try.underlying22 rfl (info22F _)) ?_
  simp only [List.getElem_toArray]; (try simp only [List.getElem_cons_succ]); (try simp only [List.getElem_cons_zero]); simp only [Act.put, List.setIfInBounds_toArray]; (try simp only [List.set_cons_succ]); (try simp only [List.set_cons_zero])
  refine HeldSeq.take rfl rfl (fun W hS => rfl) ?_
  simp only [List.getElem_toArray]; (try simp only [List.getElem_cons_succ]); (try simp only [List.getElem_cons_zero]); simp only [Act.put, List.setIfInBounds_toArray]; (try simp only [List.set_cons_succ]); (try simp only [List.set_cons_zero])
  refine HeldSeq.take rfl rfl (fun W hS => rfl) ?_
  simp only [List.getElem_toArray]; (try simp only [List.getElem_cons_succ]); (try simp only [List.getElem_cons_zero]); simp only [Act.put, List.setIfInBounds_toArray]; (try simp only [List.set_cons_succ]); (try simp only [List.set_cons_zero])
  refine HeldSeq.take rfl rfl (fun W hS => yields_row 22 (.tmp 3) rfl (w.heap.size + 1) rfl 22 (Fs 16 b) (0, 0) _ hS.2 Try.underlying22 rfl (info22F _)) ?_
  simp only [List.getElem_toArray]; (try simp only [List.getElem_cons_succ]); (try simp only [List.getElem_cons_zero]); simp only [Act.put, List.setIfInBounds_toArray]; (try simp only [List.set_cons_succ]); (try simp only [List.set_cons_zero])
  refine HeldSeq.run rfl rfl (fun K hK => ?_)
  go_simp
  refine (keysR_any key gb _ hb').mono ?_
  rintro e w1 ⟨a, cap, rfl, hO, hk⟩
  obtain ⟨gw, rfl, hgw, hgl, hcw, _⟩ := hO.cell (by omega)
  have h4w : Row w1 (w.heap.size + 1 + 1) 22 16 (fun _ => 0#8) := hk.at h4' (fun h => h)
  have h2w : Row w1 w.heap.size 22 16 key := hk.at h2' (fun h => h)
  have h3w : Row w1 (w.heap.size + 1) 22 16 b := hk.at h3' (fun h => h)
  have hbw : Row w1 gb 5 256 sbox := hk.at hb' (fun h => h)
  have hKw : Kept (fun _ => False) w w1 := hK'.trans hk (fun _ _ h => h)
  refine hK _ _ ⟨h2w, h3w⟩ ?_
  clear hK K hk h2' h3' h4' hb' hK'
  refine HeldSeq.run rfl rfl (fun K hK => ?_)
  go_simp
  refine (crypt_any gw cap gb _ b _ hcw hbw).mono ?_
  rintro e w2 ⟨rfl, hk⟩
  have h4x : Row w2 (w.heap.size + 1 + 1) 22 16 (fun _ => 0#8) := hk.at h4w (fun h => h)
  have hKx : Kept (fun _ => False) w w2 := hKw.trans hk (fun _ _ h => h)
  have h2x : Row w2 w.heap.size 22 16 key := hk.at h2w (fun h => h)
  have h3x : Row w2 (w.heap.size + 1) 22 16 b := hk.at h3w (fun h => h)
  refine hK _ _ ⟨h2x, h3x⟩ ?_
  clear hK K hk
  refine HeldSeq.run rfl rfl (fun K hK => ?_)
  refine wp_store_row 22 (.tmp 4) (.tmp 12) rfl (w.heap.size + 1 + 1) (Fs 16 (aesBlock key b)) rfl rfl 22 _ h4x (info22F _) (by simp only [Fs_size]) (Fs_one _ _) ?_
  refine hK _ _ ⟨h2x.rowOther (by omega) _, h3x.rowOther (by omega) _⟩ ?_
  refine HeldSeq.done ?_
  go_wp2
  exact bodyPost_ret (v := .agg (Fs 16 (aesBlock key b))) (results_cell_row rfl _ _ (w.heap.size + 1 + 1) 22 _ (0, 0) _ rfl h4x.row Try.underlying22 rfl (info22F _)) rfl ⟨rfl, hKx.setRowNew (by omega) _⟩
set_option maxRecDepth 100000 in
set_option maxHeartbeats 2000000 in
theorem blocks_any (key b : Nat → Byte) (w : World) :
    Calls Try.prog 4 #[.agg (Fs 16 key), .agg (Fs 16 b)] w fun e w' => e = .returned (.bool true) ∧ Kept (fun _ => False) w w' := by
  go_enter Try.func4, Try.ntmps4
  go_wp2_with fail
  generalize hW : World.alloc (World.alloc w _) _ = w3
  have h1 : Row w3 w.heap.size 22 16 key := by rw [← hW]; exact (Row.new w 22 16 key).alloc _
  have h2 : Row w3 (w.heap.size + 1) 22 16 b := by rw [← hW]; exact heap_alloc2_new w _ _
  have hK : Kept (fun _ => False) w w3 := by rw [← hW]; exact ((Kept.refl _ w).alloc _).alloc _
  clear hW
  have h1' : Row w3.drew w.heap.size 22 16 key := h1
  have h2' : Row w3.drew (w.heap.size + 1) 22 16 b := h2
  have hK' : Kept (fun _ => False) w w3.drew := hK.drew
  clear h1 h2 hK
  refine region_perm (fun W => Row W w.heap.size 22 16 key ∧ Row W (w.heap.size + 1) 22 16 b)
    [(0, false), (1, true), (2, true), (3, true), (5, true), (6, true), (4, false), (7, false), (8, true), (9, true), (10, true)] (by kernel_rfl) (by kernel_rfl) (by intro c a d v w h; cases d <;> exact h) ⟨h1', h2'⟩ ?_
  refine HeldSeq.run rfl rfl (fun K hK => ?_)
  go_simp
  refine (fixed_any _).mono ?_
  rintro e w1 ⟨rfl, hk⟩
  have g1 : Row w1 w.heap.size 22 16 key := hk.at h1' (fun h => h)
  have g2 : Row w1 (w.heap.size + 1) 22 16 b := hk.at h2' (fun h => h)
  have gK : Kept (fun _ => False) w w1 := hK'.trans hk (fun _ _ h => h)
  refine hK _ _ ⟨g1, g2⟩ ?_
  clear hK K hk h1' h2' hK'
  refine HeldSeq.take rfl rfl (v := .bool true) (fun W hS => rfl) ?_
  simp only [List.getElem_toArray]; (try simp only [List.getElem_cons_succ]); (try simp only [List.getElem_cons_zero]); simp only [Act.put, List.setIfInBounds_toArray]; (try simp only [List.set_cons_succ]); (try simp only [List.set_cons_zero])
  refine HeldSeq.take rfl rfl (fun W hS => yields_row 22 (.tmp 2) rfl w.heap.size rfl 22 (Fs 16 key) (0, 0) _ hS.1 Try.underlying22 rfl (info22F _)) ?_
  simp only [List.getElem_toArray]; (try simp only [List.getElem_cons_succ]); (try simp only [List.getElem_cons_zero]); simp only [Act.put, List.setIfInBounds_toArray]; (try simp only [List.set_cons_succ]); (try simp only [List.set_cons_zero])
  refine HeldSeq.take rfl rfl (fun W hS => yields_row 22 (.tmp 3) rfl (w.heap.size + 1) rfl 22 (Fs 16 b) (0, 0) _ hS.2 Try.underlying22 rfl (info22F _)) ?_
  simp only [List.getElem_toArray]; (try simp only [List.getElem_cons_succ]); (try simp only [List.getElem_cons_zero]); simp only [Act.put, List.setIfInBounds_toArray]; (try simp only [List.set_cons_succ]); (try simp only [List.set_cons_zero])
  refine HeldSeq.take rfl rfl (fun W hS => yields_row 22 (.tmp 2) rfl w.heap.size rfl 22 (Fs 16 key) (0, 0) _ hS.1 Try.underlying22 rfl (info22F _)) ?_
  simp only [List.getElem_toArray]; (try simp only [List.getElem_cons_succ]); (try simp only [List.getElem_cons_zero]); simp only [Act.put, List.setIfInBounds_toArray]; (try simp only [List.set_cons_succ]); (try simp only [List.set_cons_zero])
  refine HeldSeq.take rfl rfl (fun W hS => yields_row 22 (.tmp 3) rfl (w.heap.size + 1) rfl 22 (Fs 16 b) (0, 0) _ hS.2 Try.underlying22 rfl (info22F _)) ?_
  simp only [List.getElem_toArray]; (try simp only [List.getElem_cons_succ]); (try simp only [List.getElem_cons_zero]); simp only [Act.put, List.setIfInBounds_toArray]; (try simp only [List.set_cons_succ]); (try simp only [List.set_cons_zero])
  refine HeldSeq.run rfl rfl (fun K hK => ?_)
  go_simp
  refine (Block_any key b _).mono ?_
  rintro e w2 ⟨rfl, hk⟩
  have k1 : Row w2 w.heap.size 22 16 key := hk.at g1 (fun h => h)
  have k2 : Row w2 (w.heap.size + 1) 22 16 b := hk.at g2 (fun h => h)
  have kK : Kept (fun _ => False) w w2 := gK.trans hk (fun _ _ h => h)
  refine hK _ _ ⟨k1, k2⟩ ?_
  clear hK K hk g1 g2 gK
  refine HeldSeq.run rfl rfl (fun K hK => ?_)
  go_simp
  refine (BlockR_any key b _).mono ?_
  rintro e w4 ⟨rfl, hk⟩
  have mK : Kept (fun _ => False) w w4 := kK.trans hk (fun _ _ h => h)
  refine hK _ _ ⟨hk.at k1 (fun h => h), hk.at k2 (fun h => h)⟩ ?_
  clear hK K hk k1 k2 kK
  refine HeldSeq.take rfl rfl (fun W _ => run_eq22 _ _ (.tmp 9) (.tmp 12) W (aesBlock key b) (aesBlock key b) rfl rfl rfl) ?_
  simp only [List.getElem_toArray]; (try simp only [List.getElem_cons_succ]); (try simp only [List.getElem_cons_zero]); simp only [Act.put, List.setIfInBounds_toArray]; (try simp only [List.set_cons_succ]); (try simp only [List.set_cons_zero])
  rw [show eqB 16 (aesBlock key b) (aesBlock key b) = true from (eqB_iff _ _ _).2 fun i _ => rfl]
  refine HeldSeq.take rfl rfl (v := .bool true) (fun W _ => by go_simp) ?_
  simp only [List.getElem_toArray]; (try simp only [List.getElem_cons_succ]); (try simp only [List.getElem_cons_zero]); simp only [Act.put, List.setIfInBounds_toArray]; (try simp only [List.set_cons_succ]); (try simp only [List.set_cons_zero])
  refine HeldSeq.take rfl rfl (v := .bool true) (fun W hS => rfl) ?_
  simp only [List.getElem_toArray]; (try simp only [List.getElem_cons_succ]); (try simp only [List.getElem_cons_zero]); simp only [Act.put, List.setIfInBounds_toArray]; (try simp only [List.set_cons_succ]); (try simp only [List.set_cons_zero])
  refine HeldSeq.done ?_
  go_wp2
  go_ret
  exact ⟨rfl, mK⟩
theorem blocks_below (key b : Nat → Byte) (w : World) : Calls Try.prog 4 #[.agg (Fs 16 key), .agg (Fs 16 b)] w fun e w' => e = .returned (.bool true) ∧ Below w.heap.size w w' :=
  (blocks_any key b w).mono fun _ _ ⟨h, k⟩ => ⟨h, ⟨k.os, k.tape, k.output, k.size, fun i hi => k.block i hi (fun h => h)⟩⟩
end Go.Proofs.Ytgjkeeejcebhhaa
