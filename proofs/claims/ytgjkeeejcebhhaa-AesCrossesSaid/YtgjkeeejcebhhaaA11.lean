/-
  The walk of the law AesKeys.
-/
import Derived.Test.YtgjkeeejcebhhaaA9
import Derived.Test.YtgjkeeejcebhhaaA10
namespace Go.Proofs.Ytgjkeeejcebhhaa
open Go.RowKit
theorem guard22 (x y : Operand) (xs ys : Array Value) (w : World) : (eqGuard .eql 22 x y (.agg xs) (.agg ys)).run Try.prog w = .ok () w := by kernel_rfl
theorem run_eq22 (a : Act) (o : Oper) (x y : Operand) (w : World) (f g : Nat → Byte) (ho : o.op = .binOp .eql 22 x y 22) (hx : a.eval x = .agg (Fs 16 f)) (hy : a.eval y = .agg (Fs 16 g)) :
    (execOp a.eval o).run Try.prog w = .ok (.value (.bool (eqB 16 f g))) w := by
  have e := eq22 f g w
  unfold execOp
  simp only [ho, hx, hy, binOp, Sem.run_bind, guard22, Result.andThen_ok, e, Sem.run_pure]
set_option maxRecDepth 100000 in
set_option maxHeartbeats 2000000 in
theorem keys_any (key a b : Nat → Byte) (w : World) : Calls Try.prog 3 #[.agg (Fs 16 key), .agg (Fs 16 a), .agg (Fs 16 b)] w fun e w' => e = .returned (.bool true) ∧ Kept (fun _ => False) w w' := by
  go_enter Try.func3, Try.ntmps3
  go_wp2_with fail
  generalize hW : World.alloc (World.alloc (World.alloc w _) _) _ = w3
  have h1 : Row w3 w.heap.size 22 16 key := by rw [← hW]; exact ((Row.new w 22 16 key).alloc _).alloc _
  have h2 : Row w3 (w.heap.size + 1) 22 16 a := by
    have := (Row.new (w.alloc (.cells (Fs 16 key) 22)) 22 16 a).alloc (.cells (Fs 16 b) 22)
    rw [size_alloc] at this; rw [← hW]; exact this
  have h3 : Row w3 (w.heap.size + 1 + 1) 22 16 b := by
    have := Row.new ((w.alloc (.cells (Fs 16 key) 22)).alloc (.cells (Fs 16 a) 22)) 22 16 b
    rw [size_alloc, size_alloc] at this; rw [← hW]; exact this
  have hK : Kept (fun _ => False) w w3 := by rw [← hW]; exact (((Kept.refl _ w).alloc _).alloc _).alloc _
  clear hW
  have h1' : Row w3.drew w.heap.size 22 16 key := h1
  have h2' : Row w3.drew (w.heap.size + 1) 22 16 a := h2
  have h3' : Row w3.drew (w.heap.size + 1 + 1) 22 16 b := h3
  have hK' : Kept (fun _ => False) w w3.drew := hK.drew
  clear h1 h2 h3 hK
  refine region_perm (fun W => Row W w.heap.size 22 16 key ∧ Row W (w.heap.size + 1) 22 16 a ∧ Row W (w.heap.size + 1 + 1) 22 16 b)
    [(0, false), (1, true), (2, true), (3, true), (5, true), (6, true), (9, true), (10, true), (11, true), (4, false), (7, false), (8, true), (12, true), (13, true), (14, true)] (by kernel_rfl) (by kernel_rfl) (by intro c a d v w h; cases d <;> exact h) ⟨h1', h2', h3'⟩ ?_
  refine HeldSeq.run rfl rfl (fun K hK => ?_)
  go_simp
  refine (fixed_any _).mono ?_
  rintro e w1 ⟨rfl, hk⟩
  have g1 : Row w1 w.heap.size 22 16 key := hk.at h1' (fun h => h)
  have g2 : Row w1 (w.heap.size + 1) 22 16 a := hk.at h2' (fun h => h)
  have g3 : Row w1 (w.heap.size + 1 + 1) 22 16 b := hk.at h3' (fun h => h)
  have gK : Kept (fun _ => False) w w1 := hK'.trans hk (fun _ _ h => h)
  refine hK _ _ ⟨g1, g2, g3⟩ ?_
  clear hK K hk h1' h2' h3' hK'
  refine HeldSeq.take rfl rfl (v := .bool true) (fun W hS => rfl) ?_
  simp only [List.getElem_toArray, List.getElem_cons_zero, List.getElem_cons_succ, Act.put, List.setIfInBounds_toArray, List.set_cons_zero, List.set_cons_succ]
  refine HeldSeq.take rfl rfl (fun W hS => yields_row 22 (.tmp 3) rfl w.heap.size rfl 22 (Fs 16 key) (0, 0) _ hS.1 Try.underlying22 rfl (info22F _)) ?_
  simp only [List.getElem_toArray, List.getElem_cons_zero, List.getElem_cons_succ, Act.put, List.setIfInBounds_toArray, List.set_cons_zero, List.set_cons_succ]
  refine HeldSeq.take rfl rfl (fun W hS => yields_row 22 (.tmp 4) rfl (w.heap.size + 1) rfl 22 (Fs 16 a) (0, 0) _ hS.2.1 Try.underlying22 rfl (info22F _)) ?_
  simp only [List.getElem_toArray, List.getElem_cons_zero, List.getElem_cons_succ, Act.put, List.setIfInBounds_toArray, List.set_cons_zero, List.set_cons_succ]
  refine HeldSeq.take rfl rfl (fun W hS => yields_row 22 (.tmp 3) rfl w.heap.size rfl 22 (Fs 16 key) (0, 0) _ hS.1 Try.underlying22 rfl (info22F _)) ?_
  simp only [List.getElem_toArray, List.getElem_cons_zero, List.getElem_cons_succ, Act.put, List.setIfInBounds_toArray, List.set_cons_zero, List.set_cons_succ]
  refine HeldSeq.take rfl rfl (fun W hS => yields_row 22 (.tmp 5) rfl (w.heap.size + 1 + 1) rfl 22 (Fs 16 b) (0, 0) _ hS.2.2 Try.underlying22 rfl (info22F _)) ?_
  simp only [List.getElem_toArray, List.getElem_cons_zero, List.getElem_cons_succ, Act.put, List.setIfInBounds_toArray, List.set_cons_zero, List.set_cons_succ]
  refine HeldSeq.take rfl rfl (fun W hS => yields_row 22 (.tmp 4) rfl (w.heap.size + 1) rfl 22 (Fs 16 a) (0, 0) _ hS.2.1 Try.underlying22 rfl (info22F _)) ?_
  simp only [List.getElem_toArray, List.getElem_cons_zero, List.getElem_cons_succ, Act.put, List.setIfInBounds_toArray, List.set_cons_zero, List.set_cons_succ]
  refine HeldSeq.take rfl rfl (fun W hS => yields_row 22 (.tmp 5) rfl (w.heap.size + 1 + 1) rfl 22 (Fs 16 b) (0, 0) _ hS.2.2 Try.underlying22 rfl (info22F _)) ?_
  simp only [List.getElem_toArray, List.getElem_cons_zero, List.getElem_cons_succ, Act.put, List.setIfInBounds_toArray, List.set_cons_zero, List.set_cons_succ]
  refine HeldSeq.take rfl rfl (fun W _ => run_eq22 _ _ (.tmp 16) (.tmp 17) W a b rfl rfl rfl) ?_
  simp only [List.getElem_toArray, List.getElem_cons_zero, List.getElem_cons_succ, Act.put, List.setIfInBounds_toArray, List.set_cons_zero, List.set_cons_succ]
  refine HeldSeq.run rfl rfl (fun K hK => ?_)
  go_simp
  refine (Block_any key a _).mono ?_
  rintro e w2 ⟨rfl, hk⟩
  have k1 : Row w2 w.heap.size 22 16 key := hk.at g1 (fun h => h)
  have k2 : Row w2 (w.heap.size + 1) 22 16 a := hk.at g2 (fun h => h)
  have k3 : Row w2 (w.heap.size + 1 + 1) 22 16 b := hk.at g3 (fun h => h)
  have kK : Kept (fun _ => False) w w2 := gK.trans hk (fun _ _ h => h)
  refine hK _ _ ⟨k1, k2, k3⟩ ?_
  clear hK K hk g1 g2 g3 gK
  refine HeldSeq.run rfl rfl (fun K hK => ?_)
  go_simp
  refine (Block_any key b _).mono ?_
  rintro e w4 ⟨rfl, hk⟩
  have mK : Kept (fun _ => False) w w4 := kK.trans hk (fun _ _ h => h)
  refine hK _ _ ⟨hk.at k1 (fun h => h), hk.at k2 (fun h => h), hk.at k3 (fun h => h)⟩ ?_
  clear hK K hk k1 k2 k3 kK
  refine HeldSeq.take rfl rfl (fun W _ => run_eq22 _ _ (.tmp 11) (.tmp 14) W (aesBlock key a) (aesBlock key b) rfl rfl rfl) ?_
  simp only [List.getElem_toArray, List.getElem_cons_zero, List.getElem_cons_succ, Act.put, List.setIfInBounds_toArray, List.set_cons_zero, List.set_cons_succ]
  have hb : eqB 16 (aesBlock key a) (aesBlock key b) = eqB 16 a b := by
    rw [Bool.eq_iff_iff, eqB_iff, eqB_iff]; exact block_one key a b
  rw [hb]
  refine HeldSeq.take rfl rfl (v := .bool (eqB 16 a b == eqB 16 a b)) (fun W _ => by go_simp) ?_
  simp only [List.getElem_toArray, List.getElem_cons_zero, List.getElem_cons_succ, Act.put, List.setIfInBounds_toArray, List.set_cons_zero, List.set_cons_succ]
  refine HeldSeq.take rfl rfl (v := .bool true) (fun W _ => by go_simp) ?_
  simp only [List.getElem_toArray, List.getElem_cons_zero, List.getElem_cons_succ, Act.put, List.setIfInBounds_toArray, List.set_cons_zero, List.set_cons_succ]
  refine HeldSeq.take rfl rfl (v := .bool true) (fun W hS => rfl) ?_
  simp only [List.getElem_toArray, List.getElem_cons_zero, List.getElem_cons_succ, Act.put, List.setIfInBounds_toArray, List.set_cons_zero, List.set_cons_succ]
  refine HeldSeq.done ?_
  go_wp2
  go_ret
  exact ⟨rfl, mK⟩
theorem keys_below (key a b : Nat → Byte) (w : World) : Calls Try.prog 3 #[.agg (Fs 16 key), .agg (Fs 16 a), .agg (Fs 16 b)] w fun e w' => e = .returned (.bool true) ∧ Below w.heap.size w w' :=
  (keys_any key a b w).mono fun _ _ ⟨h, k⟩ => ⟨h, ⟨k.os, k.tape, k.output, k.size, fun i hi => k.block i hi (fun h => h)⟩⟩
end Go.Proofs.Ytgjkeeejcebhhaa
