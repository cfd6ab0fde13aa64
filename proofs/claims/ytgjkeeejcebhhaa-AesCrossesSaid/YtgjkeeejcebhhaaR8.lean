/-
  The walk of the reference's Cross.
-/
import Derived.Test.YtgjkeeejcebhhaaR7
namespace Go.Proofs.Ytgjkeeejcebhhaa
open Go.RowKit
theorem crossR_bad (key : Nat → Byte) (e s : Nat) (a : Option Addr) (len cap : Nat) (w : World) (hbig : 281474976710655 < e ∨ 281474976710655 < s) :
    Calls Try.prog 11 #[.agg (Fs 16 key), .int .u64 e, .int .u64 s, .slice a len cap] w fun r w' => r = .returned (.tuple #[.slice none 0 0, .int .i64 2]) ∧ Kept (fun _ => False) w w' := by
  by_cases h : 281474976710655 < e
  · have q : (281474976710655 : Int) < e := by omega
    go_enter Try.func11, Try.ntmps11
    go_wp2
    go_ret2
    exact ⟨rfl, (Kept.refl _ w).alloc _⟩
  · have q : (e : Int) ≤ 281474976710655 := by omega
    have q2 : (281474976710655 : Int) < s := by omega
    go_enter Try.func11, Try.ntmps11
    go_wp2
    go_ret2
    exact ⟨rfl, (Kept.refl _ w).alloc _⟩
set_option maxRecDepth 100000 in
set_option maxHeartbeats 2000000 in
theorem crossR_any (key : Nat → Byte) (e s : Nat) (a : Option Addr) (len cap : Nat) (f : Nat → Byte) (w : World) (he : e ≤ 281474976710655) (hs : s ≤ 281474976710655) (hb : BytesAt w a len f) (hlen : len ≤ 140737488351232) :
    Calls Try.prog 11 #[.agg (Fs 16 key), .int .u64 e, .int .u64 s, .slice a len cap] w fun r w' => ∃ a' cap', r = .returned (.tuple #[.slice a' len cap', .int .i64 0]) ∧ OwnB w' w.heap.size a' len cap' (crossF key e s f) ∧ Kept (fun _ => False) w w' := by
  have q : (e : Int) ≤ 281474976710655 := by omega
  have q2 : (s : Int) ≤ 281474976710655 := by omega
  go_enter Try.func11, Try.ntmps11
  go_wp2_with fail
  have h1 : Row (w.alloc (.cells (Fs 16 key) 22)).drew w.heap.size 22 16 key := Row.new w _ _ _
  have hK : Kept (fun _ => False) w (w.alloc (.cells (Fs 16 key) 22)).drew := ((Kept.refl _ w).alloc _).drew
  refine region_perm (fun W => Row W w.heap.size 22 16 key) [(1, true), (2, true), (3, true), (4, true), (0, false), (5, false), (6, true), (7, true)] (by kernel_rfl) (by kernel_rfl) (by intro c a d v w h; cases d <;> exact h) h1 ?_
  refine HeldSeq.take rfl rfl (fun W hS => yields_row 22 (.tmp 4) rfl w.heap.size rfl 22 (Fs 16 key) (0, 0) _ hS Try.underlying22 rfl (info22F _)) ?_
  simp only [List.getElem_toArray]; (try simp only [List.getElem_cons_succ]); (try simp only [List.getElem_cons_zero]); simp only [Act.put, List.setIfInBounds_toArray]; (try simp only [List.set_cons_succ]); (try simp only [List.set_cons_zero])
  repeat (apply HeldSeq.take; (focus rfl); (focus rfl); (focus (intro W _; go_simp; (try go_bits); rfl)); simp only [List.getElem_toArray, List.getElem_cons_zero, List.getElem_cons_succ, Act.put, List.setIfInBounds_toArray, List.set_cons_zero, List.set_cons_succ])
  refine HeldSeq.run rfl rfl (fun K hK => ?_)
  go_simp
  refine (box_any _).mono ?_
  rintro r w1 ⟨gb, rfl, hgb, hbox, hk⟩
  have h2 : Row w1 w.heap.size 22 16 key := hk.at h1 (fun h => h)
  have hK1 : Kept (fun _ => False) w w1 := (show Kept (fun _ => False) w (w.alloc (.cells (Fs 16 key) 22)).drew from ((Kept.refl _ w).alloc _).drew).trans hk (fun _ _ h => h)
  refine hK _ _ h2 ?_
  clear hK K hk h1
  refine HeldSeq.run rfl rfl (fun K hK => ?_)
  go_simp
  refine (over_any key gb e s a len cap f _ (hb.kept hK1) hlen hbox).mono ?_
  rintro r w2 ⟨a', cap', rfl, hO, hk⟩
  have h3 : Row w2 w.heap.size 22 16 key := hk.at h2 (fun h => h)
  have hK2 : Kept (fun _ => False) w w2 := hK1.trans hk (fun _ _ h => h)
  refine hK _ _ h3 ?_
  clear hK K hk h2
  repeat (apply HeldSeq.take; (focus rfl); (focus rfl); (focus (intro W _; go_simp; (try go_bits); rfl)); simp only [List.getElem_toArray, List.getElem_cons_zero, List.getElem_cons_succ, Act.put, List.setIfInBounds_toArray, List.set_cons_zero, List.set_cons_succ])
  refine HeldSeq.done ?_
  go_wp2
  go_ret2
  exact ⟨_, _, rfl, hO.lower hK1.size, hK2⟩
end Go.Proofs.Ytgjkeeejcebhhaa
