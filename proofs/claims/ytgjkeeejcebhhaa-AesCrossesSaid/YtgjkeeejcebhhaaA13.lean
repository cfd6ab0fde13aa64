/-
  The walk of the law AesBack.
-/
import Derived.Test.YtgjkeeejcebhhaaA12
namespace Go.Proofs.Ytgjkeeejcebhhaa
open Go.RowKit
theorem and48 (e : Int) (h0 : 0 ≤ e) (h1 : e < 18446744073709551616) : bits .and .u64 e 281474976710655 = e % 281474976710656 :=
  bits_mask .u64 64 (by decide) (fun n a b => IntWalk.u64_in n (by omega)) 48 (by decide) e h0 h1
theorem cross_twice (key : Nat → Byte) (e s : Nat) (f : Nat → Byte) (i : Nat) : crossF key e s (crossF key e s f) i = f i := by
  unfold crossF
  rw [BitVec.xor_assoc, BitVec.xor_self, BitVec.xor_zero]
theorem slice_head (a : Option Addr) (len cap n : Nat) (h : n ≤ cap) (W : World) : (Instr.sliceAt 28 (.slice a len cap) none (some (.int .i64 n)) none).run Try.prog W = .ok (.slice a n cap) W := by
  have hu : Try.prog.underlying 28 = some (.slice (Try.prog.elem 28)) := by kernel_rfl
  have he : Try.prog.elem 28 = 5 := by kernel_rfl
  rw [run_sliceAt_slice (t := 28) (h := hu), run_slice_h (t := 28) (ht := hu) (h0 := by omega) (h2 := by omega), he, size5]
  simp only [Result.andThen_ok, sliced, Int.toNat_natCast, Nat.sub_zero, Nat.zero_mul]
  congr 2
  split
  · rfl
  · cases a <;> simp [Addr.add]
theorem pick_n (cut : Int) (len : Nat) (h : len ≤ 140737488351232) : ∃ N : Nat, wrap64 ((IntKind.u64.wrap cut).tmod ((len : Int) + 1)) = (N : Int) ∧ N ≤ len := by
  have h0 : 0 ≤ IntKind.u64.wrap cut := by simp only [IntKind.wrap, IntKind.bits, IntKind.signed]; simp; omega
  rw [Int.tmod_eq_emod_of_nonneg h0]
  have h1 := Int.emod_nonneg (IntKind.u64.wrap cut) (show ((len : Int) + 1) ≠ 0 by omega)
  have h2 := Int.emod_lt_of_pos (IntKind.u64.wrap cut) (show 0 < ((len : Int) + 1) by omega)
  generalize IntKind.u64.wrap cut % ((len : Int) + 1) = x at *
  exact ⟨x.toNat, by rw [IntWalk.wrap64_in x (by omega)]; omega, by omega⟩
attribute [local go_sem] xorB
set_option maxRecDepth 100000 in
set_option maxHeartbeats 2000000 in
theorem back_any (key : Nat → Byte) (e s : Int) (a : Option Addr) (len cap : Nat) (f : Nat → Byte) (cut : Int) (w : World) (he0 : 0 ≤ e) (he1 : e < 18446744073709551616) (hs0 : 0 ≤ s) (hs1 : s < 18446744073709551616)
    (hb : BytesAt w a len f) (ha : a = none → len = 0) (hlc : len ≤ cap) (hcap : cap ≤ 140737488351232) :
    Calls Try.prog 6 #[.agg (Fs 16 key), .int .u64 e, .int .u64 s, .slice a len cap, .int .i64 cut] w fun r w' => r = .returned (.bool true) ∧ Kept (fun _ => False) w w' := by
  obtain ⟨E, hE, hE2⟩ : ∃ E : Nat, e % 281474976710656 = (E : Int) ∧ E ≤ 281474976710655 := ⟨(e % 281474976710656).toNat, by omega, by omega⟩
  obtain ⟨S, hS, hS2⟩ : ∃ S : Nat, s % 281474976710656 = (S : Int) ∧ S ≤ 281474976710655 := ⟨(s % 281474976710656).toNat, by omega, by omega⟩
  have ae : bits .and .u64 e 281474976710655 = (E : Int) := by rw [and48 e he0 he1, hE]
  have as' : bits .and .u64 s 281474976710655 = (S : Int) := by rw [and48 s hs0 hs1, hS]
  clear hE hS
  go_enter Try.func6, Try.ntmps6
  go_wp2_with fail
  refine (fixed_any _).mono ?_
  rintro r w1 ⟨rfl, hk⟩
  have hR : Row w1 w.heap.size 22 16 key := hk.at (Row.new w 22 16 key) (fun h => h)
  have hK : Kept (fun _ => False) w w1 := ((Kept.refl _ w).alloc _).trans hk (fun _ _ h => h)
  clear hk
  go_wp2_with (refine wpList_load_row rfl 22 (.tmp 5) rfl w.heap.size rfl 22 (Fs 16 key) (0, 0) _ hR Try.underlying22 rfl (info22F _) ?_)
  refine (cross_any key E S a len cap f _ hE2 hS2 (hb.kept hK) (by omega)).mono ?_
  rintro r w2 ⟨gc, rfl, hgc, hC, hk⟩
  have hR2 : Row w2 w.heap.size 22 16 key := hk.at hR (fun h => h)
  have hK2 : Kept (fun _ => False) w w2 := hK.trans hk (fun _ _ h => h)
  clear hk hR hK
  go_wp2_with (refine wpList_load_row rfl 22 (.tmp 5) rfl w.heap.size rfl 22 (Fs 16 key) (0, 0) _ hR2 Try.underlying22 rfl (info22F _) ?_)
  refine (cross_any key E S (some ⟨gc, 0, none⟩) len len (crossF key E S f) _ hE2 hS2 hC.bytes (by omega)).mono ?_
  rintro r w3 ⟨gd, rfl, hgd, hD, hk⟩
  have hD : Row w3 gd 5 len f := hD.congr fun i _ => cross_twice key E S f i
  have hR3 : Row w3 w.heap.size 22 16 key := hk.at hR2 (fun h => h)
  have hC3 : Row w3 gc 5 len (crossF key E S f) := hk.at hC (fun h => h)
  have hK3 : Kept (fun _ => False) w w3 := hK2.trans hk (fun _ _ h => h)
  clear hk hR2 hC hK2
  go_wp2_with fail
  obtain ⟨N, hN, hNl⟩ := pick_n cut len (by omega)
  rw [hN]
  clear hN
  have hsb := slice_head a len cap N (by omega)
  have hsc := slice_head (some ⟨gc, 0, none⟩) len len N (by omega)
  refine region_perm (fun W => Row W w.heap.size 22 16 key) [(0, true), (1, true), (2, true), (3, true), (4, true), (5, true), (6, false), (7, true), (8, true), (9, true), (10, true), (11, true)] (by kernel_rfl) (by kernel_rfl) (by intro c a d v w h; cases d <;> exact h) hR3 ?_
  refine HeldSeq.take rfl rfl (fun W hS => yields_row 22 (.tmp 5) rfl w.heap.size rfl 22 (Fs 16 key) (0, 0) _ hS Try.underlying22 rfl (info22F _)) ?_
  simp only [List.getElem_toArray]; (try simp only [List.getElem_cons_succ]); (try simp only [List.getElem_cons_zero]); simp only [Act.put, List.setIfInBounds_toArray]; (try simp only [List.set_cons_succ]); (try simp only [List.set_cons_zero])
  repeat (apply HeldSeq.take; (focus rfl); (focus rfl); (focus (intro W _; go_simp; (try go_bits); rfl)); simp only [List.getElem_toArray, List.getElem_cons_zero, List.getElem_cons_succ, Act.put, List.setIfInBounds_toArray, List.set_cons_zero, List.set_cons_succ])
  refine HeldSeq.run rfl rfl (fun K hK => ?_)
  go_simp
  refine (cross_any key E S a N cap f _ hE2 hS2 ((hb.take hNl).kept hK3.drew) (by omega)).mono ?_
  rintro r w4 ⟨gh, rfl, hgh, hH, hk⟩
  have hC4 : Row w4 gc 5 len (crossF key E S f) := hk.at hC3 (fun h => h)
  have hD4 : Row w4 gd 5 len f := hk.at hD (fun h => h)
  have hb4 : BytesAt w4 a len f := hb.kept (hK3.drew.trans hk (fun _ _ h => h))
  have hK4 : Kept (fun _ => False) w w4 := hK3.drew.trans hk (fun _ _ h => h)
  refine hK _ _ (hk.at hR3 (fun h => h)) ?_
  clear hK hk hD hR3 hC3 hK3 K
  repeat (apply HeldSeq.take; (focus rfl); (focus rfl); (focus (intro W _; go_simp; (try go_bits); rfl)); simp only [List.getElem_toArray, List.getElem_cons_zero, List.getElem_cons_succ, Act.put, List.setIfInBounds_toArray, List.set_cons_zero, List.set_cons_succ])
  refine HeldSeq.done ?_
  go_wp2_with fail
  have s1 := conv_str (P := Try.prog) w4.drew 28 9 5 (some ⟨gd, 0, none⟩) len len f Try.underlying28 Try.underlying5 Try.underlying9 hD4.bytes (fun h => by cases h)
  have s2 := conv_str (P := Try.prog) w4.drew 28 9 5 a len cap f Try.underlying28 Try.underlying5 Try.underlying9 hb4 ha
  have s3 := conv_str (P := Try.prog) w4.drew 28 9 5 (some ⟨gh, 0, none⟩) N N (crossF key E S f) Try.underlying28 Try.underlying5 Try.underlying9 hH.bytes (fun h => by cases h)
  have s4 := conv_str (P := Try.prog) w4.drew 28 9 5 (some ⟨gc, 0, none⟩) N len (crossF key E S f) Try.underlying28 Try.underlying5 Try.underlying9 (hC4.bytes.take hNl) (fun h => by cases h)
  refine region_still (by kernel_rfl) (by kernel_rfl) ?_
  repeat (refine wpStill_step (fun K hK => ?_); go_simp; (try go_bits); refine hK _ ?_; clear hK K)
  refine wpStill_nil ?_
  go_wp2
  go_ret
  exact ⟨rfl, hK4.drew⟩
theorem Kept.whole {w w' : World} (k : Kept (fun _ => False) w w') : Below w.heap.size w w' := ⟨k.os, k.tape, k.output, k.size, fun i hi => k.block i hi (fun h => h)⟩
theorem back_below (key : Nat → Byte) (e s : Int) (a : Option Addr) (len cap : Nat) (f : Nat → Byte) (cut : Int) (w : World) (we : (Lit.int .u64 e).wf = true) (ws : (Lit.int .u64 s).wf = true)
    (hb : BytesAt w a len f) (ha : a = none → len = 0) (hlc : len ≤ cap) (hcap : cap ≤ 140737488351232) (_ : (Lit.int .i64 cut).wf = true) :
    Calls Try.prog 6 #[.agg (Fs 16 key), .int .u64 e, .int .u64 s, .slice a len cap, .int .i64 cut] w fun r w' => r = .returned (.bool true) ∧ Below w.heap.size w w' := by
  have b1 := bounds_u64 we
  have b2 := bounds_u64 ws
  exact (back_any key e s a len cap f cut w b1.1 (by omega) b2.1 (by omega) hb ha hlc hcap).mono fun _ _ ⟨h, k⟩ => ⟨h, k.whole⟩
end Go.Proofs.Ytgjkeeejcebhhaa
