/-
  The fixed answers of names; the walks of the laws NamesCalls and NamesSalts.
-/
import Derived.Test.YtpekibadleghbaaDoorN24
namespace Go.Proofs.YtpekibadleghbaaDoor
open Go.RowKit
set_option linter.unusedVariables false
set_option linter.unusedSimpArgs false
def s1 : Nat → Byte := fun i => if i = 0 then 1#8 else 0#8
theorem Fs_s1 : Fs 16 s1 = #[.int .u8 1, .int .u8 0, .int .u8 0, .int .u8 0, .int .u8 0, .int .u8 0, .int .u8 0, .int .u8 0, .int .u8 0, .int .u8 0, .int .u8 0, .int .u8 0, .int .u8 0, .int .u8 0, .int .u8 0, .int .u8 0] := by kernel_rfl
theorem valid_a (w : World) : Calls Tryd.prog 13 #[.string ⟨#[97]⟩] w fun e w' => e = .returned (.bool true) ∧ Kept (fun _ => False) w w' := by
  have := valid_any ⟨#[97]⟩ w
  rwa [show validB ⟨#[97]⟩ = true from by decide +kernel] at this
theorem valid_dots (w : World) : Calls Tryd.prog 13 #[.string ⟨#[46, 46]⟩] w fun e w' => e = .returned (.bool false) ∧ Kept (fun _ => False) w w' := by
  have := valid_any ⟨#[46, 46]⟩ w
  rwa [show validB ⟨#[46, 46]⟩ = false from by decide +kernel] at this
theorem valid_ab (w : World) : Calls Tryd.prog 13 #[.string ⟨#[97, 47, 98]⟩] w fun e w' => e = .returned (.bool false) ∧ Kept (fun _ => False) w w' := by
  have := valid_any ⟨#[97, 47, 98]⟩ w
  rwa [show validB ⟨#[97, 47, 98]⟩ = false from by decide +kernel] at this
theorem hash_a (w : World) (hk : KeysAt w) : Calls Tryd.prog 10 #[.agg #[.int .u8 1, .int .u8 0, .int .u8 0, .int .u8 0, .int .u8 0, .int .u8 0, .int .u8 0, .int .u8 0, .int .u8 0, .int .u8 0, .int .u8 0, .int .u8 0, .int .u8 0, .int .u8 0, .int .u8 0, .int .u8 0], .string ⟨#[97]⟩] w fun r w' => r = .returned (W (hashOf s1 ⟨#[97]⟩)) ∧ Kept (fun _ => False) w w' := by
  have := hash_any s1 ⟨#[97]⟩ w hk (by decide)
  rwa [Fs_s1] at this
theorem refHash_a (w : World) (hk : KeysRef w) : Calls Tryd.prog 12 #[.agg #[.int .u8 1, .int .u8 0, .int .u8 0, .int .u8 0, .int .u8 0, .int .u8 0, .int .u8 0, .int .u8 0, .int .u8 0, .int .u8 0, .int .u8 0, .int .u8 0, .int .u8 0, .int .u8 0, .int .u8 0, .int .u8 0], .string ⟨#[97]⟩] w fun r w' => r = .returned (W (hashOf s1 ⟨#[97]⟩)) ∧ Kept (fun _ => False) w w' := by
  have := refHash_any s1 ⟨#[97]⟩ w hk (by decide)
  rwa [Fs_s1] at this
set_option maxRecDepth 100000 in
set_option maxHeartbeats 4000000 in
theorem namesFixed_any (w : World) (hk : KeysAt w) (hr : KeysRef w) : Calls Tryd.prog 11 #[] w fun e w' => e = .returned (.bool true) ∧ Kept (fun _ => False) w w' := by
  go_enter Tryd.func11, Tryd.ntmps11
  go_wp2_with fail
  refine (valid_a _).mono ?_
  rintro r w1 ⟨rfl, k1⟩
  go_wp2_with fail
  refine (valid_dots _).mono ?_
  rintro r w2 ⟨rfl, k2⟩
  go_wp2_with fail
  refine (valid_ab _).mono ?_
  rintro r w3 ⟨rfl, k3⟩
  have hK3 := (k1.trans k2 (fun _ _ h => h)).trans k3 (fun _ _ h => h)
  clear k1 k2 k3
  go_wp2_with fail
  refine (hash_a _ (hk.kept hK3)).mono ?_
  rintro r w4 ⟨rfl, k4⟩
  have hK4 := hK3.trans k4 (fun _ _ h => h)
  clear k4 hK3
  go_wp2_with fail
  refine (refHash_a _ (hr.kept hK4)).mono ?_
  rintro r w5 ⟨rfl, k5⟩
  have hK5 := hK4.trans k5 (fun _ _ h => h)
  clear k5 hK4
  go_wp2_with fail
  go_ret
  exact ⟨by simp, hK5⟩
set_option maxRecDepth 100000 in
set_option maxHeartbeats 8000000 in
theorem namesCalls_any (salt : Nat → Byte) (a b : ByteArray) (w : World) (hk : KeysAt w) (hr : KeysRef w) (ha : a.size ≤ 140737488351232) (hb : b.size ≤ 140737488351232) :
    Calls Tryd.prog 4 #[.agg (Fs 16 salt), .string a, .string b] w fun e w' => e = .returned (.bool true) ∧ Kept (fun _ => False) w w' := by
  go_enter Tryd.func4, Tryd.ntmps4
  go_upto_region 1 with fail
  have hS0 : Row (w.alloc (.cells (Fs 16 salt) 22)) w.heap.size 22 16 salt := Row.new w 22 16 salt
  have hK0 : Kept (fun _ => False) w (w.alloc (.cells (Fs 16 salt) 22)) := (Kept.refl _ w).alloc _
  generalize hw0 : w.alloc (.cells (Fs 16 salt) 22) = w0 at *
  clear hw0
  refine region_perm (fun W => Row W w.heap.size 22 16 salt) [(0, false), (1, true), (2, true), (4, true), (3, false), (5, false), (6, true), (7, true), (8, true), (9, true), (10, true), (12, true), (13, true), (11, false), (14, false), (15, true), (16, true), (17, true), (18, true), (19, true), (20, true), (22, true), (23, true), (24, true), (21, false), (25, false), (26, true), (27, true), (28, true)] (by kernel_rfl) (by kernel_rfl) (by intro c a d v w h; cases d <;> exact h) hS0 ?_
  refine HeldSeq.run rfl rfl (fun K hK => ?_)
  go_simp
  refine (namesFixed_any w0.drew (hk.kept hK0.drew) (hr.kept hK0.drew)).mono ?_
  rintro r w1 ⟨rfl, k1⟩
  have hS1 : Row w1 w.heap.size 22 16 salt := k1.at hS0 (fun h => h)
  have hK1 : Kept (fun _ => False) w w1 := hK0.drew.trans k1 (fun _ _ h => h)
  refine hK _ _ hS1 ?_
  clear hK k1 hS0 hK0 K
  have hS0 := hS1
  have hK0 := hK1
  clear hS1 hK1
  repeat (apply HeldSeq.take; (focus rfl); (focus rfl); (focus (intro W _; go_simp; (try go_bits); rfl)); simp only [List.getElem_toArray, List.getElem_cons_zero, List.getElem_cons_succ, Act.put, List.setIfInBounds_toArray, List.set_cons_zero, List.set_cons_succ])
  refine HeldSeq.run rfl rfl (fun K hK => ?_)
  go_simp
  refine (valid_any a w1).mono ?_
  rintro r w2 ⟨rfl, k1⟩
  have hS1 : Row w2 w.heap.size 22 16 salt := k1.at hS0 (fun h => h)
  have hK1 : Kept (fun _ => False) w w2 := hK0.trans k1 (fun _ _ h => h)
  refine hK _ _ hS1 ?_
  clear hK k1 hS0 hK0 K
  have hS0 := hS1
  have hK0 := hK1
  clear hS1 hK1
  refine HeldSeq.run rfl rfl (fun K hK => ?_)
  go_simp
  refine (refValid_any a w2).mono ?_
  rintro r w3 ⟨rfl, k1⟩
  have hS1 : Row w3 w.heap.size 22 16 salt := k1.at hS0 (fun h => h)
  have hK1 : Kept (fun _ => False) w w3 := hK0.trans k1 (fun _ _ h => h)
  refine hK _ _ hS1 ?_
  clear hK k1 hS0 hK0 K
  have hS0 := hS1
  have hK0 := hK1
  clear hS1 hK1
  repeat (apply HeldSeq.take; (focus rfl); (focus rfl); (focus (intro W _; go_simp; (try go_bits); rfl)); simp only [List.getElem_toArray, List.getElem_cons_zero, List.getElem_cons_succ, Act.put, List.setIfInBounds_toArray, List.set_cons_zero, List.set_cons_succ])
  refine HeldSeq.take rfl rfl (fun W hS => yields_row 22 (.tmp 3) rfl w.heap.size rfl 22 (Fs 16 salt) (0, 0) _ hS Tryd.underlying22 rfl (info22F _)) ?_
  simp only [List.getElem_toArray]; (try simp only [List.getElem_cons_succ]); (try simp only [List.getElem_cons_zero]); simp only [Act.put, List.setIfInBounds_toArray]; (try simp only [List.set_cons_succ]); (try simp only [List.set_cons_zero])
  repeat (apply HeldSeq.take; (focus rfl); (focus rfl); (focus (intro W _; go_simp; (try go_bits); rfl)); simp only [List.getElem_toArray, List.getElem_cons_zero, List.getElem_cons_succ, Act.put, List.setIfInBounds_toArray, List.set_cons_zero, List.set_cons_succ])
  refine HeldSeq.take rfl rfl (fun W hS => yields_row 22 (.tmp 3) rfl w.heap.size rfl 22 (Fs 16 salt) (0, 0) _ hS Tryd.underlying22 rfl (info22F _)) ?_
  simp only [List.getElem_toArray]; (try simp only [List.getElem_cons_succ]); (try simp only [List.getElem_cons_zero]); simp only [Act.put, List.setIfInBounds_toArray]; (try simp only [List.set_cons_succ]); (try simp only [List.set_cons_zero])
  repeat (apply HeldSeq.take; (focus rfl); (focus rfl); (focus (intro W _; go_simp; (try go_bits); rfl)); simp only [List.getElem_toArray, List.getElem_cons_zero, List.getElem_cons_succ, Act.put, List.setIfInBounds_toArray, List.set_cons_zero, List.set_cons_succ])
  refine HeldSeq.run rfl rfl (fun K hK => ?_)
  go_simp
  refine (hash_any salt a w3 (hk.kept hK0) ha).mono ?_
  rintro r w4 ⟨rfl, k1⟩
  have hS1 : Row w4 w.heap.size 22 16 salt := k1.at hS0 (fun h => h)
  have hK1 : Kept (fun _ => False) w w4 := hK0.trans k1 (fun _ _ h => h)
  refine hK _ _ hS1 ?_
  clear hK k1 hS0 hK0 K
  have hS0 := hS1
  have hK0 := hK1
  clear hS1 hK1
  refine HeldSeq.run rfl rfl (fun K hK => ?_)
  go_simp
  refine (refHash_any salt a w4 (hr.kept hK0) ha).mono ?_
  rintro r w5 ⟨rfl, k1⟩
  have hS1 : Row w5 w.heap.size 22 16 salt := k1.at hS0 (fun h => h)
  have hK1 : Kept (fun _ => False) w w5 := hK0.trans k1 (fun _ _ h => h)
  refine hK _ _ hS1 ?_
  clear hK k1 hS0 hK0 K
  have hS0 := hS1
  have hK0 := hK1
  clear hS1 hK1
  repeat (apply HeldSeq.take; (focus rfl); (focus rfl); (focus (intro W _; go_simp; (try go_bits); rfl)); simp only [List.getElem_toArray, List.getElem_cons_zero, List.getElem_cons_succ, Act.put, List.setIfInBounds_toArray, List.set_cons_zero, List.set_cons_succ])
  refine HeldSeq.take rfl rfl (fun W hS => yields_row 22 (.tmp 3) rfl w.heap.size rfl 22 (Fs 16 salt) (0, 0) _ hS Tryd.underlying22 rfl (info22F _)) ?_
  simp only [List.getElem_toArray]; (try simp only [List.getElem_cons_succ]); (try simp only [List.getElem_cons_zero]); simp only [Act.put, List.setIfInBounds_toArray]; (try simp only [List.set_cons_succ]); (try simp only [List.set_cons_zero])
  repeat (apply HeldSeq.take; (focus rfl); (focus rfl); (focus (intro W _; go_simp; (try go_bits); rfl)); simp only [List.getElem_toArray, List.getElem_cons_zero, List.getElem_cons_succ, Act.put, List.setIfInBounds_toArray, List.set_cons_zero, List.set_cons_succ])
  refine HeldSeq.take rfl rfl (fun W hS => yields_row 22 (.tmp 3) rfl w.heap.size rfl 22 (Fs 16 salt) (0, 0) _ hS Tryd.underlying22 rfl (info22F _)) ?_
  simp only [List.getElem_toArray]; (try simp only [List.getElem_cons_succ]); (try simp only [List.getElem_cons_zero]); simp only [Act.put, List.setIfInBounds_toArray]; (try simp only [List.set_cons_succ]); (try simp only [List.set_cons_zero])
  repeat (apply HeldSeq.take; (focus rfl); (focus rfl); (focus (intro W _; go_simp; (try go_bits); rfl)); simp only [List.getElem_toArray, List.getElem_cons_zero, List.getElem_cons_succ, Act.put, List.setIfInBounds_toArray, List.set_cons_zero, List.set_cons_succ])
  refine HeldSeq.run rfl rfl (fun K hK => ?_)
  go_simp
  refine (order_any salt a b w5 (hk.kept hK0) ha hb).mono ?_
  rintro r w6 ⟨rfl, k1⟩
  have hS1 : Row w6 w.heap.size 22 16 salt := k1.at hS0 (fun h => h)
  have hK1 : Kept (fun _ => False) w w6 := hK0.trans k1 (fun _ _ h => h)
  refine hK _ _ hS1 ?_
  clear hK k1 hS0 hK0 K
  have hS0 := hS1
  have hK0 := hK1
  clear hS1 hK1
  refine HeldSeq.run rfl rfl (fun K hK => ?_)
  go_simp
  refine (refOrder_any salt a b w6 (hr.kept hK0) ha hb).mono ?_
  rintro r w7 ⟨rfl, k1⟩
  have hS1 : Row w7 w.heap.size 22 16 salt := k1.at hS0 (fun h => h)
  have hK1 : Kept (fun _ => False) w w7 := hK0.trans k1 (fun _ _ h => h)
  refine hK _ _ hS1 ?_
  clear hK k1 hS0 hK0 K
  have hS0 := hS1
  have hK0 := hK1
  clear hS1 hK1
  repeat (apply HeldSeq.take; (focus rfl); (focus rfl); (focus (intro W _; go_simp; (try go_bits); rfl)); simp only [List.getElem_toArray, List.getElem_cons_zero, List.getElem_cons_succ, Act.put, List.setIfInBounds_toArray, List.set_cons_zero, List.set_cons_succ])
  refine HeldSeq.done ?_
  go_wp2_with fail
  go_ret
  exact ⟨rfl, hK0⟩
end Go.Proofs.YtpekibadleghbaaDoor
