/-
  The walk of names.Order.
-/
import Derived.Test.YtpekibadleghbaaDoorN12
namespace Go.Proofs.YtpekibadleghbaaDoor
open Go.RowKit
set_option linter.unusedVariables false
set_option linter.unusedSimpArgs false
def ordH (salt : Nat → Byte) (a b : ByteArray) : Int := cmpI (iW (hashOf salt a)) (iW (hashOf salt b))
def orderOf (salt : Nat → Byte) (a b : ByteArray) : Int := if (a.toList == b.toList) = true then 0 else if ordH salt a b = 0 then cmpS a b else ordH salt a b
theorem info22F (f : Nat → Byte) : (Tryd.prog.info? 22).map (·.size) = some (Fs 16 f).size := by
  rw [Fs_size]; kernel_rfl
set_option maxRecDepth 100000 in
set_option maxHeartbeats 8000000 in
theorem order_any (salt : Nat → Byte) (a b : ByteArray) (w : World) (hkey : KeysAt w) (ha : a.size ≤ 140737488351232) (hb : b.size ≤ 140737488351232) :
    Calls Tryd.prog 15 #[.agg (Fs 16 salt), .string a, .string b] w fun r w' => r = .returned (.int .i64 (orderOf salt a b)) ∧ Kept (fun _ => False) w w' := by
  go_enter Tryd.func15, Tryd.ntmps15
  by_cases h : (a.toList == b.toList) = true
  · go_wp2_with fail
    go_ret
    exact ⟨by unfold orderOf; rw [if_pos h]; rfl, (Kept.refl _ w).alloc _⟩
  · have hf : (a.toList == b.toList) = false := by simpa using h
    obtain ⟨z, hz⟩ : ∃ z, z = orderOf salt a b := ⟨_, rfl⟩
    rw [← hz]
    have HZ := Lib.hid hz
    clear hz
    go_upto_region 3 with fail
    have hS0 : Row (w.alloc (.cells (Fs 16 salt) 22)) w.heap.size 22 16 salt := Row.new w 22 16 salt
    have hK0 : Kept (fun _ => False) w (w.alloc (.cells (Fs 16 salt) 22)) := (Kept.refl _ w).alloc _
    generalize hw0 : w.alloc (.cells (Fs 16 salt) 22) = w0 at *
    clear hw0 h
    refine region_perm (fun W => Row W w.heap.size 22 16 salt) [(0, true), (1, true), (3, true), (4, true), (7, true), (8, true), (2, false), (5, false), (6, false), (9, false), (10, false), (11, false), (12, false)] (by kernel_rfl) (by kernel_rfl) (by intro c a d v w h; cases d <;> exact h) hS0 ?_
    refine HeldSeq.take rfl rfl (fun W hS => yields_row 22 (.tmp 3) rfl w.heap.size rfl 22 (Fs 16 salt) (0, 0) _ hS Tryd.underlying22 rfl (info22F _)) ?_
    simp only [List.getElem_toArray]; (try simp only [List.getElem_cons_succ]); (try simp only [List.getElem_cons_zero]); simp only [Act.put, List.setIfInBounds_toArray]; (try simp only [List.set_cons_succ]); (try simp only [List.set_cons_zero])
    repeat (apply HeldSeq.take; (focus rfl); (focus rfl); (focus (intro W _; go_simp; (try go_bits); rfl)); simp only [List.getElem_toArray, List.getElem_cons_zero, List.getElem_cons_succ, Act.put, List.setIfInBounds_toArray, List.set_cons_zero, List.set_cons_succ])
    refine HeldSeq.take rfl rfl (fun W hS => yields_row 22 (.tmp 3) rfl w.heap.size rfl 22 (Fs 16 salt) (0, 0) _ hS Tryd.underlying22 rfl (info22F _)) ?_
    simp only [List.getElem_toArray]; (try simp only [List.getElem_cons_succ]); (try simp only [List.getElem_cons_zero]); simp only [Act.put, List.setIfInBounds_toArray]; (try simp only [List.set_cons_succ]); (try simp only [List.set_cons_zero])
    repeat (apply HeldSeq.take; (focus rfl); (focus rfl); (focus (intro W _; go_simp; (try go_bits); rfl)); simp only [List.getElem_toArray, List.getElem_cons_zero, List.getElem_cons_succ, Act.put, List.setIfInBounds_toArray, List.set_cons_zero, List.set_cons_succ])
    refine HeldSeq.run rfl rfl (fun K hK => ?_)
    go_simp
    refine (hash_any salt a w0.drew (hkey.kept hK0.drew) ha).mono ?_
    rintro r w1 ⟨rfl, hk1⟩
    have hS1 : Row w1 w.heap.size 22 16 salt := hk1.at hS0 (fun h => h)
    have hK1 : Kept (fun _ => False) w w1 := hK0.drew.trans hk1 (fun _ _ h => h)
    refine hK _ _ hS1 ?_
    clear hK hk1 hS0 hK0 K
    refine HeldSeq.run rfl rfl (fun K hK => ?_)
    go_simp
    refine (hash_any salt b w1 (hkey.kept hK1) hb).mono ?_
    rintro r w2 ⟨rfl, hk2⟩
    have hS2 : Row w2 w.heap.size 22 16 salt := hk2.at hS1 (fun h => h)
    have hK2 : Kept (fun _ => False) w w2 := hK1.trans hk2 (fun _ _ h => h)
    refine hK _ _ hS2 ?_
    clear hK hk2 hS1 hK1 K
    refine HeldSeq.run rfl rfl (fun K hK => ?_)
    go_simp
    refine (cmp32_any (iW (hashOf salt a)) (iW (hashOf salt b)) w2).mono ?_
    rintro r w' ⟨rfl, hw⟩
    replace hw := hw.symm
    subst hw
    refine hK _ _ hS2 ?_
    clear hK K
    refine HeldSeq.run rfl rfl (fun K hK => ?_)
    go_simp
    refine (cmpStr_any a b w2).mono ?_
    rintro r w' ⟨rfl, hw⟩
    replace hw := hw.symm
    subst hw
    refine hK _ _ hS2 ?_
    clear hK K
    refine HeldSeq.run rfl rfl (fun K hK => ?_)
    go_simp
    have hB : (w2.alloc (.cells #[.int .i64 (cmpI (iW (hashOf salt a)) (iW (hashOf salt b))), .int .i64 (cmpS a b)] 3)).heap[w2.heap.size]? = some (.cells #[.int .i64 (cmpI (iW (hashOf salt a)) (iW (hashOf salt b))), .int .i64 (cmpS a b)] 3 (0, 0)) := heap_alloc_new w2 _
    have hS3 : Row (w2.alloc (.cells #[.int .i64 (cmpI (iW (hashOf salt a)) (iW (hashOf salt b))), .int .i64 (cmpS a b)] 3)) w.heap.size 22 16 salt := hS2.alloc _
    have hK3 : Kept (fun _ => False) w (w2.alloc (.cells #[.int .i64 (cmpI (iW (hashOf salt a)) (iW (hashOf salt b))), .int .i64 (cmpS a b)] 3)) := hK2.alloc _
    have e0 := cell_of_row _ w2.heap.size 0 _ 3 _ hB
    have e1 := cell_of_row _ w2.heap.size 1 _ 3 _ hB
    generalize hw3 : w2.alloc (.cells #[.int .i64 (cmpI (iW (hashOf salt a)) (iW (hashOf salt b))), .int .i64 (cmpS a b)] 3) = w3 at *
    refine hK _ _ hS3 ?_
    clear hK K hw3 hB hS2 hK2
    refine HeldSeq.run rfl rfl (fun K hK => ?_)
    go_simp
    refine (or_any w2.heap.size 2 (cmpI (iW (hashOf salt a)) (iW (hashOf salt b))) (cmpS a b) w3 e0 e1).mono ?_
    rintro r w4 ⟨rfl, hk4⟩
    have hS4 : Row w4 w.heap.size 22 16 salt := hk4.at hS3 (fun h => h)
    have hK4 : Kept (fun _ => False) w w4 := hK3.trans hk4 (fun _ _ h => h)
    have hz : z = if cmpI (iW (hashOf salt a)) (iW (hashOf salt b)) = 0 then cmpS a b else cmpI (iW (hashOf salt a)) (iW (hashOf salt b)) := by
      rw [HZ.out]
      unfold orderOf
      rw [if_neg (by rw [hf]; decide)]
      rfl
    rw [← hz]
    refine hK _ _ hS4 ?_
    clear hK hk4 hS3 hK3 K hz e0 e1
    refine HeldSeq.run rfl rfl (fun K hK => ?_)
    go_simp
    refine hK _ _ hS4 ?_
    refine HeldSeq.done ?_
    go_wp2_with fail
    go_ret
    exact ⟨rfl, hK4⟩
end Go.Proofs.YtpekibadleghbaaDoor
