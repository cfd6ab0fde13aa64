/-
  The walk of the reference's Order; the order of strings.
-/
import Derived.Test.YtpekibadleghbaaDoorN23
import Derived.Test.YtpekibadleghbaaDoorN13
namespace Go.Proofs.YtpekibadleghbaaDoor
open Go.RowKit
set_option linter.unusedVariables false
set_option linter.unusedSimpArgs false
theorem bl_irr : ∀ x : List UInt8, Op.bytesLess x x = false
  | [] => rfl
  | a :: x => by
    unfold Op.bytesLess
    rw [bl_irr x]
    simp
theorem bl_trans : ∀ x y z : List UInt8, Op.bytesLess x y = true → Op.bytesLess y z = true → Op.bytesLess x z = true
  | _, [], _, h, _ => by simp [Op.bytesLess] at h
  | _, _ :: _, [], _, h => by simp [Op.bytesLess] at h
  | [], _ :: _, _ :: _, _, _ => rfl
  | a :: x, b :: y, c :: z, h, k => by
    unfold Op.bytesLess at *
    simp only [Bool.or_eq_true, Bool.and_eq_true, decide_eq_true_eq, beq_iff_eq] at *
    rcases h with h | ⟨rfl, h⟩
    · rcases k with k | ⟨rfl, k⟩
      · left; exact UInt8.lt_trans h k
      · left; exact h
    · rcases k with k | ⟨rfl, k⟩
      · left; exact k
      · right; exact ⟨rfl, bl_trans x y z h k⟩
theorem bl_tri : ∀ x y : List UInt8, x = y ∨ Op.bytesLess x y = true ∨ Op.bytesLess y x = true
  | [], [] => .inl rfl
  | [], _ :: _ => .inr (.inl rfl)
  | _ :: _, [] => .inr (.inr rfl)
  | a :: x, b :: y => by
    unfold Op.bytesLess
    simp only [Bool.or_eq_true, Bool.and_eq_true, decide_eq_true_eq, beq_iff_eq]
    by_cases h : a = b
    · subst h
      rcases bl_tri x y with h | h | h
      · left; rw [h]
      · right; left; right; exact ⟨rfl, h⟩
      · right; right; right; exact ⟨rfl, h⟩
    · have : a < b ∨ b < a := by
        have hn : a.toNat ≠ b.toNat := fun e => h (UInt8.toNat_inj.1 e)
        rcases Nat.lt_or_gt_of_ne hn with k | k
        · exact .inl (UInt8.lt_iff_toNat_lt.2 k)
        · exact .inr (UInt8.lt_iff_toNat_lt.2 k)
      rcases this with k | k
      · right; left; left; exact k
      · right; right; left; exact k
theorem toList_inj {a b : ByteArray} (h : a.toList = b.toList) : a = b := by
  rw [Lib.toList_data, Lib.toList_data] at h
  cases a; cases b
  congr 1
  exact Array.ext' h
/-- The order out of two numbers and two strings. -/
def ordV (x y : Int) (a b : ByteArray) : Int := if x < y then -1 else if y < x then 1 else cmpS a b
theorem ordV_order (salt : Nat → Byte) (a b : ByteArray) : ordV (iW (hashOf salt a)) (iW (hashOf salt b)) a b = orderOf salt a b := by
  unfold orderOf ordH
  by_cases h : (a.toList == b.toList) = true
  · rw [if_pos h]
    obtain rfl := toList_inj (by simpa using h)
    unfold ordV cmpS
    rw [if_neg (by omega), if_neg (by omega), bl_irr]
    simp
  · rw [if_neg h]
    unfold ordV cmpI
    by_cases h1 : iW (hashOf salt a) < iW (hashOf salt b)
    · rw [if_pos h1, if_pos h1, if_neg (by decide)]
    · rw [if_neg h1, if_neg h1]
      by_cases h2 : iW (hashOf salt b) < iW (hashOf salt a)
      · rw [if_pos h2, if_pos h2, if_neg (by decide)]
      · rw [if_neg h2, if_neg h2, if_pos rfl]
set_option maxRecDepth 100000 in
set_option maxHeartbeats 8000000 in
theorem refOrder_any (salt : Nat → Byte) (a b : ByteArray) (w : World) (hkey : KeysRef w) (ha : a.size ≤ 140737488351232) (hb : b.size ≤ 140737488351232) :
    Calls Tryd.prog 16 #[.agg (Fs 16 salt), .string a, .string b] w fun r w' => r = .returned (.int .i64 (orderOf salt a b)) ∧ Kept (fun _ => False) w w' := by
  obtain ⟨z, hz⟩ : ∃ z, z = orderOf salt a b := ⟨_, rfl⟩
  rw [← hz]
  rw [← ordV_order] at hz
  obtain ⟨x, hx⟩ : ∃ x, x = iW (hashOf salt a) := ⟨_, rfl⟩
  obtain ⟨y, hy⟩ : ∃ y, y = iW (hashOf salt b) := ⟨_, rfl⟩
  rw [← hx, ← hy] at hz
  have hcA := fun w hk => refHash_any salt a w hk ha
  have hcB := fun w hk => refHash_any salt b w hk hb
  rw [show W (hashOf salt a) = .int .u32 x from by rw [hx]] at hcA
  rw [show W (hashOf salt b) = .int .u32 y from by rw [hy]] at hcB
  have HA := Lib.hid hcA
  have HB := Lib.hid hcB
  have HZ := Lib.hid hz
  clear hz hx hy hcA hcB
  go_enter Tryd.func16, Tryd.ntmps16
  go_upto_region 1 with fail
  have hS0 : Row (w.alloc (.cells (Fs 16 salt) 22)) w.heap.size 22 16 salt := Row.new w 22 16 salt
  have hK0 : Kept (fun _ => False) w (w.alloc (.cells (Fs 16 salt) 22)) := (Kept.refl _ w).alloc _
  generalize hw0 : w.alloc (.cells (Fs 16 salt) 22) = w0 at *
  clear hw0
  refine region_perm (fun W => Row W w.heap.size 22 16 salt) [(0, true), (1, true), (3, true), (4, true), (2, false), (5, false), (6, false), (7, false)] (by kernel_rfl) (by kernel_rfl) (by intro c a d v w h; cases d <;> exact h) hS0 ?_
  refine HeldSeq.take rfl rfl (fun W hS => yields_row 22 (.tmp 3) rfl w.heap.size rfl 22 (Fs 16 salt) (0, 0) _ hS Tryd.underlying22 rfl (info22F _)) ?_
  simp only [List.getElem_toArray]; (try simp only [List.getElem_cons_succ]); (try simp only [List.getElem_cons_zero]); simp only [Act.put, List.setIfInBounds_toArray]; (try simp only [List.set_cons_succ]); (try simp only [List.set_cons_zero])
  repeat (apply HeldSeq.take; (focus rfl); (focus rfl); (focus (intro W _; go_simp; (try go_bits); rfl)); simp only [List.getElem_toArray, List.getElem_cons_zero, List.getElem_cons_succ, Act.put, List.setIfInBounds_toArray, List.set_cons_zero, List.set_cons_succ])
  refine HeldSeq.take rfl rfl (fun W hS => yields_row 22 (.tmp 3) rfl w.heap.size rfl 22 (Fs 16 salt) (0, 0) _ hS Tryd.underlying22 rfl (info22F _)) ?_
  simp only [List.getElem_toArray]; (try simp only [List.getElem_cons_succ]); (try simp only [List.getElem_cons_zero]); simp only [Act.put, List.setIfInBounds_toArray]; (try simp only [List.set_cons_succ]); (try simp only [List.set_cons_zero])
  repeat (apply HeldSeq.take; (focus rfl); (focus rfl); (focus (intro W _; go_simp; (try go_bits); rfl)); simp only [List.getElem_toArray, List.getElem_cons_zero, List.getElem_cons_succ, Act.put, List.setIfInBounds_toArray, List.set_cons_zero, List.set_cons_succ])
  refine HeldSeq.run rfl rfl (fun K hK => ?_)
  go_simp
  refine (HA.out w0.drew (hkey.kept hK0.drew)).mono ?_
  rintro r w1 ⟨rfl, hk1⟩
  have hS1 : Row w1 w.heap.size 22 16 salt := hk1.at hS0 (fun h => h)
  have hK1 : Kept (fun _ => False) w w1 := hK0.drew.trans hk1 (fun _ _ h => h)
  refine hK _ _ hS1 ?_
  clear hK hk1 hS0 hK0 K
  refine HeldSeq.run rfl rfl (fun K hK => ?_)
  go_simp
  refine (HB.out w1 (hkey.kept hK1)).mono ?_
  rintro r w2 ⟨rfl, hk2⟩
  have hS2 : Row w2 w.heap.size 22 16 salt := hk2.at hS1 (fun h => h)
  have hK2 : Kept (fun _ => False) w w2 := hK1.trans hk2 (fun _ _ h => h)
  refine hK _ _ hS2 ?_
  clear hK hk2 hS1 hK1 K
  refine HeldSeq.run rfl rfl (fun K hK => ?_)
  go_simp
  refine hK _ _ hS2 ?_
  clear hK K
  refine HeldSeq.run rfl rfl (fun K hK => ?_)
  go_simp
  refine hK _ _ hS2 ?_
  refine HeldSeq.done ?_
  clear hK K HA HB hS2
  by_cases h1 : x < y
  · obtain rfl : z = -1 := by rw [HZ.out]; unfold ordV; rw [if_pos h1]
    clear HZ
    go_wp2_with fail
    go_ret
    exact ⟨rfl, hK2⟩
  · by_cases h2 : y < x
    · obtain rfl : z = 1 := by rw [HZ.out]; unfold ordV; rw [if_neg h1, if_pos h2]
      have h3 : (x == y) = false := by simp; omega
      clear HZ
      go_wp2_with fail
      go_ret
      exact ⟨rfl, hK2⟩
    · obtain rfl : x = y := by omega
      cases hl : Op.bytesLess a.toList b.toList
      · cases he : a.toList == b.toList
        · obtain rfl : z = 1 := by rw [HZ.out]; unfold ordV cmpS; rw [if_neg h1, if_neg h2, hl, he]; simp
          clear HZ
          go_wp2_with fail
          go_ret
          exact ⟨rfl, hK2⟩
        · obtain rfl : z = 0 := by rw [HZ.out]; unfold ordV cmpS; rw [if_neg h1, if_neg h2, hl, he]; simp
          clear HZ
          go_wp2_with fail
          go_ret
          exact ⟨rfl, hK2⟩
      · obtain rfl : z = -1 := by rw [HZ.out]; unfold ordV cmpS; rw [if_neg h1, if_neg h2, hl]; simp
        clear HZ
        go_wp2_with fail
        go_ret
        exact ⟨rfl, hK2⟩
end Go.Proofs.YtpekibadleghbaaDoor
