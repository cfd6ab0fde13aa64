/-
  The walk of the law NamesOrders.
-/
import Derived.Test.YtpekibadleghbaaDoorN26
namespace Go.Proofs.YtpekibadleghbaaDoor
open Go.RowKit
set_option linter.unusedVariables false
set_option linter.unusedSimpArgs false
theorem bl_asymm (x y : List UInt8) (h : Op.bytesLess x y = true) : Op.bytesLess y x = false := by
  cases k : Op.bytesLess y x
  · rfl
  · have := bl_trans x y x h k
    rw [bl_irr] at this
    cases this
theorem cmpS_neg (a b : ByteArray) : cmpS b a = - cmpS a b := by
  unfold cmpS
  rcases bl_tri a.toList b.toList with h | h | h
  · rw [h, bl_irr]; simp
  · have h2 := bl_asymm _ _ h
    have h3 : (b.toList == a.toList) = false := by
      cases k : b.toList == a.toList
      · rfl
      · have : b.toList = a.toList := by simpa using k
        rw [this, bl_irr] at h; cases h
    rw [h, h2, h3]; simp
  · have h2 := bl_asymm _ _ h
    have h3 : (a.toList == b.toList) = false := by
      cases k : a.toList == b.toList
      · rfl
      · have : a.toList = b.toList := by simpa using k
        rw [this, bl_irr] at h; cases h
    rw [h, h2, h3]; simp
theorem ordV_neg (x y : Int) (a b : ByteArray) : ordV y x b a = - ordV x y a b := by
  unfold ordV
  by_cases h1 : x < y
  · rw [if_pos h1, if_neg (by omega), if_pos h1]; rfl
  · rw [if_neg h1]
    by_cases h2 : y < x
    · rw [if_pos h2, if_neg h1, if_pos h2]
    · rw [if_neg h2, if_neg h1, if_neg h2, cmpS_neg]
theorem cmpS_le (a b : ByteArray) (h : cmpS a b ≤ 0) : Op.bytesLess b.toList a.toList = false := by
  unfold cmpS at h
  cases k : Op.bytesLess b.toList a.toList
  · rfl
  · have h2 := bl_asymm _ _ k
    have h3 : (a.toList == b.toList) = false := by
      cases k2 : a.toList == b.toList
      · rfl
      · have : a.toList = b.toList := by simpa using k2
        rw [this, bl_irr] at k; cases k
    rw [h2, h3] at h
    simp at h
theorem le_cmpS (a b : ByteArray) (h : Op.bytesLess b.toList a.toList = false) : cmpS a b ≤ 0 := by
  unfold cmpS
  rcases bl_tri a.toList b.toList with k | k | k
  · rw [k, bl_irr]; simp
  · rw [k]; simp
  · rw [k] at h; cases h
theorem bl_le_trans (x y z : List UInt8) (h : Op.bytesLess y x = false) (k : Op.bytesLess z y = false) : Op.bytesLess z x = false := by
  cases e : Op.bytesLess z x
  · rfl
  · rcases bl_tri x y with h1 | h1 | h1
    · rw [h1] at e; rw [k] at e; cases e
    · rw [bl_trans z x y e h1] at k; cases k
    · rw [h1] at h; cases h
theorem ordV_trans (x y z : Int) (a b c : ByteArray) (h : ordV x y a b ≤ 0) (k : ordV y z b c ≤ 0) : ordV x z a c ≤ 0 := by
  unfold ordV at *
  by_cases h1 : x < y
  · by_cases h2 : y < z
    · rw [if_pos (by omega)]; omega
    · rw [if_neg h2] at k
      by_cases h3 : z < y
      · rw [if_pos h3] at k; omega
      · rw [if_pos (by omega)]; omega
  · rw [if_neg h1] at h
    by_cases h2 : y < x
    · rw [if_pos h2] at h; omega
    · rw [if_neg h2] at h
      by_cases h3 : y < z
      · rw [if_pos (by omega)]; omega
      · rw [if_neg h3] at k
        by_cases h4 : z < y
        · rw [if_pos h4] at k; omega
        · rw [if_neg h4] at k
          rw [if_neg (by omega), if_neg (by omega)]
          exact le_cmpS _ _ (bl_le_trans _ _ _ (cmpS_le _ _ h) (cmpS_le _ _ k))
theorem ordV_range (x y : Int) (a b : ByteArray) : ordV x y a b = -1 ∨ ordV x y a b = 0 ∨ ordV x y a b = 1 := by
  unfold ordV cmpS
  repeat' split
  all_goals simp
theorem ord_neg (salt : Nat → Byte) (a b : ByteArray) : orderOf salt b a = - orderOf salt a b := by
  rw [← ordV_order, ← ordV_order, ordV_neg]
theorem ord_trans (salt : Nat → Byte) (a b c : ByteArray) (h : orderOf salt a b ≤ 0) (k : orderOf salt b c ≤ 0) : orderOf salt a c ≤ 0 := by
  rw [← ordV_order] at *
  exact ordV_trans _ _ _ _ _ _ h k
theorem ord_trans_ge (salt : Nat → Byte) (a b c : ByteArray) (h : 0 ≤ orderOf salt a b) (k : 0 ≤ orderOf salt b c) : 0 ≤ orderOf salt a c := by
  have h1 := ord_neg salt a b
  have h2 := ord_neg salt b c
  have h3 := ord_neg salt a c
  have := ord_trans salt c b a (by omega) (by omega)
  omega
theorem ord_range (salt : Nat → Byte) (a b : ByteArray) : orderOf salt a b = -1 ∨ orderOf salt a b = 0 ∨ orderOf salt a b = 1 := by
  rw [← ordV_order]; exact ordV_range _ _ _ _
theorem ord_zero (salt : Nat → Byte) (a b : ByteArray) : (a.toList == b.toList) = (orderOf salt a b == 0) := by
  cases h : a.toList == b.toList
  · have hc : cmpS a b ≠ 0 := by
      unfold cmpS
      rw [h]
      split <;> simp
    rw [← ordV_order]
    unfold ordV
    repeat' split
    all_goals simp [hc]
  · unfold orderOf
    rw [if_pos h]
    rfl
set_option maxRecDepth 100000 in
set_option maxHeartbeats 16000000 in
theorem namesOrders_any (salt : Nat → Byte) (a b c : ByteArray) (w : World) (hk : KeysAt w) (hr : KeysRef w) (ha : a.size ≤ 140737488351232) (hb : b.size ≤ 140737488351232) (hc : c.size ≤ 140737488351232) :
    Calls Tryd.prog 5 #[.agg (Fs 16 salt), .string a, .string b, .string c] w fun e w' => e = .returned (.bool true) ∧ Kept (fun _ => False) w w' := by
  obtain ⟨p, hp⟩ : ∃ p, p = orderOf salt a b := ⟨_, rfl⟩
  obtain ⟨q, hq⟩ : ∃ q, q = orderOf salt b c := ⟨_, rfl⟩
  obtain ⟨r, hrr⟩ : ∃ r, r = orderOf salt a c := ⟨_, rfl⟩
  have hz := ord_zero salt a b
  have hpr := ord_range salt a b
  have hqr := ord_range salt b c
  have t1 := ord_trans salt a b c
  have t2 := ord_trans_ge salt a b c
  have c1 := fun w hk => order_any salt a b w hk ha hb
  have c2 := fun w hk => order_any salt b c w hk hb hc
  have c3 := fun w hk => order_any salt a c w hk ha hc
  have c4 := fun w hk => order_any salt b a w hk hb ha
  rw [ord_neg salt a b] at c4
  rw [← hp] at hz hpr t1 t2 c1 c4
  rw [← hq] at hqr t1 t2 c2
  rw [← hrr] at t1 t2 c3
  have Z := Lib.hid hz
  have T1 := Lib.hid t1
  have T2 := Lib.hid t2
  have PR := Lib.hid hpr
  have QR := Lib.hid hqr
  have C1 := Lib.hid c1
  have C2 := Lib.hid c2
  have C3 := Lib.hid c3
  have C4 := Lib.hid c4
  clear hz t1 t2 hpr hqr c1 c2 c3 c4 hp hq hrr
  go_enter Tryd.func5, Tryd.ntmps5
  go_upto_region 1 with fail
  have hS0 : Row (w.alloc (.cells (Fs 16 salt) 22)) w.heap.size 22 16 salt := Row.new w 22 16 salt
  have hK0 : Kept (fun _ => False) w (w.alloc (.cells (Fs 16 salt) 22)) := (Kept.refl _ w).alloc _
  generalize hw0 : w.alloc (.cells (Fs 16 salt) 22) = w0 at *
  clear hw0
  refine region_perm (fun W => Row W w.heap.size 22 16 salt) [(0, true), (1, true), (2, true), (4, true), (5, true), (6, true), (8, true), (9, true), (10, true), (3, false), (7, false), (11, false), (12, true), (13, true), (14, true)] (by kernel_rfl) (by kernel_rfl) (by intro c a d v w h; cases d <;> exact h) hS0 ?_
  refine HeldSeq.take rfl rfl (fun W hS => yields_row 22 (.tmp 4) rfl w.heap.size rfl 22 (Fs 16 salt) (0, 0) _ hS Tryd.underlying22 rfl (info22F _)) ?_
  simp only [List.getElem_toArray]; (try simp only [List.getElem_cons_succ]); (try simp only [List.getElem_cons_zero]); simp only [Act.put, List.setIfInBounds_toArray]; (try simp only [List.set_cons_succ]); (try simp only [List.set_cons_zero])
  repeat (apply HeldSeq.take; (focus rfl); (focus rfl); (focus (intro W _; go_simp; (try go_bits); rfl)); simp only [List.getElem_toArray, List.getElem_cons_zero, List.getElem_cons_succ, Act.put, List.setIfInBounds_toArray, List.set_cons_zero, List.set_cons_succ])
  refine HeldSeq.take rfl rfl (fun W hS => yields_row 22 (.tmp 4) rfl w.heap.size rfl 22 (Fs 16 salt) (0, 0) _ hS Tryd.underlying22 rfl (info22F _)) ?_
  simp only [List.getElem_toArray]; (try simp only [List.getElem_cons_succ]); (try simp only [List.getElem_cons_zero]); simp only [Act.put, List.setIfInBounds_toArray]; (try simp only [List.set_cons_succ]); (try simp only [List.set_cons_zero])
  repeat (apply HeldSeq.take; (focus rfl); (focus rfl); (focus (intro W _; go_simp; (try go_bits); rfl)); simp only [List.getElem_toArray, List.getElem_cons_zero, List.getElem_cons_succ, Act.put, List.setIfInBounds_toArray, List.set_cons_zero, List.set_cons_succ])
  refine HeldSeq.take rfl rfl (fun W hS => yields_row 22 (.tmp 4) rfl w.heap.size rfl 22 (Fs 16 salt) (0, 0) _ hS Tryd.underlying22 rfl (info22F _)) ?_
  simp only [List.getElem_toArray]; (try simp only [List.getElem_cons_succ]); (try simp only [List.getElem_cons_zero]); simp only [Act.put, List.setIfInBounds_toArray]; (try simp only [List.set_cons_succ]); (try simp only [List.set_cons_zero])
  repeat (apply HeldSeq.take; (focus rfl); (focus rfl); (focus (intro W _; go_simp; (try go_bits); rfl)); simp only [List.getElem_toArray, List.getElem_cons_zero, List.getElem_cons_succ, Act.put, List.setIfInBounds_toArray, List.set_cons_zero, List.set_cons_succ])
  refine HeldSeq.run rfl rfl (fun K hK => ?_)
  go_simp
  refine (C1.out w0.drew (hk.kept hK0.drew)).mono ?_
  rintro r1 w1 ⟨rfl, k1⟩
  have hS1 : Row w1 w.heap.size 22 16 salt := k1.at hS0 (fun h => h)
  have hK1 : Kept (fun _ => False) w w1 := hK0.drew.trans k1 (fun _ _ h => h)
  refine hK _ _ hS1 ?_
  clear hK k1 hS0 hK0 K
  refine HeldSeq.run rfl rfl (fun K hK => ?_)
  go_simp
  refine (C2.out w1 (hk.kept hK1)).mono ?_
  rintro r2 w2 ⟨rfl, k2⟩
  have hS2 : Row w2 w.heap.size 22 16 salt := k2.at hS1 (fun h => h)
  have hK2 : Kept (fun _ => False) w w2 := hK1.trans k2 (fun _ _ h => h)
  refine hK _ _ hS2 ?_
  clear hK k2 hS1 hK1 K
  refine HeldSeq.run rfl rfl (fun K hK => ?_)
  go_simp
  refine (C3.out w2 (hk.kept hK2)).mono ?_
  rintro r3 w3 ⟨rfl, k3⟩
  have hS3 : Row w3 w.heap.size 22 16 salt := k3.at hS2 (fun h => h)
  have hK3 : Kept (fun _ => False) w w3 := hK2.trans k3 (fun _ _ h => h)
  refine hK _ _ hS3 ?_
  clear hK k3 hS2 hK2 K
  repeat (apply HeldSeq.take; (focus rfl); (focus rfl); (focus (intro W _; go_simp; (try go_bits); rfl)); simp only [List.getElem_toArray, List.getElem_cons_zero, List.getElem_cons_succ, Act.put, List.setIfInBounds_toArray, List.set_cons_zero, List.set_cons_succ])
  refine HeldSeq.done ?_
  go_wp2_with fail
  refine (namesFixed_any _ (hk.kept hK3) (hr.kept hK3)).mono ?_
  rintro r4 w4 ⟨rfl, k4⟩
  have hS4 : Row w4 w.heap.size 22 16 salt := k4.at hS3 (fun h => h)
  have hK4 : Kept (fun _ => False) w w4 := hK3.trans k4 (fun _ _ h => h)
  clear k4 hS3 hK3
  go_wp2_with (first | (refine load_row_g rfl 22 (.tmp 4) rfl w.heap.size rfl 22 (Fs 16 salt) (0, 0) _ hS4 Tryd.underlying22 rfl (info22F _) ?_))
  refine (C4.out _ (hk.kept hK4)).mono ?_
  rintro r5 w5 ⟨rfl, k5⟩
  have hK5 : Kept (fun _ => False) w w5 := hK4.trans k5 (fun _ _ h => h)
  clear k5 hS4 hK4 C1 C2 C3 C4
  have z := Z.out
  have t1 := T1.out
  have t2 := T2.out
  have hpc := PR.out
  have hqc := QR.out
  clear Z T1 T2 PR QR
  rcases hpc with rfl | rfl | rfl
  · replace z : (a.toList == b.toList) = false := z
    rcases hqc with rfl | rfl | rfl
    · have h1 : ¬ 0 < r := by have := t1 (by omega) (by omega); omega
      clear t1 t2
      go_wp2_with fail
      go_ret
      exact ⟨by first | rfl | (simp; done) | (simp; omega), hK5⟩
    · have h1 : ¬ 0 < r := by have := t1 (by omega) (by omega); omega
      clear t1 t2
      go_wp2_with fail
      go_ret
      exact ⟨by first | rfl | (simp; done) | (simp; omega), hK5⟩
    · clear t1 t2
      go_wp2_with fail
      go_ret
      exact ⟨by first | rfl | (simp; done) | (simp; omega), hK5⟩
  · replace z : (a.toList == b.toList) = true := z
    rcases hqc with rfl | rfl | rfl
    · have h1 : ¬ 0 < r := by have := t1 (by omega) (by omega); omega
      clear t1 t2
      go_wp2_with fail
      go_ret
      exact ⟨by first | rfl | (simp; done) | (simp; omega), hK5⟩
    · have h1 : ¬ 0 < r := by have := t1 (by omega) (by omega); omega
      have h2 : ¬ r < 0 := by have := t2 (by omega) (by omega); omega
      clear t1 t2
      go_wp2_with fail
      go_ret
      exact ⟨by first | rfl | (simp; done) | (simp; omega), hK5⟩
    · have h2 : ¬ r < 0 := by have := t2 (by omega) (by omega); omega
      clear t1 t2
      go_wp2_with fail
      go_ret
      exact ⟨by first | rfl | (simp; done) | (simp; omega), hK5⟩
  · replace z : (a.toList == b.toList) = false := z
    rcases hqc with rfl | rfl | rfl
    · clear t1 t2
      go_wp2_with fail
      go_ret
      exact ⟨by first | rfl | (simp; done) | (simp; omega), hK5⟩
    · have h2 : ¬ r < 0 := by have := t2 (by omega) (by omega); omega
      clear t1 t2
      go_wp2_with fail
      go_ret
      exact ⟨by first | rfl | (simp; done) | (simp; omega), hK5⟩
    · have h2 : ¬ r < 0 := by have := t2 (by omega) (by omega); omega
      clear t1 t2
      go_wp2_with fail
      go_ret
      exact ⟨by first | rfl | (simp; done) | (simp; omega), hK5⟩
end Go.Proofs.YtpekibadleghbaaDoor
