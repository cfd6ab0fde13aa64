/-
  xattr.Check.
-/
import Derived.Test.YtoeohbihelfphaaX1
namespace Go.Proofs.Ytoeohbihelfphaa
open Go.RowKit
set_option linter.unusedVariables false
set_option linter.unusedSimpArgs false
theorem newX (w : World) (nm : ByteArray) (b : Option Addr) (m c : Nat) : (w.alloc (.cells #[.string nm, .slice b m c] 26)).cell? ⟨w.heap.size, 0, none⟩ = some (.string nm) ∧ (w.alloc (.cells #[.string nm, .slice b m c] 26)).cell? ⟨w.heap.size, 1, none⟩ = some (.slice b m c) := by
  constructor <;> (rw [cell_of_row _ _ _ _ 26 _ (heap_alloc_new w _)]; rfl)
set_option maxRecDepth 100000 in
set_option maxHeartbeats 4000000 in
theorem xcheck_any (a : Option Addr) (cap : Nat) (cs : List Xc) (xs : List Xa) (w : World) (h : XsAt w a cs xs) (hn : xs.length ≤ 140737488351232) (hs : ∀ i, i < xs.length → (nthA xs i).nm.size ≤ 140737488351232) (hv : ∀ i, i < xs.length → (nthA xs i).val.length ≤ 140737488351232) :
    Calls Try.prog 11 #[.slice a xs.length cap] w fun r w' => r = .returned (.int .i64 (if rightX (nthA xs) xs.length = true then 0 else 3)) ∧ Kept (fun _ => False) w w' := by
  obtain ⟨z, hz⟩ : ∃ z, z = rightX (nthA xs) xs.length := ⟨_, rfl⟩
  rw [← hz]
  obtain ⟨n, hxn⟩ : ∃ n, n = xs.length := ⟨_, rfl⟩
  have HXN := Lib.hid hxn
  rw [← hxn] at hz hn hs hv ⊢
  have HZ := Lib.hid hz
  have q3 : (n : Int) ≤ 140737488351232 := by omega
  clear hz hxn
  go_enter Try.func11, Try.ntmps11
  by_cases hbig : 4 < n
  · obtain rfl : z = false := by rw [HZ.out]; unfold rightX; rw [decide_eq_false (by omega)]; rfl
    have p1 : (4 : Int) < n := by omega
    go_wp2_with fail
    go_ret
    exact ⟨rfl, Kept.refl _ w⟩
  have p1 : ¬ (4 : Int) < n := by omega
  have HZ2 := Lib.hid (show z = xokTo (nthA xs) n by rw [HZ.out]; unfold rightX; rw [decide_eq_true (by omega)]; rfl)
  clear HZ
  go_wp2_with fail
  go_loopg [10] n (fun k i wr => ∃ j : Nat, j + k = n ∧ j ≤ n ∧ i = .int .i64 (j : Int) ∧ xokTo (nthA xs) j = true ∧ Kept (fun _ => False) w wr)
  case atStart => exact ⟨0, by omega, by omega, rfl, rfl, Kept.refl _ w⟩
  case round =>
    obtain ⟨j, hj, hj2, rfl, hok, hK⟩ := hrel
    have Hj := Lib.hid hj
    have HO := Lib.hid hok
    clear hj hok
    by_cases hlt : j < n
    · have q1 : (j : Int) < n := by omega
      have q2 : (0 : Int) ≤ j := by omega
      have hjx : j < xs.length := by rw [← HXN.out]; exact hlt
      obtain ⟨g, o, b, m, c, rfl, c0, c1, hm, _⟩ := (h.kept hK).at hjx
      have HF := Lib.hid (show xokTo (nthA xs) (j + 1) = (xokTo (nthA xs) j && (xoneB (nthA xs j).nm m && (j == 0 || ltN (nthA xs (j - 1)).nm (nthA xs j).nm))) by rw [hm]; rfl)
      have HN := Lib.hid (show (xoneB (nthA xs j).nm m && (j == 0 || ltN (nthA xs (j - 1)).nm (nthA xs j).nm)) = false → xokTo (nthA xs) n = false by rw [hm]; exact fun h => xokTo_false (nthA xs) j h n hlt)
      have hm1 : m ≤ 140737488351232 := by rw [hm]; exact hv j hlt
      have hs1 := hs j hlt
      have HP := Lib.hid (show j ≠ 0 → wr.cell? ⟨g, o + (j - 1) * 2, none⟩ = some (.string (nthA xs (j - 1)).nm) by
        intro h0
        obtain ⟨g', o', _, _, _, e, d0, _⟩ := (h.kept hK).at (i := j - 1) (by omega)
        obtain ⟨rfl, rfl⟩ : g = g' ∧ o = o' := by simpa using e
        exact d0)
      obtain ⟨nm, hnm⟩ : ∃ nm, nm = (nthA xs j).nm := ⟨_, rfl⟩
      obtain ⟨pn, hpn⟩ : ∃ pn, pn = (nthA xs (j - 1)).nm := ⟨_, rfl⟩
      replace HF := Lib.hid (by have := HF.out; rw [← hnm, ← hpn] at this; exact this)
      replace HN := Lib.hid (by have := HN.out; rw [← hnm, ← hpn] at this; exact this)
      replace HP := Lib.hid (by have := HP.out; rw [← hpn] at this; exact this)
      rw [← hnm] at c0 hs1
      clear hnm hpn hm
      go_upto_region 6 with fail
      obtain ⟨d0, d1⟩ := newX wr nm b m c
      have hK6 : Kept (fun _ => False) w (wr.alloc (.cells #[.string nm, .slice b m c] 26)) := hK.alloc _
      have hp6 : j ≠ 0 → (wr.alloc (.cells #[.string nm, .slice b m c] 26)).cell? ⟨g, o + (j - 1) * 2, none⟩ = some (.string pn) := fun h0 => ((Kept.refl (fun _ => False) wr).alloc _).cell (HP.out h0)
      have HP6 := Lib.hid hp6
      clear hp6
      generalize (wr.alloc (.cells #[.string nm, .slice b m c] 26)) = w6 at *
      generalize wr.heap.size = gx at *
      clear hK c0 c1 HP
      cases h1 : xoneB nm m
      · obtain rfl : z = false := by rw [HZ2.out]; exact HN.out (by rw [h1]; rfl)
        have HONE := Lib.hid (show ∀ W, Calls Try.prog 20 #[.string nm, .slice b m c] W (fun r w' => r = .returned (.bool false) ∧ W = w') by
          intro W; have := xone_any nm b m c W hs1 hm1; rw [h1] at this; exact this)
        clear h1 hs1 hm1
        refine region_perm (fun W => W.cell? ⟨gx, 0, none⟩ = some (.string nm) ∧ W.cell? ⟨gx, 1, none⟩ = some (.slice b m c)) [(0, true), (1, true), (2, true), (3, true), (4, false), (5, true), (6, true), (7, true), (8, true), (9, true), (10, true), (11, true), (12, true), (13, true), (14, true), (15, true), (16, true), (17, true), (18, true), (19, true), (20, true)] (by kernel_rfl) (by kernel_rfl) (by intro c a d v w h; cases d <;> exact h) ⟨d0, d1⟩ ?_
        repeat (first | (apply HeldSeq.take; (focus rfl); (focus rfl); (focus (intro W hS; obtain ⟨e0, e1⟩ := hS; go_simp; (try go_bits); rfl)); simp only [List.getElem_toArray]; (try simp only [List.getElem_cons_succ]); (try simp only [List.getElem_cons_zero]); simp only [Act.put, List.setIfInBounds_toArray]; (try simp only [List.set_cons_succ]); (try simp only [List.set_cons_zero])) | (apply HeldSeq.skip; (focus rfl); (focus rfl); simp only [List.getElem_toArray]; (try simp only [List.getElem_cons_succ]); (try simp only [List.getElem_cons_zero]); simp only [Act.put, List.setIfInBounds_toArray]; (try simp only [List.set_cons_succ]); (try simp only [List.set_cons_zero])))
        refine HeldSeq.run rfl rfl (fun K hK => ?_)
        go_simp
        refine (HONE.out w6.drew).mono ?_
        rintro r w7 ⟨rfl, rfl⟩
        refine hK _ _ ⟨d0, d1⟩ ?_
        clear hK K
        repeat (first | (apply HeldSeq.take; (focus rfl); (focus rfl); (focus (intro W hS; obtain ⟨e0, e1⟩ := hS; go_simp; (try go_bits); rfl)); simp only [List.getElem_toArray]; (try simp only [List.getElem_cons_succ]); (try simp only [List.getElem_cons_zero]); simp only [Act.put, List.setIfInBounds_toArray]; (try simp only [List.set_cons_succ]); (try simp only [List.set_cons_zero])) | (apply HeldSeq.skip; (focus rfl); (focus rfl); simp only [List.getElem_toArray]; (try simp only [List.getElem_cons_succ]); (try simp only [List.getElem_cons_zero]); simp only [Act.put, List.setIfInBounds_toArray]; (try simp only [List.set_cons_succ]); (try simp only [List.set_cons_zero])))
        refine HeldSeq.done ?_
        go_wp2_with fail
        go_ret
        exact ⟨rfl, hK6.drew⟩
      · have HONE := Lib.hid (show ∀ W, Calls Try.prog 20 #[.string nm, .slice b m c] W (fun r w' => r = .returned (.bool true) ∧ W = w') by
          intro W; have := xone_any nm b m c W hs1 hm1; rw [h1] at this; exact this)
        have H1 := Lib.hid h1
        clear h1 hs1 hm1
        by_cases hj0 : j = 0
        · subst hj0
          have HOK := Lib.hid (show xokTo (nthA xs) (0 + 1) = true by rw [HF.out, HO.out, H1.out]; rfl)
          refine region_perm (fun W => W.cell? ⟨gx, 0, none⟩ = some (.string nm) ∧ W.cell? ⟨gx, 1, none⟩ = some (.slice b m c)) [(0, true), (1, true), (2, true), (3, true), (4, false), (5, true), (6, true), (7, true), (8, true), (9, true), (10, true), (11, true), (12, true), (13, true), (14, true), (15, true), (16, true), (17, true), (18, true), (19, true), (20, true)] (by kernel_rfl) (by kernel_rfl) (by intro c a d v w h; cases d <;> exact h) ⟨d0, d1⟩ ?_
          repeat (first | (apply HeldSeq.take; (focus rfl); (focus rfl); (focus (intro W hS; obtain ⟨e0, e1⟩ := hS; go_simp; (try go_bits); rfl)); simp only [List.getElem_toArray]; (try simp only [List.getElem_cons_succ]); (try simp only [List.getElem_cons_zero]); simp only [Act.put, List.setIfInBounds_toArray]; (try simp only [List.set_cons_succ]); (try simp only [List.set_cons_zero])) | (apply HeldSeq.skip; (focus rfl); (focus rfl); simp only [List.getElem_toArray]; (try simp only [List.getElem_cons_succ]); (try simp only [List.getElem_cons_zero]); simp only [Act.put, List.setIfInBounds_toArray]; (try simp only [List.set_cons_succ]); (try simp only [List.set_cons_zero])))
          refine HeldSeq.run rfl rfl (fun K hK => ?_)
          go_simp
          refine (HONE.out w6.drew).mono ?_
          rintro r w7 ⟨rfl, rfl⟩
          refine hK _ _ ⟨d0, d1⟩ ?_
          clear hK K
          repeat (first | (apply HeldSeq.take; (focus rfl); (focus rfl); (focus (intro W hS; obtain ⟨e0, e1⟩ := hS; go_simp; (try go_bits); rfl)); simp only [List.getElem_toArray]; (try simp only [List.getElem_cons_succ]); (try simp only [List.getElem_cons_zero]); simp only [Act.put, List.setIfInBounds_toArray]; (try simp only [List.set_cons_succ]); (try simp only [List.set_cons_zero])) | (apply HeldSeq.skip; (focus rfl); (focus rfl); simp only [List.getElem_toArray]; (try simp only [List.getElem_cons_succ]); (try simp only [List.getElem_cons_zero]); simp only [Act.put, List.setIfInBounds_toArray]; (try simp only [List.set_cons_succ]); (try simp only [List.set_cons_zero])))
          refine HeldSeq.done ?_
          go_wp2_with fail
          go_roundg (gk - 1)
          case measure => have := Hj.out; omega
          case rel => have := Hj.out; exact ⟨0 + 1, by omega, by omega, by go_num, HOK.out, hK6.drew⟩
        · have hp := HP6.out hj0
          have p2 : (0 : Int) < j := by omega
          have p3 : (1 : Int) ≤ j := by omega
          have p4 : ((j : Int) - 1).toNat = j - 1 := by omega
          have p5 : (j : Int) - 1 < n := by omega
          have p6 : j - 1 < n := by omega
          have p7 : 1 ≤ j := by omega
          have p9 : 0 < j := by omega
          have p8 : (0 : Int) ≤ (j : Int) - 1 := by omega
          cases hl : ltN pn nm
          · obtain rfl : z = false := by rw [HZ2.out]; exact HN.out (by rw [hl]; simp [hj0])
            have hge : Op.bytesLess pn.toList nm.toList = false := hl
            clear hl HN HF
            refine region_perm (fun W => W.cell? ⟨gx, 0, none⟩ = some (.string nm) ∧ W.cell? ⟨gx, 1, none⟩ = some (.slice b m c) ∧ W.cell? ⟨g, o + (j - 1) * 2, none⟩ = some (.string pn)) [(0, true), (1, true), (2, true), (3, true), (4, false), (5, true), (6, true), (7, true), (8, true), (9, true), (10, true), (11, true), (12, true), (13, true), (14, true), (15, true), (16, true), (17, true), (18, true), (19, true), (20, true)] (by kernel_rfl) (by kernel_rfl) (by intro c a d v w h; cases d <;> exact h) ⟨d0, d1, hp⟩ ?_
            repeat (first | (apply HeldSeq.take; (focus rfl); (focus rfl); (focus (intro W hS; obtain ⟨e0, e1, e2⟩ := hS; go_simp; (try go_bits); rfl)); simp only [List.getElem_toArray]; (try simp only [List.getElem_cons_succ]); (try simp only [List.getElem_cons_zero]); simp only [Act.put, List.setIfInBounds_toArray]; (try simp only [List.set_cons_succ]); (try simp only [List.set_cons_zero])) | (apply HeldSeq.skip; (focus rfl); (focus rfl); simp only [List.getElem_toArray]; (try simp only [List.getElem_cons_succ]); (try simp only [List.getElem_cons_zero]); simp only [Act.put, List.setIfInBounds_toArray]; (try simp only [List.set_cons_succ]); (try simp only [List.set_cons_zero])))
            refine HeldSeq.run rfl rfl (fun K hK => ?_)
            go_simp
            refine (HONE.out w6.drew).mono ?_
            rintro r w7 ⟨rfl, rfl⟩
            refine hK _ _ ⟨d0, d1, hp⟩ ?_
            clear hK K
            repeat (first | (apply HeldSeq.take; (focus rfl); (focus rfl); (focus (intro W hS; obtain ⟨e0, e1, e2⟩ := hS; go_simp; (try go_bits); rfl)); simp only [List.getElem_toArray]; (try simp only [List.getElem_cons_succ]); (try simp only [List.getElem_cons_zero]); simp only [Act.put, List.setIfInBounds_toArray]; (try simp only [List.set_cons_succ]); (try simp only [List.set_cons_zero])) | (apply HeldSeq.skip; (focus rfl); (focus rfl); simp only [List.getElem_toArray]; (try simp only [List.getElem_cons_succ]); (try simp only [List.getElem_cons_zero]); simp only [Act.put, List.setIfInBounds_toArray]; (try simp only [List.set_cons_succ]); (try simp only [List.set_cons_zero])))
            refine HeldSeq.done ?_
            go_wp2_with fail
            go_ret
            exact ⟨rfl, hK6.drew⟩
          · have HOK := Lib.hid (show xokTo (nthA xs) (j + 1) = true by rw [HF.out, HO.out, H1.out, hl]; simp)
            have hge : Op.bytesLess pn.toList nm.toList = true := hl
            clear hl HN HF
            refine region_perm (fun W => W.cell? ⟨gx, 0, none⟩ = some (.string nm) ∧ W.cell? ⟨gx, 1, none⟩ = some (.slice b m c) ∧ W.cell? ⟨g, o + (j - 1) * 2, none⟩ = some (.string pn)) [(0, true), (1, true), (2, true), (3, true), (4, false), (5, true), (6, true), (7, true), (8, true), (9, true), (10, true), (11, true), (12, true), (13, true), (14, true), (15, true), (16, true), (17, true), (18, true), (19, true), (20, true)] (by kernel_rfl) (by kernel_rfl) (by intro c a d v w h; cases d <;> exact h) ⟨d0, d1, hp⟩ ?_
            repeat (first | (apply HeldSeq.take; (focus rfl); (focus rfl); (focus (intro W hS; obtain ⟨e0, e1, e2⟩ := hS; go_simp; (try go_bits); rfl)); simp only [List.getElem_toArray]; (try simp only [List.getElem_cons_succ]); (try simp only [List.getElem_cons_zero]); simp only [Act.put, List.setIfInBounds_toArray]; (try simp only [List.set_cons_succ]); (try simp only [List.set_cons_zero])) | (apply HeldSeq.skip; (focus rfl); (focus rfl); simp only [List.getElem_toArray]; (try simp only [List.getElem_cons_succ]); (try simp only [List.getElem_cons_zero]); simp only [Act.put, List.setIfInBounds_toArray]; (try simp only [List.set_cons_succ]); (try simp only [List.set_cons_zero])))
            refine HeldSeq.run rfl rfl (fun K hK => ?_)
            go_simp
            refine (HONE.out w6.drew).mono ?_
            rintro r w7 ⟨rfl, rfl⟩
            refine hK _ _ ⟨d0, d1, hp⟩ ?_
            clear hK K
            repeat (first | (apply HeldSeq.take; (focus rfl); (focus rfl); (focus (intro W hS; obtain ⟨e0, e1, e2⟩ := hS; go_simp; (try go_bits); rfl)); simp only [List.getElem_toArray]; (try simp only [List.getElem_cons_succ]); (try simp only [List.getElem_cons_zero]); simp only [Act.put, List.setIfInBounds_toArray]; (try simp only [List.set_cons_succ]); (try simp only [List.set_cons_zero])) | (apply HeldSeq.skip; (focus rfl); (focus rfl); simp only [List.getElem_toArray]; (try simp only [List.getElem_cons_succ]); (try simp only [List.getElem_cons_zero]); simp only [Act.put, List.setIfInBounds_toArray]; (try simp only [List.set_cons_succ]); (try simp only [List.set_cons_zero])))
            refine HeldSeq.done ?_
            go_wp2_with fail
            go_roundg (gk - 1)
            case measure => have := Hj.out; omega
            case rel => have := Hj.out; exact ⟨j + 1, by omega, by omega, by go_num, HOK.out, hK6.drew⟩
    · obtain rfl : n = j := by omega
      have q1 : ¬ (n : Int) < n := by omega
      obtain rfl : z = true := by rw [HZ2.out]; exact HO.out
      go_wp2_with fail
      go_ret
      exact ⟨rfl, hK⟩
end Go.Proofs.Ytoeohbihelfphaa
