/-
  The reference's One and Right of attributes.
-/
import Derived.Test.YtoeohbihelfphaaX13
import Derived.Lib.IndexLaws
namespace Go.Proofs.Ytoeohbihelfphaa
open Go.RowKit
set_option linter.unusedVariables false
set_option linter.unusedSimpArgs false
theorem noNul {s : ByteArray} (h : ∀ m, m < s.size → s.data.toList[m]? ≠ some 0) : decide (0 ≤ Lib.indexByte s.data.toList 0) = false := by
  rw [decide_eq_false_iff_not]
  intro h0
  obtain ⟨o, ho⟩ : ∃ o : Nat, Lib.indexByte s.data.toList 0 = (o : Int) := ⟨(Lib.indexByte s.data.toList 0).toNat, by omega⟩
  have h1 := (Lib.indexByte_some ho).1
  have h2 : o < s.size := by
    have := (List.getElem?_eq_some_iff.1 h1).1
    simpa using this
  exact h o h2 h1
theorem hasNul {s : ByteArray} {m : Nat} (h : s.data.toList[m]? = some 0) : decide (0 ≤ Lib.indexByte s.data.toList 0) = true := by
  rw [decide_eq_true_eq]
  have h1 := Lib.indexByte_ge s.data.toList 0
  by_cases e : Lib.indexByte s.data.toList 0 = -1
  · exact absurd h (Lib.indexByte_none e m)
  · omega
set_option maxRecDepth 100000 in
set_option maxHeartbeats 4000000 in
theorem xrefOne_any (nm : ByteArray) (a : Option Addr) (n c : Nat) (w : World) (h1 : nm.size ≤ 140737488351232) (h2 : n ≤ 140737488351232) :
    Calls Try.prog 23 #[.string nm, .slice a n c] w fun r w' => r = .returned (.bool (xoneB nm n)) ∧ w = w' := by
  have q1 : (nm.size : Int) ≤ 140737488351232 := by omega
  have q2 : (n : Int) ≤ 140737488351232 := by omega
  have HZ := Lib.hid (show xoneB nm n = (decide (1 ≤ nm.size) && decide (nm.size ≤ 12) && !decide (0 ≤ Lib.indexByte nm.data.toList 0) && decide (n ≤ 40)) from rfl)
  go_enter Try.func23, Try.ntmps23
  by_cases c1 : nm.size < 1
  · have e1 : (nm.size : Int) < 1 := by omega
    have HR := Lib.hid (show xoneB nm n = false by rw [HZ.out, decide_eq_false (show ¬ 1 ≤ nm.size by omega)]; simp)
    clear HZ c1
    go_wp2_with fail
    go_ret
    exact ⟨by rw [HR.out]; rfl, rfl⟩
  have e1 : ¬ (nm.size : Int) < 1 := by omega
  by_cases c2 : 12 < nm.size
  · have e2 : (12 : Int) < nm.size := by omega
    have HR := Lib.hid (show xoneB nm n = false by rw [HZ.out, decide_eq_false (show ¬ nm.size ≤ 12 by omega)]; simp)
    clear HZ c1 c2
    go_wp2_with fail
    go_ret
    exact ⟨by rw [HR.out]; rfl, rfl⟩
  have e2 : ¬ (12 : Int) < nm.size := by omega
  by_cases c3 : 40 < n
  · have e3 : (40 : Int) < n := by omega
    have HR := Lib.hid (show xoneB nm n = false by rw [HZ.out, decide_eq_false (show ¬ n ≤ 40 by omega)]; simp)
    clear HZ c1 c2 c3
    go_wp2_with fail
    go_ret
    exact ⟨by rw [HR.out]; rfl, rfl⟩
  have e3 : ¬ (40 : Int) < n := by omega
  have HR := Lib.hid (show xoneB nm n = !decide (0 ≤ Lib.indexByte nm.data.toList 0) by rw [HZ.out, decide_eq_true (show 1 ≤ nm.size by omega), decide_eq_true (show nm.size ≤ 12 by omega), decide_eq_true (show n ≤ 40 by omega)]; simp)
  have c4 : nm.size ≤ 12 := by omega
  clear HZ c1 c2 c3
  go_wp2_with fail
  go_loopg [5] nm.size (fun k i wr => ∃ j : Nat, j + k = nm.size ∧ j ≤ nm.size ∧ i = .int .i64 (j : Int) ∧ (∀ m, m < j → nm.data.toList[m]? ≠ some 0) ∧ wr = w)
  case atStart => exact ⟨0, by omega, by omega, rfl, fun m hm => by omega, rfl⟩
  case round =>
    obtain ⟨j, hj, hj2, rfl, hno, hw⟩ := hrel
    replace hw := hw.symm
    subst hw
    have Hj := Lib.hid hj
    have HN := Lib.hid hno
    clear hj hno
    by_cases hlt : j < nm.size
    · have p1 : (j : Int) < nm.size := by omega
      have p2 : (0 : Int) ≤ j := by omega
      have hb : nm.data.toList[j]? = some (nm[j]'hlt) := by
        rw [List.getElem?_eq_some_iff]
        exact ⟨by simpa using hlt, rfl⟩
      have HB := Lib.hid hb
      clear hb
      by_cases hz : nm[j]'hlt = 0
      · have HF := Lib.hid (show xoneB nm n = false by rw [HR.out, hasNul (m := j) (by rw [HB.out, hz])]; rfl)
        have pz : (((nm[j]'hlt).toNat : Int) == 0) = true := by rw [hz]; rfl
        clear hz
        go_wp2_with fail
        go_ret
        exact ⟨by rw [HF.out]; rfl, rfl⟩
      · have HN2 := Lib.hid (show ∀ m, m < j + 1 → nm.data.toList[m]? ≠ some 0 from fun m hm => by
          by_cases e : m = j
          · subst e; rw [HB.out]; simpa using hz
          · exact HN.out m (by omega))
        have pz : (((nm[j]'hlt).toNat : Int) == 0) = false := by
          cases e : (((nm[j]'hlt).toNat : Int) == 0)
          · rfl
          · exfalso
            have e2 : ((nm[j]'hlt).toNat : Int) = 0 := by simpa using e
            apply hz
            apply UInt8.toNat_inj.1
            show _ = 0
            omega
        clear hz
        go_wp2_with fail
        go_roundg (gk - 1)
        case measure => have := Hj.out; omega
        case rel => have := Hj.out; exact ⟨j + 1, by omega, by omega, by go_num, HN2.out, rfl⟩
    · obtain rfl : nm.size = j := by omega
      have p1 : ¬ (nm.size : Int) < nm.size := by omega
      have HF := Lib.hid (show xoneB nm n = true by rw [HR.out, noNul HN.out]; rfl)
      go_wp2_with fail
      go_ret
      exact ⟨by rw [HF.out]; rfl, rfl⟩
set_option maxRecDepth 100000 in
set_option maxHeartbeats 8000000 in
theorem xrefRight_any (a : Option Addr) (cap : Nat) (cs : List Xc) (xs : List Xa) (w : World) (h : XsAt w a cs xs) (hn : xs.length ≤ 140737488351232) (hs : ∀ i, i < xs.length → (nthA xs i).nm.size ≤ 140737488351232) (hv : ∀ i, i < xs.length → (nthA xs i).val.length ≤ 140737488351232) :
    Calls Try.prog 12 #[.slice a xs.length cap] w fun r w' => r = .returned (.bool (rightX (nthA xs) xs.length)) ∧ Kept (fun _ => False) w w' := by
  obtain ⟨z, hz⟩ : ∃ z, z = rightX (nthA xs) xs.length := ⟨_, rfl⟩
  rw [← hz]
  obtain ⟨n, hxn⟩ : ∃ n, n = xs.length := ⟨_, rfl⟩
  have HXN := Lib.hid hxn
  rw [← hxn] at hz hn hs hv ⊢
  have HZ := Lib.hid hz
  have q3 : (n : Int) ≤ 140737488351232 := by omega
  clear hz hxn
  go_enter Try.func12, Try.ntmps12
  by_cases hbig : 4 < n
  · obtain rfl : z = false := by rw [HZ.out]; unfold rightX; rw [decide_eq_false (by omega)]; rfl
    have p1 : (4 : Int) < n := by omega
    go_wp2_with fail
    go_ret
    exact ⟨rfl, Kept.refl _ w⟩
  have p1 : ¬ (4 : Int) < n := by omega
  have HZ2 := Lib.hid (show z = xokTo (nthA xs) n by rw [HZ.out]; unfold rightX; rw [decide_eq_true (by omega)]; rfl)
  clear HZ
  go_wp2_with fail
  go_loopg [3] n (fun k i wr => ∃ j : Nat, j + k = n ∧ j ≤ n ∧ i = .int .i64 (j : Int) ∧ xokTo (nthA xs) j = true ∧ Kept (fun _ => False) w wr)
  case atStart => exact ⟨0, by omega, by omega, rfl, rfl, Kept.refl _ w⟩
  case round =>
    obtain ⟨j, hj, hj2, rfl, hok, hK⟩ := hrel
    have HKK := Lib.hid hK
    have Hj := Lib.hid hj
    have HO := Lib.hid hok
    clear hj hok
    by_cases hlt : j < n
    · have q1 : (j : Int) < n := by omega
      have q2 : (0 : Int) ≤ j := by omega
      have hjx : j < xs.length := by rw [← HXN.out]; exact hlt
      obtain ⟨g, o, b, m, c, rfl, d0, d1, hm, hrest⟩ := (h.kept hK).at hjx
      have HF := Lib.hid (show xokTo (nthA xs) (j + 1) = (xokTo (nthA xs) j && (xoneB (nthA xs j).nm m && (j == 0 || ltN (nthA xs (j - 1)).nm (nthA xs j).nm))) by rw [hm]; rfl)
      have HN := Lib.hid (show (xoneB (nthA xs j).nm m && (j == 0 || ltN (nthA xs (j - 1)).nm (nthA xs j).nm)) = false → xokTo (nthA xs) n = false by rw [hm]; exact fun h => xokTo_false (nthA xs) j h n hlt)
      have hm1 : m ≤ 140737488351232 := by rw [hm]; exact hv j hlt
      have hs1 := hs j hlt
      have HP := Lib.hid (show j ≠ 0 → wr.cell? ⟨g, o + (j - 1) * 2, none⟩ = some (.string (nthA xs (j - 1)).nm) by
        intro h0
        obtain ⟨g', o', _, _, _, e, d0, _⟩ := (h.kept hK).at (i := j - 1) (by omega)
        obtain ⟨rfl, rfl⟩ : g = g' ∧ o = o' := by simpa using e
        exact d0)
      obtain ⟨nm, hnm⟩ : ∃ nm, nm = (nthA xs j).nm := ⟨_, rfl⟩
      obtain ⟨pn, hpn⟩ : ∃ pn, pn = (nthA xs (j - 1)).nm := ⟨_, rfl⟩
      replace HF := Lib.hid (by have := HF.out; rw [← hnm, ← hpn] at this; exact this)
      replace HN := Lib.hid (by have := HN.out; rw [← hnm, ← hpn] at this; exact this)
      replace HP := Lib.hid (by have := HP.out; rw [← hpn] at this; exact this)
      rw [← hnm] at d0 hs1
      clear hnm hpn hm hrest
      go_upto_region 6 with fail
      cases h1 : xoneB nm m
      · obtain rfl : z = false := by rw [HZ2.out]; exact HN.out (by rw [h1]; rfl)
        have HONE := Lib.hid (show ∀ W, Calls Try.prog 23 #[.string nm, .slice b m c] W (fun r w' => r = .returned (.bool false) ∧ W = w') by
          intro W; have := xrefOne_any nm b m c W hs1 hm1; rw [h1] at this; exact this)
        clear h1 hs1 hm1
        refine region_perm (fun W => W.cell? ⟨g, o + j * 2, none⟩ = some (.string nm) ∧ W.cell? ⟨g, o + j * 2 + 1, none⟩ = some (.slice b m c)) [(0, true), (1, true), (2, true), (3, true), (4, true), (5, true), (6, true), (7, true), (8, true), (9, true), (10, false), (11, true), (12, true), (13, true), (14, true), (15, true), (16, true), (17, true), (18, true), (19, true), (20, true), (21, true), (22, true), (23, true), (24, true), (25, true), (26, true), (27, true), (28, true), (29, true)] (by kernel_rfl) (by kernel_rfl) (by intro c a d v w h; cases d <;> exact h) ⟨d0, d1⟩ ?_
        repeat (first | (apply HeldSeq.take; (focus rfl); (focus rfl); (focus (intro W hS; obtain ⟨e0, e1⟩ := hS; go_simp; (try go_bits); rfl)); simp only [List.getElem_toArray]; (try simp only [List.getElem_cons_succ]); (try simp only [List.getElem_cons_zero]); simp only [Act.put, List.setIfInBounds_toArray]; (try simp only [List.set_cons_succ]); (try simp only [List.set_cons_zero])) | (apply HeldSeq.skip; (focus rfl); (focus rfl); simp only [List.getElem_toArray]; (try simp only [List.getElem_cons_succ]); (try simp only [List.getElem_cons_zero]); simp only [Act.put, List.setIfInBounds_toArray]; (try simp only [List.set_cons_succ]); (try simp only [List.set_cons_zero])))
        refine HeldSeq.run rfl rfl (fun K hK => ?_)
        go_simp
        refine (HONE.out wr.drew).mono ?_
        rintro r w7 ⟨rfl, rfl⟩
        refine hK _ _ ⟨d0, d1⟩ ?_
        clear hK K
        repeat (first | (apply HeldSeq.take; (focus rfl); (focus rfl); (focus (intro W hS; obtain ⟨e0, e1⟩ := hS; go_simp; (try go_bits); rfl)); simp only [List.getElem_toArray]; (try simp only [List.getElem_cons_succ]); (try simp only [List.getElem_cons_zero]); simp only [Act.put, List.setIfInBounds_toArray]; (try simp only [List.set_cons_succ]); (try simp only [List.set_cons_zero])) | (apply HeldSeq.skip; (focus rfl); (focus rfl); simp only [List.getElem_toArray]; (try simp only [List.getElem_cons_succ]); (try simp only [List.getElem_cons_zero]); simp only [Act.put, List.setIfInBounds_toArray]; (try simp only [List.set_cons_succ]); (try simp only [List.set_cons_zero])))
        refine HeldSeq.done ?_
        go_wp2_with fail
        go_ret
        exact ⟨rfl, HKK.out.drew⟩
      · have HONE := Lib.hid (show ∀ W, Calls Try.prog 23 #[.string nm, .slice b m c] W (fun r w' => r = .returned (.bool true) ∧ W = w') by
          intro W; have := xrefOne_any nm b m c W hs1 hm1; rw [h1] at this; exact this)
        have H1 := Lib.hid h1
        clear h1 hs1 hm1
        by_cases hj0 : j = 0
        · have HOK := Lib.hid (show xokTo (nthA xs) (j + 1) = true by rw [HF.out, HO.out, H1.out, hj0]; rfl)
          have p2 : ¬ (0 : Int) < j := by omega
          have p9 : ¬ 0 < j := by omega
          clear HF HN HP hj0
          refine region_perm (fun W => W.cell? ⟨g, o + j * 2, none⟩ = some (.string nm) ∧ W.cell? ⟨g, o + j * 2 + 1, none⟩ = some (.slice b m c)) [(0, true), (1, true), (2, true), (3, true), (4, true), (5, true), (6, true), (7, true), (8, true), (9, true), (10, false), (11, true), (12, true), (13, true), (14, true), (15, true), (16, true), (17, true), (18, true), (19, true), (20, true), (21, true), (22, true), (23, true), (24, true), (25, true), (26, true), (27, true), (28, true), (29, true)] (by kernel_rfl) (by kernel_rfl) (by intro c a d v w h; cases d <;> exact h) ⟨d0, d1⟩ ?_
          repeat (first | (apply HeldSeq.take; (focus rfl); (focus rfl); (focus (intro W hS; obtain ⟨e0, e1⟩ := hS; go_simp; (try go_bits); rfl)); simp only [List.getElem_toArray]; (try simp only [List.getElem_cons_succ]); (try simp only [List.getElem_cons_zero]); simp only [Act.put, List.setIfInBounds_toArray]; (try simp only [List.set_cons_succ]); (try simp only [List.set_cons_zero])) | (apply HeldSeq.skip; (focus rfl); (focus rfl); simp only [List.getElem_toArray]; (try simp only [List.getElem_cons_succ]); (try simp only [List.getElem_cons_zero]); simp only [Act.put, List.setIfInBounds_toArray]; (try simp only [List.set_cons_succ]); (try simp only [List.set_cons_zero])))
          refine HeldSeq.run rfl rfl (fun K hK => ?_)
          go_simp
          refine (HONE.out wr.drew).mono ?_
          rintro r w7 ⟨rfl, rfl⟩
          refine hK _ _ ⟨d0, d1⟩ ?_
          clear hK K
          repeat (first | (apply HeldSeq.take; (focus rfl); (focus rfl); (focus (intro W hS; obtain ⟨e0, e1⟩ := hS; go_simp; (try go_bits); rfl)); simp only [List.getElem_toArray]; (try simp only [List.getElem_cons_succ]); (try simp only [List.getElem_cons_zero]); simp only [Act.put, List.setIfInBounds_toArray]; (try simp only [List.set_cons_succ]); (try simp only [List.set_cons_zero])) | (apply HeldSeq.skip; (focus rfl); (focus rfl); simp only [List.getElem_toArray]; (try simp only [List.getElem_cons_succ]); (try simp only [List.getElem_cons_zero]); simp only [Act.put, List.setIfInBounds_toArray]; (try simp only [List.set_cons_succ]); (try simp only [List.set_cons_zero])))
          refine HeldSeq.done ?_
          go_wp2_with fail
          go_roundg (gk - 1)
          case measure => have := Hj.out; omega
          case rel => have := Hj.out; exact ⟨j + 1, by omega, by omega, by go_num, HOK.out, HKK.out.drew⟩
        · have hp := HP.out hj0
          have p2 : (0 : Int) < j := by omega
          have p3 : (1 : Int) ≤ j := by omega
          have p4 : ((j : Int) - 1).toNat = j - 1 := by omega
          have p5 : (j : Int) - 1 < n := by omega
          have p6 : j - 1 < n := by omega
          have p7 : 1 ≤ j := by omega
          have p9 : 0 < j := by omega
          have p8 : (0 : Int) ≤ (j : Int) - 1 := by omega
          cases hl : ltN pn nm
          · obtain rfl : z = false := by rw [HZ2.out]; exact HN.out (by rw [hl]; simp [hj0])
            have hge : Op.bytesLess pn.toList nm.toList = false := hl
            clear hl HN HF
            refine region_perm (fun W => W.cell? ⟨g, o + j * 2, none⟩ = some (.string nm) ∧ W.cell? ⟨g, o + j * 2 + 1, none⟩ = some (.slice b m c) ∧ W.cell? ⟨g, o + (j - 1) * 2, none⟩ = some (.string pn)) [(0, true), (1, true), (2, true), (3, true), (4, true), (5, true), (6, true), (7, true), (8, true), (9, true), (10, false), (11, true), (12, true), (13, true), (14, true), (15, true), (16, true), (17, true), (18, true), (19, true), (20, true), (21, true), (22, true), (23, true), (24, true), (25, true), (26, true), (27, true), (28, true), (29, true)] (by kernel_rfl) (by kernel_rfl) (by intro c a d v w h; cases d <;> exact h) ⟨d0, d1, hp⟩ ?_
            repeat (first | (apply HeldSeq.take; (focus rfl); (focus rfl); (focus (intro W hS; obtain ⟨e0, e1, e2⟩ := hS; go_simp; (try go_bits); rfl)); simp only [List.getElem_toArray]; (try simp only [List.getElem_cons_succ]); (try simp only [List.getElem_cons_zero]); simp only [Act.put, List.setIfInBounds_toArray]; (try simp only [List.set_cons_succ]); (try simp only [List.set_cons_zero])) | (apply HeldSeq.skip; (focus rfl); (focus rfl); simp only [List.getElem_toArray]; (try simp only [List.getElem_cons_succ]); (try simp only [List.getElem_cons_zero]); simp only [Act.put, List.setIfInBounds_toArray]; (try simp only [List.set_cons_succ]); (try simp only [List.set_cons_zero])))
            refine HeldSeq.run rfl rfl (fun K hK => ?_)
            go_simp
            refine (HONE.out wr.drew).mono ?_
            rintro r w7 ⟨rfl, rfl⟩
            refine hK _ _ ⟨d0, d1, hp⟩ ?_
            clear hK K
            repeat (first | (apply HeldSeq.take; (focus rfl); (focus rfl); (focus (intro W hS; obtain ⟨e0, e1, e2⟩ := hS; go_simp; (try go_bits); rfl)); simp only [List.getElem_toArray]; (try simp only [List.getElem_cons_succ]); (try simp only [List.getElem_cons_zero]); simp only [Act.put, List.setIfInBounds_toArray]; (try simp only [List.set_cons_succ]); (try simp only [List.set_cons_zero])) | (apply HeldSeq.skip; (focus rfl); (focus rfl); simp only [List.getElem_toArray]; (try simp only [List.getElem_cons_succ]); (try simp only [List.getElem_cons_zero]); simp only [Act.put, List.setIfInBounds_toArray]; (try simp only [List.set_cons_succ]); (try simp only [List.set_cons_zero])))
            refine HeldSeq.done ?_
            go_wp2_with fail
            go_ret
            exact ⟨rfl, HKK.out.drew⟩
          · have HOK := Lib.hid (show xokTo (nthA xs) (j + 1) = true by rw [HF.out, HO.out, H1.out, hl]; simp)
            have hge : Op.bytesLess pn.toList nm.toList = true := hl
            clear hl HN HF
            refine region_perm (fun W => W.cell? ⟨g, o + j * 2, none⟩ = some (.string nm) ∧ W.cell? ⟨g, o + j * 2 + 1, none⟩ = some (.slice b m c) ∧ W.cell? ⟨g, o + (j - 1) * 2, none⟩ = some (.string pn)) [(0, true), (1, true), (2, true), (3, true), (4, true), (5, true), (6, true), (7, true), (8, true), (9, true), (10, false), (11, true), (12, true), (13, true), (14, true), (15, true), (16, true), (17, true), (18, true), (19, true), (20, true), (21, true), (22, true), (23, true), (24, true), (25, true), (26, true), (27, true), (28, true), (29, true)] (by kernel_rfl) (by kernel_rfl) (by intro c a d v w h; cases d <;> exact h) ⟨d0, d1, hp⟩ ?_
            repeat (first | (apply HeldSeq.take; (focus rfl); (focus rfl); (focus (intro W hS; obtain ⟨e0, e1, e2⟩ := hS; go_simp; (try go_bits); rfl)); simp only [List.getElem_toArray]; (try simp only [List.getElem_cons_succ]); (try simp only [List.getElem_cons_zero]); simp only [Act.put, List.setIfInBounds_toArray]; (try simp only [List.set_cons_succ]); (try simp only [List.set_cons_zero])) | (apply HeldSeq.skip; (focus rfl); (focus rfl); simp only [List.getElem_toArray]; (try simp only [List.getElem_cons_succ]); (try simp only [List.getElem_cons_zero]); simp only [Act.put, List.setIfInBounds_toArray]; (try simp only [List.set_cons_succ]); (try simp only [List.set_cons_zero])))
            refine HeldSeq.run rfl rfl (fun K hK => ?_)
            go_simp
            refine (HONE.out wr.drew).mono ?_
            rintro r w7 ⟨rfl, rfl⟩
            refine hK _ _ ⟨d0, d1, hp⟩ ?_
            clear hK K
            repeat (first | (apply HeldSeq.take; (focus rfl); (focus rfl); (focus (intro W hS; obtain ⟨e0, e1, e2⟩ := hS; go_simp; (try go_bits); rfl)); simp only [List.getElem_toArray]; (try simp only [List.getElem_cons_succ]); (try simp only [List.getElem_cons_zero]); simp only [Act.put, List.setIfInBounds_toArray]; (try simp only [List.set_cons_succ]); (try simp only [List.set_cons_zero])) | (apply HeldSeq.skip; (focus rfl); (focus rfl); simp only [List.getElem_toArray]; (try simp only [List.getElem_cons_succ]); (try simp only [List.getElem_cons_zero]); simp only [Act.put, List.setIfInBounds_toArray]; (try simp only [List.set_cons_succ]); (try simp only [List.set_cons_zero])))
            refine HeldSeq.done ?_
            go_wp2_with fail
            go_roundg (gk - 1)
            case measure => have := Hj.out; omega
            case rel => have := Hj.out; exact ⟨j + 1, by omega, by omega, by go_num, HOK.out, HKK.out.drew⟩
    · obtain rfl : n = j := by omega
      have q1 : ¬ (n : Int) < n := by omega
      obtain rfl : z = true := by rw [HZ2.out]; exact HO.out
      go_wp2_with fail
      go_ret
      exact ⟨rfl, hK⟩
end Go.Proofs.Ytoeohbihelfphaa
