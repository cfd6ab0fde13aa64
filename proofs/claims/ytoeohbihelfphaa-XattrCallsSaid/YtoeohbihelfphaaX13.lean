/-
  The walk of the law XattrMaps.
-/
import Derived.Test.YtoeohbihelfphaaX12
namespace Go.Proofs.Ytoeohbihelfphaa
open Go.RowKit
set_option linter.unusedVariables false
set_option linter.unusedSimpArgs false
set_option maxRecDepth 100000 in
set_option maxHeartbeats 32000000 in
theorem xattrMaps_any (a : Option Addr) (cap : Nat) (cs : List Xc) (sc : List Xa) (w : World) (h : XsAt w a cs sc) (hn : sc.length ≤ 140737488351232) (hs : ∀ i, i < sc.length → (nthA sc i).nm.size ≤ 140737488351232) (hv : ∀ i, i < sc.length → (nthA sc i).val.length ≤ 140737488351232) :
    Calls Try.prog 3 #[.slice a sc.length cap] w fun e w' => e = .returned (.bool true) ∧ Kept (fun _ => False) w w' := by
  obtain ⟨n, hxn⟩ : ∃ n, n = sc.length := ⟨_, rfl⟩
  have HSN := Lib.hid hxn
  rw [← hxn] at hn hs hv ⊢
  have HAT := Lib.hid (fun (i : Nat) (hi : i < sc.length) W (k : Kept (fun _ => False) w W) => (h.kept k).at hi)
  have HSS := Lib.hid hs
  have HVV := Lib.hid hv
  have qn : (n : Int) ≤ 140737488351232 := by omega
  clear h hxn hs hv
  go_enter Try.func3, Try.ntmps3
  go_wp2_with fail
  refine (xfixed_any w).mono ?_
  rintro r w1 ⟨rfl, k1⟩
  go_wp2_with fail
  go_loopg [3, 20] n (fun k s3 s20 wr => ∃ (j : Nat) (xs : List Xa) (a3 : Option Addr) (c3 : Nat) (L : List Xc), j + k = n ∧ s20 = .int .i64 (j : Int) ∧ s3 = .slice a3 xs.length c3 ∧ XsAt wr a3 L xs ∧ RightX xs ∧ Kept (fun _ => False) w wr)
  case atStart => exact ⟨0, [], none, 0, [], by omega, rfl, rfl, XsAt.nil _ _, rfl, k1⟩
  case round =>
    obtain ⟨j, xs, a3, c3, L, hj, rfl, rfl, hX, hR, hK⟩ := hrel
    obtain ⟨ko, rfl⟩ : ∃ ko : Nat, ko = gk := ⟨_, rfl⟩
    have Hj := Lib.hid hj
    have hjn : j ≤ n := by omega
    have hx4 := hR.len
    have HX := Lib.hid hX
    have HR := Lib.hid hR
    obtain ⟨xn, hxx⟩ : ∃ xn, xn = xs.length := ⟨_, rfl⟩
    rw [← hxx] at hx4
    have HXX := Lib.hid hxx
    simp only [← hxx]
    have qx : (xn : Int) ≤ 4 := by omega
    clear hj hX hR hxx k1
    by_cases hlt : j < n ∧ j < 60
    · obtain ⟨hlt, h60⟩ := hlt
      have q1 : (j : Int) < n := by omega
      have q2 : (0 : Int) ≤ j := by omega
      have q3 : ¬ (60 : Int) ≤ j := by omega
      obtain ⟨g, o, b, m, c, rfl, c0, c1, hm, hmc, _, hb0, hb⟩ := HAT.out j (by rw [← HSN.out]; exact hlt) wr hK
      have hns := HSS.out j hlt
      have hvs := HVV.out j hlt
      obtain ⟨nm, hnm⟩ : ∃ nm, nm = (nthA sc j).nm := ⟨_, rfl⟩
      obtain ⟨val, hval⟩ : ∃ val, val = (nthA sc j).val := ⟨_, rfl⟩
      rw [← hnm] at c0 hns
      rw [← hval] at hm hb hvs
      have CCo := Lib.hid (show ∀ W, Kept (fun _ => False) wr W → Calls Try.prog 6 #[.slice a3 xn c3] W (CopyPost xs W) by
        rw [HXX.out]; exact fun W k => lawCopied_any a3 c3 L xs W (HX.out.kept k) (by have := HR.out.len; omega) HR.out.vals)
      have CDr := Lib.hid (show ∀ W, Kept (fun _ => False) wr W → Calls Try.prog 7 #[.slice a3 xn c3, .string nm] W (XListPost (dropX xs nm) W) by
        rw [HXX.out]; exact fun W k => xdrop_any a3 c3 L xs nm W (HX.out.kept k) (by have := HR.out.len; omega) HR.out.sizes HR.out.vals)
      have CSet := Lib.hid (show ∀ W, Kept (fun _ => False) wr W → Calls Try.prog 9 #[.slice a3 xn c3, .string nm, .slice b m c] W (XListPost (setX xs nm val) W) by
        rw [HXX.out]; exact fun W k => xset_any a3 c3 L xs nm b m c val W (HX.out.kept k) (by have := HR.out.len; omega) HR.out.sizes HR.out.vals hns hm.symm hb0 (hb.kept k) (by omega))
      have CIx := Lib.hid (show ∀ W a6 c6 L6, XsAt W a6 L6 xs → Calls Try.prog 8 #[.slice a6 xn c6, .string nm] W (XIndexPost xs nm W) by
        rw [HXX.out]; exact fun W a6 c6 L6 hx => xrefIndex_any a6 c6 L6 xs nm W hx (by have := HR.out.len; omega))
      obtain ⟨st, hst⟩ : ∃ st, st = strOf m (fun i => val.getD i 0#8) := ⟨_, rfl⟩
      have HCV := Lib.hid (show ∀ W, Kept (fun _ => False) wr W → (convert 24 9 (.slice b m c)).run Try.prog W = .ok (.string st) W by
        rw [hst]; exact fun W k => conv_str W 24 9 5 b m c _ Try.underlying24 Try.underlying5 Try.underlying9 (hb.kept k) hb0)
      have HST := Lib.hid hst
      have HM := Lib.hid hm
      have qm : (m : Int) ≤ 140737488351232 := by omega
      have qm0 : (0 : Int) ≤ m := by omega
      clear hnm hval hm hmc hb0 hb hns hvs hst
      go_upto_region 8 with fail
      obtain ⟨d0, d1⟩ := newX wr nm b m c
      have k2 : Kept (fun _ => False) wr (wr.alloc (.cells #[.string nm, .slice b m c] 26)) := (Kept.refl _ wr).alloc _
      generalize (wr.alloc (.cells #[.string nm, .slice b m c] 26)) = w2 at *
      generalize wr.heap.size = gx at *
      clear c0 c1
      go_wp2_with fail
      refine (CCo.out w2 k2).mono ?_
      rintro r w3 ⟨v6, L6, rfl, hc6, k3⟩
      obtain ⟨a6, c6, rfl, hx6⟩ := hc6.reads
      have HX6 := Lib.hid hx6
      have kr3 : Kept (fun _ => False) wr w3 := k2.trans k3 (fun _ _ h => h)
      have e0 := k3.cell d0
      have e1 := k3.cell d1
      simp only [← HXX.out]
      clear hc6 hx6 k2 k3 d0 d1 CCo
      by_cases hm0 : m = 0
      · subst hm0
        rcases drop_casesX HR.out nm with ⟨hi, hd⟩ | ⟨i, hi, hd⟩
        · replace CDr := Lib.hid (by have := CDr.out w3 kr3; rw [hd] at this; exact this)
          have HI := Lib.hid hi
          clear hi hd CSet
          go_wp2_with fail
          refine CDr.out.mono ?_
          rintro r w4 ⟨v7, L7, rfl, hc7, k4⟩
          obtain ⟨a7, c7, rfl, hx7⟩ := hc7.reads
          have f0 := k4.cell e0
          have f1 := k4.cell e1
          have kr4 : Kept (fun _ => False) wr w4 := kr3.trans k4 (fun _ _ h => h)
          have HX64 := Lib.hid (HX6.out.kept k4)
          clear hc7 hx7 k4 e0 e1 CDr kr3
          go_wp2_with fail
          refine (CIx.out w4 a6 c6 L6 HX64.out).mono ?_
          rintro r w5 ⟨z, rfl, hz, rfl⟩
          obtain rfl : z = -1 := by
            rcases hz with ⟨h1, _⟩ | ⟨i, h1, h2⟩
            · exact h1
            · rw [HI.out] at h2; cases h2
          clear hz CIx
          go_wp2_with fail
          go_roundg (ko - 1)
          case measure => have := Hj.out; omega
          case rel =>
            have := Hj.out
            exact ⟨j + 1, xs, a3, c3, L, by omega, by go_num, by rw [HXX.out], HX.out.kept kr4, HR.out, hK.trans kr4 (fun _ _ h => h)⟩
        · replace CDr := Lib.hid (by have := CDr.out w3 kr3; rw [hd] at this; exact this)
          have HI := Lib.hid hi
          clear hi hd CSet
          go_wp2_with fail
          refine CDr.out.mono ?_
          rintro r w4 ⟨v7, L7, rfl, hc7, k4⟩
          obtain ⟨a7, c7, rfl, hx7⟩ := hc7.reads
          have f0 := k4.cell e0
          have f1 := k4.cell e1
          have kr4 : Kept (fun _ => False) wr w4 := kr3.trans k4 (fun _ _ h => h)
          have HX64 := Lib.hid (HX6.out.kept k4)
          have HX7 := Lib.hid hx7
          clear hc7 hx7 k4 e0 e1 CDr kr3
          go_wp2_with fail
          refine (CIx.out w4 a6 c6 L6 HX64.out).mono ?_
          rintro r w5 ⟨z, rfl, hz, rfl⟩
          obtain ⟨i', rfl⟩ : ∃ i' : Nat, z = (i' : Int) := by
            rcases hz with ⟨_, h2⟩ | ⟨i', h1, _⟩
            · rw [HI.out] at h2; cases h2
            · exact ⟨i', h1⟩
          have p1 : (0 : Int) ≤ i' := by omega
          clear hz CIx
          go_wp2_with fail
          go_roundg (ko - 1)
          case measure => have := Hj.out; omega
          case rel =>
            have := Hj.out
            exact ⟨j + 1, xs.filter (notA nm), a7, c7, L7, by omega, by go_num, rfl, HX7.out, HR.out.filter _, hK.trans kr4 (fun _ _ h => h)⟩
      · have p1 : ¬ ((m : Int) = 0) := by omega
        have p2 : ((m : Int) == 0) = false := by simpa using hm0
        rcases set_cases HR.out nm val with ⟨e, hd, he⟩ | ⟨hd, hr2⟩
        · replace CSet := Lib.hid (by have := CSet.out w3 kr3; rw [hd] at this; exact this)
          have he2 : (e == 0) = false := by simpa using he
          clear hd CDr
          go_wp2_with fail
          refine CSet.out.mono ?_
          rintro r w4 ⟨v7, L7, rfl, hc7, k4⟩
          obtain ⟨a7, c7, rfl, hx7⟩ := hc7.reads
          have kr4 : Kept (fun _ => False) wr w4 := kr3.trans k4 (fun _ _ h => h)
          clear hc7 hx7 k4 e0 e1 CSet kr3
          go_wp2_with fail
          go_roundg (ko - 1)
          case measure => have := Hj.out; omega
          case rel =>
            have := Hj.out
            exact ⟨j + 1, xs, a3, c3, L, by omega, by go_num, by rw [HXX.out], HX.out.kept kr4, HR.out, hK.trans kr4 (fun _ _ h => h)⟩
        · replace CSet := Lib.hid (by have := CSet.out w3 kr3; rw [hd] at this; exact this)
          have HR2 := Lib.hid hr2
          obtain ⟨ys, hys⟩ : ∃ ys, ys = insX ⟨nm, val⟩ xs := ⟨_, rfl⟩
          have HYS := Lib.hid hys
          replace CSet := Lib.hid (by have := CSet.out; rw [← hys] at this; exact this)
          replace HR2 := Lib.hid (by have := HR2.out; rw [← hys] at this; exact this)
          clear hd CDr hr2 hys
          go_wp2_with fail
          refine CSet.out.mono ?_
          rintro r w4 ⟨v7, L7, rfl, hc7, k4⟩
          obtain ⟨a7, c7, rfl, hx7⟩ := hc7.reads
          have f0 := k4.cell e0
          have f1 := k4.cell e1
          have kr4 : Kept (fun _ => False) wr w4 := kr3.trans k4 (fun _ _ h => h)
          have HX64 := Lib.hid (HX6.out.kept k4)
          have HX7 := Lib.hid hx7
          have hy4 := HR2.out.len
          obtain ⟨yn, hyn⟩ : ∃ yn, yn = ys.length := ⟨_, rfl⟩
          have HYN := Lib.hid hyn
          have CG := Lib.hid (show ∀ W (x : Xa), Kept (fun _ => False) w4 W → x ∈ ys → Calls Try.prog 10 #[.slice a7 yn c7, .string x.nm] W (XBytesPost (x.val, 0) W) by
            rw [hyn]
            intro W x k hx
            have := xget_any a7 c7 L7 ys x.nm W (HX7.out.kept k) (by omega) HR2.out.sizes HR2.out.vals
            rw [get_mem HR2.out hx] at this
            exact this)
          have CCh := Lib.hid (show ∀ W, Kept (fun _ => False) w4 W → Calls Try.prog 11 #[.slice a7 yn c7] W (fun r w' => r = .returned (.int .i64 0) ∧ Kept (fun _ => False) W w') by
            rw [hyn]
            intro W k
            have := xcheck_any a7 c7 L7 ys W (HX7.out.kept k) (by omega) HR2.out.sizes HR2.out.vals
            have hr : rightX (nthA ys) ys.length = true := HR2.out
            rw [if_pos hr] at this
            exact this)
          simp only [← hyn]
          clear hc7 hx7 e0 e1 CSet kr3 hyn CIx hy4
          go_wp2_with fail
          refine (CG.out w4 ⟨nm, val⟩ (Kept.refl _ w4) (by rw [HYS.out]; exact insX_has _ _)).mono ?_
          rintro r w5 ⟨u, rfl, hu, k5⟩
          obtain ⟨ua, uc, rfl, ub, u0, _⟩ := hu.reads
          have hcv1 := conv_str w5 24 9 5 ua val.length uc _ Try.underlying24 Try.underlying5 Try.underlying9 ub u0
          have kr5 : Kept (fun _ => False) wr w5 := kr4.trans k5 (fun _ _ h => h)
          have hcv2 := HCV.out w5 kr5
          rw [← HM.out, ← HST.out] at hcv1
          simp only [← HM.out]
          have g0 := k5.cell f0
          have g1 := k5.cell f1
          clear hu ub u0 f0 f1
          go_wp2_with fail
          refine (CCh.out w5 k5).mono ?_
          rintro r w6 ⟨rfl, k6⟩
          have kr6 : Kept (fun _ => False) wr w6 := kr5.trans k6 (fun _ _ h => h)
          have k46 : Kept (fun _ => False) w4 w6 := k5.trans k6 (fun _ _ h => h)
          have i0 := k6.cell g0
          have i1 := k6.cell g1
          have HX66 := Lib.hid (HX64.out.kept k46)
          clear hcv1 hcv2 g0 g1 CCh k5 k6 kr5 kr4
          go_wp2_with fail
          have I1 := Lib.hid i1
          clear i1
          go_loopg [87] xn (fun k s87 wy => ∃ (i : Nat), i + k = xn ∧ s87 = .int .i64 (i : Int) ∧ Kept (fun _ => False) w6 wy)
          case atStart => exact ⟨0, by omega, rfl, Kept.refl _ w6⟩
          case round =>
            obtain ⟨i, hi, rfl, hZ⟩ := hrel
            have Hi := Lib.hid hi
            have hin : i ≤ xn := by omega
            clear hi
            by_cases hlt2 : i < xn
            · have r1 : (i : Int) < xn := by omega
              have r2 : (0 : Int) ≤ i := by omega
              have hix : i < xs.length := by rw [← HXX.out]; exact hlt2
              obtain ⟨g6, o6, b6, m6, cc6, rfl, h0, h1, hm6, hmc6, _, hb60, hb6⟩ := (HX66.out.kept hZ).at hix
              obtain ⟨x, hx⟩ : ∃ x, x = nthA xs i := ⟨_, rfl⟩
              rw [← hx] at h0 hm6 hb6
              have HXM := Lib.hid (show x ∈ xs by rw [hx, ← nthA_eq xs i hix]; exact List.getElem_mem hix)
              obtain ⟨bn, bv⟩ := x
              dsimp only at h0 hm6 hb6
              obtain ⟨st6, hst6⟩ : ∃ st6, st6 = strOf m6 (fun i => bv.getD i 0#8) := ⟨_, rfl⟩
              have HCV6 := Lib.hid (show ∀ W, Kept (fun _ => False) wr W → (convert 24 9 (.slice b6 m6 cc6)).run Try.prog W = .ok (.string st6) W by
                rw [hst6]; exact fun W k => conv_str W 24 9 5 b6 m6 cc6 _ Try.underlying24 Try.underlying5 Try.underlying9 (hb6.kept k) hb60)
              have HST6 := Lib.hid hst6
              have HM6 := Lib.hid hm6
              have j0 := hZ.cell i0
              clear hx hm6 hmc6 hb60 hb6 hst6 hix
              go_upto_region 24 with fail
              obtain ⟨d0, d1⟩ := newX wr bn b6 m6 cc6
              have k7 : Kept (fun _ => False) wr (wr.alloc (.cells #[.string bn, .slice b6 m6 cc6] 26)) := (Kept.refl _ wr).alloc _
              generalize (wr.alloc (.cells #[.string bn, .slice b6 m6 cc6] 26)) = w7 at *
              generalize wr.heap.size = gy at *
              have l0 := k7.cell j0
              have k67 : Kept (fun _ => False) w6 w7 := hZ.trans k7 (fun _ _ h => h)
              clear h0 h1 j0
              cases hq : bn.toList == nm.toList
              · have hne : bn ≠ nm := fun e => by rw [e] at hq; simp at hq
                have hmem : (⟨bn, bv⟩ : Xa) ∈ ys := by rw [HYS.out]; exact insX_keeps HXM.out hne
                have HMEM := Lib.hid hmem
                clear hne hmem
                go_wp2_with fail
                refine (CG.out w7 ⟨bn, bv⟩ (k46.trans k67 (fun _ _ h => h)) HMEM.out).mono ?_
                rintro r w8 ⟨u, rfl, hu, k8⟩
                obtain ⟨ua2, uc2, rfl, ub, u0, _⟩ := hu.reads
                have hcv1 := conv_str w8 24 9 5 ua2 bv.length uc2 _ Try.underlying24 Try.underlying5 Try.underlying9 ub u0
                have hcv2 := HCV6.out w8 (k7.trans k8 (fun _ _ h => h))
                dsimp only at hcv1
                rw [← HM6.out, ← HST6.out] at hcv1
                simp only [← HM6.out]
                have x0 := k8.cell d0
                have x1 := k8.cell d1
                have y0 := k8.cell l0
                have k68 : Kept (fun _ => False) w6 w8 := k67.trans k8 (fun _ _ h => h)
                clear hu ub u0 d0 d1 l0 k8 k7 k67
                go_wp2_with fail
                go_roundg (gk - 1)
                case measure => have := Hi.out; omega
                case rel => have := Hi.out; exact ⟨i + 1, by omega, by go_num, k68⟩
              · obtain rfl : bn = nm := toListX (by simpa using hq)
                clear hq
                go_wp2_with fail
                refine (CG.out w7 ⟨bn, val⟩ (k46.trans k67 (fun _ _ h => h)) (by rw [HYS.out]; exact insX_has _ _)).mono ?_
                rintro r w8 ⟨u, rfl, hu, k8⟩
                obtain ⟨ua2, uc2, rfl, ub, u0, _⟩ := hu.reads
                have x0 := k8.cell d0
                have x1 := k8.cell d1
                have y0 := k8.cell l0
                have k68 : Kept (fun _ => False) w6 w8 := k67.trans k8 (fun _ _ h => h)
                clear hu ub u0 d0 d1 l0 k8 k7 k67
                go_wp2_with fail
                go_roundg (gk - 1)
                case measure => have := Hi.out; omega
                case rel => have := Hi.out; exact ⟨i + 1, by omega, by go_num, k68⟩
            · obtain rfl : xn = i := by omega
              have r1 : ¬ (xn : Int) < xn := by omega
              have krz : Kept (fun _ => False) w4 wr := k46.trans hZ (fun _ _ h => h)
              have kwz : Kept (fun _ => False) w wr := hK.trans (kr6.trans hZ (fun _ _ h => h)) (fun _ _ h => h)
              go_wp2_with fail
              go_roundg (ko - 1)
              case measure => have := Hj.out; omega
              case rel =>
                have := Hj.out
                exact ⟨j + 1, ys, a7, c7, L7, by omega, by go_num, by rw [HYN.out], HX7.out.kept krz, HR2.out, kwz⟩
    · have hfin : (xn : Int) ≤ 4 := qx
      by_cases hlt2 : j < n
      · have q1 : (j : Int) < n := by omega
        have q2 : (0 : Int) ≤ j := by omega
        have q3 : (60 : Int) ≤ j := by omega
        obtain ⟨g, o, b, m, c, rfl, c0, c1, hrest⟩ := HAT.out j (by rw [← HSN.out]; exact hlt2) wr hK
        obtain ⟨nm, hnm⟩ : ∃ nm, nm = (nthA sc j).nm := ⟨_, rfl⟩
        rw [← hnm] at c0
        clear hrest hnm
        go_wp2_with fail
        go_ret
        exact ⟨rfl, hK.alloc _⟩
      · obtain rfl : n = j := by omega
        have q1 : ¬ (n : Int) < n := by omega
        go_wp2_with fail
        go_ret
        exact ⟨rfl, hK⟩
end Go.Proofs.Ytoeohbihelfphaa
