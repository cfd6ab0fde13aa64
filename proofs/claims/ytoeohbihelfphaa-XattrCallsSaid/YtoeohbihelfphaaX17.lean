/-
  The reference's Set of attributes: the walk.
-/
import Derived.Test.YtoeohbihelfphaaX16
namespace Go.Proofs.Ytoeohbihelfphaa
open Go.RowKit
set_option linter.unusedVariables false
set_option linter.unusedSimpArgs false
set_option maxRecDepth 100000 in
set_option maxHeartbeats 16000000 in
theorem xrefSet_any (a : Option Addr) (cap : Nat) (cs : List Xc) (xs : List Xa) (nm : ByteArray) (va : Option Addr) (vn vc : Nat) (val : List Byte) (w : World) (h : XsAt w a cs xs) (hn : xs.length ≤ 140737488351232) (hs : ∀ i, i < xs.length → (nthA xs i).nm.size ≤ 140737488351232) (hv : ∀ i, i < xs.length → (nthA xs i).val.length ≤ 140737488351232)
    (hns : nm.size ≤ 140737488351232) (hva : ValAt w ⟨nm, va, vn, vc⟩ val) (hvn : vn ≤ 140737488351232) :
    Calls Try.prog 13 #[.slice a xs.length cap, .string nm, .slice va vn vc] w (RefPost (setX xs nm val) w) := by
  have HC := Lib.hid (xrefRight_any a cap cs xs w h hn hs hv)
  have HI := Lib.hid (show ∀ W, Kept (fun _ => False) w W → Calls Try.prog 8 #[.slice a xs.length cap, .string nm] W (XIndexPost xs nm W) from fun W k => xrefIndex_any a cap cs xs nm W (h.kept k) hn)
  have HONE := Lib.hid (show ∀ W, Calls Try.prog 23 #[.string nm, .slice va vn vc] W fun r w' => r = .returned (.bool (xoneB nm vn)) ∧ W = w' from fun W => xrefOne_any nm va vn vc W hns hvn)
  have HVN := Lib.hid (show val.length = vn from hva.len)
  obtain ⟨z, hz⟩ : ∃ z, z = setX xs nm val := ⟨_, rfl⟩
  rw [← hz]
  have HZ := Lib.hid hz
  obtain ⟨n, hxn⟩ : ∃ n, n = xs.length := ⟨_, rfl⟩
  have HXN := Lib.hid hxn
  have HAT := Lib.hid (fun (i : Nat) (hi : i < xs.length) W (k : Kept (fun _ => False) w W) => (h.kept k).at hi)
  have HVA := Lib.hid (fun (i : Nat) (hi : i < xs.length) => h.at hi)
  have HE := Lib.hid hva
  rw [← hxn]
  replace HI := Lib.hid (by have := HI.out; rw [← hxn] at this; exact this)
  cases hr : rightX (nthA xs) xs.length
  · have HC2 := Lib.hid (by have := HC.out; rw [hr] at this; rw [← hxn] at this; exact this)
    obtain rfl : z = ([], 3) := by rw [HZ.out]; unfold setX; rw [hr]; rfl
    clear hr HC hz hs hv hn hxn h hva hvn hns
    go_enter Try.func13, Try.ntmps13
    go_wp2_with (first | ((with_reducible refine (HC2.out).mono ?_); rintro r w1 ⟨rfl, k1⟩))
    go_ret2
    exact RefPost.nil k1
  have HC2 := Lib.hid (by have := HC.out; rw [hr] at this; rw [← hxn] at this; exact this)
  have h4 : n ≤ 4 := by rw [hxn]; exact (rightX_ok hr).1
  have HSO := Lib.hid (show SortedX (nthA xs) xs.length from RightX.sorted hr)
  cases ho : xoneB nm vn
  · have HO2 := Lib.hid (show ∀ W, Calls Try.prog 23 #[.string nm, .slice va vn vc] W fun r w' => r = .returned (.bool false) ∧ W = w' by have := HONE.out; rw [ho] at this; exact this)
    obtain rfl : z = ([], 2) := by rw [HZ.out]; unfold setX; rw [hr, HVN.out, ho]; rfl
    clear hr HC hz hs hv hn hxn h hva hvn hns ho
    go_enter Try.func13, Try.ntmps13
    go_upto_region 3 with (first | ((with_reducible refine (HC2.out).mono ?_); rintro r w1 ⟨rfl, k1⟩))
    go_wp2_with fail
    refine (HO2.out w1).mono ?_
    rintro r w2 ⟨rfl, rfl⟩
    go_wp2_with fail
    go_ret2
    exact RefPost.nil k1
  have HO2 := Lib.hid (show ∀ W, Calls Try.prog 23 #[.string nm, .slice va vn vc] W fun r w' => r = .returned (.bool true) ∧ W = w' by have := HONE.out; rw [ho] at this; exact this)
  have HZ1 := Lib.hid (show z = if idxX (nthA xs) nm xs.length = none ∧ xs.length = 4 then ([], 5) else (insX ⟨nm, val⟩ xs, 0) by rw [HZ.out]; unfold setX; rw [hr, HVN.out, ho]; rfl)
  clear hr HC hz hs hv hn hxn h hva hvn hns ho HZ
  go_enter Try.func13, Try.ntmps13
  go_upto_region 3 with (first | ((with_reducible refine (HC2.out).mono ?_); rintro r w1 ⟨rfl, k1⟩))
  go_upto_region 5 with (first | ((with_reducible refine (HO2.out w1).mono ?_); rintro r w2 ⟨rfl, rfl⟩))
  go_wp2_with fail
  refine (HI.out w1 k1).mono ?_
  rintro r w2 ⟨y, rfl, hy, rfl⟩
  by_cases hfull : idxX (nthA xs) nm xs.length = none ∧ xs.length = 4
  · obtain rfl : y = -1 := by
      rcases hy with ⟨h1, _⟩ | ⟨i', h1, h2⟩
      · exact h1
      · rw [hfull.1] at h2; cases h2
    obtain rfl : z = ([], 5) := by rw [HZ1.out, if_pos hfull]
    obtain rfl : n = 4 := by rw [HXN.out]; exact hfull.2
    clear hy hfull
    go_wp2_with fail
    go_ret2
    exact RefPost.nil k1
  have hgo : (0 ≤ y) ∨ (y = -1 ∧ n ≠ 4) := by
    rcases hy with ⟨h1, h2⟩ | ⟨i', h1, h2⟩
    · exact .inr ⟨h1, fun q => hfull ⟨h2, by rw [← HXN.out]; exact q⟩⟩
    · exact .inl (by omega)
  have HZ2 := Lib.hid (show z = (insX ⟨nm, val⟩ xs, 0) by rw [HZ1.out, if_neg hfull])
  clear hy hfull HZ1
  obtain ⟨e, hee⟩ : ∃ e : Xa, e = ⟨nm, val⟩ := ⟨_, rfl⟩
  have hen : e.nm = nm := by rw [hee]
  have HEN := Lib.hid hen
  have HEE := Lib.hid (show ValAt w ⟨nm, va, vn, vc⟩ e.val by rw [hee]; exact HE.out)
  replace HZ2 := Lib.hid (by have := HZ2.out; rw [← hee] at this; exact this)
  clear hee hen HE
  have HLEN := Lib.hid (fun (j : Nat) (d : Bool) (out : List Xa) (h : FoldX e xs j d out) => h.len)
  have hprep : (¬ y < 0 ∧ True) ∨ (y = -1 ∧ n ≠ 4) := by
    rcases hgo with h | h
    · exact .inl ⟨by omega, trivial⟩
    · exact .inr h
  clear hgo
  rcases hprep with ⟨p1, p2⟩ | ⟨rfl, p0⟩
  case' inr => have p2 : ((n : Int) == 4) = false := by (have : ¬ (n : Int) = 4 := by omega); simpa using this
  all_goals
    go_wp2_with fail
    go_loopg [8, 9, 10] n (fun k s8 s9 s10 wr => ∃ (j : Nat) (d : Bool) (v : Value) (L : List Xc) (out : List Xa), j + k = n ∧ s10 = .int .i64 (j : Int) ∧ s9 = .bool d ∧ v = s8 ∧ RefOk w wr v L out ∧ FoldX e xs j d out)
    case atStart => exact ⟨0, false, _, [], [], by omega, rfl, rfl, rfl, RefOk.nil k1, FoldX.start e xs⟩
    case round =>
      obtain ⟨j, d, v, L, out, hj, rfl, rfl, rfl, hO, hF⟩ := hrel
      have Hj := Lib.hid hj
      have HO := Lib.hid hO
      have HF := Lib.hid hF
      have hjn : j ≤ n := by omega
      have hl5 : out.length ≤ 5 := by have := hF.len; omega
      clear hj hO hF
      by_cases hlt : j < n
      · have q1 : (j : Int) < n := by omega
        have q2 : (0 : Int) ≤ j := by omega
        have hjx : j < xs.length := by rw [← HXN.out]; exact hlt
        have HJX := Lib.hid hjx
        obtain ⟨g, o, b, m, c, ha, c0, c1, hm, hmc, hc9, hb0, hb⟩ := HAT.out j hjx wr HO.out.kept
        obtain ⟨g', o', b', m', c', ha', c0', c1', hm', hmc', hc9', hb0', hb'⟩ := HVA.out j hjx
        rw [ha] at ha'
        obtain ⟨rfl, rfl⟩ : g = g' ∧ o = o' := by simpa using ha'
        have hsame := (HO.out.kept.cell c1').symm.trans c1
        obtain ⟨rfl, rfl, rfl⟩ : b' = b ∧ m' = m ∧ c' = c := by simpa using hsame
        have HVV := Lib.hid (show ValAt w ⟨(nthA xs j).nm, b', m', c'⟩ (nthA xs j).val from ⟨hm'.symm, hmc', hc9', hb0', hb'⟩)
        subst ha
        have HC0 := Lib.hid c0'
        have HC1 := Lib.hid c1'
        clear hm hmc hc9 hb0 hb ha' c0' c1' hm' hmc' hc9' hb0' hb' hsame hjx
        obtain ⟨x, hx⟩ : ∃ x, x = nthA xs j := ⟨_, rfl⟩
        rw [← hx] at c0
        replace HC0 := Lib.hid (by have := HC0.out; rw [← hx] at this; exact this)
        have HX := Lib.hid hx
        replace HVV := Lib.hid (by have := HVV.out; rw [← hx] at this; exact this)
        clear hx
        obtain ⟨xn, hxn⟩ : ∃ xn, xn = x.nm := ⟨_, rfl⟩
        rw [← hxn] at c0
        replace HC0 := Lib.hid (by have := HC0.out; rw [← hxn] at this; exact this)
        have HXM := Lib.hid hxn
        replace HVV := Lib.hid (by have := HVV.out; rw [← hxn] at this; exact this)
        clear hxn
        have hz2 := HO.out.kept.size
        cases d
        · rcases ltN_tri nm xn with hq | hq | hq
          · -- in its place
            subst hq
            have l1 : (Op.bytesLess nm.toList nm.toList || nm.toList == nm.toList) = true := by simp
            have l2 : (nm.toList == nm.toList) = true := by simp
            have HF2 := Lib.hid (HF.out.same HJX.out (by rw [HEN.out, ← HX.out, ← HXM.out]))
            have hk2 : Kept (fun _ => False) wr (wr.alloc (.cells #[.string nm, .slice va vn vc] 26)) := (Kept.refl _ wr).alloc _
            have HO2a := Lib.hid (HO.out.moved hk2)
            have HO2e := Lib.hid (show XAt (wr.alloc (.cells #[.string nm, .slice va vn vc] 26)) wr.heap.size 0 ⟨nm, va, vn, vc⟩ from newX wr nm va vn vc)
            clear hk2 c1
            go_wp2_with (first | (refine appX rfl (.tmp 44) (.tmp 48) rfl w.heap.size v (out).length L (by rfl) HO2a.out.own wr.heap.size 1 ⟨nm, va, vn, vc⟩ (by rfl) HO2e.out (by omega) HO2a.out.kept.size ?_))
            intro v2 w2 ho2 k2
            have HO2 := Lib.hid (HO2a.out.snoc (y := e) k2 ho2 HEN.out.symm HEE.out)
            clear ho2 k2
            have e0 := HO2.out.kept.cell HC0.out
            go_wp2_with fail
            go_roundg (gk - 1)
            case measure => have := Hj.out; omega
            case rel => have := Hj.out; exact ⟨j + 1, _, v2, _, _, by omega, by go_num, rfl, rfl, HO2.out, HF2.out⟩
          · -- before
            have l1 : (Op.bytesLess nm.toList xn.toList || nm.toList == xn.toList) = true := by rw [show Op.bytesLess nm.toList xn.toList = true from hq]; rfl
            have l2 : (xn.toList == nm.toList) = false := by
              cases q : xn.toList == nm.toList
              · rfl
              · exact absurd (toListX (by simpa using q)).symm (ltN_ne hq)
            have HF2 := Lib.hid (HF.out.lay HJX.out (by rw [HEN.out, ← HX.out, ← HXM.out]; exact hq))
            replace HF2 := Lib.hid (by have := HF2.out; rw [← HX.out] at this; exact this)
            have hk2 : Kept (fun _ => False) wr (wr.alloc (.cells #[.string nm, .slice va vn vc] 26)) := (Kept.refl _ wr).alloc _
            have HO2a := Lib.hid (HO.out.moved hk2)
            have HO2e := Lib.hid (show XAt (wr.alloc (.cells #[.string nm, .slice va vn vc] 26)) wr.heap.size 0 ⟨nm, va, vn, vc⟩ from newX wr nm va vn vc)
            clear hk2 c1 hq
            go_wp2_with (first | (refine appX rfl (.tmp 44) (.tmp 48) rfl w.heap.size v (out).length L (by rfl) HO2a.out.own wr.heap.size 1 ⟨nm, va, vn, vc⟩ (by rfl) HO2e.out (by omega) HO2a.out.kept.size ?_))
            intro v2 w2 ho2 k2
            have HO2 := Lib.hid (HO2a.out.snoc (y := e) k2 ho2 HEN.out.symm HEE.out)
            clear ho2 k2
            have e0 := HO2.out.kept.cell HC0.out
            have e1 := HO2.out.kept.cell HC1.out
            obtain ⟨L2, out2, r1, r2, hl6⟩ : ∃ L2 out2, RefOk w w2 v2 L2 out2 ∧ FoldX e xs (j + 1) true (out2 ++ [x]) ∧ out2.length ≤ 6 := ⟨_, out ++ [e], HO2.out, HF2.out, by simp; omega⟩
            clear HO2 HF2
            have HO2 := Lib.hid r1
            have HF2 := Lib.hid r2
            clear r1 r2
            have hk3 : Kept (fun _ => False) w2 (w2.alloc (.cells #[.string xn, .slice b' m' c'] 26)) := (Kept.refl _ w2).alloc _
            have HO3a := Lib.hid (HO2.out.moved hk3)
            have HO3e := Lib.hid (show XAt (w2.alloc (.cells #[.string xn, .slice b' m' c'] 26)) w2.heap.size 0 ⟨xn, b', m', c'⟩ from newX w2 xn b' m' c')
            clear hk3
            go_wp2_with (first | (refine appX rfl (.tmp 57) (.tmp 62) rfl w.heap.size v2 out2.length L2 (by rfl) HO3a.out.own w2.heap.size 1 ⟨xn, b', m', c'⟩ (by rfl) HO3e.out (by omega) HO3a.out.kept.size ?_))
            intro v3 w3 ho2 k2
            have HO3 := Lib.hid (HO3a.out.snoc (y := x) k2 ho2 HXM.out HVV.out)
            clear ho2 k2
            go_wp2_with fail
            go_roundg (gk - 1)
            case measure => have := Hj.out; omega
            case rel => have := Hj.out; exact ⟨j + 1, _, v3, _, _, by omega, by go_num, rfl, rfl, HO3.out, HF2.out⟩
          · -- behind
            have l1 : (Op.bytesLess nm.toList xn.toList || nm.toList == xn.toList) = false := by
              rw [show Op.bytesLess nm.toList xn.toList = false from ltN_asymm hq]
              cases q : nm.toList == xn.toList
              · rfl
              · exact absurd (toListX (by simpa using q)).symm (ltN_ne hq)
            have l2 : (xn.toList == nm.toList) = false := by
              cases q : xn.toList == nm.toList
              · rfl
              · exact absurd (toListX (by simpa using q)) (ltN_ne hq)
            have HF2 := Lib.hid (HF.out.before HJX.out (by rw [HEN.out, ← HX.out, ← HXM.out]; exact hq))
            replace HF2 := Lib.hid (by have := HF2.out; rw [← HX.out] at this; exact this)
            clear hq
            have hk3 : Kept (fun _ => False) wr (wr.alloc (.cells #[.string xn, .slice b' m' c'] 26)) := (Kept.refl _ wr).alloc _
            have HO3a := Lib.hid (HO.out.moved hk3)
            have HO3e := Lib.hid (show XAt (wr.alloc (.cells #[.string xn, .slice b' m' c'] 26)) wr.heap.size 0 ⟨xn, b', m', c'⟩ from newX wr xn b' m' c')
            clear hk3 hz2
            go_wp2_with (first | (refine appX rfl (.tmp 57) (.tmp 62) rfl w.heap.size v (out).length L (by rfl) HO3a.out.own wr.heap.size 1 ⟨xn, b', m', c'⟩ (by rfl) HO3e.out (by omega) HO3a.out.kept.size ?_))
            intro v3 w3 ho2 k2
            have HO3 := Lib.hid (HO3a.out.snoc (y := x) k2 ho2 HXM.out HVV.out)
            clear ho2 k2
            go_wp2_with fail
            go_roundg (gk - 1)
            case measure => have := Hj.out; omega
            case rel => have := Hj.out; exact ⟨j + 1, _, v3, _, _, by omega, by go_num, rfl, rfl, HO3.out, HF2.out⟩
        · obtain ⟨hq, hF2⟩ := HF.out.after HSO.out HJX.out
          rw [HEN.out, ← HX.out, ← HXM.out] at hq
          have HF2 := Lib.hid hF2
          replace HF2 := Lib.hid (by have := HF2.out; rw [← HX.out] at this; exact this)
          have l2 : (xn.toList == nm.toList) = false := by
            cases q : xn.toList == nm.toList
            · rfl
            · exact absurd (toListX (by simpa using q)).symm (ltN_ne hq)
          clear hq hF2
          have hk3 : Kept (fun _ => False) wr (wr.alloc (.cells #[.string xn, .slice b' m' c'] 26)) := (Kept.refl _ wr).alloc _
          have HO3a := Lib.hid (HO.out.moved hk3)
          have HO3e := Lib.hid (show XAt (wr.alloc (.cells #[.string xn, .slice b' m' c'] 26)) wr.heap.size 0 ⟨xn, b', m', c'⟩ from newX wr xn b' m' c')
          clear hk3 hz2
          go_wp2_with (first | (refine appX rfl (.tmp 57) (.tmp 62) rfl w.heap.size v (out).length L (by rfl) HO3a.out.own wr.heap.size 1 ⟨xn, b', m', c'⟩ (by rfl) HO3e.out (by omega) HO3a.out.kept.size ?_))
          intro v3 w3 ho2 k2
          have HO3 := Lib.hid (HO3a.out.snoc (y := x) k2 ho2 HXM.out HVV.out)
          clear ho2 k2
          go_wp2_with fail
          go_roundg (gk - 1)
          case measure => have := Hj.out; omega
          case rel => have := Hj.out; exact ⟨j + 1, _, v3, _, _, by omega, by go_num, rfl, rfl, HO3.out, HF2.out⟩
      · obtain rfl : n = j := by omega
        have q1 : ¬ (n : Int) < n := by omega
        have HF3 := Lib.hid (show FoldX e xs xs.length d out by rw [← HXN.out]; exact HF.out)
        cases d
        · have hEnd := HF3.out.ends
          have HZ3 := Lib.hid (show z = (out ++ [e], 0) by rw [HZ2.out, hEnd])
          clear hEnd
          have hk2 : Kept (fun _ => False) wr (wr.alloc (.cells #[.string nm, .slice va vn vc] 26)) := (Kept.refl _ wr).alloc _
          have HO2a := Lib.hid (HO.out.moved hk2)
          have HO2e := Lib.hid (show XAt (wr.alloc (.cells #[.string nm, .slice va vn vc] 26)) wr.heap.size 0 ⟨nm, va, vn, vc⟩ from newX wr nm va vn vc)
          clear hk2 HZ2
          go_wp2_with (first | (refine appX rfl (.tmp 66) (.tmp 70) rfl w.heap.size v (out).length L (by rfl) HO2a.out.own wr.heap.size 1 ⟨nm, va, vn, vc⟩ (by rfl) HO2e.out (by omega) HO2a.out.kept.size ?_))
          intro v2 w2 ho2 k2
          have HO2 := Lib.hid (HO2a.out.snoc (y := e) k2 ho2 HEN.out.symm HEE.out)
          clear ho2 k2
          go_wp2_with fail
          go_ret2
          have hz9 := HZ3.out
          clear HZ3
          subst hz9
          exact ⟨_, _, rfl, HO2.out⟩
        · have HZ3 := Lib.hid (show z = (out, 0) by rw [HZ2.out, HF3.out.ended])
          clear HZ2
          go_wp2_with fail
          go_ret2
          have hz9 := HZ3.out
          clear HZ3
          subst hz9
          exact ⟨_, _, rfl, HO.out⟩
end Go.Proofs.Ytoeohbihelfphaa
