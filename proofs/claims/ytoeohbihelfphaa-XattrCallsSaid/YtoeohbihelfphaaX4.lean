/-
  xattr.Get and Names.
-/
import Derived.Test.YtoeohbihelfphaaX3
namespace Go.Proofs.Ytoeohbihelfphaa
open Go.RowKit
set_option linter.unusedVariables false
set_option linter.unusedSimpArgs false
def XBytesPost (R : List Byte × Int) (w : World) (r : Ending) (w' : World) : Prop :=
  ∃ v, r = .returned (.tuple #[v, .int .i64 R.2]) ∧ OwnL w' w.heap.size v R.1.length R.1 ∧ Kept (fun _ => False) w w'
theorem XBytesPost.nil {e : Int} {w w' : World} (h : Kept (fun _ => False) w w') : XBytesPost ([], e) w (.returned (.tuple #[.slice none 0 0, .int .i64 e])) w' := ⟨_, rfl, OwnL.nil _ _, h⟩
set_option maxRecDepth 100000 in
set_option maxHeartbeats 8000000 in
theorem xget_any (a : Option Addr) (cap : Nat) (cs : List Xc) (xs : List Xa) (nm : ByteArray) (w : World) (h : XsAt w a cs xs) (hn : xs.length ≤ 140737488351232) (hs : ∀ i, i < xs.length → (nthA xs i).nm.size ≤ 140737488351232) (hv : ∀ i, i < xs.length → (nthA xs i).val.length ≤ 140737488351232) :
    Calls Try.prog 10 #[.slice a xs.length cap, .string nm] w (XBytesPost (getX xs nm) w) := by
  have HC := Lib.hid (xcheck_any a cap cs xs w h hn hs hv)
  obtain ⟨z, hz⟩ : ∃ z, z = getX xs nm := ⟨_, rfl⟩
  rw [← hz]
  have HZ := Lib.hid hz
  obtain ⟨n, hxn⟩ : ∃ n, n = xs.length := ⟨_, rfl⟩
  have HXN := Lib.hid hxn
  cases hr : rightX (nthA xs) xs.length
  · have HC2 := Lib.hid (by have := HC.out; rw [hr] at this; rw [← hxn] at this; simpa using this)
    obtain rfl : z = ([], 3) := by rw [HZ.out]; unfold getX; rw [hr]; rfl
    rw [← hxn]
    clear hr HC hz hs hv hn hxn h
    go_enter Try.func10, Try.ntmps10
    go_wp2_with (first | ((with_reducible refine (HC2.out).mono ?_); rintro r w1 ⟨rfl, k1⟩))
    go_ret2
    exact XBytesPost.nil k1
  · have HC2 := Lib.hid (by have := HC.out; rw [hr] at this; rw [← hxn] at this; simpa using this)
    obtain ⟨h4, hok⟩ := rightX_ok hr
    have hso := xokTo_sorted _ _ hok
    have HSO := Lib.hid hso
    have HV := Lib.hid hv
    have HA := Lib.hid (show ∀ W, Kept (fun _ => False) w W → Calls Try.prog 17 #[.slice a n cap, .string nm] W (XSearchPost (nthA xs) n nm W) by rw [hxn]; exact fun W k => xat_any a cap cs xs nm W (h.kept k) hn hso)
    have HR := Lib.hid hr
    have HAT := Lib.hid (fun (i : Nat) (hi : i < xs.length) W (k : Kept (fun _ => False) w W) => (h.kept k).at hi)
    have h4' : n ≤ 4 := by rw [hxn]; exact h4
    rw [← hxn]
    clear hr HC hz hs hv hn hxn h hok hso h4
    go_enter Try.func10, Try.ntmps10
    go_upto_region 4 with (first | ((with_reducible refine (HC2.out).mono ?_); rintro r w1 ⟨rfl, k1⟩))
    go_wp2_with fail
    refine (HA.out w1 k1).mono ?_
    rintro r w2 ⟨i, hsp, rfl, k2⟩
    have hK2 : Kept (fun _ => False) w w2 := k1.trans k2 (fun _ _ h => h)
    clear k1 k2 HC2 HA
    cases hth : decide (i < n) && decide (cmpN (nthA xs i).nm nm = 0)
    · have hno := xthere_no hth
      obtain rfl : z = ([], 4) := by
        rw [HZ.out]; unfold getX
        rw [if_pos HR.out, idxX_no HSO.out (by rw [← HXN.out]; exact hsp) (by rw [← HXN.out]; exact hno)]
      clear hth hno hsp
      go_wp2_with fail
      go_ret2
      exact XBytesPost.nil hK2
    · obtain ⟨hi, hnm⟩ := xthere_yes hth
      have hix : i < xs.length := by rw [← HXN.out]; exact hi
      obtain rfl : z = ((nthA xs i).val, 0) := by
        rw [HZ.out]; unfold getX
        rw [if_pos HR.out, idxX_yes HSO.out hix hnm]
      obtain ⟨g, o, b, m, c, rfl, c0, c1, hm, hmc, _, hb0, hb⟩ := HAT.out i hix w2 hK2
      have hvl := HV.out i hix
      have HCL := Lib.hid (show ∀ W, Kept (fun _ => False) w2 W → Calls Try.prog 21 #[.slice b m c] W (fun r w' => ∃ u, r = .returned u ∧ OwnL w' W.heap.size u m (nthA xs i).val ∧ Kept (fun _ => False) W w') from fun W k => cloneB_any b m c (nthA xs i).val W hm.symm hb0 (hb.kept k) (by omega))
      have HM := Lib.hid hm
      have q1 : (i : Int) < n := by omega
      have q2 : (0 : Int) ≤ i := by omega
      have q3 : (i : Int) ≤ 4 := by omega
      clear hth hnm hsp HZ hm hmc hb0 hb c0 hvl
      go_wp2_with fail
      refine (HCL.out w2 (Kept.refl _ w2)).mono ?_
      rintro r w3 ⟨u, rfl, ho, k3⟩
      have HO := Lib.hid (show OwnL w3 w.heap.size u (nthA xs i).val.length (nthA xs i).val by rw [← HM.out]; exact ho.lower hK2.size)
      clear ho
      go_wp2_with fail
      go_ret2
      exact ⟨_, rfl, HO.out, hK2.trans k3 (fun _ _ h => h)⟩
end Go.Proofs.Ytoeohbihelfphaa
