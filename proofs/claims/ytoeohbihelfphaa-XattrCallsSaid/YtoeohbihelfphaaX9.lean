/-
  xattr.Drop.
-/
import Derived.Test.YtoeohbihelfphaaX8
namespace Go.Proofs.Ytoeohbihelfphaa
open Go.RowKit
set_option linter.unusedVariables false
set_option linter.unusedSimpArgs false
def XListPost (R : List Xa × Int) (w : World) (r : Ending) (w' : World) : Prop :=
  ∃ v L, r = .returned (.tuple #[v, .int .i64 R.2]) ∧ CopyOk w' w.heap.size v L R.1 ∧ Kept (fun _ => False) w w'
theorem XListPost.nil {e : Int} {w w' : World} (h : Kept (fun _ => False) w w') : XListPost ([], e) w (.returned (.tuple #[.slice none 0 0, .int .i64 e])) w' := ⟨_, [], rfl, CopyOk.nil _ _, h⟩
theorem getD_cut {α : Type} (xs : List α) (i j : Nat) (d : α) (hi : i < xs.length) : (xs.take i ++ xs.drop (i + 1)).getD j d = if j < i then xs.getD j d else xs.getD (j + 1) d := by
  rw [List.getD_eq_getElem?_getD]
  by_cases h : j < i
  · rw [if_pos h, List.getElem?_append_left (by simp; omega), List.getElem?_take, if_pos h, List.getD_eq_getElem?_getD]
  · rw [if_neg h, List.getElem?_append_right (by simp; omega), List.getElem?_drop, List.getD_eq_getElem?_getD]
    congr 2
    simp; omega
theorem getD_ins {α : Type} (xs : List α) (i j : Nat) (u d : α) (hi : i ≤ xs.length) : (xs.take i ++ u :: xs.drop i).getD j d = if j < i then xs.getD j d else if j = i then u else xs.getD (j - 1) d := by
  rw [List.getD_eq_getElem?_getD]
  by_cases h : j < i
  · rw [if_pos h, List.getElem?_append_left (by simp; omega), List.getElem?_take, if_pos h, List.getD_eq_getElem?_getD]
  · rw [if_neg h, List.getElem?_append_right (by simp; omega)]
    have hl : (xs.take i).length = i := by simp; omega
    rw [hl]
    by_cases e : j = i
    · rw [if_pos e, e]; simp
    · rw [if_neg e, show j - i = (j - i - 1) + 1 by omega, List.getElem?_cons_succ, List.getElem?_drop, List.getD_eq_getElem?_getD]
      congr 2
      omega
theorem getD_set {α : Type} (xs : List α) (i j : Nat) (u d : α) (hi : i < xs.length) : (xs.set i u).getD j d = if j = i then u else xs.getD j d := by
  rw [List.getD_eq_getElem?_getD, List.getElem?_set]
  by_cases e : i = j
  · subst e; simp [hi]
  · rw [if_neg e, if_neg (fun h => e h.symm), List.getD_eq_getElem?_getD]
theorem CopyOk.cut {w w' : World} {base : Nat} {v v' : Value} {L : List Xc} {xs : List Xa} (h : CopyOk w base v L xs) {i : Nat} (hi : i < xs.length) (hk : Kept (fun k => v.ownBlock = some k) w w') (ho : OwnX w' base v' (xs.length - 1) (L.take i ++ L.drop (i + 1))) : CopyOk w' base v' (L.take i ++ L.drop (i + 1)) (xs.take i ++ xs.drop (i + 1)) := by
  have hl := h.len
  have hlen : (xs.take i ++ xs.drop (i + 1)).length = xs.length - 1 := by simp; omega
  have hv : ∀ j, j < xs.length → OwnL w' base (.slice (nthC L j).a (nthC L j).n (nthC L j).c) (nthC L j).n (nthA xs j).val := fun j hj => (h.val j hj).kept hk (fun k h1 h2 => apart_XL h.own (h.val j hj) h2 h1)
  refine ⟨by simp; omega, by rw [hlen]; exact ho, fun j hj => ?_, fun j hj => ?_⟩
  all_goals
    rw [hlen] at hj
    unfold nthC nthA
    rw [getD_cut L i j _ (by omega), getD_cut xs i j _ hi]
    by_cases hji : j < i
    · rw [if_pos hji, if_pos hji]
      first | exact h.nm j (by omega) | exact hv j (by omega)
    · rw [if_neg hji, if_neg hji]
      first | exact h.nm (j + 1) (by omega) | exact hv (j + 1) (by omega)
theorem CopyOk.ins {w w' : World} {base : Nat} {v v' : Value} {L : List Xc} {xs : List Xa} (h : CopyOk w base v L xs) {i : Nat} (hi : i ≤ xs.length) {x : Xc} {e : Xa} (hnm : x.nm = e.nm) (hx : OwnL w base (.slice x.a x.n x.c) x.n e.val) (hk : Kept (fun k => v.ownBlock = some k) w w') (ho : OwnX w' base v' (xs.length + 1) (L.take i ++ x :: L.drop i)) : CopyOk w' base v' (L.take i ++ x :: L.drop i) (xs.take i ++ e :: xs.drop i) := by
  have hl := h.len
  have hlen : (xs.take i ++ e :: xs.drop i).length = xs.length + 1 := by simp; omega
  have hv : ∀ j, j < xs.length → OwnL w' base (.slice (nthC L j).a (nthC L j).n (nthC L j).c) (nthC L j).n (nthA xs j).val := fun j hj => (h.val j hj).kept hk (fun k h1 h2 => apart_XL h.own (h.val j hj) h2 h1)
  have hx' := hx.kept hk (fun k h1 h2 => apart_XL h.own hx h2 h1)
  refine ⟨by simp; omega, by rw [hlen]; exact ho, fun j hj => ?_, fun j hj => ?_⟩
  all_goals
    rw [hlen] at hj
    unfold nthC nthA
    rw [getD_ins L i j x _ (by omega), getD_ins xs i j e _ hi]
    by_cases hji : j < i
    · rw [if_pos hji, if_pos hji]
      first | exact h.nm j (by omega) | exact hv j (by omega)
    · rw [if_neg hji, if_neg hji]
      by_cases hje : j = i
      · rw [if_pos hje, if_pos hje]
        first | exact hnm | exact hx'
      · rw [if_neg hje, if_neg hje]
        first | exact h.nm (j - 1) (by omega) | exact hv (j - 1) (by omega)
theorem CopyOk.put {w w' : World} {base : Nat} {v v' : Value} {L : List Xc} {xs : List Xa} (h : CopyOk w base v L xs) {i : Nat} (hi : i < xs.length) {x : Xc} {e : Xa} (hnm : x.nm = e.nm) (hx : OwnL w base (.slice x.a x.n x.c) x.n e.val) (hk : Kept (fun k => v.ownBlock = some k) w w') (ho : OwnX w' base v' xs.length (L.set i x)) : CopyOk w' base v' (L.set i x) (xs.set i e) := by
  have hl := h.len
  have hlen : (xs.set i e).length = xs.length := by simp
  have hv : ∀ j, j < xs.length → OwnL w' base (.slice (nthC L j).a (nthC L j).n (nthC L j).c) (nthC L j).n (nthA xs j).val := fun j hj => (h.val j hj).kept hk (fun k h1 h2 => apart_XL h.own (h.val j hj) h2 h1)
  have hx' := hx.kept hk (fun k h1 h2 => apart_XL h.own hx h2 h1)
  refine ⟨by simp; omega, by rw [hlen]; exact ho, fun j hj => ?_, fun j hj => ?_⟩
  all_goals
    rw [hlen] at hj
    unfold nthC nthA
    rw [getD_set L i j x _ (by omega), getD_set xs i j e _ hi]
    by_cases hje : j = i
    · rw [if_pos hje, if_pos hje]
      first | exact hnm | exact hx'
    · rw [if_neg hje, if_neg hje]
      first | exact h.nm j hj | exact hv j hj
set_option maxRecDepth 100000 in
set_option maxHeartbeats 8000000 in
theorem xdrop_any (a : Option Addr) (cap : Nat) (cs : List Xc) (xs : List Xa) (nm : ByteArray) (w : World) (h : XsAt w a cs xs) (hn : xs.length ≤ 140737488351232) (hs : ∀ i, i < xs.length → (nthA xs i).nm.size ≤ 140737488351232) (hv : ∀ i, i < xs.length → (nthA xs i).val.length ≤ 140737488351232) :
    Calls Try.prog 7 #[.slice a xs.length cap, .string nm] w (XListPost (dropX xs nm) w) := by
  have HC := Lib.hid (xcheck_any a cap cs xs w h hn hs hv)
  obtain ⟨z, hz⟩ : ∃ z, z = dropX xs nm := ⟨_, rfl⟩
  rw [← hz]
  have HZ := Lib.hid hz
  obtain ⟨n, hxn⟩ : ∃ n, n = xs.length := ⟨_, rfl⟩
  have HXN := Lib.hid hxn
  cases hr : rightX (nthA xs) xs.length
  · have HC2 := Lib.hid (by have := HC.out; rw [hr] at this; rw [← hxn] at this; simpa using this)
    obtain rfl : z = ([], 3) := by rw [HZ.out]; unfold dropX; rw [hr]; rfl
    rw [← hxn]
    clear hr HC hz hs hv hn hxn h
    go_enter Try.func7, Try.ntmps7
    go_wp2_with (first | ((with_reducible refine (HC2.out).mono ?_); rintro r w1 ⟨rfl, k1⟩))
    go_ret2
    exact XListPost.nil k1
  · have HC2 := Lib.hid (by have := HC.out; rw [hr] at this; rw [← hxn] at this; simpa using this)
    obtain ⟨h4, hok⟩ := rightX_ok hr
    have hso := xokTo_sorted _ _ hok
    have HSO := Lib.hid hso
    have HA := Lib.hid (show ∀ W, Kept (fun _ => False) w W → Calls Try.prog 17 #[.slice a n cap, .string nm] W (XSearchPost (nthA xs) n nm W) by rw [hxn]; exact fun W k => xat_any a cap cs xs nm W (h.kept k) hn hso)
    have HCO := Lib.hid (show ∀ W, Kept (fun _ => False) w W → Calls Try.prog 19 #[.slice a n cap] W (CopyPost xs W) by rw [hxn]; exact fun W k => xcopied_any a cap cs xs W (h.kept k) (by omega) hv)
    have HR := Lib.hid hr
    have h4' : n ≤ 4 := by rw [hxn]; exact h4
    rw [← hxn]
    clear hr HC hz hs hv hn hxn h hok hso h4
    go_enter Try.func7, Try.ntmps7
    go_upto_region 4 with (first | ((with_reducible refine (HC2.out).mono ?_); rintro r w1 ⟨rfl, k1⟩))
    go_wp2_with fail
    refine (HA.out w1 k1).mono ?_
    rintro r w2 ⟨i, hsp, rfl, k2⟩
    have hK2 : Kept (fun _ => False) w w2 := k1.trans k2 (fun _ _ h => h)
    clear k1 k2 HC2 HA
    cases hth : decide (i < n) && decide (cmpN (nthA xs i).nm nm = 0)
    · have hno := xthere_no hth
      obtain rfl : z = ([], 4) := by
        rw [HZ.out]; unfold dropX
        rw [if_pos HR.out, idxX_no HSO.out (by rw [← HXN.out]; exact hsp) (by rw [← HXN.out]; exact hno)]
      clear hth hno hsp
      go_wp2_with fail
      go_ret2
      exact XListPost.nil hK2
    · obtain ⟨hi, hnm⟩ := xthere_yes hth
      have hix : i < xs.length := by rw [← HXN.out]; exact hi
      obtain rfl : z = (xs.take i ++ xs.drop (i + 1), 0) := by
        rw [HZ.out]; unfold dropX
        rw [if_pos HR.out, idxX_yes HSO.out hix hnm]
        simp only
        rw [filterX_at hix hnm (fun j hj e => by
          rcases Nat.lt_trichotomy j i with h | h | h
          · exact absurd (by rw [e, hnm]) (ltN_ne (HSO.out j i h hix))
          · exact h
          · exact absurd (by rw [e, hnm]) (ltN_ne (HSO.out i j h hj)))]
      have q1 : (i : Int) < n := by omega
      have q2 : (0 : Int) ≤ i := by omega
      have q3 : (i : Int) ≤ 4 := by omega
      have HIX := Lib.hid hix
      clear hth hnm hsp HZ hix
      go_wp2_with fail
      refine (HCO.out w2 hK2).mono ?_
      rintro r w3 ⟨v, L, rfl, hco, k3⟩
      have hK3 : Kept (fun _ => False) w w3 := hK2.trans k3 (fun _ _ h => h)
      have HO := Lib.hid hco
      have HZ2 := Lib.hid hK2.size
      clear hco k3
      go_wp2_with fail
      refine (delete_ownX v L i w2.heap.size w3 (by rw [HO.out.len]; exact HO.out.own) (by rw [HO.out.len]; exact HIX.out) (by rw [HO.out.len, ← HXN.out]; omega)).mono ?_
      rintro r w4 ⟨v4, rfl, ho4, k4⟩
      have hC4 := HO.out.cut HIX.out k4 (by rw [← HO.out.len]; exact ho4)
      have hK4 : Kept (fun _ => False) w w4 := hK3.trans k4 (fun j hj h => by have := (HO.out.own.blk h).1; have := HZ2.out; omega)
      have HC4 := Lib.hid (show CopyOk w4 w.heap.size v4 (L.take i ++ L.drop (i + 1)) (xs.take i ++ xs.drop (i + 1)) from ⟨hC4.len, hC4.own.lower HZ2.out, hC4.nm, fun j hj => (hC4.val j hj).lower HZ2.out⟩)
      clear hC4 k4 ho4
      go_wp2_with fail
      go_ret2
      exact ⟨_, _, rfl, HC4.out, hK4⟩
end Go.Proofs.Ytoeohbihelfphaa
