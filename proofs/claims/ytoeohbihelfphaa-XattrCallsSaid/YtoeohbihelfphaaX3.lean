/-
  The search for an attribute's name.
-/
import Derived.Test.YtoeohbihelfphaaX2
namespace Go.Proofs.Ytoeohbihelfphaa
open Go.RowKit
set_option linter.unusedVariables false
set_option linter.unusedSimpArgs false
theorem compare_any (a b : ByteArray) (w : World) : Calls Try.prog 26 #[.string a, .string b] w fun r w' => r = .returned (.int .i64 (cmpN a b)) ∧ w = w' :=
  (Try.strings_Compare a b w).mono fun _ _ ⟨h, k⟩ => ⟨h, k.symm⟩
set_option maxRecDepth 100000 in
set_option maxHeartbeats 4000000 in
theorem xless_any (mn : ByteArray) (b : Option Addr) (m c : Nat) (nm : ByteArray) (w : World) :
    Calls Try.prog 25 #[.agg #[.string mn, .slice b m c], .string nm] w fun r w' => r = .returned (.int .i64 (cmpN mn nm)) ∧ Kept (fun _ => False) w w' := by
  go_enter Try.func25, Try.ntmps25
  go_upto_region 1 with fail
  obtain ⟨d0, d1⟩ := newX w mn b m c
  have hK0 : Kept (fun _ => False) w (w.alloc (.cells #[.string mn, .slice b m c] 26)) := (Kept.refl _ w).alloc _
  generalize (w.alloc (.cells #[.string mn, .slice b m c] 26)) = w0 at *
  generalize w.heap.size = gx at *
  go_wp2_with ((with_reducible refine (compare_any _ _ _).mono ?_); rintro r w1 ⟨rfl, rfl⟩)
  go_ret
  exact ⟨rfl, hK0⟩
def XSearchPost (f : Nat → Xa) (n : Nat) (nm : ByteArray) (w : World) (r : Ending) (w' : World) : Prop :=
  ∃ i : Nat, SplitX f n nm i i ∧ r = .returned (.tuple #[.int .i64 (i : Int), .bool (decide (i < n) && decide (cmpN (f i).nm nm = 0))]) ∧ Kept (fun _ => False) w w'
set_option maxRecDepth 100000 in
set_option maxHeartbeats 8000000 in
theorem xsearch_any (a : Option Addr) (cap : Nat) (cs : List Xc) (xs : List Xa) (nm : ByteArray) (w : World) (h : XsAt w a cs xs) (hn : xs.length ≤ 140737488351232) (hso : SortedX (nthA xs) xs.length) :
    Calls Try.prog 24 #[.slice a xs.length cap, .string nm, .func (.func 25) #[] #[]] w (XSearchPost (nthA xs) xs.length nm w) := by
  obtain ⟨n, hxn⟩ : ∃ n, n = xs.length := ⟨_, rfl⟩
  have HXN := Lib.hid hxn
  rw [← hxn] at hn hso ⊢
  have HSO := Lib.hid hso
  clear hso hxn
  have qa : (n : Int) ≤ 140737488351232 := by omega
  go_enter Try.func24, Try.ntmps24
  go_wp2_with fail
  go_loopg [9, 10] (n + 1) (fun k si sj wr => ∃ i j : Nat, j + 1 ≤ i + k ∧ si = .int .i64 (i : Int) ∧ sj = .int .i64 (j : Int) ∧ SplitX (nthA xs) n nm i j ∧ Kept (fun _ => False) w wr)
  case atStart => exact ⟨0, n, by omega, rfl, rfl, ⟨by omega, by omega, fun m hm => by omega, fun m h1 h2 => by omega⟩, Kept.refl _ w⟩
  case round =>
    obtain ⟨i, j, hkk, rfl, rfl, hSp, hK⟩ := hrel
    have Hk := Lib.hid hkk
    have HS := Lib.hid hSp
    have hle := hSp.le
    have hlen := hSp.len
    clear hkk hSp
    by_cases hlt : i < j
    · have q : (i : Int) < j := by omega
      have q1 : (j : Int) ≤ 140737488351232 := by omega
      obtain ⟨m, hh⟩ : ∃ m : Nat, m = (i + j) / 2 := ⟨_, rfl⟩
      have qh1 : i ≤ m := by omega
      have qh2 : m < j := by omega
      have qh3 : ((i : Int) + j) / 2 = m := by omega
      clear hh
      obtain ⟨ga, oa, b, vm, c, rfl, a0, a1, hrest⟩ := (h.kept hK).at (i := m) (by have := HXN.out; omega)
      go_upto_region 5 with fail
      clear qh3
      have qh4 : (m : Int) < n := by omega
      clear hrest
      obtain ⟨mn, hmn⟩ : ∃ mn, mn = (nthA xs m).nm := ⟨_, rfl⟩
      rw [← hmn] at a0
      obtain ⟨v, hv⟩ : ∃ v, v = cmpN mn nm := ⟨_, rfl⟩
      have HC := Lib.hid (show ∀ W, Calls Try.prog 25 #[.agg #[.string mn, .slice b vm c], .string nm] W (fun r w' => r = .returned (.int .i64 v) ∧ Kept (fun _ => False) W w') by
        rw [hv]; exact fun W => xless_any mn b vm c nm W)
      have HV := Lib.hid (show v < 0 ↔ ltN (nthA xs m).nm nm = true by rw [hv, hmn]; exact cmpN_lt _ _)
      clear hmn hv
      by_cases hb : v < 0
      · have HUP := Lib.hid (HS.out.up HSO.out (h := m) (by omega) (HV.out.1 hb))
        go_wp2_with fail
        refine (HC.out _).mono ?_
        rintro r w2 ⟨rfl, k2⟩
        clear HC
        go_wp2_with fail
        go_roundg (gk - 1)
        case measure => have := Hk.out; omega
        case rel =>
          have := Hk.out
          exact ⟨m + 1, j, by omega, by go_num, rfl, HUP.out, hK.trans k2 (fun _ _ h => h)⟩
      · have HDN := Lib.hid (HS.out.down HSO.out (h := m) qh1 qh2 (by
          cases e : ltN (nthA xs m).nm nm
          · rfl
          · exact absurd (HV.out.2 e) hb))
        go_wp2_with fail
        refine (HC.out _).mono ?_
        rintro r w2 ⟨rfl, k2⟩
        clear HC
        go_wp2_with fail
        go_roundg (gk - 1)
        case measure => have := Hk.out; omega
        case rel =>
          have := Hk.out
          exact ⟨i, m, by omega, rfl, rfl, HDN.out, hK.trans k2 (fun _ _ h => h)⟩
    · obtain rfl : i = j := by omega
      have q : ¬ (i : Int) < i := by omega
      by_cases hin : i < n
      · have q1 : (i : Int) < n := by omega
        obtain ⟨ga, oa, b, vm, c, rfl, a0, a1, hrest⟩ := (h.kept hK).at (i := i) (by have := HXN.out; omega)
        clear hrest
        obtain ⟨mn, hmn⟩ : ∃ mn, mn = (nthA xs i).nm := ⟨_, rfl⟩
        rw [← hmn] at a0
        obtain ⟨v, hv⟩ : ∃ v, v = cmpN mn nm := ⟨_, rfl⟩
        have HC := Lib.hid (show ∀ W, Calls Try.prog 25 #[.agg #[.string mn, .slice b vm c], .string nm] W (fun r w' => r = .returned (.int .i64 v) ∧ Kept (fun _ => False) W w') by
          rw [hv]; exact fun W => xless_any mn b vm c nm W)
        have HV := Lib.hid (show v = cmpN (nthA xs i).nm nm by rw [hv, hmn])
        have HIN := Lib.hid hin
        clear hmn hv
        go_wp2_with fail
        refine (HC.out _).mono ?_
        rintro r w2 ⟨rfl, k2⟩
        clear HC
        go_wp2_with fail
        go_ret2
        refine ⟨i, HS.out, ?_, hK.trans k2 (fun _ _ h => h)⟩
        rw [← HV.out, decide_eq_true HIN.out]
        simp
        rfl
      · have q1 : ¬ (i : Int) < n := by omega
        have HIN := Lib.hid hin
        go_wp2_with fail
        go_ret2
        exact ⟨i, HS.out, by rw [decide_eq_false HIN.out]; rfl, hK⟩
set_option maxRecDepth 100000 in
set_option maxHeartbeats 4000000 in
theorem xat_any (a : Option Addr) (cap : Nat) (cs : List Xc) (xs : List Xa) (nm : ByteArray) (w : World) (h : XsAt w a cs xs) (hn : xs.length ≤ 140737488351232) (hso : SortedX (nthA xs) xs.length) :
    Calls Try.prog 17 #[.slice a xs.length cap, .string nm] w (XSearchPost (nthA xs) xs.length nm w) := by
  have HC := Lib.hid (xsearch_any a cap cs xs nm w h hn hso)
  clear hso h
  go_enter Try.func17, Try.ntmps17
  go_wp2_with (first | ((with_reducible refine HC.out.mono ?_); rintro r w1 ⟨i, hsp, rfl, k1⟩; have HSP := Lib.hid hsp; clear hsp))
  go_ret2
  exact ⟨i, HSP.out, rfl, k1⟩
/-- What there is at the place that is found. -/
theorem xthere_yes {f : Nat → Xa} {n i : Nat} {nm : ByteArray} (h : (decide (i < n) && decide (cmpN (f i).nm nm = 0)) = true) : i < n ∧ (f i).nm = nm := by
  simp only [Bool.and_eq_true, decide_eq_true_eq] at h
  exact ⟨h.1, (cmpN_zero _ _).1 h.2⟩
theorem xthere_no {f : Nat → Xa} {n i : Nat} {nm : ByteArray} (h : (decide (i < n) && decide (cmpN (f i).nm nm = 0)) = false) : i < n → (f i).nm ≠ nm := fun hi e => by
  rw [decide_eq_true hi, decide_eq_true ((cmpN_zero _ _).2 e)] at h
  cases h
end Go.Proofs.Ytoeohbihelfphaa
