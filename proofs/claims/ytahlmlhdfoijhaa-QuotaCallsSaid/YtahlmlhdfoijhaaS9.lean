/-
  The walks of the reference's Limit and Charge, over the contracts of Right and put.
-/
import Derived.Test.YtahlmlhdfoijhaaS8

namespace Go.Proofs.Ytahlmlhdfoijhaa
open Go.RowKit
def RightAny : Prop := ∀ (a : Option Addr) (ca : Nat) (xs : List U) (w : World), ListAt w a xs.length (nth xs) → xs.length ≤ ca → xs.length ≤ 9223372036854775807 →
  Calls Try.prog 14 #[.slice a xs.length ca] w fun r w' => r = .returned (.bool (decide (RightU xs))) ∧ Kept (fun _ => False) w w'
def PutAny : Prop := ∀ (a : Option Addr) (ca : Nat) (xs : List U) (u : U) (w : World), ListAt w a xs.length (nth xs) → xs.length ≤ ca → RightU xs → okU u = true →
  Calls Try.prog 21 #[.slice a xs.length ca, u.v] w (ListPost (putU xs u) w)
theorem find_limits {xs : List U} (h : RightU xs) (uid : Int) : inr (find uid xs).mb (-1) = true ∧ inr (find uid xs).mi (-1) = true := by
  rcases find_in uid xs with e | e
  · rw [e]; simp [inr]
  · obtain ⟨i, hi, he⟩ := List.getElem_of_mem e
    have := h.2 i hi
    rw [← he, nth_eq xs i hi]
    simp only [fineAt, okU, Bool.and_eq_true] at this
    exact ⟨this.1.1.1.2, this.1.1.2⟩
set_option maxHeartbeats 4000000 in
theorem limitR_any (hright : RightAny) (hput : PutAny) (a : Option Addr) (ca : Nat) (xs : List U) (uid b n : Int) (w : World) (ha : ListAt w a xs.length (nth xs)) (hca : xs.length ≤ ca) (hn : xs.length ≤ 9223372036854775807) :
    Calls Try.prog 12 #[.slice a xs.length ca, .int .i64 uid, .int .i64 b, .int .i64 n] w (ListPost (limitU xs uid b n) w) := by
  by_cases hR : RightU xs
  · obtain ⟨res, hres⟩ : ∃ res, res = limitU xs uid b n := ⟨_, rfl⟩
    rw [← hres]
    unfold limitU at hres
    rw [if_pos hR] at hres
    have hl8 : xs.length ≤ 8 := hR.1
    cases h1 : inr uid 0 with
    | false =>
      rw [h1] at hres
      obtain rfl : res = ([], 2) := by simpa using hres
      clear hres
      go_enter Try.func12, Try.ntmps12
      go_wp2_with (first
        | (go_at_call 14; refine (hright a ca xs w ha hca hn).mono ?_; rw [decide_eq_true hR]; rintro r w2 ⟨rfl, hk2⟩; have ha2 := ha.kept hk2)
        | (go_at_call 20; refine (in_any _ _ _).mono ?_; rintro r w' ⟨rfl, hw⟩; replace hw := hw.symm; subst hw))
      go_ret2
      exact ListPost.none hk2
    | true =>
      rw [h1] at hres
      cases h2 : inr b (-1) with
      | false =>
        rw [h2] at hres
        obtain rfl : res = ([], 2) := by simpa using hres
        clear hres
        go_enter Try.func12, Try.ntmps12
        go_wp2_with (first
          | (go_at_call 14; refine (hright a ca xs w ha hca hn).mono ?_; rw [decide_eq_true hR]; rintro r w2 ⟨rfl, hk2⟩; have ha2 := ha.kept hk2)
          | (go_at_call 20; refine (in_any _ _ _).mono ?_; rintro r w' ⟨rfl, hw⟩; replace hw := hw.symm; subst hw))
        go_ret2
        exact ListPost.none hk2
      | true =>
        rw [h2] at hres
        cases h3 : inr n (-1) with
        | false =>
          rw [h3] at hres
          obtain rfl : res = ([], 2) := by simpa using hres
          clear hres
          go_enter Try.func12, Try.ntmps12
          go_wp2_with (first
            | (go_at_call 14; refine (hright a ca xs w ha hca hn).mono ?_; rw [decide_eq_true hR]; rintro r w2 ⟨rfl, hk2⟩; have ha2 := ha.kept hk2)
            | (go_at_call 20; refine (in_any _ _ _).mono ?_; rintro r w' ⟨rfl, hw⟩; replace hw := hw.symm; subst hw))
          go_ret2
          exact ListPost.none hk2
        | true =>
          rw [h3] at hres
          simp only [Bool.and_self, if_true] at hres
          have i1 : 0 ≤ uid ∧ uid ≤ 65535 := by simpa [inr] using h1
          obtain ⟨⟨j1, j2⟩, j3, j4⟩ := find_bounds hR uid
          have HOK : Hid (okU ⟨uid, (find uid xs).bl, (find uid xs).ino, b, n⟩ = true) := Lib.hid (by simp only [okU, h1, h2, h3, Bool.and_true]; simp [inr]; omega)
          have HRES := Lib.hid hres
          have hu := find_uid uid xs
          have HG := Lib.hid (getU_find xs uid)
          have hq : xs.length ≤ 140737488351232 := by omega
          clear hres
          go_enter Try.func12, Try.ntmps12
          go_upto_region 6 with (first
            | (go_at_call 14; refine (hright a ca xs w ha hca hn).mono ?_; rw [decide_eq_true hR]; rintro r w2 ⟨rfl, hk2⟩; have ha2 := ha.kept hk2)
            | (go_at_call 20; refine (in_any _ _ _).mono ?_; rintro r w' ⟨rfl, hw⟩; replace hw := hw.symm; subst hw)
            | (go_at_call 15; refine (getR_any a xs.length ca (nth xs) uid w2 ha2 hq).mono ?_; rw [HG.out]; rintro r w3 ⟨rfl, hk3⟩))
          generalize hfu : find uid xs = u at *
          go_upto_region 8 with fail
          generalize hw0 : World.alloc w3 _ = w4
          have hb4 : RowV w4 w3.heap.size 29 (U.cs ⟨uid, u.bl, u.ino, b, n⟩) := by rw [← hw0]; exact RowV.new w3 _ _
          have hk4 : Kept (fun _ => False) w w4 := by rw [← hw0]; exact (hk2.trans hk3 (fun _ _ h => h)).alloc _
          have ha4 := ha.kept hk4
          clear hw0 hk2 hk3 ha2 hu hfu HG
          obtain ⟨c0, c1, c2, c3, c4⟩ := hb4.u
          go_wp2_with (go_at_call 21; go_loud (refine (hput a ca xs ⟨uid, u.bl, u.ino, b, n⟩ w4 ha4 hca hR HOK.out).mono ?_); rintro r w5 ⟨v5, rfl, ho5, hk5⟩)
          go_ret2
          rw [← HRES.out] at ho5
          exact ⟨_, by rw [HRES.out]; rfl, owns_lower ho5 hk4.size, hk4.trans hk5 (fun _ _ h => h)⟩
  · have he : limitU xs uid b n = ([], 3) := by unfold limitU; rw [if_neg hR]
    rw [he]
    clear he
    go_enter Try.func12, Try.ntmps12
    go_wp2_with (go_at_call 14; refine (hright a ca xs w ha hca hn).mono ?_; rw [decide_eq_false hR]; rintro r w2 ⟨rfl, hk2⟩)
    go_ret2
    exact ListPost.none hk2
set_option maxHeartbeats 4000000 in
theorem chargeR_any (hright : RightAny) (hput : PutAny) (a : Option Addr) (ca : Nat) (xs : List U) (uid b n : Int) (w : World) (ha : ListAt w a xs.length (nth xs)) (hca : xs.length ≤ ca) (hn : xs.length ≤ 9223372036854775807) :
    Calls Try.prog 13 #[.slice a xs.length ca, .int .i64 uid, .int .i64 b, .int .i64 n] w (ListPost (chargeU xs uid b n) w) := by
  by_cases hR : RightU xs
  · obtain ⟨res, hres⟩ : ∃ res, res = chargeU xs uid b n := ⟨_, rfl⟩
    rw [← hres]
    unfold chargeU at hres
    rw [if_pos hR] at hres
    have hl8 : xs.length ≤ 8 := hR.1
    cases h1 : inr uid 0 with
    | false =>
      rw [h1] at hres
      obtain rfl : res = ([], 2) := by simpa using hres
      clear hres
      go_enter Try.func13, Try.ntmps13
      go_wp2_with (first
        | (go_at_call 14; refine (hright a ca xs w ha hca hn).mono ?_; rw [decide_eq_true hR]; rintro r w2 ⟨rfl, hk2⟩; have ha2 := ha.kept hk2)
        | (go_at_call 20; refine (in_any _ _ _).mono ?_; rintro r w' ⟨rfl, hw⟩; replace hw := hw.symm; subst hw))
      go_ret2
      exact ListPost.none hk2
    | true =>
      rw [h1] at hres
      cases h2 : inr b (-65535) with
      | false =>
        rw [h2] at hres
        obtain rfl : res = ([], 2) := by simpa using hres
        clear hres
        go_enter Try.func13, Try.ntmps13
        go_wp2_with (first
          | (go_at_call 14; refine (hright a ca xs w ha hca hn).mono ?_; rw [decide_eq_true hR]; rintro r w2 ⟨rfl, hk2⟩; have ha2 := ha.kept hk2)
          | (go_at_call 20; refine (in_any _ _ _).mono ?_; rintro r w' ⟨rfl, hw⟩; replace hw := hw.symm; subst hw))
        go_ret2
        exact ListPost.none hk2
      | true =>
        rw [h2] at hres
        cases h3 : inr n (-65535) with
        | false =>
          rw [h3] at hres
          obtain rfl : res = ([], 2) := by simpa using hres
          clear hres
          go_enter Try.func13, Try.ntmps13
          go_wp2_with (first
            | (go_at_call 14; refine (hright a ca xs w ha hca hn).mono ?_; rw [decide_eq_true hR]; rintro r w2 ⟨rfl, hk2⟩; have ha2 := ha.kept hk2)
            | (go_at_call 20; refine (in_any _ _ _).mono ?_; rintro r w' ⟨rfl, hw⟩; replace hw := hw.symm; subst hw))
          go_ret2
          exact ListPost.none hk2
        | true =>
          rw [h3] at hres
          simp only [Bool.and_self, if_true] at hres
          have i1 : 0 ≤ uid ∧ uid ≤ 65535 := by simpa [inr] using h1
          have i2 : -65535 ≤ b ∧ b ≤ 65535 := by simpa [inr] using h2
          have i3 : -65535 ≤ n ∧ n ≤ 65535 := by simpa [inr] using h3
          obtain ⟨⟨j1, j2⟩, j3, j4⟩ := find_bounds hR uid
          obtain ⟨l1, l2⟩ := find_limits hR uid
          obtain ⟨i21, i22⟩ := i2
          obtain ⟨i31, i32⟩ := i3
          have HL1 := Lib.hid l1
          have HL2 := Lib.hid l2
          have hu := find_uid uid xs
          have HG := Lib.hid (getU_find xs uid)
          have hq : xs.length ≤ 140737488351232 := by omega
          have HRES := Lib.hid hres
          clear hres l1 l2
          go_enter Try.func13, Try.ntmps13
          go_upto_region 6 with (first
            | (go_at_call 14; refine (hright a ca xs w ha hca hn).mono ?_; rw [decide_eq_true hR]; rintro r w2 ⟨rfl, hk2⟩; have ha2 := ha.kept hk2)
            | (go_at_call 20; refine (in_any _ _ _).mono ?_; rintro r w' ⟨rfl, hw⟩; replace hw := hw.symm; subst hw)
            | (go_at_call 15; refine (getR_any a xs.length ca (nth xs) uid w2 ha2 hq).mono ?_; rw [HG.out]; rintro r w3 ⟨rfl, hk3⟩))
          generalize hfu : find uid xs = u at *
          go_upto_region 8 with fail
          generalize hw0 : World.alloc w3 _ = w4
          have hb4 : RowV w4 w3.heap.size 29 (U.cs ⟨uid, u.bl + b, u.ino + n, u.mb, u.mi⟩) := by rw [← hw0]; exact RowV.new w3 _ _
          have hk4 : Kept (fun _ => False) w w4 := by rw [← hw0]; exact (hk2.trans hk3 (fun _ _ h => h)).alloc _
          have ha4 := ha.kept hk4
          clear hw0 hk2 hk3 ha2 hu hfu HG
          obtain ⟨c0, c1, c2, c3, c4⟩ := hb4.u
          cases h4 : inr (u.bl + b) 0 with
          | false =>
            have hres := HRES.out
            rw [h4] at hres
            obtain rfl : res = ([], 2) := by simpa using hres
            clear hres HRES
            go_wp2_with (go_at_call 20; refine (in_any _ _ _).mono ?_; rintro r w' ⟨rfl, hw⟩; replace hw := hw.symm; subst hw)
            go_ret2
            exact ListPost.none hk4
          | true =>
            cases h5 : inr (u.ino + n) 0 with
            | false =>
              have hres := HRES.out
              rw [h4, h5] at hres
              obtain rfl : res = ([], 2) := by simpa using hres
              clear hres HRES
              go_wp2_with (go_at_call 20; refine (in_any _ _ _).mono ?_; rintro r w' ⟨rfl, hw⟩; replace hw := hw.symm; subst hw)
              go_ret2
              exact ListPost.none hk4
            | true =>
              have hres := HRES.out
              rw [h4, h5] at hres
              simp only [Bool.and_self, if_true] at hres
              have HRES2 := Lib.hid hres
              have HOK : Hid (okU ⟨uid, u.bl + b, u.ino + n, u.mb, u.mi⟩ = true) := Lib.hid (by simp only [okU, h1, h4, h5, HL1.out, HL2.out, Bool.and_true])
              clear hres HRES
              go_upto_region 10 with (go_at_call 20; refine (in_any _ _ _).mono ?_; rintro r w' ⟨rfl, hw⟩; replace hw := hw.symm; subst hw)
              by_cases x1 : 0 < b
              · have x1d : decide (0 < b) = true := decide_eq_true x1
                by_cases x2 : 0 ≤ u.mb
                · have x2d : decide (0 ≤ u.mb) = true := decide_eq_true x2
                  by_cases x3 : u.mb < u.bl + b
                  · have x3d : decide (u.mb < u.bl + b) = true := decide_eq_true x3
                    have hres := HRES2.out
                    rw [show overB b (u.bl + b) u.mb = true by simp [overB, x1, x2, x3]] at hres
                    obtain rfl : res = ([], 52) := by simpa using hres
                    clear hres HRES2
                    go_wp2_with fail
                    go_ret2
                    exact ListPost.none hk4
                  · have x3d : decide (u.mb < u.bl + b) = false := decide_eq_false x3
                    by_cases y1 : 0 < n
                    · have y1d : decide (0 < n) = true := decide_eq_true y1
                      by_cases y2 : 0 ≤ u.mi
                      · have y2d : decide (0 ≤ u.mi) = true := decide_eq_true y2
                        by_cases y3 : u.mi < u.ino + n
                        · have y3d : decide (u.mi < u.ino + n) = true := decide_eq_true y3
                          have hres := HRES2.out
                          rw [show overB b (u.bl + b) u.mb = false by simp [overB, x3], show overB n (u.ino + n) u.mi = true by simp [overB, y1, y2, y3]] at hres
                          obtain rfl : res = ([], 52) := by simpa using hres
                          clear hres HRES2
                          go_wp2_with fail
                          go_ret2
                          exact ListPost.none hk4
                        · have y3d : decide (u.mi < u.ino + n) = false := decide_eq_false y3
                          have hres := HRES2.out
                          rw [show overB b (u.bl + b) u.mb = false by simp [overB, x3], show overB n (u.ino + n) u.mi = false by simp [overB, y3]] at hres
                          simp only [Bool.or_self, Bool.false_eq_true, if_false] at hres
                          have HRES3 := Lib.hid hres
                          clear hres HRES2
                          go_wp2_with (go_at_call 21; go_loud (refine (hput a ca xs ⟨uid, u.bl + b, u.ino + n, u.mb, u.mi⟩ w4 ha4 hca hR HOK.out).mono ?_); rintro r w5 ⟨v5, rfl, ho5, hk5⟩)
                          go_ret2
                          rw [← HRES3.out] at ho5
                          exact ⟨_, by rw [HRES3.out]; rfl, owns_lower ho5 hk4.size, hk4.trans hk5 (fun _ _ h => h)⟩
                      · have y2d : decide (0 ≤ u.mi) = false := decide_eq_false y2
                        have hres := HRES2.out
                        rw [show overB b (u.bl + b) u.mb = false by simp [overB, x3], show overB n (u.ino + n) u.mi = false by simp [overB, y2]] at hres
                        simp only [Bool.or_self, Bool.false_eq_true, if_false] at hres
                        have HRES3 := Lib.hid hres
                        clear hres HRES2
                        go_wp2_with (go_at_call 21; go_loud (refine (hput a ca xs ⟨uid, u.bl + b, u.ino + n, u.mb, u.mi⟩ w4 ha4 hca hR HOK.out).mono ?_); rintro r w5 ⟨v5, rfl, ho5, hk5⟩)
                        go_ret2
                        rw [← HRES3.out] at ho5
                        exact ⟨_, by rw [HRES3.out]; rfl, owns_lower ho5 hk4.size, hk4.trans hk5 (fun _ _ h => h)⟩
                    · have y1d : decide (0 < n) = false := decide_eq_false y1
                      have hres := HRES2.out
                      rw [show overB b (u.bl + b) u.mb = false by simp [overB, x3], show overB n (u.ino + n) u.mi = false by simp [overB, y1]] at hres
                      simp only [Bool.or_self, Bool.false_eq_true, if_false] at hres
                      have HRES3 := Lib.hid hres
                      clear hres HRES2
                      go_wp2_with (go_at_call 21; go_loud (refine (hput a ca xs ⟨uid, u.bl + b, u.ino + n, u.mb, u.mi⟩ w4 ha4 hca hR HOK.out).mono ?_); rintro r w5 ⟨v5, rfl, ho5, hk5⟩)
                      go_ret2
                      rw [← HRES3.out] at ho5
                      exact ⟨_, by rw [HRES3.out]; rfl, owns_lower ho5 hk4.size, hk4.trans hk5 (fun _ _ h => h)⟩
                · have x2d : decide (0 ≤ u.mb) = false := decide_eq_false x2
                  by_cases y1 : 0 < n
                  · have y1d : decide (0 < n) = true := decide_eq_true y1
                    by_cases y2 : 0 ≤ u.mi
                    · have y2d : decide (0 ≤ u.mi) = true := decide_eq_true y2
                      by_cases y3 : u.mi < u.ino + n
                      · have y3d : decide (u.mi < u.ino + n) = true := decide_eq_true y3
                        have hres := HRES2.out
                        rw [show overB b (u.bl + b) u.mb = false by simp [overB, x2], show overB n (u.ino + n) u.mi = true by simp [overB, y1, y2, y3]] at hres
                        obtain rfl : res = ([], 52) := by simpa using hres
                        clear hres HRES2
                        go_wp2_with fail
                        go_ret2
                        exact ListPost.none hk4
                      · have y3d : decide (u.mi < u.ino + n) = false := decide_eq_false y3
                        have hres := HRES2.out
                        rw [show overB b (u.bl + b) u.mb = false by simp [overB, x2], show overB n (u.ino + n) u.mi = false by simp [overB, y3]] at hres
                        simp only [Bool.or_self, Bool.false_eq_true, if_false] at hres
                        have HRES3 := Lib.hid hres
                        clear hres HRES2
                        go_wp2_with (go_at_call 21; go_loud (refine (hput a ca xs ⟨uid, u.bl + b, u.ino + n, u.mb, u.mi⟩ w4 ha4 hca hR HOK.out).mono ?_); rintro r w5 ⟨v5, rfl, ho5, hk5⟩)
                        go_ret2
                        rw [← HRES3.out] at ho5
                        exact ⟨_, by rw [HRES3.out]; rfl, owns_lower ho5 hk4.size, hk4.trans hk5 (fun _ _ h => h)⟩
                    · have y2d : decide (0 ≤ u.mi) = false := decide_eq_false y2
                      have hres := HRES2.out
                      rw [show overB b (u.bl + b) u.mb = false by simp [overB, x2], show overB n (u.ino + n) u.mi = false by simp [overB, y2]] at hres
                      simp only [Bool.or_self, Bool.false_eq_true, if_false] at hres
                      have HRES3 := Lib.hid hres
                      clear hres HRES2
                      go_wp2_with (go_at_call 21; go_loud (refine (hput a ca xs ⟨uid, u.bl + b, u.ino + n, u.mb, u.mi⟩ w4 ha4 hca hR HOK.out).mono ?_); rintro r w5 ⟨v5, rfl, ho5, hk5⟩)
                      go_ret2
                      rw [← HRES3.out] at ho5
                      exact ⟨_, by rw [HRES3.out]; rfl, owns_lower ho5 hk4.size, hk4.trans hk5 (fun _ _ h => h)⟩
                  · have y1d : decide (0 < n) = false := decide_eq_false y1
                    have hres := HRES2.out
                    rw [show overB b (u.bl + b) u.mb = false by simp [overB, x2], show overB n (u.ino + n) u.mi = false by simp [overB, y1]] at hres
                    simp only [Bool.or_self, Bool.false_eq_true, if_false] at hres
                    have HRES3 := Lib.hid hres
                    clear hres HRES2
                    go_wp2_with (go_at_call 21; go_loud (refine (hput a ca xs ⟨uid, u.bl + b, u.ino + n, u.mb, u.mi⟩ w4 ha4 hca hR HOK.out).mono ?_); rintro r w5 ⟨v5, rfl, ho5, hk5⟩)
                    go_ret2
                    rw [← HRES3.out] at ho5
                    exact ⟨_, by rw [HRES3.out]; rfl, owns_lower ho5 hk4.size, hk4.trans hk5 (fun _ _ h => h)⟩
              · have x1d : decide (0 < b) = false := decide_eq_false x1
                by_cases y1 : 0 < n
                · have y1d : decide (0 < n) = true := decide_eq_true y1
                  by_cases y2 : 0 ≤ u.mi
                  · have y2d : decide (0 ≤ u.mi) = true := decide_eq_true y2
                    by_cases y3 : u.mi < u.ino + n
                    · have y3d : decide (u.mi < u.ino + n) = true := decide_eq_true y3
                      have hres := HRES2.out
                      rw [show overB b (u.bl + b) u.mb = false by simp [overB, x1], show overB n (u.ino + n) u.mi = true by simp [overB, y1, y2, y3]] at hres
                      obtain rfl : res = ([], 52) := by simpa using hres
                      clear hres HRES2
                      go_wp2_with fail
                      go_ret2
                      exact ListPost.none hk4
                    · have y3d : decide (u.mi < u.ino + n) = false := decide_eq_false y3
                      have hres := HRES2.out
                      rw [show overB b (u.bl + b) u.mb = false by simp [overB, x1], show overB n (u.ino + n) u.mi = false by simp [overB, y3]] at hres
                      simp only [Bool.or_self, Bool.false_eq_true, if_false] at hres
                      have HRES3 := Lib.hid hres
                      clear hres HRES2
                      go_wp2_with (go_at_call 21; go_loud (refine (hput a ca xs ⟨uid, u.bl + b, u.ino + n, u.mb, u.mi⟩ w4 ha4 hca hR HOK.out).mono ?_); rintro r w5 ⟨v5, rfl, ho5, hk5⟩)
                      go_ret2
                      rw [← HRES3.out] at ho5
                      exact ⟨_, by rw [HRES3.out]; rfl, owns_lower ho5 hk4.size, hk4.trans hk5 (fun _ _ h => h)⟩
                  · have y2d : decide (0 ≤ u.mi) = false := decide_eq_false y2
                    have hres := HRES2.out
                    rw [show overB b (u.bl + b) u.mb = false by simp [overB, x1], show overB n (u.ino + n) u.mi = false by simp [overB, y2]] at hres
                    simp only [Bool.or_self, Bool.false_eq_true, if_false] at hres
                    have HRES3 := Lib.hid hres
                    clear hres HRES2
                    go_wp2_with (go_at_call 21; go_loud (refine (hput a ca xs ⟨uid, u.bl + b, u.ino + n, u.mb, u.mi⟩ w4 ha4 hca hR HOK.out).mono ?_); rintro r w5 ⟨v5, rfl, ho5, hk5⟩)
                    go_ret2
                    rw [← HRES3.out] at ho5
                    exact ⟨_, by rw [HRES3.out]; rfl, owns_lower ho5 hk4.size, hk4.trans hk5 (fun _ _ h => h)⟩
                · have y1d : decide (0 < n) = false := decide_eq_false y1
                  have hres := HRES2.out
                  rw [show overB b (u.bl + b) u.mb = false by simp [overB, x1], show overB n (u.ino + n) u.mi = false by simp [overB, y1]] at hres
                  simp only [Bool.or_self, Bool.false_eq_true, if_false] at hres
                  have HRES3 := Lib.hid hres
                  clear hres HRES2
                  go_wp2_with (go_at_call 21; go_loud (refine (hput a ca xs ⟨uid, u.bl + b, u.ino + n, u.mb, u.mi⟩ w4 ha4 hca hR HOK.out).mono ?_); rintro r w5 ⟨v5, rfl, ho5, hk5⟩)
                  go_ret2
                  rw [← HRES3.out] at ho5
                  exact ⟨_, by rw [HRES3.out]; rfl, owns_lower ho5 hk4.size, hk4.trans hk5 (fun _ _ h => h)⟩
  · have he : chargeU xs uid b n = ([], 3) := by unfold chargeU; rw [if_neg hR]
    rw [he]
    clear he
    go_enter Try.func13, Try.ntmps13
    go_wp2_with (go_at_call 14; refine (hright a ca xs w ha hca hn).mono ?_; rw [decide_eq_false hR]; rintro r w2 ⟨rfl, hk2⟩)
    go_ret2
    exact ListPost.none hk2
end Go.Proofs.Ytahlmlhdfoijhaa
