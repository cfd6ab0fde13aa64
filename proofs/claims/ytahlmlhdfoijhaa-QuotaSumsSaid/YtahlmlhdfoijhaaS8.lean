/-
  The walks of Limit and Charge.
-/
import Derived.Test.YtahlmlhdfoijhaaSB
import Derived.Test.YtahlmlhdfoijhaaQ5
namespace Go.Proofs.Ytahlmlhdfoijhaa
open Go.RowKit
def find (uid : Int) : List U → U
  | [] => ⟨uid, 0, 0, -1, -1⟩
  | x :: r => if x.uid = uid then x else find uid r
theorem find_uid (v : Int) : ∀ (xs : List U), (find v xs).uid = v
  | [] => rfl
  | x :: r => by
    unfold find
    split
    · assumption
    · exact find_uid v r
theorem getFrom_find (xs : List U) (uid : Int) : ∀ (k i : Nat), i + k = xs.length → getFrom (nth xs) uid i k = find uid (xs.drop i)
  | 0, i, h => by rw [List.drop_eq_nil_of_le (by omega)]; rfl
  | k + 1, i, h => by
    have hi : i < xs.length := by omega
    rw [List.drop_eq_getElem_cons hi, nth_eq xs i hi]
    unfold getFrom find
    rw [getFrom_find xs uid k (i + 1) (by omega)]
theorem getU_find (xs : List U) (uid : Int) : getU (nth xs) xs.length uid = find uid xs := by
  have := getFrom_find xs uid xs.length 0 (by omega)
  simpa [getU] using this
def RightU (xs : List U) : Prop := Right xs.length (nth xs)
instance (la : Nat) (f : Nat → U) : Decidable (Right la f) := by unfold Right; infer_instance
instance (xs : List U) : Decidable (RightU xs) := by unfold RightU; infer_instance
def putU (xs : List U) (u : U) : List U × Int := if (withL xs u).length ≤ 8 then (withL xs u, 0) else ([], 5)
def limitU (xs : List U) (uid b n : Int) : List U × Int :=
  if RightU xs then
    if inr uid 0 && inr b (-1) && inr n (-1) then putU xs ⟨uid, (find uid xs).bl, (find uid xs).ino, b, n⟩
    else ([], 2)
  else ([], 3)
def chargeU (xs : List U) (uid b n : Int) : List U × Int :=
  if RightU xs then
    if inr uid 0 && inr b (-65535) && inr n (-65535) then
      if inr ((find uid xs).bl + b) 0 && inr ((find uid xs).ino + n) 0 then
        if overB b ((find uid xs).bl + b) (find uid xs).mb || overB n ((find uid xs).ino + n) (find uid xs).mi then ([], 52)
        else putU xs ⟨uid, (find uid xs).bl + b, (find uid xs).ino + n, (find uid xs).mb, (find uid xs).mi⟩
      else ([], 2)
    else ([], 2)
  else ([], 3)
def ListPost (res : List U × Int) (w : World) (r : Ending) (w' : World) : Prop :=
  ∃ v, r = .returned (.tuple #[v, .int .i64 res.2]) ∧ w'.ownsRow w.heap.size 29 5 v res.1.length (flat ucl res.1) ∧ Kept (fun _ => False) w w'
theorem ListPost.none {e : Int} {w w' : World} (hk : Kept (fun _ => False) w w') : ListPost ([], e) w (.returned (.tuple #[.slice none 0 0, .int .i64 e])) w' := ⟨_, rfl, World.ownsRow_nil _ _ _ _, hk⟩
theorem put_any (a : Option Addr) (ca : Nat) (xs : List U) (u : U) (w : World) (ha : ListAt w a xs.length (nth xs)) (hsm : xs.length ≤ 8) (hs : Ordered xs) (h0 : 0 ≤ u.uid) (h1 : u.uid ≤ 65535) :
    Calls Try.prog 19 #[.slice a xs.length ca, u.v] w (ListPost (putU xs u) w) := by
  refine (with_any a ca xs u w ha hsm hs h0 h1).mono ?_
  rintro r w' ⟨v, e, rfl, hv, hk⟩
  unfold putU
  rcases hv with ⟨h8, rfl, ho⟩ | ⟨h8, rfl, rfl⟩
  · rw [if_pos h8]; exact ⟨_, rfl, ho, hk⟩
  · rw [if_neg (by omega)]; exact ListPost.none hk
theorem check_yes (a : Option Addr) (ca : Nat) (xs : List U) (w : World) (ha : ListAt w a xs.length (nth xs)) (h : RightU xs) :
    Calls Try.prog 7 #[.slice a xs.length ca] w fun r w' => r = .returned (.int .i64 0) ∧ Kept (fun _ => False) w w' :=
  (check_any a xs.length ca _ w ha).mono fun r w' ⟨h1, hk⟩ => ⟨by rcases h1 with ⟨_, h2⟩ | ⟨h2, _⟩; exact h2; exact absurd h h2, hk⟩
theorem check_no (a : Option Addr) (ca : Nat) (xs : List U) (w : World) (ha : ListAt w a xs.length (nth xs)) (h : ¬ RightU xs) :
    Calls Try.prog 7 #[.slice a xs.length ca] w fun r w' => r = .returned (.int .i64 3) ∧ Kept (fun _ => False) w w' :=
  (check_any a xs.length ca _ w ha).mono fun r w' ⟨h1, hk⟩ => ⟨by rcases h1 with ⟨h2, _⟩ | ⟨_, h2⟩; exact absurd h2 h; exact h2, hk⟩
theorem ordered_of_right {xs : List U} (h : RightU xs) : Ordered xs := by
  obtain ⟨h8, hf⟩ := h
  have hr : ∀ i, i < xs.length → 0 ≤ (nth xs i).uid ∧ (nth xs i).uid ≤ 65535 := by
    intro i hi
    have := hf i hi
    simp [fineAt, okU, inr] at this
    omega
  have hs : ∀ d i, i + d < xs.length → (nth xs i).uid ≤ (nth xs (i + d)).uid := by
    intro d
    induction d with
    | zero => intro i _; exact Int.le_refl _
    | succ d ih =>
      intro i hi
      have h1 := ih i (by omega)
      have h2 := hf (i + (d + 1)) hi
      simp [fineAt] at h2
      omega
  exact ⟨fun i j hij hj => by have := hs (j - i) i (by omega); rwa [show i + (j - i) = j by omega] at this, hr⟩
set_option maxHeartbeats 2000000 in
theorem limit_any (a : Option Addr) (ca : Nat) (xs : List U) (uid b n : Int) (w : World) (ha : ListAt w a xs.length (nth xs)) :
    Calls Try.prog 10 #[.slice a xs.length ca, .int .i64 uid, .int .i64 b, .int .i64 n] w (ListPost (limitU xs uid b n) w) := by
  by_cases hR : RightU xs
  · obtain ⟨res, hres⟩ : ∃ res, res = limitU xs uid b n := ⟨_, rfl⟩
    rw [← hres]
    unfold limitU at hres
    rw [if_pos hR] at hres
    have HO := Lib.hid (ordered_of_right hR)
    have hl8 : xs.length ≤ 8 := hR.1
    cases h1 : inr uid 0 with
    | false =>
      rw [h1] at hres
      obtain rfl : res = ([], 2) := by simpa using hres
      clear hres
      go_enter Try.func10, Try.ntmps10
      go_wp2_with (first
        | (go_at_call 7; refine (check_yes a ca xs w ha hR).mono ?_; rintro r w2 ⟨rfl, hk2⟩)
        | (go_at_call 16; refine (within_any _ _ _).mono ?_; rintro r w' ⟨rfl, hw⟩; replace hw := hw.symm; subst hw))
      go_ret2
      exact ListPost.none hk2
    | true =>
      rw [h1] at hres
      cases h2 : inr b (-1) with
      | false =>
        rw [h2] at hres
        obtain rfl : res = ([], 2) := by simpa using hres
        clear hres
        go_enter Try.func10, Try.ntmps10
        go_wp2_with (first
            | (go_at_call 7; refine (check_yes a ca xs w ha hR).mono ?_; rintro r w2 ⟨rfl, hk2⟩)
            | (go_at_call 16; refine (within_any _ _ _).mono ?_; rintro r w' ⟨rfl, hw⟩; replace hw := hw.symm; subst hw))
        go_ret2
        exact ListPost.none hk2
      | true =>
        rw [h2] at hres
        cases h3 : inr n (-1) with
        | false =>
          rw [h3] at hres
          obtain rfl : res = ([], 2) := by simpa using hres
          clear hres
          go_enter Try.func10, Try.ntmps10
          go_wp2_with (first
            | (go_at_call 7; refine (check_yes a ca xs w ha hR).mono ?_; rintro r w2 ⟨rfl, hk2⟩)
            | (go_at_call 16; refine (within_any _ _ _).mono ?_; rintro r w' ⟨rfl, hw⟩; replace hw := hw.symm; subst hw))
          go_ret2
          exact ListPost.none hk2
        | true =>
          rw [h3] at hres
          simp only [Bool.and_self, if_true] at hres
          have i1 : 0 ≤ uid ∧ uid ≤ 65535 := by simpa [inr] using h1
          have HRES := Lib.hid hres
          have hu := find_uid uid xs
          have HG := Lib.hid (getU_find xs uid)
          have hq : xs.length ≤ 140737488351232 := by omega
          clear hres
          go_enter Try.func10, Try.ntmps10
          go_upto_region 6 with (first
            | (go_at_call 7; refine (check_yes a ca xs w ha hR).mono ?_; rintro r w2 ⟨rfl, hk2⟩; have ha2 := ha.kept hk2)
            | (go_at_call 16; refine (within_any _ _ _).mono ?_; rintro r w' ⟨rfl, hw⟩; replace hw := hw.symm; subst hw)
            | (go_at_call 9; go_loud (refine (get_any a xs.length ca (nth xs) uid w2 ha2 hq).mono ?_; rw [HG.out]; rintro r w3 ⟨rfl, hk3⟩)))
          have hgh := HRES
          generalize hfu : find uid xs = u at *
          go_upto_region 7 with fail
          generalize hw0 : World.alloc w3 _ = w4
          have hb4 : RowV w4 w3.heap.size 29 (U.cs ⟨uid, u.bl, u.ino, b, n⟩) := by rw [← hw0]; exact RowV.new w3 _ _
          have hk4 : Kept (fun _ => False) w w4 := by rw [← hw0]; exact (hk2.trans hk3 (fun _ _ h => h)).alloc _
          have ha4 := ha.kept hk4
          clear hw0 hk2 hk3 ha2 hu hfu hgh HG
          obtain ⟨c0, c1, c2, c3, c4⟩ := hb4.u
          go_wp2_with (go_at_call 19; go_loud (refine (put_any a ca xs ⟨uid, u.bl, u.ino, b, n⟩ w4 ha4 hl8 HO.out i1.1 i1.2).mono ?_); rintro r w5 ⟨v5, rfl, ho5, hk5⟩)
          go_ret2
          rw [← HRES.out] at ho5
          exact ⟨_, by rw [HRES.out]; rfl, owns_lower ho5 hk4.size, hk4.trans hk5 (fun _ _ h => h)⟩
  · have he : limitU xs uid b n = ([], 3) := by unfold limitU; rw [if_neg hR]
    rw [he]
    clear he
    go_enter Try.func10, Try.ntmps10
    go_wp2_with (go_at_call 7; refine (check_no a ca xs w ha hR).mono ?_; rintro r w2 ⟨rfl, hk2⟩)
    go_ret2
    exact ListPost.none hk2
theorem find_in (uid : Int) : ∀ (xs : List U), find uid xs = ⟨uid, 0, 0, -1, -1⟩ ∨ find uid xs ∈ xs
  | [] => .inl rfl
  | x :: r => by
    unfold find
    split
    · exact .inr List.mem_cons_self
    · rcases find_in uid r with h | h
      · exact .inl h
      · exact .inr (List.mem_cons_of_mem _ h)
theorem find_bounds {xs : List U} (h : RightU xs) (uid : Int) : (0 ≤ (find uid xs).bl ∧ (find uid xs).bl ≤ 65535) ∧ (0 ≤ (find uid xs).ino ∧ (find uid xs).ino ≤ 65535) := by
  rcases find_in uid xs with e | e
  · rw [e]; simp
  · obtain ⟨i, hi, he⟩ := List.getElem_of_mem e
    have := h.2 i hi
    rw [← he, nth_eq xs i hi]
    simp [fineAt, okU, inr] at this
    omega
set_option maxHeartbeats 4000000 in
theorem charge_any (a : Option Addr) (ca : Nat) (xs : List U) (uid b n : Int) (w : World) (ha : ListAt w a xs.length (nth xs)) :
    Calls Try.prog 8 #[.slice a xs.length ca, .int .i64 uid, .int .i64 b, .int .i64 n] w (ListPost (chargeU xs uid b n) w) := by
  by_cases hR : RightU xs
  · obtain ⟨res, hres⟩ : ∃ res, res = chargeU xs uid b n := ⟨_, rfl⟩
    rw [← hres]
    unfold chargeU at hres
    rw [if_pos hR] at hres
    have HO := Lib.hid (ordered_of_right hR)
    have hl8 : xs.length ≤ 8 := hR.1
    cases h1 : inr uid 0 with
    | false =>
      rw [h1] at hres
      obtain rfl : res = ([], 2) := by simpa using hres
      clear hres
      go_enter Try.func8, Try.ntmps8
      go_wp2_with (first
        | (go_at_call 7; refine (check_yes a ca xs w ha hR).mono ?_; rintro r w2 ⟨rfl, hk2⟩; have ha2 := ha.kept hk2)
        | (go_at_call 16; refine (within_any _ _ _).mono ?_; rintro r w' ⟨rfl, hw⟩; replace hw := hw.symm; subst hw))
      go_ret2
      exact ListPost.none hk2
    | true =>
      rw [h1] at hres
      cases h2 : inr b (-65535) with
      | false =>
        rw [h2] at hres
        obtain rfl : res = ([], 2) := by simpa using hres
        clear hres
        go_enter Try.func8, Try.ntmps8
        go_wp2_with (first
          | (go_at_call 7; refine (check_yes a ca xs w ha hR).mono ?_; rintro r w2 ⟨rfl, hk2⟩; have ha2 := ha.kept hk2)
          | (go_at_call 16; refine (within_any _ _ _).mono ?_; rintro r w' ⟨rfl, hw⟩; replace hw := hw.symm; subst hw))
        go_ret2
        exact ListPost.none hk2
      | true =>
        rw [h2] at hres
        cases h3 : inr n (-65535) with
        | false =>
          rw [h3] at hres
          obtain rfl : res = ([], 2) := by simpa using hres
          clear hres
          go_enter Try.func8, Try.ntmps8
          go_wp2_with (first
            | (go_at_call 7; refine (check_yes a ca xs w ha hR).mono ?_; rintro r w2 ⟨rfl, hk2⟩; have ha2 := ha.kept hk2)
            | (go_at_call 16; refine (within_any _ _ _).mono ?_; rintro r w' ⟨rfl, hw⟩; replace hw := hw.symm; subst hw))
          go_ret2
          exact ListPost.none hk2
        | true =>
          rw [h3] at hres
          simp only [Bool.and_self, if_true] at hres
          have i1 : 0 ≤ uid ∧ uid ≤ 65535 := by simpa [inr] using h1
          have i2 : -65535 ≤ b ∧ b ≤ 65535 := by simpa [inr] using h2
          have i3 : -65535 ≤ n ∧ n ≤ 65535 := by simpa [inr] using h3
          obtain ⟨⟨j1, j2⟩, j3, j4⟩ := find_bounds hR uid
          obtain ⟨i21, i22⟩ := i2
          obtain ⟨i31, i32⟩ := i3
          have hu := find_uid uid xs
          have HG := Lib.hid (getU_find xs uid)
          have hq : xs.length ≤ 140737488351232 := by omega
          have HRES := Lib.hid hres
          clear hres
          go_enter Try.func8, Try.ntmps8
          go_upto_region 6 with (first
            | (go_at_call 7; refine (check_yes a ca xs w ha hR).mono ?_; rintro r w2 ⟨rfl, hk2⟩; have ha2 := ha.kept hk2)
            | (go_at_call 16; refine (within_any _ _ _).mono ?_; rintro r w' ⟨rfl, hw⟩; replace hw := hw.symm; subst hw)
            | (go_at_call 9; refine (get_any a xs.length ca (nth xs) uid w2 ha2 hq).mono ?_; rw [HG.out]; rintro r w3 ⟨rfl, hk3⟩))
          generalize hfu : find uid xs = u at *
          go_upto_region 8 with fail
          generalize hw0 : World.alloc w3 _ = w4
          have hb4 : RowV w4 w3.heap.size 29 (U.cs ⟨uid, u.bl + b, u.ino + n, u.mb, u.mi⟩) := by rw [← hw0]; exact RowV.new w3 _ _
          have hk4 : Kept (fun _ => False) w w4 := by rw [← hw0]; exact (hk2.trans hk3 (fun _ _ h => h)).alloc _
          have ha4 := ha.kept hk4
          clear hw0 hk2 hk3 ha2 hu hfu HG
          obtain ⟨c0, c1, c2, c3, c4⟩ := hb4.u
          cases h4 : inr (u.bl + b) 0 with
          | false =>
            have hres := HRES.out
            rw [h4] at hres
            obtain rfl : res = ([], 2) := by simpa using hres
            clear hres HRES
            go_wp2_with (first
              | (go_at_call 16; refine (within_any _ _ _).mono ?_; rintro r w' ⟨rfl, hw⟩; replace hw := hw.symm; subst hw)
              | (go_at_call 18; refine (over_any _ _ _ _).mono ?_; rintro r w' ⟨rfl, hw⟩; replace hw := hw.symm; subst hw))
            go_ret2
            exact ListPost.none hk4
          | true =>
            cases h5 : inr (u.ino + n) 0 with
            | false =>
              have hres := HRES.out
              rw [h4, h5] at hres
              obtain rfl : res = ([], 2) := by simpa using hres
              clear hres HRES
              go_wp2_with (first
                | (go_at_call 16; refine (within_any _ _ _).mono ?_; rintro r w' ⟨rfl, hw⟩; replace hw := hw.symm; subst hw)
                | (go_at_call 18; refine (over_any _ _ _ _).mono ?_; rintro r w' ⟨rfl, hw⟩; replace hw := hw.symm; subst hw))
              go_ret2
              exact ListPost.none hk4
            | true =>
              cases h6 : overB b (u.bl + b) u.mb with
              | true =>
                have hres := HRES.out
                rw [h4, h5, h6] at hres
                obtain rfl : res = ([], 52) := by simpa using hres
                clear hres HRES
                go_wp2_with (first
                  | (go_at_call 16; refine (within_any _ _ _).mono ?_; rintro r w' ⟨rfl, hw⟩; replace hw := hw.symm; subst hw)
                  | (go_at_call 18; refine (over_any _ _ _ _).mono ?_; rintro r w' ⟨rfl, hw⟩; replace hw := hw.symm; subst hw))
                go_ret2
                exact ListPost.none hk4
              | false =>
                cases h7 : overB n (u.ino + n) u.mi with
                | true =>
                  have hres := HRES.out
                  rw [h4, h5, h6, h7] at hres
                  obtain rfl : res = ([], 52) := by simpa using hres
                  clear hres HRES
                  go_wp2_with (first
                    | (go_at_call 16; refine (within_any _ _ _).mono ?_; rintro r w' ⟨rfl, hw⟩; replace hw := hw.symm; subst hw)
                    | (go_at_call 18; refine (over_any _ _ _ _).mono ?_; rintro r w' ⟨rfl, hw⟩; replace hw := hw.symm; subst hw))
                  go_ret2
                  exact ListPost.none hk4
                | false =>
                  have hres := HRES.out
                  rw [h4, h5, h6, h7] at hres
                  simp only [Bool.and_self, Bool.or_self, Bool.false_eq_true, if_false, if_true] at hres
                  have HRES2 := Lib.hid hres
                  clear hres HRES
                  go_wp2_with (first
                    | (go_at_call 16; refine (within_any _ _ _).mono ?_; rintro r w' ⟨rfl, hw⟩; replace hw := hw.symm; subst hw)
                    | (go_at_call 18; refine (over_any _ _ _ _).mono ?_; rintro r w' ⟨rfl, hw⟩; replace hw := hw.symm; subst hw)
                    | (go_at_call 19; go_loud (refine (put_any a ca xs ⟨uid, u.bl + b, u.ino + n, u.mb, u.mi⟩ w4 ha4 hl8 HO.out i1.1 i1.2).mono ?_); rintro r w5 ⟨v5, rfl, ho5, hk5⟩))
                  go_ret2
                  rw [← HRES2.out] at ho5
                  exact ⟨_, by rw [HRES2.out]; rfl, owns_lower ho5 hk4.size, hk4.trans hk5 (fun _ _ h => h)⟩
  · have he : chargeU xs uid b n = ([], 3) := by unfold chargeU; rw [if_neg hR]
    rw [he]
    clear he
    go_enter Try.func8, Try.ntmps8
    go_wp2_with (go_at_call 7; refine (check_no a ca xs w ha hR).mono ?_; rintro r w2 ⟨rfl, hk2⟩)
    go_ret2
    exact ListPost.none hk2
end Go.Proofs.Ytahlmlhdfoijhaa
