/-
  What the printed Right and put of the reference come to; the reference's Limit and Charge, as the printed texts call them.
-/
import Derived.Test.YtahlmlhdfoijhaaPQg
import Derived.Test.YtahlmlhdfoijhaaPQp
import Derived.Test.YtahlmlhdfoijhaaPQx3
import Derived.Test.YtahlmlhdfoijhaaPQx4
import Derived.Test.YtahlmlhdfoijhaaS9
namespace Go.Proofs.Ytahlmlhdfoijhaa.PQ
open Go.RowKit Go.Proofs.YtahlmlhdfoijhaaW.PrintWords
theorem wrap_sm {x : Int} (h0 : -9223372036854775808 ≤ x) (h1 : x ≤ 9223372036854775807) : wrap64 x = x := by unfold wrap64; omega
theorem rd_n (l : List S29) (i : Nat) : rd_T29 l (i : Int) = l.getD i z29 := by unfold rd_T29; simp
theorem drop_c (l : List S29) (i : Nat) (h : i < l.length) : l.drop i = l.getD i z29 :: l.drop (i + 1) := by
  rw [List.drop_eq_getElem_cons h]; simp [h]
theorem in_eq (a b : Int) : cloisterref20_in.f a b = some (inr a b) := by
  unfold cloisterref20_in.f inr
  split
  · rename_i h; simp; omega
  · rename_i h; simp; omega
/-- The order's part of one round. -/
def ordPart (k : Nat) (l : List S29) (i : Int) (u : Int) : Option Bool :=
  if i > 0 then (if 0 ≤ (wrap64 (i - 1)) then (if (wrap64 (i - 1)) < (l.length : Int) then (if ((rd_T29 l (wrap64 (i - 1))).f0) ≥ u then (some false) else (cloisterref20_Right.l0 k l (wrap64 (i + 1)))) else (none)) else (none)) else (cloisterref20_Right.l0 k l (wrap64 (i + 1)))
theorem j1_eq (k : Nat) (l : List S29) (i : Int) (x : U) (h3 : -1 ≤ x.mb) (h4 : -1 ≤ x.mi) :
    cloisterref20_Right.j1 (k + 1) l i false x.uid x.bl x.ino x.mb x.mi = if idleB x then some false else ordPart k l i x.uid := by
  simp only [cloisterref20_Right.j1, Bool.false_eq_true, if_false]
  by_cases a1 : x.bl = 0
  · by_cases a2 : x.ino = 0
    · by_cases a3 : x.mb < 0
      · by_cases a4 : x.mi < 0
        · have : idleB x = true := by simp [idleB, a1, a2]; omega
          rw [if_pos a1, if_pos a2, if_pos a3, if_pos a4, this]; rfl
        · have : idleB x = false := by simp [idleB]; omega
          rw [if_pos a1, if_pos a2, if_pos a3, if_neg a4, this]; rfl
      · have : idleB x = false := by simp [idleB]; omega
        rw [if_pos a1, if_pos a2, if_neg a3, this]; rfl
    · have : idleB x = false := by simp [idleB, a2]
      rw [if_pos a1, if_neg a2, this]; rfl
  · have : idleB x = false := by simp [idleB, a1]
    rw [if_neg a1, this]; rfl
theorem nth_toU (l : List S29) (i : Nat) (h : i < l.length) : nth (l.map toU) i = toU (l.getD i z29) := nth_map l i h
set_option maxHeartbeats 4000000 in
theorem right_loop (l : List S29) (hl : l.length ≤ 8) : ∀ (d k i : Nat), l.length - i = d → i ≤ l.length → 2 * d + 1 ≤ k →
    cloisterref20_Right.l0 k l (i : Int) = some (decide (∀ j, j < l.length → i ≤ j → fineAt (nth (l.map toU)) j = true)) := by
  intro d
  induction d with
  | zero =>
    intro k i hd hi hk
    obtain ⟨k, rfl⟩ : ∃ m, k = m + 1 := ⟨k - 1, by omega⟩
    simp only [cloisterref20_Right.l0]
    rw [if_neg (by omega), decide_eq_true (fun j h1 h2 => by omega)]
  | succ d ih =>
    intro k i hd hi hk
    obtain ⟨k, rfl⟩ : ∃ m, k = m + 2 := ⟨k - 2, by omega⟩
    have en : wrap64 ((i : Int) + 1) = ((i + 1 : Nat) : Int) := by rw [wrap_sm (by omega) (by omega)]; omega
    have ep : i ≠ 0 → wrap64 ((i : Int) - 1) = ((i - 1 : Nat) : Int) := fun h0 => by rw [wrap_sm (by omega) (by omega)]; omega
    have hnext := ih k (i + 1) (by omega) (by omega) (by omega)
    have hpos1 : i ≠ 0 → (i : Int) > 0 := fun h0 => by omega
    have hpos2 : (0 : Int) ≤ ((i - 1 : Nat) : Int) := by omega
    have hpos3 : ((i - 1 : Nat) : Int) < (l.length : Int) := by omega
    simp only [cloisterref20_Right.l0]
    rw [if_pos (by omega), if_pos (by omega), rd_n]
    have hx := nth_toU l i (by omega)
    have hfi : fineAt (nth (l.map toU)) i = (okU (toU (l.getD i z29)) && !idleB (toU (l.getD i z29)) && (decide (i = 0) || decide ((nth (l.map toU) (i - 1)).uid < (toU (l.getD i z29)).uid))) := by
      unfold fineAt; rw [hx]
    have hno : fineAt (nth (l.map toU)) i = false → decide (∀ j, j < l.length → i ≤ j → fineAt (nth (l.map toU)) j = true) = false := fun hf =>
      decide_eq_false (fun h => by have := h i (by omega) (Nat.le_refl _); rw [hf] at this; cases this)
    have hyes : fineAt (nth (l.map toU)) i = true → decide (∀ j, j < l.length → i ≤ j → fineAt (nth (l.map toU)) j = true) = decide (∀ j, j < l.length → i + 1 ≤ j → fineAt (nth (l.map toU)) j = true) := fun hf => by
      apply decide_eq_decide.2
      exact ⟨fun h j h1 h2 => h j h1 (by omega), fun h j h1 h2 => by
        by_cases e : j = i
        · rw [e]; exact hf
        · exact h j h1 (by omega)⟩
    obtain ⟨u, hu⟩ : ∃ u, u = toU (l.getD i z29) := ⟨_, rfl⟩
    have e0 : (l.getD i z29).f0 = u.uid := by rw [hu]; rfl
    have e1 : (l.getD i z29).f1 = u.bl := by rw [hu]; rfl
    have e2 : (l.getD i z29).f2 = u.ino := by rw [hu]; rfl
    have e3 : (l.getD i z29).f3 = u.mb := by rw [hu]; rfl
    have e4 : (l.getD i z29).f4 = u.mi := by rw [hu]; rfl
    rw [e0, e1, e2, e3, e4]
    rw [← hu] at hfi
    simp only [in_eq, Option.bind_some]
    have hj : ∀ b, cloisterref20_Right.j1 (k + 1) l (i : Int) true u.uid u.bl u.ino u.mb u.mi = b → b = some false := fun b hb => by
      rw [← hb]; simp [cloisterref20_Right.j1]
    cases b1 : inr u.uid 0
    · simp only [Bool.false_eq_true, if_false]
      rw [hj _ rfl, hno (by rw [hfi]; simp [okU, b1])]
    cases b2 : inr u.bl 0
    · simp only [Bool.false_eq_true, if_false, if_true]
      rw [hj _ rfl, hno (by rw [hfi]; simp [okU, b2])]
    cases b3 : inr u.ino 0
    · simp only [Bool.false_eq_true, if_false, if_true]
      rw [hj _ rfl, hno (by rw [hfi]; simp [okU, b3])]
    cases b4 : inr u.mb (-1)
    · simp only [Bool.false_eq_true, if_false, if_true]
      rw [hj _ rfl, hno (by rw [hfi]; simp [okU, b4])]
    cases b5 : inr u.mi (-1)
    · simp only [if_true, Bool.not_false]
      rw [hj _ rfl, hno (by rw [hfi]; simp [okU, b5])]
    simp only [if_true, Bool.not_true]
    rw [j1_eq k l i u (by simp [inr] at b4; omega) (by simp [inr] at b5; omega)]
    cases b6 : idleB u
    · simp only [Bool.false_eq_true, if_false]
      have hok : okU u = true := by simp [okU, b1, b2, b3, b4, b5]
      unfold ordPart
      rw [en]
      by_cases hi0 : i = 0
      · rw [if_neg (by rw [hi0]; decide), hnext, hyes (by rw [hfi]; simp [hok, b6, hi0])]
      · rw [if_pos (hpos1 hi0), ep hi0, if_pos hpos2, if_pos hpos3, rd_n]
        have hp := nth_toU l (i - 1) (by omega)
        have ef : (l.getD (i - 1) z29).f0 = (nth (l.map toU) (i - 1)).uid := by rw [hp]; rfl
        rw [ef]
        by_cases hlt : (nth (l.map toU) (i - 1)).uid < u.uid
        · rw [if_neg (Int.not_le.2 hlt), hnext, hyes (by rw [hfi]; simp [hok, b6, hlt])]
        · rw [if_pos (Int.not_lt.1 hlt), hno (by rw [hfi]; simp [hi0, hlt])]
    · simp only [if_true]
      rw [hno (by rw [hfi]; simp [b6])]
theorem rightR_eq (l : List S29) (k : Nat) (hk : 20 ≤ k) : cloisterref20_Right.f k l = some (decide (RightU (l.map toU))) := by
  unfold cloisterref20_Right.f
  by_cases h : l.length ≤ 8
  · rw [if_neg (by omega)]
    have := right_loop l h l.length k 0 (by omega) (by omega) (by omega)
    rw [show ((0 : Nat) : Int) = 0 from rfl] at this
    rw [this]
    congr 1
    apply decide_eq_decide.2
    unfold RightU Right
    rw [List.length_map]
    exact ⟨fun hh => ⟨h, fun j hj => hh j hj (by omega)⟩, fun hh j hj _ => hh.2 j hj⟩
  · rw [if_pos (by omega)]
    congr 1
    symm
    apply decide_eq_false
    intro hh
    have := hh.1
    rw [List.length_map] at this
    omega
/-- What put makes. -/
def putR (u : S29) : List S29 → Bool → List S29
  | [], true => []
  | [], false => [u]
  | x :: r, true => (if x.f0 = u.f0 then [] else [x]) ++ putR u r true
  | x :: r, false => if u.f0 ≤ x.f0 then u :: ((if x.f0 = u.f0 then [] else [x]) ++ putR u r true) else x :: putR u r false
theorem putR_true (u : S29) : ∀ l : List S29, (putR u l true).map toU = others (l.map toU) u.f0
  | [] => rfl
  | x :: r => by
    simp only [putR, List.map_append, putR_true u r, List.map_cons]
    unfold others
    by_cases h : x.f0 = u.f0
    · rw [if_pos h, List.filter_cons_of_neg (by simp [toU, h])]; rfl
    · rw [if_neg h, List.filter_cons_of_pos (by simp [toU, h])]; rfl
theorem putR_false (u : S29) : ∀ l : List S29, Asc (l.map toU) → (putR u l false).map toU = insU (toU u) (others (l.map toU) u.f0)
  | [], _ => rfl
  | x :: r, ha => by
    have ha' := List.pairwise_cons.1 ha
    unfold putR
    by_cases h : u.f0 ≤ x.f0
    · rw [if_pos h]
      by_cases he : x.f0 = u.f0
      · rw [if_pos he]
        have ho : others ((x :: r).map toU) u.f0 = others (r.map toU) u.f0 := by
          unfold others; rw [List.map_cons, List.filter_cons_of_neg (by simp [toU, he])]
        rw [ho, List.map_cons, List.nil_append, putR_true]
        cases hr : others (r.map toU) u.f0 with
        | nil => rfl
        | cons y s =>
          have hy : y ∈ r.map toU := (mem_others.1 (by rw [hr]; simp)).1
          have := ha'.1 y hy
          unfold insU
          have h2 : x.f0 < y.uid := this
          rw [if_pos (show (toU u).uid ≤ y.uid by show u.f0 ≤ y.uid; omega)]
      · rw [if_neg he]
        have ho : others ((x :: r).map toU) u.f0 = toU x :: others (r.map toU) u.f0 := by
          unfold others; rw [List.map_cons, List.filter_cons_of_pos (by simp [toU, he])]
        rw [ho, List.map_cons, List.map_append, putR_true]
        unfold insU
        rw [if_pos (show (toU u).uid ≤ (toU x).uid from h)]
        rfl
    · rw [if_neg h]
      have ho : others ((x :: r).map toU) u.f0 = toU x :: others (r.map toU) u.f0 := by
        unfold others; rw [List.map_cons, List.filter_cons_of_pos (by have h9 : x.f0 ≠ u.f0 := (by omega); simp [toU, h9])]
      rw [ho, List.map_cons, putR_false u r ha'.2]
      conv => rhs; unfold insU
      rw [if_neg (show ¬ (toU u).uid ≤ (toU x).uid from h)]
theorem etaS (u : S29) : (⟨u.f0, u.f1, u.f2, u.f3, u.f4⟩ : S29) = u := rfl
def finish (ys : List S29) : List S29 × Int := if ys.length ≤ 8 then (ys, 0) else ([], 5)
theorem put_loop (l : List S29) (hl : l.length ≤ 8) (u : S29) : ∀ (d k i : Nat) (acc : List S29) (t : Bool), l.length - i = d → i ≤ l.length → 2 * d + 1 ≤ k → acc.length + 2 * d ≤ 1000 →
    cloisterref20_put.l0 k l acc t (i : Int) u.f0 u.f1 u.f2 u.f3 u.f4 = some (finish (acc ++ putR u (l.drop i) t)) := by
  intro d
  induction d with
  | zero =>
    intro k i acc t hd hi hk ha
    obtain ⟨k, rfl⟩ : ∃ m, k = m + 1 := ⟨k - 1, by omega⟩
    simp only [cloisterref20_put.l0]
    rw [if_neg (by omega), List.drop_eq_nil_of_le (by omega)]
    cases t
    · rw [if_neg (by simp), if_pos (by omega)]
      simp only [Option.bind_some, putR, etaS]
      unfold finish
      by_cases h8 : (acc ++ [u]).length ≤ 8
      · rw [if_pos h8, if_neg (by omega)]
      · rw [if_neg h8, if_pos (by omega)]
    · rw [if_pos rfl]
      simp only [putR, List.append_nil]
      unfold finish
      by_cases h8 : acc.length ≤ 8
      · rw [if_pos h8, if_neg (by omega)]
      · rw [if_neg h8, if_pos (by omega)]
  | succ d ih =>
    intro k i acc t hd hi hk ha
    obtain ⟨k, rfl⟩ : ∃ m, k = m + 2 := ⟨k - 2, by omega⟩
    have en : wrap64 ((i : Int) + 1) = ((i + 1 : Nat) : Int) := by rw [wrap_sm (by omega) (by omega)]; omega
    have hj : ∀ (acc : List S29) (t : Bool), acc.length + 2 * d + 1 ≤ 1000 → cloisterref20_put.j2 (k + 1) l acc t (i : Int) false u.f0 u.f1 u.f2 u.f3 u.f4 = some (finish (acc ++ ((if (l.getD i z29).f0 = u.f0 then [] else [l.getD i z29]) ++ putR u (l.drop (i + 1)) t))) := by
      intro acc t hac
      simp only [cloisterref20_put.j2, Bool.false_eq_true, if_false]
      rw [if_pos (by omega), if_pos (by omega), rd_n, en]
      by_cases he : (l.getD i z29).f0 = u.f0
      · rw [if_pos he, if_pos he, ih k (i + 1) acc t (by omega) (by omega) (by omega) (by omega)]
        rfl
      · rw [if_neg he, if_neg he, if_pos (by omega), ih k (i + 1) _ t (by omega) (by omega) (by omega) (by simp; omega)]
        congr 2
        simp
    simp only [cloisterref20_put.l0]
    rw [if_pos (by omega), drop_c l i (by omega)]
    cases t
    · rw [if_neg (by simp), if_pos (by omega), rd_n]
      simp only [putR]
      by_cases hle : u.f0 ≤ (l.getD i z29).f0
      · rw [decide_eq_true hle, if_pos hle]
        simp only [cloisterref20_put.j2, if_true]
        rw [if_pos (by omega)]
        simp only [Option.bind_some]
        rw [if_pos (by omega), if_pos (by omega), rd_n, en]
        by_cases he : (l.getD i z29).f0 = u.f0
        · rw [if_pos he, if_pos he, ih k (i + 1) _ true (by omega) (by omega) (by omega) (by simp; omega)]
          congr 2
          simp
        · rw [if_neg he, if_neg he, if_pos (by simp; omega), ih k (i + 1) _ true (by omega) (by omega) (by omega) (by simp; omega)]
          congr 2
          simp
      · rw [decide_eq_false hle, if_neg hle, hj acc false (by omega)]
        rw [if_neg (by omega)]
        rfl
    · rw [if_pos rfl, hj acc true (by omega)]
      rfl
theorem finish_put (l : List S29) (u : S29) (ys : List S29) (h : ys.map toU = withL (l.map toU) (toU u)) : finish ys = outL (putU (l.map toU) (toU u)) := by
  unfold finish putU outL
  rw [← h, List.length_map]
  split
  · simp [List.map_map, Function.comp_def]
  · rfl
theorem putR_eq (l : List S29) (u : S29) (k : Nat) (hk : 20 ≤ k) (hR : RightU (l.map toU)) (hu : okU (toU u) = true) : cloisterref20_put.f k l u.f0 u.f1 u.f2 u.f3 u.f4 = some (outL (putU (l.map toU) (toU u))) := by
  have hg := (right_iff _).1 hR
  have hl8 : l.length ≤ 8 := by have := hg.1; rwa [List.length_map] at this
  obtain ⟨k, rfl⟩ : ∃ m, k = m + 1 := ⟨k - 1, by omega⟩
  have hloop : ∀ t, cloisterref20_put.j0 (k + 1) l [] t u.f0 u.f1 u.f2 u.f3 u.f4 = some (finish (putR u l t)) := fun t => by
    simp only [cloisterref20_put.j0]
    have := put_loop l hl8 u l.length k 0 [] t (by omega) (by omega) (by omega) (by simp; omega)
    simpa using this
  have hi : idleB (toU u) = false → some (finish (putR u l false)) = some (outL (putU (l.map toU) (toU u))) := fun hi => by
    rw [finish_put l u _ (by rw [putR_false u l hg.2.asc]; unfold withL; rw [hi]; rfl)]
  have hu3 : -1 ≤ u.f3 ∧ -1 ≤ u.f4 := by
    simp only [okU, Bool.and_eq_true] at hu
    have h3 := hu.1.2
    have h4 := hu.2
    have h5 : -1 ≤ (toU u).mb ∧ (toU u).mb ≤ 65535 := by simpa [inr] using h3
    have h6 : -1 ≤ (toU u).mi ∧ (toU u).mi ≤ 65535 := by simpa [inr] using h4
    exact ⟨h5.1, h6.1⟩
  obtain ⟨hu3, hu4⟩ := hu3
  unfold cloisterref20_put.f
  by_cases a1 : u.f1 = 0
  · rw [if_pos a1]
    by_cases a2 : u.f2 = 0
    · rw [if_pos a2]
      by_cases a3 : u.f3 < 0
      · rw [if_pos a3]
        by_cases a4 : u.f4 < 0
        · rw [decide_eq_true a4, hloop, finish_put l u _ (by
            rw [putR_true]; unfold withL; rw [if_pos (by simp [idleB, toU, a1, a2]; omega)]; rfl)]
        · rw [decide_eq_false a4, hloop]
          exact hi (by
            have h9 : ¬ (toU u).mi = -1 := fun e => by have : u.f4 = -1 := e; omega
            simp [idleB, h9])
      · rw [if_neg a3, hloop]
        exact hi (by
          have h9 : ¬ (toU u).mb = -1 := fun e => by have : u.f3 = -1 := e; omega
          simp [idleB, h9])
    · rw [if_neg a2, hloop]
      exact hi (by simp [idleB, toU, a2])
  · rw [if_neg a1, hloop]
    exact hi (by simp [idleB, toU, a1])
theorem C_of_listAt {w : World} {A : Option Addr} {xs : List U} (h : ListAt w A xs.length (nth xs)) (hn : xs.length ≤ 9223372036854775807) : Kd.C k29 w A (xs.map ofU).length (xs.map ofU) := by
  rw [List.length_map]
  refine ⟨List.length_map _, hn, fun h0 => ?_⟩
  obtain ⟨g, o, ha, hc⟩ := h.resolve_left (by omega)
  refine ⟨_, ha, fun j p hj => ?_⟩
  have hjl : j < xs.length := by have := (List.getElem?_eq_some_iff.1 hj).1; simpa using this
  have hp : p = ofU (nth xs j) := by
    have := (List.getElem?_eq_some_iff.1 hj).2
    rw [← nth_eq xs j hjl]
    simp at this; exact this.symm
  subst hp
  refine ⟨_, rfl, k29_mk w _, fun i u hi => ?_⟩
  have hil : i < 5 := by have := (List.getElem?_eq_some_iff.1 hi).1; simpa using this
  have hu := hc j hjl
  show w.cell? ((⟨g, o, none⟩ : Addr).add (j * 5 + i)) = some u
  rw [Addr.add_lit, ← Nat.add_assoc]
  have : i = 0 ∨ i = 1 ∨ i = 2 ∨ i = 3 ∨ i = 4 := by omega
  rcases this with rfl | rfl | rfl | rfl | rfl <;> simp at hi <;> subst hi
  · exact hu.c0
  · exact hu.c1
  · exact hu.c2
  · exact hu.c3
  · exact hu.c4
theorem kept_of_below {w w' : World} (h : Below w.heap.size w w') : Go.Proofs.Ytahlmlhdfoijhaa.Kept (fun _ => False) w w' := ⟨h.os, h.tape, h.output, h.size, fun k hk _ => h.block k hk⟩
theorem owns_of_R {w : World} {base : Nat} {ok : Nat → Prop} {v : Value} {ys : List S29} (h : Kd.R k29 29 w base ok v ys) : w.ownsRow base 29 5 v (ys.map toU).length (flat ucl (ys.map toU)) := by
  obtain ⟨_, inner, ho, hlen, hr⟩ := h
  have hi : inner = flat ucl (ys.map toU) := by
    have hlen' : inner.length = ys.length * 5 := hlen
    apply List.ext_getElem?
    intro j
    by_cases hj : j < ys.length * 5
    · have h1 := hr (j / 5) _ (List.getElem?_eq_getElem (show j / 5 < ys.length by omega))
      have h2 := k29_openM h1
      have h3 : ((inner.drop (j / 5 * 5)).take 5)[j % 5]? = inner[j]? := by
        rw [List.getElem?_take, if_pos (by omega), List.getElem?_drop]
        congr 1; omega
      have h4 := flat_get (cells := ucl) ucl_len (ys.map toU) [] (j / 5) (j % 5) (by rw [List.length_map]; omega) (by omega)
      rw [List.append_nil, show j / 5 * 5 + j % 5 = j by omega] at h4
      rw [← h3, h4]
      have h5 : (inner.drop (j / 5 * 5)).take 5 = ucl (toU ys[j / 5]) := h2
      rw [h5]
      simp
    · rw [List.getElem?_eq_none (by omega), List.getElem?_eq_none (by rw [flat_length ucl_len, List.length_map]; omega)]
  rw [List.length_map, ← hi]
  exact ho
theorem right_any : RightAny := fun a ca xs w ha hca hn => by
  have he : cloisterref20_Right.f 20 (xs.map ofU) = some (decide (RightU xs)) := by
    rw [rightR_eq _ 20 (by omega)]; simp [List.map_map, Function.comp_def]
  have := cloisterref20_Right.calls 20 a ca (xs.map ofU) _ w (C_of_listAt ha hn) (by rw [List.length_map]; exact hca) he
  rw [List.length_map] at this
  exact this.mono fun e w' ⟨h1, h2⟩ => ⟨h1, kept_of_below h2⟩
theorem put_ref : PutAny := fun a ca xs u w ha hca hR hu => by
  have hg := (right_iff _).1 hR
  have hm : (xs.map ofU).map toU = xs := by simp [List.map_map, Function.comp_def]
  have he : cloisterref20_put.f 20 (xs.map ofU) u.uid u.bl u.ino u.mb u.mi = some (outL (putU xs u)) := by
    have := putR_eq (xs.map ofU) (ofU u) 20 (by omega) (by rw [hm]; exact hR) hu
    rw [hm] at this
    exact this
  have := cloisterref20_put.calls 20 a ca (xs.map ofU) u.uid u.bl u.ino u.mb u.mi _ _ w (C_of_listAt ha (by omega)) (by rw [List.length_map]; exact hca) he
  rw [List.length_map] at this
  refine this.mono ?_
  rintro e w' ⟨v, rfl, h1, h2⟩
  refine ⟨v, rfl, ?_, kept_of_below h2⟩
  have := owns_of_R h1
  have hmm : ((putU xs u).1.map ofU).map toU = (putU xs u).1 := by simp [List.map_map, Function.comp_def]
  rw [hmm] at this
  exact this
def cloisterref20_Limit.f (l0 : List S29) (a1 a2 a3 : Int) : Option (List S29 × Int) := some (outL (limitU (l0.map toU) a1 a2 a3))
theorem cloisterref20_Limit.calls (A0 : Option Addr) (c0 : Nat) (l0 : List S29) (a1 a2 a3 : Int) (r1 : List S29) (r2 : Int) (w : World) (hr0 : Kd.C k29 w A0 l0.length l0) (hc0 : l0.length ≤ c0) (h : cloisterref20_Limit.f l0 a1 a2 a3 = some (r1, r2)) :
    Calls Try.prog 12 #[.slice A0 l0.length c0, .int .i64 a1, .int .i64 a2, .int .i64 a3] w fun e w' => ∃ v0_ : Value, e = .returned (.tuple #[v0_, .int .i64 r2]) ∧ Kd.R k29 29 w' w.heap.size (fun _ => True) v0_ r1 ∧ Below w.heap.size w w' := by
  have hl : (l0.map toU).length = l0.length := List.length_map _
  rw [← hl]
  exact calls_of_post (limitR_any right_any put_ref A0 c0 (l0.map toU) a1 a2 a3 w (listAt_map hr0) (by omega) (by have := hr0.2.1; omega)) h
def cloisterref20_Charge.f (l0 : List S29) (a1 a2 a3 : Int) : Option (List S29 × Int) := some (outL (chargeU (l0.map toU) a1 a2 a3))
theorem cloisterref20_Charge.calls (A0 : Option Addr) (c0 : Nat) (l0 : List S29) (a1 a2 a3 : Int) (r1 : List S29) (r2 : Int) (w : World) (hr0 : Kd.C k29 w A0 l0.length l0) (hc0 : l0.length ≤ c0) (h : cloisterref20_Charge.f l0 a1 a2 a3 = some (r1, r2)) :
    Calls Try.prog 13 #[.slice A0 l0.length c0, .int .i64 a1, .int .i64 a2, .int .i64 a3] w fun e w' => ∃ v0_ : Value, e = .returned (.tuple #[v0_, .int .i64 r2]) ∧ Kd.R k29 29 w' w.heap.size (fun _ => True) v0_ r1 ∧ Below w.heap.size w w' := by
  have hl : (l0.map toU).length = l0.length := List.length_map _
  rw [← hl]
  exact calls_of_post (chargeR_any right_any put_ref A0 c0 (l0.map toU) a1 a2 a3 w (listAt_map hr0) (by omega) (by have := hr0.2.1; omega)) h
end Go.Proofs.Ytahlmlhdfoijhaa.PQ
