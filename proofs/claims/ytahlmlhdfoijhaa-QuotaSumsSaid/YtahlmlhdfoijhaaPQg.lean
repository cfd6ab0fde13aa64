/-
  Check, Limit and Charge, as the printed texts call them: plain functions of lists and their contracts.
-/
import Derived.Test.YtahlmlhdfoijhaaPQx0
import Derived.Test.YtahlmlhdfoijhaaS8
namespace Go.Proofs.Ytahlmlhdfoijhaa.PQ
open Go.RowKit Go.Proofs.YtahlmlhdfoijhaaW.PrintWords
def toU (x : S29) : U := ⟨x.f0, x.f1, x.f2, x.f3, x.f4⟩
def ofU (u : U) : S29 := ⟨u.uid, u.bl, u.ino, u.mb, u.mi⟩
@[simp] theorem toU_ofU (u : U) : toU (ofU u) = u := rfl
@[simp] theorem ofU_toU (x : S29) : ofU (toU x) = x := rfl
theorem nth_map (l : List S29) (i : Nat) (hi : i < l.length) : nth (l.map toU) i = toU (l.getD i z29) := by
  unfold nth
  simp [hi]
theorem listAt_of_C {w : World} {A : Option Addr} {l : List S29} (h : Kd.C k29 w A l.length l) : ListAt w A l.length (nth (l.map toU)) := by
  by_cases h0 : l.length = 0
  · exact .inl h0
  · obtain ⟨ad, hA, c0, _⟩ := at_T29 h 0 (by omega) (by omega)
    obtain ⟨b, o, sp⟩ := ad
    have hsp : sp = none := by
      cases sp with
      | none => rfl
      | some s =>
        exfalso
        simp [Addr.add, World.cell?] at c0
        split at c0 <;> simp at c0
    subst hsp
    refine .inr ⟨b, o, hA, fun i hi => ?_⟩
    obtain ⟨ad', hA', e0, e1, e2, e3, e4⟩ := at_T29 h i (by omega) (by omega)
    rw [hA] at hA'
    injection hA' with hA'
    subst hA'
    rw [nth_map l i hi]
    have hr : rd_T29 l (i : Int) = l.getD i z29 := by unfold rd_T29; simp
    rw [hr, Addr.add_lit, show (i : Int).toNat = i by omega] at e0 e1 e2 e3 e4
    exact ⟨e0, e1, e2, e3, e4⟩
theorem R_of_owns {w : World} {base : Nat} {v : Value} {ys : List U} (h : w.ownsRow base 29 5 v ys.length (flat ucl ys)) : Kd.R k29 29 w base (fun _ => True) v (ys.map ofU) := by
  refine ⟨fun _ _ => trivial, flat ucl ys, ?_, ?_⟩
  · rw [List.length_map]; exact h
  · refine ⟨by rw [List.length_map, flat_length ucl_len]; rfl, fun j p hj => ?_⟩
    have hjl : j < ys.length := by have := (List.getElem?_eq_some_iff.1 hj).1; simpa using this
    have hp : p = ofU ys[j] := by
      have := (List.getElem?_eq_some_iff.1 hj).2
      simp at this; exact this.symm
    subst hp
    have e : ((flat ucl ys).drop (j * 5)).take 5 = ucl ys[j] := by
      rw [flat_drop ucl_len, List.drop_eq_getElem_cons hjl, flat_cons, List.take_append_of_le_length (by rw [ucl_len]; exact Nat.le_refl _)]
      rfl
    show k29.M w base _ (ofU ys[j]) (((flat ucl ys).drop (j * 5)).take 5)
    rw [e]
    exact k29_mkM w base _ (ofU ys[j])
def RightL (l : List S29) : Prop := RightU (l.map toU)
instance (l : List S29) : Decidable (RightL l) := by unfold RightL; infer_instance
theorem below_of_kept {w w' : World} (hk : Go.Proofs.Ytahlmlhdfoijhaa.Kept (fun _ => False) w w') : Below w.heap.size w w' := (hk.mono (fun _ _ h => h.elim)).below (Nat.le_refl _)
theorem listAt_map {w : World} {A : Option Addr} {l : List S29} (h : Kd.C k29 w A l.length l) : ListAt w A (l.map toU).length (nth (l.map toU)) := by
  rw [List.length_map]; exact listAt_of_C h
def quota_Check.f (l0 : List S29) : Option Int := some (if RightL l0 then 0 else 3)
theorem quota_Check.calls (A0 : Option Addr) (c0 : Nat) (l0 : List S29) (r : Int) (w : World) (hr0 : Kd.C k29 w A0 l0.length l0) (_hc0 : l0.length ≤ c0) (h : quota_Check.f l0 = some r) :
    Calls Try.prog 7 #[.slice A0 l0.length c0] w fun e w' => e = .returned (.int .i64 r) ∧ Below w.heap.size w w' := by
  have hl : (l0.map toU).length = l0.length := List.length_map _
  rw [← hl]
  unfold quota_Check.f at h
  injection h with h
  subst h
  by_cases hR : RightL l0
  · rw [if_pos hR]
    exact (check_yes A0 c0 (l0.map toU) w (listAt_map hr0) hR).mono fun e w' ⟨h1, hk⟩ => ⟨h1, below_of_kept hk⟩
  · rw [if_neg hR]
    exact (check_no A0 c0 (l0.map toU) w (listAt_map hr0) hR).mono fun e w' ⟨h1, hk⟩ => ⟨h1, below_of_kept hk⟩
def outL (r : List U × Int) : List S29 × Int := (r.1.map ofU, r.2)
theorem calls_of_post {F : Nat} {args : Array Value} {res : List U × Int} {r1 : List S29} {r2 : Int} {w : World} (h : Calls Try.prog F args w (ListPost res w)) (he : some (outL res) = some (r1, r2)) :
    Calls Try.prog F args w fun e w' => ∃ v0_ : Value, e = .returned (.tuple #[v0_, .int .i64 r2]) ∧ Kd.R k29 29 w' w.heap.size (fun _ => True) v0_ r1 ∧ Below w.heap.size w w' := by
  injection he with he
  injection he with h1 h2
  subst h1 h2
  exact h.mono fun e w' ⟨v, hv, ho, hk⟩ => ⟨v, hv, R_of_owns ho, below_of_kept hk⟩
def quota_Limit.f (l0 : List S29) (a1 a2 a3 : Int) : Option (List S29 × Int) := some (outL (limitU (l0.map toU) a1 a2 a3))
theorem quota_Limit.calls (A0 : Option Addr) (c0 : Nat) (l0 : List S29) (a1 a2 a3 : Int) (r1 : List S29) (r2 : Int) (w : World) (hr0 : Kd.C k29 w A0 l0.length l0) (_hc0 : l0.length ≤ c0) (h : quota_Limit.f l0 a1 a2 a3 = some (r1, r2)) :
    Calls Try.prog 10 #[.slice A0 l0.length c0, .int .i64 a1, .int .i64 a2, .int .i64 a3] w fun e w' => ∃ v0_ : Value, e = .returned (.tuple #[v0_, .int .i64 r2]) ∧ Kd.R k29 29 w' w.heap.size (fun _ => True) v0_ r1 ∧ Below w.heap.size w w' := by
  have hl : (l0.map toU).length = l0.length := List.length_map _
  rw [← hl]
  exact calls_of_post (limit_any A0 c0 (l0.map toU) a1 a2 a3 w (listAt_map hr0)) h
def quota_Charge.f (l0 : List S29) (a1 a2 a3 : Int) : Option (List S29 × Int) := some (outL (chargeU (l0.map toU) a1 a2 a3))
theorem quota_Charge.calls (A0 : Option Addr) (c0 : Nat) (l0 : List S29) (a1 a2 a3 : Int) (r1 : List S29) (r2 : Int) (w : World) (hr0 : Kd.C k29 w A0 l0.length l0) (_hc0 : l0.length ≤ c0) (h : quota_Charge.f l0 a1 a2 a3 = some (r1, r2)) :
    Calls Try.prog 8 #[.slice A0 l0.length c0, .int .i64 a1, .int .i64 a2, .int .i64 a3] w fun e w' => ∃ v0_ : Value, e = .returned (.tuple #[v0_, .int .i64 r2]) ∧ Kd.R k29 29 w' w.heap.size (fun _ => True) v0_ r1 ∧ Below w.heap.size w w' := by
  have hl : (l0.map toU).length = l0.length := List.length_map _
  rw [← hl]
  exact calls_of_post (charge_any A0 c0 (l0.map toU) a1 a2 a3 w (listAt_map hr0)) h
end Go.Proofs.Ytahlmlhdfoijhaa.PQ
