/-
  Plain facts of charges and limits.
-/
import Derived.Test.YtahlmlhdfoijhaaPQp
namespace Go.Proofs.Ytahlmlhdfoijhaa.PQ
theorem inr_spec {a b : Int} (h : inr a b = true) : b ≤ a ∧ a ≤ 65535 := by simpa [inr] using h
theorem map_toU_ofU (xs : List U) : (xs.map ofU).map toU = xs := by simp [List.map_map, Function.comp_def]
theorem map_ofU_toU (l : List S29) : (l.map toU).map ofU = l := by simp [List.map_map, Function.comp_def]
/-- What a charge that succeeds says. -/
structure Charged (xs : List U) (uid b n : Int) (ys : List U) : Prop where
  right : RightU xs
  uid0 : 0 ≤ uid
  uid1 : uid ≤ 65535
  b0 : -65535 ≤ b
  b1 : b ≤ 65535
  n0 : -65535 ≤ n
  n1 : n ≤ 65535
  bl0 : 0 ≤ (find uid xs).bl + b
  bl1 : (find uid xs).bl + b ≤ 65535
  ino0 : 0 ≤ (find uid xs).ino + n
  ino1 : (find uid xs).ino + n ≤ 65535
  fine : overB b ((find uid xs).bl + b) (find uid xs).mb = false
  fine2 : overB n ((find uid xs).ino + n) (find uid xs).mi = false
  map : ys = withL xs ⟨uid, (find uid xs).bl + b, (find uid xs).ino + n, (find uid xs).mb, (find uid xs).mi⟩
  right2 : RightU ys
theorem okU_new {xs : List U} (hg : Good xs) {uid : Int} (h0 : 0 ≤ uid) (h1 : uid ≤ 65535) {b n : Int} (hb : 0 ≤ b ∧ b ≤ 65535) (hn : 0 ≤ n ∧ n ≤ 65535) :
    okU ⟨uid, b, n, (find uid xs).mb, (find uid xs).mi⟩ = true := by
  have hok := find_ok hg uid h0 h1
  simp [okU, inr] at hok ⊢
  omega
theorem putU_cases (xs : List U) (u : U) : ((withL xs u).length ≤ 8 ∧ putU xs u = (withL xs u, 0)) ∨ putU xs u = ([], 5) := by
  unfold putU
  split
  · rename_i h; exact .inl ⟨h, rfl⟩
  · exact .inr rfl
theorem charge_cases (xs : List U) (uid b n : Int) : (∃ ys, chargeU xs uid b n = (ys, 0) ∧ Charged xs uid b n ys) ∨ (∃ e, chargeU xs uid b n = ([], e) ∧ e ≠ 0) := by
  unfold chargeU
  by_cases hR : RightU xs
  · have hg := (right_iff xs).1 hR
    rw [if_pos hR]
    cases h1 : inr uid 0
    · exact .inr ⟨2, by simp, by omega⟩
    cases h2 : inr b (-65535)
    · exact .inr ⟨2, by simp, by omega⟩
    cases h3 : inr n (-65535)
    · exact .inr ⟨2, by simp, by omega⟩
    simp only [Bool.and_self, if_true]
    have i1 := inr_spec h1
    have i2 := inr_spec h2
    have i3 := inr_spec h3
    cases h4 : inr ((find uid xs).bl + b) 0
    · exact .inr ⟨2, by simp, by omega⟩
    cases h5 : inr ((find uid xs).ino + n) 0
    · exact .inr ⟨2, by simp, by omega⟩
    simp only [Bool.and_self, if_true]
    have i4 := inr_spec h4
    have i5 := inr_spec h5
    cases h6 : overB b ((find uid xs).bl + b) (find uid xs).mb
    · cases h7 : overB n ((find uid xs).ino + n) (find uid xs).mi
      · simp only [Bool.or_self, Bool.false_eq_true, if_false]
        rcases putU_cases xs ⟨uid, (find uid xs).bl + b, (find uid xs).ino + n, (find uid xs).mb, (find uid xs).mi⟩ with ⟨h8, he⟩ | he
        · refine .inl ⟨_, he, ?_⟩
          refine ⟨hR, i1.1, i1.2, i2.1, i2.2, i3.1, i3.2, i4.1, i4.2, i5.1, i5.2, h6, h7, rfl, ?_⟩
          rw [right_iff]
          exact ⟨h8, withL_good hg.2 (okU_new hg.2 i1.1 i1.2 i4 i5)⟩
        · exact .inr ⟨5, he, by omega⟩
      · exact .inr ⟨52, by simp, by omega⟩
    · exact .inr ⟨52, by simp, by omega⟩
  · exact .inr ⟨3, by rw [if_neg hR], by omega⟩
theorem self_find {xs : List U} (v : Int) : (⟨v, (find v xs).bl, (find v xs).ino, (find v xs).mb, (find v xs).mi⟩ : U) = find v xs := by
  have := find_uid v xs
  generalize find v xs = u at *
  cases u; simp at this; simp [this]
theorem overB_neg {b u l : Int} (h : overB (-b) u l = true) : b < 0 := by
  simp [overB] at h; omega
/-- A charge that is taken back. -/
theorem back_eq {xs ys : List U} {uid b n : Int} (h : Charged xs uid b n ys) : chargeU ys uid (-b) (-n) = (xs, 0) ∨ (chargeU ys uid (-b) (-n) = ([], 52) ∧ (b < 0 ∨ n < 0)) := by
  have hg := (right_iff xs).1 h.right
  have hg2 := (right_iff ys).1 h.right2
  have hf : find uid (ys) = ⟨uid, (find uid xs).bl + b, (find uid xs).ino + n, (find uid xs).mb, (find uid xs).mi⟩ := by
    rw [h.map, find_withL, if_pos rfl]
  have hok := find_ok hg.2 uid h.uid0 h.uid1
  simp [okU, inr] at hok
  unfold chargeU
  rw [if_pos h.right2, hf]
  have e1 : inr uid 0 = true := by simp [inr, h.uid0, h.uid1]
  have e2 : inr (-b) (-65535) = true := by have := h.b0; have := h.b1; simp [inr]; omega
  have e3 : inr (-n) (-65535) = true := by have := h.n0; have := h.n1; simp [inr]; omega
  have c1 : (find uid xs).bl + b + -b = (find uid xs).bl := by omega
  have c2 : (find uid xs).ino + n + -n = (find uid xs).ino := by omega
  simp only [c1, c2]
  have e4 : inr (find uid xs).bl 0 = true := by simp [inr]; omega
  have e5 : inr (find uid xs).ino 0 = true := by simp [inr]; omega
  rw [e1, e2, e3, e4, e5]
  simp only [Bool.and_self, if_true]
  cases h6 : overB (-b) (find uid xs).bl (find uid xs).mb
  · cases h7 : overB (-n) (find uid xs).ino (find uid xs).mi
    · left
      simp only [Bool.or_self, Bool.false_eq_true, if_false]
      rw [self_find]
      have hu : (find uid xs).uid = uid := find_uid _ _
      have hxx : withL (ys) (find uid xs) = xs := by
        refine good_ext (withL_good hg2.2 (find_ok hg.2 uid h.uid0 h.uid1)) hg.2 (fun v => ?_)
        rw [find_withL, hu]
        by_cases hv : v = uid
        · rw [if_pos hv, hv]
        · rw [if_neg hv, h.map, find_withL, if_neg hv]
      unfold putU
      rw [hxx, if_pos hg.1]
    · right
      refine ⟨by simp, .inr (overB_neg h7)⟩
  · right
    exact ⟨by simp, .inl (overB_neg h6)⟩
/-- Limits that are lifted. -/
theorem lift_eq {xs : List U} {uid : Int} (hR : RightU xs) (h0 : 0 ≤ uid) (h1 : uid ≤ 65535) :
    ∃ ys, limitU xs uid (-1) (-1) = (ys, 0) ∧ ys.length ≤ 8 ∧ ys.any (fun x => x.uid == uid) = (decide ((find uid xs).bl > 0) || decide ((find uid xs).ino > 0)) := by
  have hg := (right_iff xs).1 hR
  have hok := find_ok hg.2 uid h0 h1
  simp [okU, inr] at hok
  unfold limitU
  rw [if_pos hR]
  have e1 : inr uid 0 = true := by simp [inr, h0, h1]
  have e2 : inr (-1) (-1) = true := by simp [inr]
  rw [e1, e2]
  simp only [Bool.and_self, if_true]
  by_cases hi : (find uid xs).bl = 0 ∧ (find uid xs).ino = 0
  · have hw : withL xs ⟨uid, (find uid xs).bl, (find uid xs).ino, -1, -1⟩ = others xs uid := by
      unfold withL; rw [if_pos (by simp [idleB, hi.1, hi.2])]
    have hl : (others xs uid).length ≤ 8 := by have := others_length xs uid; omega
    refine ⟨others xs uid, by unfold putU; rw [hw, if_pos hl], hl, ?_⟩
    rw [hi.1, hi.2]
    simp only [gt_iff_lt, Int.lt_irrefl, decide_false, Bool.or_self]
    rw [List.any_eq_false]
    intro x hx
    simp [(mem_others.1 hx).2]
  · have hw : withL xs ⟨uid, (find uid xs).bl, (find uid xs).ino, -1, -1⟩ = insU ⟨uid, (find uid xs).bl, (find uid xs).ino, -1, -1⟩ (others xs uid) := by
      unfold withL; rw [if_neg]
      intro h; simp [idleB] at h; exact hi h
    have hex : ∃ x ∈ xs, x.uid = uid := by
      by_cases he : ∃ x ∈ xs, x.uid = uid
      · exact he
      · have := find_none (v := uid) (xs := xs) (fun y hy e => he ⟨y, hy, e⟩)
        rw [this] at hi; simp at hi
    have hl : (insU ⟨uid, (find uid xs).bl, (find uid xs).ino, -1, -1⟩ (others xs uid)).length ≤ 8 := by
      rw [insU_length]
      have := others_less hex
      omega
    refine ⟨_, by unfold putU; rw [hw, if_pos hl], hl, ?_⟩
    have h1 : (insU ⟨uid, (find uid xs).bl, (find uid xs).ino, -1, -1⟩ (others xs uid)).any (fun y => y.uid == uid) = true := by
      rw [List.any_eq_true]
      exact ⟨_, mem_insU.2 (.inl rfl), by simp⟩
    rw [h1]
    symm
    simp
    omega
end Go.Proofs.Ytahlmlhdfoijhaa.PQ
