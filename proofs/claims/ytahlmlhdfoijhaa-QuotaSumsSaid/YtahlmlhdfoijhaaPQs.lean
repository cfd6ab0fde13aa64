/-
  The plain law of QuotaSums.
-/
import Derived.Test.YtahlmlhdfoijhaaPQq
import Derived.Test.YtahlmlhdfoijhaaPQf
import Derived.Test.YtahlmlhdfoijhaaPQx14
namespace Go.Proofs.Ytahlmlhdfoijhaa.PQ
open Go.RowKit Go.Proofs.YtahlmlhdfoijhaaW.PrintWords
theorem limit_cases (xs : List U) (uid b n : Int) : (∃ ys, limitU xs uid b n = (ys, 0) ∧ RightU ys ∧ ∀ v, (find v ys).bl = (find v xs).bl ∧ (find v ys).ino = (find v xs).ino) ∨ (∃ e, limitU xs uid b n = ([], e) ∧ e ≠ 0) := by
  unfold limitU
  by_cases hR : RightU xs
  · have hg := (right_iff xs).1 hR
    rw [if_pos hR]
    cases h1 : inr uid 0
    · exact .inr ⟨2, by simp, by omega⟩
    cases h2 : inr b (-1)
    · exact .inr ⟨2, by simp, by omega⟩
    cases h3 : inr n (-1)
    · exact .inr ⟨2, by simp, by omega⟩
    simp only [Bool.and_self, if_true]
    have i1 := inr_spec h1
    have hok := find_ok hg.2 uid i1.1 i1.2
    rcases putU_cases xs ⟨uid, (find uid xs).bl, (find uid xs).ino, b, n⟩ with ⟨h8, he⟩ | he
    · refine .inl ⟨_, he, ?_, fun v => ?_⟩
      · rw [right_iff]
        refine ⟨h8, withL_good hg.2 ?_⟩
        simp only [okU, Bool.and_eq_true] at hok ⊢
        exact ⟨⟨⟨⟨h1, hok.1.1.1.2⟩, hok.1.1.2⟩, h2⟩, h3⟩
      · rw [find_withL]
        by_cases hv : v = uid
        · rw [if_pos hv, hv]; exact ⟨rfl, rfl⟩
        · rw [if_neg hv]; exact ⟨rfl, rfl⟩
    · exact .inr ⟨5, he, by omega⟩
  · exact .inr ⟨3, by rw [if_neg hR], by omega⟩
theorem rd38_nat (l : List S38) (i : Nat) : rd_T38 l (i : Int) = l.getD i z38 := by unfold rd_T38; simp
structure Inv (l : List S29) (uid a b : Int) : Prop where
  right : RightL l
  bl : (find uid (l.map toU)).bl = a
  ino : (find uid (l.map toU)).ino = b
theorem Inv.end_ {l : List S29} {uid a b : Int} (h : Inv l uid a b) (k : Nat) (hk : 20 ≤ k) : cloisterlaw20_QuotaSums.j2 k uid l a b = some true := by
  obtain ⟨k, rfl⟩ : ∃ m, k = m + 1 := ⟨k - 1, by omega⟩
  have hl8 : l.length ≤ 8 := by have := ((right_iff _).1 h.right).1; rwa [List.length_map] at this
  simp only [cloisterlaw20_QuotaSums.j2]
  rw [get_eq l uid k (by omega) (by omega)]
  simp only [Option.bind_some, getT, find_uid, if_true]
  rw [if_pos h.bl, if_pos h.ino]
  unfold quota_Check.f
  rw [if_pos h.right]
  rfl
theorem sums_loop (uid : Int) (sc : List S38) (hs : sc.length ≤ 140737488351232) : ∀ (d k i : Nat) (l : List S29) (a b : Int), sc.length - i = d → i ≤ sc.length → 2 * d + 60 ≤ k → Inv l uid a b →
    cloisterlaw20_QuotaSums.l0 k uid l a b sc (sc.length : Int) (i : Int) = some true := by
  intro d
  induction d with
  | zero =>
    intro k i l a b hd hi hk hI
    obtain ⟨k, rfl⟩ : ∃ m, k = m + 1 := ⟨k - 1, by omega⟩
    simp only [cloisterlaw20_QuotaSums.l0]
    rw [if_neg (by omega)]
    exact hI.end_ k (by omega)
  | succ d ih =>
    intro k i l a b hd hi hk hI
    obtain ⟨k, rfl⟩ : ∃ m, k = m + 2 := ⟨k - 2, by omega⟩
    have en : wrap64 ((i : Int) + 1) = ((i + 1 : Nat) : Int) := by rw [wrap_small (by omega) (by omega)]; omega
    simp only [cloisterlaw20_QuotaSums.l0]
    rw [if_pos (by omega), if_pos (by omega), if_pos (by omega)]
    by_cases h100 : (i : Int) ≥ 100
    · rw [if_pos h100]
      exact hI.end_ (k + 1) (by omega)
    · rw [if_neg h100, rd38_nat]
      generalize sc.getD i z38 = o
      by_cases h2 : o.f0 = 2
      · rw [if_pos h2]
        simp only [quota_Limit.f, Option.bind_some]
        rcases limit_cases (l.map toU) o.f1 o.f2 o.f3 with ⟨ys, he, hR, hf⟩ | ⟨e, he, hne⟩
        · rw [he]
          simp only [outL, if_true]
          rw [en]
          refine ih (k + 1) (i + 1) _ a b (by omega) (by omega) (by omega) ⟨?_, ?_, ?_⟩
          · unfold RightL; rw [map_toU_ofU]; exact hR
          · rw [map_toU_ofU, (hf uid).1]; exact hI.bl
          · rw [map_toU_ofU, (hf uid).2]; exact hI.ino
        · rw [he]
          simp only [outL, hne, if_false]
          rw [en]
          exact ih (k + 1) (i + 1) _ a b (by omega) (by omega) (by omega) hI
      · rw [if_neg h2]
        simp only [quota_Charge.f, Option.bind_some]
        rcases charge_cases (l.map toU) o.f1 o.f2 o.f3 with ⟨ys, he, hc⟩ | ⟨e, he, hne⟩
        · rw [he]
          simp only [outL, if_true]
          have hl8 : (ys.map ofU).length ≤ 8 := by have := ((right_iff _).1 hc.right2).1; rwa [List.length_map]
          rw [get_eq (ys.map ofU) o.f1 (k + 1) (by omega) (by omega), map_toU_ofU]
          have hfu : find o.f1 ys = ⟨o.f1, (find o.f1 (l.map toU)).bl + o.f2, (find o.f1 (l.map toU)).ino + o.f3, (find o.f1 (l.map toU)).mb, (find o.f1 (l.map toU)).mi⟩ := by
            rw [hc.map, find_withL, if_pos rfl]
          have hj : ∀ t, t = false → cloisterlaw20_QuotaSums.j1 (k + 1) uid (ys.map ofU) a b sc (sc.length : Int) (i : Int) t o.f0 o.f1 o.f2 o.f3 = some true := by
            intro t ht
            subst ht
            simp only [cloisterlaw20_QuotaSums.j1, Bool.false_eq_true, if_false]
            rw [en]
            by_cases hu : o.f1 = uid
            · rw [if_pos hu]
              have b0 := hc.bl0
              have b1 := hc.bl1
              have b2 := hc.ino0
              have b3 := hc.ino1
              rw [hu] at b0 b1 b2 b3 hfu
              rw [hI.bl] at b0 b1
              rw [hI.ino] at b2 b3
              rw [wrap_small (x := a + o.f2) (by omega) (by omega), wrap_small (x := b + o.f3) (by omega) (by omega)]
              refine ih k (i + 1) _ _ _ (by omega) (by omega) (by omega) ⟨?_, ?_, ?_⟩
              · unfold RightL; rw [map_toU_ofU]; exact hc.right2
              · rw [map_toU_ofU, hfu]; show (find uid (l.map toU)).bl + o.f2 = _; rw [hI.bl]
              · rw [map_toU_ofU, hfu]; show (find uid (l.map toU)).ino + o.f3 = _; rw [hI.ino]
            · rw [if_neg hu]
              have hsame : find uid ys = find uid (l.map toU) := by rw [hc.map, find_withL, if_neg (fun e => hu e.symm)]
              refine ih k (i + 1) _ a b (by omega) (by omega) (by omega) ⟨?_, ?_, ?_⟩
              · unfold RightL; rw [map_toU_ofU]; exact hc.right2
              · rw [map_toU_ofU, hsame]; exact hI.bl
              · rw [map_toU_ofU, hsame]; exact hI.ino
          rw [hfu]
          simp only [Option.bind_some, getT]
          have f1 := hc.fine
          have f2 := hc.fine2
          simp only [overB, Bool.and_eq_false_iff, decide_eq_false_iff_not] at f1 f2
          by_cases c1 : o.f2 > 0
          · rw [if_pos c1]
            by_cases c2 : (find o.f1 (l.map toU)).mb ≥ 0
            · rw [if_pos c2, if_neg (by omega)]
              by_cases c4 : o.f3 > 0
              · rw [if_pos c4]
                by_cases c5 : (find o.f1 (l.map toU)).mi ≥ 0
                · rw [if_pos c5]; exact hj _ (decide_eq_false (by omega))
                · rw [if_neg c5]; exact hj _ rfl
              · rw [if_neg c4]; exact hj _ rfl
            · rw [if_neg c2]
              by_cases c4 : o.f3 > 0
              · rw [if_pos c4]
                by_cases c5 : (find o.f1 (l.map toU)).mi ≥ 0
                · rw [if_pos c5]; exact hj _ (decide_eq_false (by omega))
                · rw [if_neg c5]; exact hj _ rfl
              · rw [if_neg c4]; exact hj _ rfl
          · rw [if_neg c1]
            by_cases c4 : o.f3 > 0
            · rw [if_pos c4]
              by_cases c5 : (find o.f1 (l.map toU)).mi ≥ 0
              · rw [if_pos c5]; exact hj _ (decide_eq_false (by omega))
              · rw [if_neg c5]; exact hj _ rfl
            · rw [if_neg c4]; exact hj _ rfl
        · rw [he]
          simp only [outL, hne, if_false]
          rw [en]
          exact ih (k + 1) (i + 1) _ a b (by omega) (by omega) (by omega) hI
theorem sums_true (sc : List S38) (uid : Int) (hs : sc.length ≤ 140737488351232) : ∃ k, cloisterlaw20_QuotaSums.f k sc uid = some true := by
  refine ⟨2 * sc.length + 60, ?_⟩
  unfold cloisterlaw20_QuotaSums.f
  rw [fixed_eq _ (by omega)]
  simp only [Option.bind_some, if_true]
  have := sums_loop uid sc hs sc.length (2 * sc.length + 60) 0 [] 0 0 (by omega) (by omega) (by omega) ⟨by unfold RightL RightU Right; simp, rfl, rfl⟩
  exact this
def listOf38 (len : Nat) (Z : Nat → Nat → Int) : List S38 := (List.range len).map fun i => ⟨Z i 0, Z i 1, Z i 2, Z i 3⟩
theorem listOf38_len (len : Nat) (Z : Nat → Nat → Int) : (listOf38 len Z).length = len := by simp [listOf38]
theorem C38_of_cells {w : World} {a : Option Addr} {len : Nat} {Z : Nat → Nat → Int} (h : len = 0 ∨ ∃ ad, a = some ad ∧ ∀ i, i < len → ∀ j, j < 4 → w.cell? (ad.add (i * 4 + j)) = some (.int .i64 (Z i j))) (hn : len ≤ 9223372036854775807) :
    Kd.C k38 w a len (listOf38 len Z) := by
  refine ⟨listOf38_len _ _, hn, fun h0 => ?_⟩
  obtain ⟨ad, ha, hc⟩ := h.resolve_left (by omega)
  refine ⟨ad, ha, fun j p hj => ?_⟩
  have hjl : j < len := by have := (List.getElem?_eq_some_iff.1 hj).1; rwa [listOf38_len] at this
  have hp : p = ⟨Z j 0, Z j 1, Z j 2, Z j 3⟩ := by
    have := (List.getElem?_eq_some_iff.1 hj).2
    simp [listOf38] at this; exact this.symm
  subst hp
  refine ⟨_, rfl, k38_mk w _, fun i u hi => ?_⟩
  have hil : i < 4 := by have := (List.getElem?_eq_some_iff.1 hi).1; simpa using this
  have h1 := hc j hjl i hil
  have : i = 0 ∨ i = 1 ∨ i = 2 ∨ i = 3 := by omega
  rcases this with rfl | rfl | rfl | rfl <;> simp at hi <;> subst hi <;> exact h1
theorem sums_walk (a : Option Addr) (len cap : Nat) (Z : Nat → Nat → Int) (uid : Int) (W : World) (hc : len = 0 ∨ ∃ ad, a = some ad ∧ ∀ i, i < len → ∀ j, j < 4 → W.cell? (ad.add (i * 4 + j)) = some (.int .i64 (Z i j))) (_hn : a = none → len = 0) (hl : len ≤ cap) (hm : cap * 32 ≤ 140737488351232) :
    Calls Try.prog 5 #[.slice a len cap, .int .i64 uid] W fun e w' => e = .returned (.bool true) ∧ Below W.heap.size W w' := by
  have hC := C38_of_cells (w := W) hc (by omega)
  have hlen := listOf38_len len Z
  generalize listOf38 len Z = l at *
  subst hlen
  obtain ⟨k, hk⟩ := sums_true l uid (by omega)
  exact cloisterlaw20_QuotaSums.calls k a cap l uid true W hC hl hk
end Go.Proofs.Ytahlmlhdfoijhaa.PQ
