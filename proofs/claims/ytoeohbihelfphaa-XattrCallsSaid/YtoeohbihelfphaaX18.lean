/-
  The reference's Same of attributes: two slices that read as one list.
-/
import Derived.Test.YtoeohbihelfphaaX17
namespace Go.Proofs.Ytoeohbihelfphaa
open Go.RowKit
set_option linter.unusedVariables false
set_option linter.unusedSimpArgs false
set_option maxRecDepth 100000 in
set_option maxHeartbeats 8000000 in
theorem xrefSame_any (a a2 : Option Addr) (cap cap2 : Nat) (cs cs2 : List Xc) (xs : List Xa) (w : World) (h : XsAt w a cs xs) (h2 : XsAt w a2 cs2 xs) (hn : xs.length ≤ 140737488351232) :
    Calls Try.prog 15 #[.slice a xs.length cap, .slice a2 xs.length cap2] w fun r w' => r = .returned (.bool true) ∧ Kept (fun _ => False) w w' := by
  obtain ⟨n, hxn⟩ : ∃ n, n = xs.length := ⟨_, rfl⟩
  have HXN := Lib.hid hxn
  have HAT := Lib.hid (fun (i : Nat) (hi : i < xs.length) W (k : Kept (fun _ => False) w W) => (h.kept k).at hi)
  have HAT2 := Lib.hid (fun (i : Nat) (hi : i < xs.length) W (k : Kept (fun _ => False) w W) => (h2.kept k).at hi)
  rw [← hxn] at hn ⊢
  have q3 : (n : Int) ≤ 140737488351232 := by omega
  clear hxn h h2
  go_enter Try.func15, Try.ntmps15
  go_wp2_with fail
  go_loopg [5] n (fun k i wr => ∃ j : Nat, j + k = n ∧ j ≤ n ∧ i = .int .i64 (j : Int) ∧ Kept (fun _ => False) w wr)
  case atStart => exact ⟨0, by omega, by omega, rfl, Kept.refl _ w⟩
  case round =>
    obtain ⟨j, hj, hj2, rfl, hKw⟩ := hrel
    have Hj := Lib.hid hj
    clear hj
    by_cases hlt : j < n
    · have q1 : (j : Int) < n := by omega
      have q2 : (0 : Int) ≤ j := by omega
      have hjx : j < xs.length := by rw [← HXN.out]; exact hlt
      obtain ⟨g, o, b, m, c, rfl, c0, c1, hm, hmc, _, hb0, hb⟩ := HAT.out j hjx wr hKw
      obtain ⟨g2, o2, b2, m2, cc2, rfl, d0, d1, hm2, hmc2, _, hb02, hb2⟩ := HAT2.out j hjx wr hKw
      obtain rfl : m = m2 := by omega
      obtain ⟨x, hx⟩ : ∃ x, x = nthA xs j := ⟨_, rfl⟩
      rw [← hx] at c0 d0 hm hm2 hb hb2
      obtain ⟨nm, val⟩ := x
      dsimp only at c0 d0 hm hm2 hb hb2
      have HCA := Lib.hid (fun W (k : Kept (fun _ => False) wr W) => conv_str W 24 9 5 b m c _ Try.underlying24 Try.underlying5 Try.underlying9 (hb.kept k) hb0)
      have HCB := Lib.hid (fun W (k : Kept (fun _ => False) wr W) => conv_str W 24 9 5 b2 m cc2 _ Try.underlying24 Try.underlying5 Try.underlying9 (hb2.kept k) hb02)
      have hcv := HCA.out wr.drew (Kept.refl _ wr).drew
      have hcv2 := HCB.out wr.drew (Kept.refl _ wr).drew
      have hkk := hKw.drew
      clear hx hm hm2 hmc hmc2 hjx
      generalize hst : strOf m (fun i => val.getD i 0#8) = st at hcv hcv2
      clear hb hb2 hb0 hb02 hst HCA HCB
      go_upto_region 6 with fail
      refine region_perm (fun W => W.cell? ⟨g, o + j * 2, none⟩ = some (.string nm) ∧ W.cell? ⟨g, o + j * 2 + 1, none⟩ = some (.slice b m c) ∧ W.cell? ⟨g2, o2 + j * 2, none⟩ = some (.string nm) ∧ W.cell? ⟨g2, o2 + j * 2 + 1, none⟩ = some (.slice b2 m cc2) ∧ (convert 24 9 (.slice b m c)).run Try.prog W = .ok (.string st) W ∧ (convert 24 9 (.slice b2 m cc2)).run Try.prog W = .ok (.string st) W) [(0, true), (1, true), (2, true), (3, true), (4, true), (5, true), (6, true), (7, true), (8, true), (9, true), (10, true), (11, true), (12, true), (13, true), (14, true), (15, true), (16, true), (17, true), (18, true), (19, true), (20, true), (21, true), (22, true), (23, true), (24, true), (25, true)] (by kernel_rfl) (by kernel_rfl) (by intro c a d v w h; cases d <;> exact h) ⟨c0, c1, d0, d1, hcv, hcv2⟩ ?_
      repeat (first | (apply HeldSeq.take; (focus rfl); (focus rfl); (focus (intro W hS; obtain ⟨e0, e1, e2, e3, e4, e5⟩ := hS; go_simp; (try go_bits); rfl)); simp only [List.getElem_toArray]; (try simp only [List.getElem_cons_succ]); (try simp only [List.getElem_cons_zero]); simp only [Act.put, List.setIfInBounds_toArray]; (try simp only [List.set_cons_succ]); (try simp only [List.set_cons_zero])) | (apply HeldSeq.skip; (focus rfl); (focus rfl); simp only [List.getElem_toArray]; (try simp only [List.getElem_cons_succ]); (try simp only [List.getElem_cons_zero]); simp only [Act.put, List.setIfInBounds_toArray]; (try simp only [List.set_cons_succ]); (try simp only [List.set_cons_zero])))
      refine HeldSeq.done ?_
      go_wp2_with fail
      go_roundg (gk - 1)
      case measure => have := Hj.out; omega
      case rel => have := Hj.out; exact ⟨j + 1, by omega, by omega, by go_num, hkk⟩
    · obtain rfl : n = j := by omega
      have q1 : ¬ (n : Int) < n := by omega
      go_wp2_with fail
      go_ret
      exact ⟨rfl, hKw⟩
end Go.Proofs.Ytoeohbihelfphaa
