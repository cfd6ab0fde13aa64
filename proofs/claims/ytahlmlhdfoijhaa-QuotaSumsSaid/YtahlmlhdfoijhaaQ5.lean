/-
  The walk of Check.
-/
import Derived.Test.YtahlmlhdfoijhaaQA
namespace Go.Proofs.Ytahlmlhdfoijhaa
open Go.RowKit
set_option maxHeartbeats 4000000 in
theorem check_any (a : Option Addr) (la ca : Nat) (f : Nat → U) (w : World) (ha : ListAt w a la f) :
    Calls Try.prog 7 #[.slice a la ca] w fun r w' => ((Right la f ∧ r = .returned (.int .i64 0)) ∨ (¬ Right la f ∧ r = .returned (.int .i64 3))) ∧ Kept (fun _ => False) w w' := by
  by_cases h8 : la ≤ 8
  · have hla : la ≤ 140737488351232 := by omega
    have q8 : (la : Int) ≤ 8 := by omega
    go_enter Try.func7, Try.ntmps7
    go_wp2_with fail
    go_loopg [10] (la + 1) (fun k i wr => ∃ n : Nat, n + k = la + 1 ∧ n ≤ la ∧ i = .int .i64 (n : Int) ∧ (∀ i, i < n → fineAt f i = true) ∧ Kept (fun _ => False) w wr)
    case atStart => exact ⟨0, by omega, by omega, rfl, fun i hi => by omega, Kept.refl _ w⟩
    case round =>
      obtain ⟨n, hn, hnl, rfl, hf, hK⟩ := hrel
      have Hn := Lib.hid hn
      have Hf := Lib.hid hf
      clear hn hf
      by_cases hlt : n < la
      · have q : (n : Int) < la := by omega
        obtain ⟨ga, oa, rfl, hca⟩ := ha.resolve_left (by omega)
        obtain ⟨a0, a1, a2, a3, a4⟩ := (hca n hlt).kept hK
        go_upto_region 6 with fail
        generalize hw0 : World.alloc wr _ = w2
        have h4 : RowV w2 wr.heap.size 29 (f n).cs := by rw [← hw0]; exact RowV.new wr _ _
        have hK' : Kept (fun _ => False) w w2 := by rw [← hw0]; exact hK.alloc _
        clear hw0 hK a0 a1 a2 a3 a4
        by_cases h0 : n = 0
        · subst h0
          refine region_perm (fun W => RowV W wr.heap.size 29 (f 0).cs) [(0, true), (1, true), (2, false), (3, true), (4, true), (5, true), (6, true), (7, false), (8, true), (9, true), (10, true), (11, true), (12, true), (13, false), (14, true), (15, true), (16, true), (17, true), (18, true), (19, false), (20, true), (21, true), (22, true), (23, true), (24, true), (25, false), (26, true), (27, true), (28, true), (29, true), (30, false), (31, true), (32, true), (33, true), (34, true), (35, true), (36, true), (37, true), (38, true), (39, true), (40, true), (41, true), (42, true), (43, true), (44, true), (45, true), (46, true)] (by kernel_rfl) (by kernel_rfl) (by intro c a d v w h; cases d <;> exact h) h4 ?_
          have hSS : (fun W => RowV W wr.heap.size 29 (f 0).cs) w2.drew := h4
          repeat (first | (apply HeldSeq.take; (focus rfl); (focus rfl); (focus (intro W hS; have c0 := hS.u.c0; have c1 := hS.u.c1; have c2 := hS.u.c2; have c3 := hS.u.c3; have c4 := hS.u.c4; go_simp; (try go_bits); rfl)); simp only [List.getElem_toArray]; (try simp only [List.getElem_cons_succ]); (try simp only [List.getElem_cons_zero]); simp only [Act.put, List.setIfInBounds_toArray]; (try simp only [List.set_cons_succ]); (try simp only [List.set_cons_zero])) | (refine HeldSeq.skip rfl rfl ?_; simp only [List.getElem_toArray]; (try simp only [List.getElem_cons_succ]); (try simp only [List.getElem_cons_zero]); simp only [Act.put, List.setIfInBounds_toArray]; (try simp only [List.set_cons_succ]); (try simp only [List.set_cons_zero])) | (refine HeldSeq.pass rfl rfl (by assumption) ?_; simp only [List.getElem_toArray]; (try simp only [List.getElem_cons_succ]); (try simp only [List.getElem_cons_zero]); simp only [Act.put, List.setIfInBounds_toArray]; (try simp only [List.set_cons_succ]); (try simp only [List.set_cons_zero])))
          (refine HeldSeq.run rfl rfl (fun K hK => ?_); go_simp; refine (within_any _ _ _).mono ?_; rintro r w' ⟨rfl, rfl⟩; refine hK _ _ hSS ?_; clear hK K)
          cases b1 : inr (f 0).uid 0 with
          | false =>
            (try simp only [Act.put, List.setIfInBounds_toArray]); (try simp only [List.set_cons_succ]); (try simp only [List.set_cons_zero])
            repeat (first | (apply HeldSeq.take; (focus rfl); (focus rfl); (focus (intro W hS; have c0 := hS.u.c0; have c1 := hS.u.c1; have c2 := hS.u.c2; have c3 := hS.u.c3; have c4 := hS.u.c4; go_simp; (try go_bits); rfl)); simp only [List.getElem_toArray]; (try simp only [List.getElem_cons_succ]); (try simp only [List.getElem_cons_zero]); simp only [Act.put, List.setIfInBounds_toArray]; (try simp only [List.set_cons_succ]); (try simp only [List.set_cons_zero])) | (refine HeldSeq.skip rfl rfl ?_; simp only [List.getElem_toArray]; (try simp only [List.getElem_cons_succ]); (try simp only [List.getElem_cons_zero]); simp only [Act.put, List.setIfInBounds_toArray]; (try simp only [List.set_cons_succ]); (try simp only [List.set_cons_zero])) | (refine HeldSeq.pass rfl rfl (by assumption) ?_; simp only [List.getElem_toArray]; (try simp only [List.getElem_cons_succ]); (try simp only [List.getElem_cons_zero]); simp only [Act.put, List.setIfInBounds_toArray]; (try simp only [List.set_cons_succ]); (try simp only [List.set_cons_zero])))
            refine HeldSeq.done ?_
            go_wp2_with fail
            go_ret
            exact ⟨.inr ⟨fun h => by have := h.2 0 hlt; simp [fineAt, okU, b1] at this, rfl⟩, hK'.drew⟩
          | true =>
            (try simp only [Act.put, List.setIfInBounds_toArray]); (try simp only [List.set_cons_succ]); (try simp only [List.set_cons_zero])
            repeat (first | (apply HeldSeq.take; (focus rfl); (focus rfl); (focus (intro W hS; have c0 := hS.u.c0; have c1 := hS.u.c1; have c2 := hS.u.c2; have c3 := hS.u.c3; have c4 := hS.u.c4; go_simp; (try go_bits); rfl)); simp only [List.getElem_toArray]; (try simp only [List.getElem_cons_succ]); (try simp only [List.getElem_cons_zero]); simp only [Act.put, List.setIfInBounds_toArray]; (try simp only [List.set_cons_succ]); (try simp only [List.set_cons_zero])) | (refine HeldSeq.skip rfl rfl ?_; simp only [List.getElem_toArray]; (try simp only [List.getElem_cons_succ]); (try simp only [List.getElem_cons_zero]); simp only [Act.put, List.setIfInBounds_toArray]; (try simp only [List.set_cons_succ]); (try simp only [List.set_cons_zero])) | (refine HeldSeq.pass rfl rfl (by assumption) ?_; simp only [List.getElem_toArray]; (try simp only [List.getElem_cons_succ]); (try simp only [List.getElem_cons_zero]); simp only [Act.put, List.setIfInBounds_toArray]; (try simp only [List.set_cons_succ]); (try simp only [List.set_cons_zero])))
            (refine HeldSeq.run rfl rfl (fun K hK => ?_); go_simp; refine (within_any _ _ _).mono ?_; rintro r w' ⟨rfl, rfl⟩; refine hK _ _ hSS ?_; clear hK K)
            cases b2 : inr (f 0).bl 0 with
            | false =>
              (try simp only [Act.put, List.setIfInBounds_toArray]); (try simp only [List.set_cons_succ]); (try simp only [List.set_cons_zero])
              repeat (first | (apply HeldSeq.take; (focus rfl); (focus rfl); (focus (intro W hS; have c0 := hS.u.c0; have c1 := hS.u.c1; have c2 := hS.u.c2; have c3 := hS.u.c3; have c4 := hS.u.c4; go_simp; (try go_bits); rfl)); simp only [List.getElem_toArray]; (try simp only [List.getElem_cons_succ]); (try simp only [List.getElem_cons_zero]); simp only [Act.put, List.setIfInBounds_toArray]; (try simp only [List.set_cons_succ]); (try simp only [List.set_cons_zero])) | (refine HeldSeq.skip rfl rfl ?_; simp only [List.getElem_toArray]; (try simp only [List.getElem_cons_succ]); (try simp only [List.getElem_cons_zero]); simp only [Act.put, List.setIfInBounds_toArray]; (try simp only [List.set_cons_succ]); (try simp only [List.set_cons_zero])) | (refine HeldSeq.pass rfl rfl (by assumption) ?_; simp only [List.getElem_toArray]; (try simp only [List.getElem_cons_succ]); (try simp only [List.getElem_cons_zero]); simp only [Act.put, List.setIfInBounds_toArray]; (try simp only [List.set_cons_succ]); (try simp only [List.set_cons_zero])))
              refine HeldSeq.done ?_
              go_wp2_with fail
              go_ret
              exact ⟨.inr ⟨fun h => by have := h.2 0 hlt; simp [fineAt, okU, b2] at this, rfl⟩, hK'.drew⟩
            | true =>
              (try simp only [Act.put, List.setIfInBounds_toArray]); (try simp only [List.set_cons_succ]); (try simp only [List.set_cons_zero])
              repeat (first | (apply HeldSeq.take; (focus rfl); (focus rfl); (focus (intro W hS; have c0 := hS.u.c0; have c1 := hS.u.c1; have c2 := hS.u.c2; have c3 := hS.u.c3; have c4 := hS.u.c4; go_simp; (try go_bits); rfl)); simp only [List.getElem_toArray]; (try simp only [List.getElem_cons_succ]); (try simp only [List.getElem_cons_zero]); simp only [Act.put, List.setIfInBounds_toArray]; (try simp only [List.set_cons_succ]); (try simp only [List.set_cons_zero])) | (refine HeldSeq.skip rfl rfl ?_; simp only [List.getElem_toArray]; (try simp only [List.getElem_cons_succ]); (try simp only [List.getElem_cons_zero]); simp only [Act.put, List.setIfInBounds_toArray]; (try simp only [List.set_cons_succ]); (try simp only [List.set_cons_zero])) | (refine HeldSeq.pass rfl rfl (by assumption) ?_; simp only [List.getElem_toArray]; (try simp only [List.getElem_cons_succ]); (try simp only [List.getElem_cons_zero]); simp only [Act.put, List.setIfInBounds_toArray]; (try simp only [List.set_cons_succ]); (try simp only [List.set_cons_zero])))
              (refine HeldSeq.run rfl rfl (fun K hK => ?_); go_simp; refine (within_any _ _ _).mono ?_; rintro r w' ⟨rfl, rfl⟩; refine hK _ _ hSS ?_; clear hK K)
              cases b3 : inr (f 0).ino 0 with
              | false =>
                (try simp only [Act.put, List.setIfInBounds_toArray]); (try simp only [List.set_cons_succ]); (try simp only [List.set_cons_zero])
                repeat (first | (apply HeldSeq.take; (focus rfl); (focus rfl); (focus (intro W hS; have c0 := hS.u.c0; have c1 := hS.u.c1; have c2 := hS.u.c2; have c3 := hS.u.c3; have c4 := hS.u.c4; go_simp; (try go_bits); rfl)); simp only [List.getElem_toArray]; (try simp only [List.getElem_cons_succ]); (try simp only [List.getElem_cons_zero]); simp only [Act.put, List.setIfInBounds_toArray]; (try simp only [List.set_cons_succ]); (try simp only [List.set_cons_zero])) | (refine HeldSeq.skip rfl rfl ?_; simp only [List.getElem_toArray]; (try simp only [List.getElem_cons_succ]); (try simp only [List.getElem_cons_zero]); simp only [Act.put, List.setIfInBounds_toArray]; (try simp only [List.set_cons_succ]); (try simp only [List.set_cons_zero])) | (refine HeldSeq.pass rfl rfl (by assumption) ?_; simp only [List.getElem_toArray]; (try simp only [List.getElem_cons_succ]); (try simp only [List.getElem_cons_zero]); simp only [Act.put, List.setIfInBounds_toArray]; (try simp only [List.set_cons_succ]); (try simp only [List.set_cons_zero])))
                refine HeldSeq.done ?_
                go_wp2_with fail
                go_ret
                exact ⟨.inr ⟨fun h => by have := h.2 0 hlt; simp [fineAt, okU, b3] at this, rfl⟩, hK'.drew⟩
              | true =>
                (try simp only [Act.put, List.setIfInBounds_toArray]); (try simp only [List.set_cons_succ]); (try simp only [List.set_cons_zero])
                repeat (first | (apply HeldSeq.take; (focus rfl); (focus rfl); (focus (intro W hS; have c0 := hS.u.c0; have c1 := hS.u.c1; have c2 := hS.u.c2; have c3 := hS.u.c3; have c4 := hS.u.c4; go_simp; (try go_bits); rfl)); simp only [List.getElem_toArray]; (try simp only [List.getElem_cons_succ]); (try simp only [List.getElem_cons_zero]); simp only [Act.put, List.setIfInBounds_toArray]; (try simp only [List.set_cons_succ]); (try simp only [List.set_cons_zero])) | (refine HeldSeq.skip rfl rfl ?_; simp only [List.getElem_toArray]; (try simp only [List.getElem_cons_succ]); (try simp only [List.getElem_cons_zero]); simp only [Act.put, List.setIfInBounds_toArray]; (try simp only [List.set_cons_succ]); (try simp only [List.set_cons_zero])) | (refine HeldSeq.pass rfl rfl (by assumption) ?_; simp only [List.getElem_toArray]; (try simp only [List.getElem_cons_succ]); (try simp only [List.getElem_cons_zero]); simp only [Act.put, List.setIfInBounds_toArray]; (try simp only [List.set_cons_succ]); (try simp only [List.set_cons_zero])))
                (refine HeldSeq.run rfl rfl (fun K hK => ?_); go_simp; refine (within_any _ _ _).mono ?_; rintro r w' ⟨rfl, rfl⟩; refine hK _ _ hSS ?_; clear hK K)
                cases b4 : inr (f 0).mb (-1) with
                | false =>
                  (try simp only [Act.put, List.setIfInBounds_toArray]); (try simp only [List.set_cons_succ]); (try simp only [List.set_cons_zero])
                  repeat (first | (apply HeldSeq.take; (focus rfl); (focus rfl); (focus (intro W hS; have c0 := hS.u.c0; have c1 := hS.u.c1; have c2 := hS.u.c2; have c3 := hS.u.c3; have c4 := hS.u.c4; go_simp; (try go_bits); rfl)); simp only [List.getElem_toArray]; (try simp only [List.getElem_cons_succ]); (try simp only [List.getElem_cons_zero]); simp only [Act.put, List.setIfInBounds_toArray]; (try simp only [List.set_cons_succ]); (try simp only [List.set_cons_zero])) | (refine HeldSeq.skip rfl rfl ?_; simp only [List.getElem_toArray]; (try simp only [List.getElem_cons_succ]); (try simp only [List.getElem_cons_zero]); simp only [Act.put, List.setIfInBounds_toArray]; (try simp only [List.set_cons_succ]); (try simp only [List.set_cons_zero])) | (refine HeldSeq.pass rfl rfl (by assumption) ?_; simp only [List.getElem_toArray]; (try simp only [List.getElem_cons_succ]); (try simp only [List.getElem_cons_zero]); simp only [Act.put, List.setIfInBounds_toArray]; (try simp only [List.set_cons_succ]); (try simp only [List.set_cons_zero])))
                  refine HeldSeq.done ?_
                  go_wp2_with fail
                  go_ret
                  exact ⟨.inr ⟨fun h => by have := h.2 0 hlt; simp [fineAt, okU, b4] at this, rfl⟩, hK'.drew⟩
                | true =>
                  (try simp only [Act.put, List.setIfInBounds_toArray]); (try simp only [List.set_cons_succ]); (try simp only [List.set_cons_zero])
                  repeat (first | (apply HeldSeq.take; (focus rfl); (focus rfl); (focus (intro W hS; have c0 := hS.u.c0; have c1 := hS.u.c1; have c2 := hS.u.c2; have c3 := hS.u.c3; have c4 := hS.u.c4; go_simp; (try go_bits); rfl)); simp only [List.getElem_toArray]; (try simp only [List.getElem_cons_succ]); (try simp only [List.getElem_cons_zero]); simp only [Act.put, List.setIfInBounds_toArray]; (try simp only [List.set_cons_succ]); (try simp only [List.set_cons_zero])) | (refine HeldSeq.skip rfl rfl ?_; simp only [List.getElem_toArray]; (try simp only [List.getElem_cons_succ]); (try simp only [List.getElem_cons_zero]); simp only [Act.put, List.setIfInBounds_toArray]; (try simp only [List.set_cons_succ]); (try simp only [List.set_cons_zero])) | (refine HeldSeq.pass rfl rfl (by assumption) ?_; simp only [List.getElem_toArray]; (try simp only [List.getElem_cons_succ]); (try simp only [List.getElem_cons_zero]); simp only [Act.put, List.setIfInBounds_toArray]; (try simp only [List.set_cons_succ]); (try simp only [List.set_cons_zero])))
                  (refine HeldSeq.run rfl rfl (fun K hK => ?_); go_simp; refine (within_any _ _ _).mono ?_; rintro r w' ⟨rfl, rfl⟩; refine hK _ _ hSS ?_; clear hK K)
                  cases b5 : inr (f 0).mi (-1) with
                  | false =>
                    (try simp only [Act.put, List.setIfInBounds_toArray]); (try simp only [List.set_cons_succ]); (try simp only [List.set_cons_zero])
                    repeat (first | (apply HeldSeq.take; (focus rfl); (focus rfl); (focus (intro W hS; have c0 := hS.u.c0; have c1 := hS.u.c1; have c2 := hS.u.c2; have c3 := hS.u.c3; have c4 := hS.u.c4; go_simp; (try go_bits); rfl)); simp only [List.getElem_toArray]; (try simp only [List.getElem_cons_succ]); (try simp only [List.getElem_cons_zero]); simp only [Act.put, List.setIfInBounds_toArray]; (try simp only [List.set_cons_succ]); (try simp only [List.set_cons_zero])) | (refine HeldSeq.skip rfl rfl ?_; simp only [List.getElem_toArray]; (try simp only [List.getElem_cons_succ]); (try simp only [List.getElem_cons_zero]); simp only [Act.put, List.setIfInBounds_toArray]; (try simp only [List.set_cons_succ]); (try simp only [List.set_cons_zero])) | (refine HeldSeq.pass rfl rfl (by assumption) ?_; simp only [List.getElem_toArray]; (try simp only [List.getElem_cons_succ]); (try simp only [List.getElem_cons_zero]); simp only [Act.put, List.setIfInBounds_toArray]; (try simp only [List.set_cons_succ]); (try simp only [List.set_cons_zero])))
                    refine HeldSeq.done ?_
                    go_wp2_with fail
                    go_ret
                    exact ⟨.inr ⟨fun h => by have := h.2 0 hlt; simp [fineAt, okU, b5] at this, rfl⟩, hK'.drew⟩
                  | true =>
                    (try simp only [Act.put, List.setIfInBounds_toArray]); (try simp only [List.set_cons_succ]); (try simp only [List.set_cons_zero])
                    repeat (first | (apply HeldSeq.take; (focus rfl); (focus rfl); (focus (intro W hS; have c0 := hS.u.c0; have c1 := hS.u.c1; have c2 := hS.u.c2; have c3 := hS.u.c3; have c4 := hS.u.c4; go_simp; (try go_bits); rfl)); simp only [List.getElem_toArray]; (try simp only [List.getElem_cons_succ]); (try simp only [List.getElem_cons_zero]); simp only [Act.put, List.setIfInBounds_toArray]; (try simp only [List.set_cons_succ]); (try simp only [List.set_cons_zero])) | (refine HeldSeq.skip rfl rfl ?_; simp only [List.getElem_toArray]; (try simp only [List.getElem_cons_succ]); (try simp only [List.getElem_cons_zero]); simp only [Act.put, List.setIfInBounds_toArray]; (try simp only [List.set_cons_succ]); (try simp only [List.set_cons_zero])) | (refine HeldSeq.pass rfl rfl (by assumption) ?_; simp only [List.getElem_toArray]; (try simp only [List.getElem_cons_succ]); (try simp only [List.getElem_cons_zero]); simp only [Act.put, List.setIfInBounds_toArray]; (try simp only [List.set_cons_succ]); (try simp only [List.set_cons_zero])))
                    refine HeldSeq.run rfl rfl (fun K hK => ?_)
                    go_simp
                    refine (idle_any (f 0) _).mono ?_
                    rintro r w3 ⟨rfl, h3⟩
                    have hSS3 : (fun W => RowV W wr.heap.size 29 (f 0).cs) w3 := h3.at hSS (fun h => h)
                    refine hK _ _ hSS3 ?_
                    clear hK K
                    have hK3 : Kept (fun _ => False) w w3 := hK'.drew.trans h3 (fun _ _ h => h)
                    cases b6 : idleB (f 0) with
                    | true =>
                      (try simp only [Act.put, List.setIfInBounds_toArray]); (try simp only [List.set_cons_succ]); (try simp only [List.set_cons_zero])
                      repeat (first | (apply HeldSeq.take; (focus rfl); (focus rfl); (focus (intro W hS; have c0 := hS.u.c0; have c1 := hS.u.c1; have c2 := hS.u.c2; have c3 := hS.u.c3; have c4 := hS.u.c4; go_simp; (try go_bits); rfl)); simp only [List.getElem_toArray]; (try simp only [List.getElem_cons_succ]); (try simp only [List.getElem_cons_zero]); simp only [Act.put, List.setIfInBounds_toArray]; (try simp only [List.set_cons_succ]); (try simp only [List.set_cons_zero])) | (refine HeldSeq.skip rfl rfl ?_; simp only [List.getElem_toArray]; (try simp only [List.getElem_cons_succ]); (try simp only [List.getElem_cons_zero]); simp only [Act.put, List.setIfInBounds_toArray]; (try simp only [List.set_cons_succ]); (try simp only [List.set_cons_zero])) | (refine HeldSeq.pass rfl rfl (by assumption) ?_; simp only [List.getElem_toArray]; (try simp only [List.getElem_cons_succ]); (try simp only [List.getElem_cons_zero]); simp only [Act.put, List.setIfInBounds_toArray]; (try simp only [List.set_cons_succ]); (try simp only [List.set_cons_zero])))
                      refine HeldSeq.done ?_
                      go_wp2_with fail
                      go_ret
                      exact ⟨.inr ⟨fun h => by have := h.2 0 hlt; simp [fineAt, b6] at this, rfl⟩, hK3⟩
                    | false =>
                      (try simp only [Act.put, List.setIfInBounds_toArray]); (try simp only [List.set_cons_succ]); (try simp only [List.set_cons_zero])
                      repeat (first | (apply HeldSeq.take; (focus rfl); (focus rfl); (focus (intro W hS; have c0 := hS.u.c0; have c1 := hS.u.c1; have c2 := hS.u.c2; have c3 := hS.u.c3; have c4 := hS.u.c4; go_simp; (try go_bits); rfl)); simp only [List.getElem_toArray]; (try simp only [List.getElem_cons_succ]); (try simp only [List.getElem_cons_zero]); simp only [Act.put, List.setIfInBounds_toArray]; (try simp only [List.set_cons_succ]); (try simp only [List.set_cons_zero])) | (refine HeldSeq.skip rfl rfl ?_; simp only [List.getElem_toArray]; (try simp only [List.getElem_cons_succ]); (try simp only [List.getElem_cons_zero]); simp only [Act.put, List.setIfInBounds_toArray]; (try simp only [List.set_cons_succ]); (try simp only [List.set_cons_zero])) | (refine HeldSeq.pass rfl rfl (by assumption) ?_; simp only [List.getElem_toArray]; (try simp only [List.getElem_cons_succ]); (try simp only [List.getElem_cons_zero]); simp only [Act.put, List.setIfInBounds_toArray]; (try simp only [List.set_cons_succ]); (try simp only [List.set_cons_zero])))
                      refine HeldSeq.done ?_
                      go_wp2_with fail
                      go_roundg (gk - 1)
                      case measure => have := Hn.out; omega
                      case rel =>
                        have := Hn.out
                        refine ⟨0 + 1, by omega, by omega, by go_num, fun i hi => ?_, hK3⟩
                        obtain rfl : i = 0 := by omega
                        simp [fineAt, okU, b1, b2, b3, b4, b5, b6]
        · have e0 := ((hca (n - 1) (by omega)).kept hK'.drew).c0
          have q0 : (0 : Int) < n := by omega
          have d0 : decide ((0 : Int) < n) = true := decide_eq_true q0
          have q0n : 0 < n := by omega
          have q1 : (1 : Int) ≤ n := by omega
          have q1n : 1 ≤ n := by omega
          have q2 : (n : Int) - 1 < la := by omega
          have d0n : decide (0 < n) = true := decide_eq_true q0n
          refine region_perm (fun W => RowV W wr.heap.size 29 (f n).cs ∧ W.cell? ⟨ga, oa + (n - 1) * 5, none⟩ = some (.int .i64 (f (n - 1)).uid)) [(0, true), (1, true), (2, false), (3, true), (4, true), (5, true), (6, true), (7, false), (8, true), (9, true), (10, true), (11, true), (12, true), (13, false), (14, true), (15, true), (16, true), (17, true), (18, true), (19, false), (20, true), (21, true), (22, true), (23, true), (24, true), (25, false), (26, true), (27, true), (28, true), (29, true), (30, false), (31, true), (32, true), (33, true), (34, true), (35, true), (36, true), (37, true), (38, true), (39, true), (40, true), (41, true), (42, true), (43, true), (44, true), (45, true), (46, true)] (by kernel_rfl) (by kernel_rfl) (by intro c a d v w h; cases d <;> exact h) ⟨h4, e0⟩ ?_
          have hSS : (fun W => RowV W wr.heap.size 29 (f n).cs ∧ W.cell? ⟨ga, oa + (n - 1) * 5, none⟩ = some (.int .i64 (f (n - 1)).uid)) w2.drew := ⟨h4, e0⟩
          repeat (first | (apply HeldSeq.take; (focus rfl); (focus rfl); (focus (intro W hS; have c0 := hS.1.u.c0; have c1 := hS.1.u.c1; have c2 := hS.1.u.c2; have c3 := hS.1.u.c3; have c4 := hS.1.u.c4; have e := hS.2; go_simp; (try go_bits); rfl)); simp only [List.getElem_toArray]; (try simp only [List.getElem_cons_succ]); (try simp only [List.getElem_cons_zero]); simp only [Act.put, List.setIfInBounds_toArray]; (try simp only [List.set_cons_succ]); (try simp only [List.set_cons_zero])) | (refine HeldSeq.skip rfl rfl ?_; simp only [List.getElem_toArray]; (try simp only [List.getElem_cons_succ]); (try simp only [List.getElem_cons_zero]); simp only [Act.put, List.setIfInBounds_toArray]; (try simp only [List.set_cons_succ]); (try simp only [List.set_cons_zero])) | (refine HeldSeq.pass rfl rfl (by assumption) ?_; simp only [List.getElem_toArray]; (try simp only [List.getElem_cons_succ]); (try simp only [List.getElem_cons_zero]); simp only [Act.put, List.setIfInBounds_toArray]; (try simp only [List.set_cons_succ]); (try simp only [List.set_cons_zero])))
          (refine HeldSeq.run rfl rfl (fun K hK => ?_); go_simp; refine (within_any _ _ _).mono ?_; rintro r w' ⟨rfl, rfl⟩; refine hK _ _ hSS ?_; clear hK K)
          cases b1 : inr (f n).uid 0 with
          | false =>
            (try simp only [Act.put, List.setIfInBounds_toArray]); (try simp only [List.set_cons_succ]); (try simp only [List.set_cons_zero])
            repeat (first | (apply HeldSeq.take; (focus rfl); (focus rfl); (focus (intro W hS; have c0 := hS.1.u.c0; have c1 := hS.1.u.c1; have c2 := hS.1.u.c2; have c3 := hS.1.u.c3; have c4 := hS.1.u.c4; have e := hS.2; go_simp; (try go_bits); rfl)); simp only [List.getElem_toArray]; (try simp only [List.getElem_cons_succ]); (try simp only [List.getElem_cons_zero]); simp only [Act.put, List.setIfInBounds_toArray]; (try simp only [List.set_cons_succ]); (try simp only [List.set_cons_zero])) | (refine HeldSeq.skip rfl rfl ?_; simp only [List.getElem_toArray]; (try simp only [List.getElem_cons_succ]); (try simp only [List.getElem_cons_zero]); simp only [Act.put, List.setIfInBounds_toArray]; (try simp only [List.set_cons_succ]); (try simp only [List.set_cons_zero])) | (refine HeldSeq.pass rfl rfl (by assumption) ?_; simp only [List.getElem_toArray]; (try simp only [List.getElem_cons_succ]); (try simp only [List.getElem_cons_zero]); simp only [Act.put, List.setIfInBounds_toArray]; (try simp only [List.set_cons_succ]); (try simp only [List.set_cons_zero])))
            refine HeldSeq.done ?_
            go_wp2_with fail
            go_ret
            exact ⟨.inr ⟨fun h => by have := h.2 n hlt; simp [fineAt, okU, b1] at this, rfl⟩, hK'.drew⟩
          | true =>
            (try simp only [Act.put, List.setIfInBounds_toArray]); (try simp only [List.set_cons_succ]); (try simp only [List.set_cons_zero])
            repeat (first | (apply HeldSeq.take; (focus rfl); (focus rfl); (focus (intro W hS; have c0 := hS.1.u.c0; have c1 := hS.1.u.c1; have c2 := hS.1.u.c2; have c3 := hS.1.u.c3; have c4 := hS.1.u.c4; have e := hS.2; go_simp; (try go_bits); rfl)); simp only [List.getElem_toArray]; (try simp only [List.getElem_cons_succ]); (try simp only [List.getElem_cons_zero]); simp only [Act.put, List.setIfInBounds_toArray]; (try simp only [List.set_cons_succ]); (try simp only [List.set_cons_zero])) | (refine HeldSeq.skip rfl rfl ?_; simp only [List.getElem_toArray]; (try simp only [List.getElem_cons_succ]); (try simp only [List.getElem_cons_zero]); simp only [Act.put, List.setIfInBounds_toArray]; (try simp only [List.set_cons_succ]); (try simp only [List.set_cons_zero])) | (refine HeldSeq.pass rfl rfl (by assumption) ?_; simp only [List.getElem_toArray]; (try simp only [List.getElem_cons_succ]); (try simp only [List.getElem_cons_zero]); simp only [Act.put, List.setIfInBounds_toArray]; (try simp only [List.set_cons_succ]); (try simp only [List.set_cons_zero])))
            (refine HeldSeq.run rfl rfl (fun K hK => ?_); go_simp; refine (within_any _ _ _).mono ?_; rintro r w' ⟨rfl, rfl⟩; refine hK _ _ hSS ?_; clear hK K)
            cases b2 : inr (f n).bl 0 with
            | false =>
              (try simp only [Act.put, List.setIfInBounds_toArray]); (try simp only [List.set_cons_succ]); (try simp only [List.set_cons_zero])
              repeat (first | (apply HeldSeq.take; (focus rfl); (focus rfl); (focus (intro W hS; have c0 := hS.1.u.c0; have c1 := hS.1.u.c1; have c2 := hS.1.u.c2; have c3 := hS.1.u.c3; have c4 := hS.1.u.c4; have e := hS.2; go_simp; (try go_bits); rfl)); simp only [List.getElem_toArray]; (try simp only [List.getElem_cons_succ]); (try simp only [List.getElem_cons_zero]); simp only [Act.put, List.setIfInBounds_toArray]; (try simp only [List.set_cons_succ]); (try simp only [List.set_cons_zero])) | (refine HeldSeq.skip rfl rfl ?_; simp only [List.getElem_toArray]; (try simp only [List.getElem_cons_succ]); (try simp only [List.getElem_cons_zero]); simp only [Act.put, List.setIfInBounds_toArray]; (try simp only [List.set_cons_succ]); (try simp only [List.set_cons_zero])) | (refine HeldSeq.pass rfl rfl (by assumption) ?_; simp only [List.getElem_toArray]; (try simp only [List.getElem_cons_succ]); (try simp only [List.getElem_cons_zero]); simp only [Act.put, List.setIfInBounds_toArray]; (try simp only [List.set_cons_succ]); (try simp only [List.set_cons_zero])))
              refine HeldSeq.done ?_
              go_wp2_with fail
              go_ret
              exact ⟨.inr ⟨fun h => by have := h.2 n hlt; simp [fineAt, okU, b2] at this, rfl⟩, hK'.drew⟩
            | true =>
              (try simp only [Act.put, List.setIfInBounds_toArray]); (try simp only [List.set_cons_succ]); (try simp only [List.set_cons_zero])
              repeat (first | (apply HeldSeq.take; (focus rfl); (focus rfl); (focus (intro W hS; have c0 := hS.1.u.c0; have c1 := hS.1.u.c1; have c2 := hS.1.u.c2; have c3 := hS.1.u.c3; have c4 := hS.1.u.c4; have e := hS.2; go_simp; (try go_bits); rfl)); simp only [List.getElem_toArray]; (try simp only [List.getElem_cons_succ]); (try simp only [List.getElem_cons_zero]); simp only [Act.put, List.setIfInBounds_toArray]; (try simp only [List.set_cons_succ]); (try simp only [List.set_cons_zero])) | (refine HeldSeq.skip rfl rfl ?_; simp only [List.getElem_toArray]; (try simp only [List.getElem_cons_succ]); (try simp only [List.getElem_cons_zero]); simp only [Act.put, List.setIfInBounds_toArray]; (try simp only [List.set_cons_succ]); (try simp only [List.set_cons_zero])) | (refine HeldSeq.pass rfl rfl (by assumption) ?_; simp only [List.getElem_toArray]; (try simp only [List.getElem_cons_succ]); (try simp only [List.getElem_cons_zero]); simp only [Act.put, List.setIfInBounds_toArray]; (try simp only [List.set_cons_succ]); (try simp only [List.set_cons_zero])))
              (refine HeldSeq.run rfl rfl (fun K hK => ?_); go_simp; refine (within_any _ _ _).mono ?_; rintro r w' ⟨rfl, rfl⟩; refine hK _ _ hSS ?_; clear hK K)
              cases b3 : inr (f n).ino 0 with
              | false =>
                (try simp only [Act.put, List.setIfInBounds_toArray]); (try simp only [List.set_cons_succ]); (try simp only [List.set_cons_zero])
                repeat (first | (apply HeldSeq.take; (focus rfl); (focus rfl); (focus (intro W hS; have c0 := hS.1.u.c0; have c1 := hS.1.u.c1; have c2 := hS.1.u.c2; have c3 := hS.1.u.c3; have c4 := hS.1.u.c4; have e := hS.2; go_simp; (try go_bits); rfl)); simp only [List.getElem_toArray]; (try simp only [List.getElem_cons_succ]); (try simp only [List.getElem_cons_zero]); simp only [Act.put, List.setIfInBounds_toArray]; (try simp only [List.set_cons_succ]); (try simp only [List.set_cons_zero])) | (refine HeldSeq.skip rfl rfl ?_; simp only [List.getElem_toArray]; (try simp only [List.getElem_cons_succ]); (try simp only [List.getElem_cons_zero]); simp only [Act.put, List.setIfInBounds_toArray]; (try simp only [List.set_cons_succ]); (try simp only [List.set_cons_zero])) | (refine HeldSeq.pass rfl rfl (by assumption) ?_; simp only [List.getElem_toArray]; (try simp only [List.getElem_cons_succ]); (try simp only [List.getElem_cons_zero]); simp only [Act.put, List.setIfInBounds_toArray]; (try simp only [List.set_cons_succ]); (try simp only [List.set_cons_zero])))
                refine HeldSeq.done ?_
                go_wp2_with fail
                go_ret
                exact ⟨.inr ⟨fun h => by have := h.2 n hlt; simp [fineAt, okU, b3] at this, rfl⟩, hK'.drew⟩
              | true =>
                (try simp only [Act.put, List.setIfInBounds_toArray]); (try simp only [List.set_cons_succ]); (try simp only [List.set_cons_zero])
                repeat (first | (apply HeldSeq.take; (focus rfl); (focus rfl); (focus (intro W hS; have c0 := hS.1.u.c0; have c1 := hS.1.u.c1; have c2 := hS.1.u.c2; have c3 := hS.1.u.c3; have c4 := hS.1.u.c4; have e := hS.2; go_simp; (try go_bits); rfl)); simp only [List.getElem_toArray]; (try simp only [List.getElem_cons_succ]); (try simp only [List.getElem_cons_zero]); simp only [Act.put, List.setIfInBounds_toArray]; (try simp only [List.set_cons_succ]); (try simp only [List.set_cons_zero])) | (refine HeldSeq.skip rfl rfl ?_; simp only [List.getElem_toArray]; (try simp only [List.getElem_cons_succ]); (try simp only [List.getElem_cons_zero]); simp only [Act.put, List.setIfInBounds_toArray]; (try simp only [List.set_cons_succ]); (try simp only [List.set_cons_zero])) | (refine HeldSeq.pass rfl rfl (by assumption) ?_; simp only [List.getElem_toArray]; (try simp only [List.getElem_cons_succ]); (try simp only [List.getElem_cons_zero]); simp only [Act.put, List.setIfInBounds_toArray]; (try simp only [List.set_cons_succ]); (try simp only [List.set_cons_zero])))
                (refine HeldSeq.run rfl rfl (fun K hK => ?_); go_simp; refine (within_any _ _ _).mono ?_; rintro r w' ⟨rfl, rfl⟩; refine hK _ _ hSS ?_; clear hK K)
                cases b4 : inr (f n).mb (-1) with
                | false =>
                  (try simp only [Act.put, List.setIfInBounds_toArray]); (try simp only [List.set_cons_succ]); (try simp only [List.set_cons_zero])
                  repeat (first | (apply HeldSeq.take; (focus rfl); (focus rfl); (focus (intro W hS; have c0 := hS.1.u.c0; have c1 := hS.1.u.c1; have c2 := hS.1.u.c2; have c3 := hS.1.u.c3; have c4 := hS.1.u.c4; have e := hS.2; go_simp; (try go_bits); rfl)); simp only [List.getElem_toArray]; (try simp only [List.getElem_cons_succ]); (try simp only [List.getElem_cons_zero]); simp only [Act.put, List.setIfInBounds_toArray]; (try simp only [List.set_cons_succ]); (try simp only [List.set_cons_zero])) | (refine HeldSeq.skip rfl rfl ?_; simp only [List.getElem_toArray]; (try simp only [List.getElem_cons_succ]); (try simp only [List.getElem_cons_zero]); simp only [Act.put, List.setIfInBounds_toArray]; (try simp only [List.set_cons_succ]); (try simp only [List.set_cons_zero])) | (refine HeldSeq.pass rfl rfl (by assumption) ?_; simp only [List.getElem_toArray]; (try simp only [List.getElem_cons_succ]); (try simp only [List.getElem_cons_zero]); simp only [Act.put, List.setIfInBounds_toArray]; (try simp only [List.set_cons_succ]); (try simp only [List.set_cons_zero])))
                  refine HeldSeq.done ?_
                  go_wp2_with fail
                  go_ret
                  exact ⟨.inr ⟨fun h => by have := h.2 n hlt; simp [fineAt, okU, b4] at this, rfl⟩, hK'.drew⟩
                | true =>
                  (try simp only [Act.put, List.setIfInBounds_toArray]); (try simp only [List.set_cons_succ]); (try simp only [List.set_cons_zero])
                  repeat (first | (apply HeldSeq.take; (focus rfl); (focus rfl); (focus (intro W hS; have c0 := hS.1.u.c0; have c1 := hS.1.u.c1; have c2 := hS.1.u.c2; have c3 := hS.1.u.c3; have c4 := hS.1.u.c4; have e := hS.2; go_simp; (try go_bits); rfl)); simp only [List.getElem_toArray]; (try simp only [List.getElem_cons_succ]); (try simp only [List.getElem_cons_zero]); simp only [Act.put, List.setIfInBounds_toArray]; (try simp only [List.set_cons_succ]); (try simp only [List.set_cons_zero])) | (refine HeldSeq.skip rfl rfl ?_; simp only [List.getElem_toArray]; (try simp only [List.getElem_cons_succ]); (try simp only [List.getElem_cons_zero]); simp only [Act.put, List.setIfInBounds_toArray]; (try simp only [List.set_cons_succ]); (try simp only [List.set_cons_zero])) | (refine HeldSeq.pass rfl rfl (by assumption) ?_; simp only [List.getElem_toArray]; (try simp only [List.getElem_cons_succ]); (try simp only [List.getElem_cons_zero]); simp only [Act.put, List.setIfInBounds_toArray]; (try simp only [List.set_cons_succ]); (try simp only [List.set_cons_zero])))
                  (refine HeldSeq.run rfl rfl (fun K hK => ?_); go_simp; refine (within_any _ _ _).mono ?_; rintro r w' ⟨rfl, rfl⟩; refine hK _ _ hSS ?_; clear hK K)
                  cases b5 : inr (f n).mi (-1) with
                  | false =>
                    (try simp only [Act.put, List.setIfInBounds_toArray]); (try simp only [List.set_cons_succ]); (try simp only [List.set_cons_zero])
                    repeat (first | (apply HeldSeq.take; (focus rfl); (focus rfl); (focus (intro W hS; have c0 := hS.1.u.c0; have c1 := hS.1.u.c1; have c2 := hS.1.u.c2; have c3 := hS.1.u.c3; have c4 := hS.1.u.c4; have e := hS.2; go_simp; (try go_bits); rfl)); simp only [List.getElem_toArray]; (try simp only [List.getElem_cons_succ]); (try simp only [List.getElem_cons_zero]); simp only [Act.put, List.setIfInBounds_toArray]; (try simp only [List.set_cons_succ]); (try simp only [List.set_cons_zero])) | (refine HeldSeq.skip rfl rfl ?_; simp only [List.getElem_toArray]; (try simp only [List.getElem_cons_succ]); (try simp only [List.getElem_cons_zero]); simp only [Act.put, List.setIfInBounds_toArray]; (try simp only [List.set_cons_succ]); (try simp only [List.set_cons_zero])) | (refine HeldSeq.pass rfl rfl (by assumption) ?_; simp only [List.getElem_toArray]; (try simp only [List.getElem_cons_succ]); (try simp only [List.getElem_cons_zero]); simp only [Act.put, List.setIfInBounds_toArray]; (try simp only [List.set_cons_succ]); (try simp only [List.set_cons_zero])))
                    refine HeldSeq.done ?_
                    go_wp2_with fail
                    go_ret
                    exact ⟨.inr ⟨fun h => by have := h.2 n hlt; simp [fineAt, okU, b5] at this, rfl⟩, hK'.drew⟩
                  | true =>
                    (try simp only [Act.put, List.setIfInBounds_toArray]); (try simp only [List.set_cons_succ]); (try simp only [List.set_cons_zero])
                    repeat (first | (apply HeldSeq.take; (focus rfl); (focus rfl); (focus (intro W hS; have c0 := hS.1.u.c0; have c1 := hS.1.u.c1; have c2 := hS.1.u.c2; have c3 := hS.1.u.c3; have c4 := hS.1.u.c4; have e := hS.2; go_simp; (try go_bits); rfl)); simp only [List.getElem_toArray]; (try simp only [List.getElem_cons_succ]); (try simp only [List.getElem_cons_zero]); simp only [Act.put, List.setIfInBounds_toArray]; (try simp only [List.set_cons_succ]); (try simp only [List.set_cons_zero])) | (refine HeldSeq.skip rfl rfl ?_; simp only [List.getElem_toArray]; (try simp only [List.getElem_cons_succ]); (try simp only [List.getElem_cons_zero]); simp only [Act.put, List.setIfInBounds_toArray]; (try simp only [List.set_cons_succ]); (try simp only [List.set_cons_zero])) | (refine HeldSeq.pass rfl rfl (by assumption) ?_; simp only [List.getElem_toArray]; (try simp only [List.getElem_cons_succ]); (try simp only [List.getElem_cons_zero]); simp only [Act.put, List.setIfInBounds_toArray]; (try simp only [List.set_cons_succ]); (try simp only [List.set_cons_zero])))
                    refine HeldSeq.run rfl rfl (fun K hK => ?_)
                    go_simp
                    refine (idle_any (f n) _).mono ?_
                    rintro r w3 ⟨rfl, h3⟩
                    have hSS3 : (fun W => RowV W wr.heap.size 29 (f n).cs ∧ W.cell? ⟨ga, oa + (n - 1) * 5, none⟩ = some (.int .i64 (f (n - 1)).uid)) w3 := ⟨h3.at hSS.1 (fun h => h), h3.cell hSS.2⟩
                    refine hK _ _ hSS3 ?_
                    clear hK K
                    have hK3 : Kept (fun _ => False) w w3 := hK'.drew.trans h3 (fun _ _ h => h)
                    cases b6 : idleB (f n) with
                    | true =>
                      (try simp only [Act.put, List.setIfInBounds_toArray]); (try simp only [List.set_cons_succ]); (try simp only [List.set_cons_zero])
                      repeat (first | (apply HeldSeq.take; (focus rfl); (focus rfl); (focus (intro W hS; have c0 := hS.1.u.c0; have c1 := hS.1.u.c1; have c2 := hS.1.u.c2; have c3 := hS.1.u.c3; have c4 := hS.1.u.c4; have e := hS.2; go_simp; (try go_bits); rfl)); simp only [List.getElem_toArray]; (try simp only [List.getElem_cons_succ]); (try simp only [List.getElem_cons_zero]); simp only [Act.put, List.setIfInBounds_toArray]; (try simp only [List.set_cons_succ]); (try simp only [List.set_cons_zero])) | (refine HeldSeq.skip rfl rfl ?_; simp only [List.getElem_toArray]; (try simp only [List.getElem_cons_succ]); (try simp only [List.getElem_cons_zero]); simp only [Act.put, List.setIfInBounds_toArray]; (try simp only [List.set_cons_succ]); (try simp only [List.set_cons_zero])) | (refine HeldSeq.pass rfl rfl (by assumption) ?_; simp only [List.getElem_toArray]; (try simp only [List.getElem_cons_succ]); (try simp only [List.getElem_cons_zero]); simp only [Act.put, List.setIfInBounds_toArray]; (try simp only [List.set_cons_succ]); (try simp only [List.set_cons_zero])))
                      refine HeldSeq.done ?_
                      go_wp2_with fail
                      go_ret
                      exact ⟨.inr ⟨fun h => by have := h.2 n hlt; simp [fineAt, b6] at this, rfl⟩, hK3⟩
                    | false =>
                      (try simp only [Act.put, List.setIfInBounds_toArray]); (try simp only [List.set_cons_succ]); (try simp only [List.set_cons_zero])
                      by_cases hle : (f n).uid ≤ (f (n - 1)).uid
                      · have d1 : decide ((f n).uid ≤ (f (n - 1)).uid) = true := decide_eq_true hle
                        repeat (first | (apply HeldSeq.take; (focus rfl); (focus rfl); (focus (intro W hS; have c0 := hS.1.u.c0; have c1 := hS.1.u.c1; have c2 := hS.1.u.c2; have c3 := hS.1.u.c3; have c4 := hS.1.u.c4; have e := hS.2; go_simp; (try go_bits); rfl)); simp only [List.getElem_toArray]; (try simp only [List.getElem_cons_succ]); (try simp only [List.getElem_cons_zero]); simp only [Act.put, List.setIfInBounds_toArray]; (try simp only [List.set_cons_succ]); (try simp only [List.set_cons_zero])) | (refine HeldSeq.skip rfl rfl ?_; simp only [List.getElem_toArray]; (try simp only [List.getElem_cons_succ]); (try simp only [List.getElem_cons_zero]); simp only [Act.put, List.setIfInBounds_toArray]; (try simp only [List.set_cons_succ]); (try simp only [List.set_cons_zero])) | (refine HeldSeq.pass rfl rfl (by assumption) ?_; simp only [List.getElem_toArray]; (try simp only [List.getElem_cons_succ]); (try simp only [List.getElem_cons_zero]); simp only [Act.put, List.setIfInBounds_toArray]; (try simp only [List.set_cons_succ]); (try simp only [List.set_cons_zero])))
                        refine HeldSeq.done ?_
                        go_wp2_with fail
                        go_ret
                        exact ⟨.inr ⟨fun h => by have := h.2 n hlt; simp [fineAt, h0] at this; omega, rfl⟩, hK3⟩
                      · have d1 : decide ((f n).uid ≤ (f (n - 1)).uid) = false := decide_eq_false hle
                        repeat (first | (apply HeldSeq.take; (focus rfl); (focus rfl); (focus (intro W hS; have c0 := hS.1.u.c0; have c1 := hS.1.u.c1; have c2 := hS.1.u.c2; have c3 := hS.1.u.c3; have c4 := hS.1.u.c4; have e := hS.2; go_simp; (try go_bits); rfl)); simp only [List.getElem_toArray]; (try simp only [List.getElem_cons_succ]); (try simp only [List.getElem_cons_zero]); simp only [Act.put, List.setIfInBounds_toArray]; (try simp only [List.set_cons_succ]); (try simp only [List.set_cons_zero])) | (refine HeldSeq.skip rfl rfl ?_; simp only [List.getElem_toArray]; (try simp only [List.getElem_cons_succ]); (try simp only [List.getElem_cons_zero]); simp only [Act.put, List.setIfInBounds_toArray]; (try simp only [List.set_cons_succ]); (try simp only [List.set_cons_zero])) | (refine HeldSeq.pass rfl rfl (by assumption) ?_; simp only [List.getElem_toArray]; (try simp only [List.getElem_cons_succ]); (try simp only [List.getElem_cons_zero]); simp only [Act.put, List.setIfInBounds_toArray]; (try simp only [List.set_cons_succ]); (try simp only [List.set_cons_zero])))
                        refine HeldSeq.done ?_
                        go_wp2_with fail
                        go_roundg (gk - 1)
                        case measure => have := Hn.out; omega
                        case rel =>
                          have := Hn.out
                          refine ⟨n + 1, by omega, by omega, by go_num, fun i hi => ?_, hK3⟩
                          by_cases h : i = n
                          · subst h; simp [fineAt, okU, b1, b2, b3, b4, b5, b6]; omega
                          · exact Hf.out i (by omega)
      · have q : (la : Int) ≤ n := by omega
        go_wp2_with fail
        go_ret
        exact ⟨.inl ⟨⟨h8, fun i hi => Hf.out i (by omega)⟩, rfl⟩, hK⟩
  · have q8 : (8 : Int) < la := by omega
    go_enter Try.func7, Try.ntmps7
    go_wp2_with fail
    go_ret
    exact ⟨.inr ⟨fun h => h8 h.1, rfl⟩, Kept.refl _ w⟩
end Go.Proofs.Ytahlmlhdfoijhaa
