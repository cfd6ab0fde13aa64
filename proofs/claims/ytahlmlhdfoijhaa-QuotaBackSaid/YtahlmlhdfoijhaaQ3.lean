/-
  The walk of the reference's Get.
-/
import Derived.Test.YtahlmlhdfoijhaaQ2
namespace Go.Proofs.Ytahlmlhdfoijhaa
open Go.RowKit
set_option maxHeartbeats 1000000 in
theorem getR_any (a : Option Addr) (la ca : Nat) (f : Nat → U) (uid : Int) (w : World) (ha : ListAt w a la f) (hla : la ≤ 140737488351232) :
    Calls Try.prog 15 #[.slice a la ca, .int .i64 uid] w fun r w' => r = .returned (getU f la uid).v ∧ Kept (fun _ => False) w w' := by
  go_enter Try.func15, Try.ntmps15
  go_wp2_with fail
  generalize hw0 : World.alloc w _ = w1
  have h4 : RowV w1 w.heap.size 29 (U.cs ⟨0, 0, 0, 0, 0⟩) := by rw [← hw0]; exact RowV.new w _ _
  have hK : Kept (fun _ => False) w w1 := by rw [← hw0]; exact (Kept.refl _ w).alloc _
  clear hw0
  go_loopg [5] (la + 1) (fun k i wr => ∃ n : Nat, n + k = la + 1 ∧ n ≤ la ∧ i = .int .i64 (n : Int) ∧ getU f la uid = getFrom f uid n (la - n) ∧ RowV wr w.heap.size 29 (U.cs ⟨0, 0, 0, 0, 0⟩) ∧ Kept (fun _ => False) w wr)
  case atStart => exact ⟨0, by omega, by omega, rfl, rfl, h4, hK⟩
  case round =>
    clear h4 hK
    obtain ⟨n, hn, hnl, rfl, he, h4, hK⟩ := hrel
    have Hn := Lib.hid hn
    clear hn
    by_cases hlt : n < la
    · have q : (n : Int) < la := by omega
      have qa : (la : Int) ≤ 140737488351232 := by omega
      rw [show la - n = (la - (n + 1)) + 1 by omega] at he
      unfold getFrom at he
      have He := Lib.hid he
      clear he
      obtain ⟨ga, oa, rfl, hca⟩ := ha.resolve_left (by omega)
      obtain ⟨a0, a1, a2, a3, a4⟩ := (hca n hlt).kept hK
      by_cases hu : (f n).uid = uid
      · have hv := He.out
        rw [if_pos hu] at hv
        subst hu
        have Hv := Lib.hid hv
        clear hv He
        go_wp2_with (refine wpList_store_row rfl 29 (.tmp 4) (.tmp 22) rfl w.heap.size (f n).cs rfl rfl 29 _ h4 (info29 _) rfl (one_cs _) ?_)
        exact bodyPost_ret (v := (f n).v) (results_cell_row rfl _ _ w.heap.size 29 _ (0, 0) _ rfl (h4.row _) Try.underlying29 rfl (info29 _)) rfl ⟨by rw [Hv.out], hK.setRowNew (Nat.le_refl _) _⟩
      · have hv := He.out
        rw [if_neg hu] at hv
        have Hv := Lib.hid hv
        clear hv He
        go_wp2_with fail
        go_roundg (gk - 1)
        case measure => have := Hn.out; omega
        case rel =>
          have := Hn.out
          exact ⟨n + 1, by omega, by omega, by go_num, Hv.out, h4, hK⟩
    · have hv := he
      rw [show la - n = 0 by omega] at hv
      unfold getFrom at hv
      have Hv := Lib.hid hv
      clear hv he
      have q : (la : Int) ≤ n := by omega
      go_wp2_with (refine wpList_store_row rfl 29 (.tmp 4) (.tmp 24) rfl w.heap.size (U.cs ⟨uid, 0, 0, -1, -1⟩) rfl rfl 29 _ h4 (info29 _) rfl (one_cs _) ?_)
      exact bodyPost_ret (v := (U.v ⟨uid, 0, 0, -1, -1⟩)) (results_cell_row rfl _ _ w.heap.size 29 _ (0, 0) _ rfl (h4.row _) Try.underlying29 rfl (info29 ⟨uid, 0, 0, -1, -1⟩)) rfl ⟨by rw [Hv.out], hK.setRowNew (Nat.le_refl _) _⟩
end Go.Proofs.Ytahlmlhdfoijhaa
