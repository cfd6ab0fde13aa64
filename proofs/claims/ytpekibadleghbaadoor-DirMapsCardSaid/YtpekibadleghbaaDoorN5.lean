/-
  The walks of sha.first and sha.New.
-/
import Derived.Test.YtpekibadleghbaaDoorN4
namespace Go.Proofs.YtpekibadleghbaaDoor
open Go.RowKit
set_option linter.unusedVariables false
set_option linter.unusedSimpArgs false
abbrev RowV' (w : World) (g : Nat) (t : TypeId) (cs : Array Value) : Prop := w.heap[g]? = some (.cells cs t (0, 0))
theorem Ws_h0 : Ws 8 h0 = #[.int .u32 1779033703, .int .u32 3144134277, .int .u32 1013904242, .int .u32 2773480762, .int .u32 1359893119, .int .u32 2600822924, .int .u32 528734635, .int .u32 1541459225] := by kernel_rfl
set_option maxRecDepth 100000 in
set_option maxHeartbeats 2000000 in
theorem first_any (w : World) : Calls Tryd.prog 61 #[] w fun r w' => r = .returned (.agg (Ws 8 h0)) ∧ Kept (fun _ => False) w w' := by
  rw [Ws_h0]
  go_enter Tryd.func61, Tryd.ntmps61
  go_wp2_with fail
  have hrow : RowV' (w.alloc (.cells #[.int .u32 1779033703, .int .u32 3144134277, .int .u32 1013904242, .int .u32 2773480762, .int .u32 1359893119, .int .u32 2600822924, .int .u32 528734635, .int .u32 1541459225] 94)) w.heap.size 94 _ := heap_alloc_new w _
  exact bodyPost_ret (results_cell_row rfl _ _ w.heap.size 94 _ (0, 0) _ rfl hrow Tryd.underlying94 rfl (by kernel_rfl)) rfl ⟨rfl, (Kept.refl _ w).alloc _⟩
/-- A digest's state at block g. -/
def HSt (w : World) (g : Nat) (v : Nat → Word) (r : Value) (n : Nat) : Prop := w.heap[g]? = some (.cells (Ws 8 v ++ #[r, .int .u64 (n : Int)]) 98 (0, 0))
set_option maxRecDepth 100000 in
set_option maxHeartbeats 2000000 in
theorem new_any (w : World) : Calls Tryd.prog 48 #[] w fun r w' => ∃ g, r = .returned (.pointer (some ⟨g, 0, none⟩)) ∧ w.heap.size ≤ g ∧ HSt w' g h0 (.slice none 0 0) 0 ∧ Kept (fun _ => False) w w' := by
  go_enter Tryd.func48, Tryd.ntmps48
  go_wp2_with (go_at_call 61; refine (first_any _).mono ?_; rw [Ws_h0]; rintro r w2 ⟨rfl, hk2⟩)
  go_ret
  refine ⟨w2.heap.size, rfl, hk2.size, ?_, hk2.alloc _⟩
  unfold HSt
  rw [Ws_h0]
  exact heap_alloc_new w2 _
end Go.Proofs.YtpekibadleghbaaDoor
