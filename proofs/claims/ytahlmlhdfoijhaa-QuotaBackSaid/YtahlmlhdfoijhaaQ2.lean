/-
  The walks of Get, and of the reference's.
-/
import Derived.Test.YtahlmlhdfoijhaaQ1
namespace Go.Proofs.Ytahlmlhdfoijhaa
open Go.RowKit
def getFrom (f : Nat → U) (uid : Int) : Nat → Nat → U
  | _, 0 => ⟨uid, 0, 0, -1, -1⟩
  | i, k + 1 => if (f i).uid = uid then f i else getFrom f uid (i + 1) k
def getU (f : Nat → U) (len : Nat) (uid : Int) : U := getFrom f uid 0 len
abbrev U.cs (u : U) : Array Value := #[.int .i64 u.uid, .int .i64 u.bl, .int .i64 u.ino, .int .i64 u.mb, .int .i64 u.mi]
def RowV (w : World) (g : Nat) (t : TypeId) (cs : Array Value) : Prop := w.heap[g]? = some (.cells cs t (0, 0))
theorem RowV.new (w : World) (t : TypeId) (cs : Array Value) : RowV (w.alloc (.cells cs t)) w.heap.size t cs := heap_alloc_new w _
theorem RowV.lt {w : World} {g : Nat} {t : TypeId} {cs : Array Value} (h : RowV w g t cs) : g < w.heap.size := lt_of_at h
theorem RowV.row {w : World} {g : Nat} {t : TypeId} {cs : Array Value} (h : RowV w g t cs) (cs' : Array Value) : RowV (w.setRow g cs') g t cs' := setRow_heap w g _ _ t _ h
theorem RowV.rowOther {w : World} {g g' : Nat} {t : TypeId} {cs : Array Value} (h : RowV w g t cs) (hne : g ≠ g') (cs' : Array Value) : RowV (w.setRow g' cs') g t cs := by
  unfold RowV; rw [setRow_other w g' g cs' hne]; exact h
theorem RowV.alloc {w : World} {g : Nat} {t : TypeId} {cs : Array Value} (h : RowV w g t cs) (o : Obj) : RowV (w.alloc o) g t cs := by
  unfold RowV; rw [Below.heap_alloc w o g (lt_of_at h)]; exact h
theorem RowV.cell {w : World} {g : Nat} {t : TypeId} {cs : Array Value} (h : RowV w g t cs) (i : Nat) : w.cell? ⟨g, i, none⟩ = cs[i]? := cell_of_row w g i cs t _ h
theorem RowV.u {w : World} {g : Nat} {u : U} (h : RowV w g 29 u.cs) : UAt w g 0 u := ⟨h.cell 0, h.cell 1, h.cell 2, h.cell 3, h.cell 4⟩
theorem info29 (u : U) : (Try.prog.info? 29).map (·.size) = some u.cs.size := by
  show _ = some 5
  kernel_rfl
theorem one_cs (u : U) : u.cs.all (fun x => x.oneCell') = true := by simp; exact ⟨rfl, rfl, rfl, rfl, rfl⟩
set_option maxHeartbeats 1000000 in
theorem get_any (a : Option Addr) (la ca : Nat) (f : Nat → U) (uid : Int) (w : World) (ha : ListAt w a la f) (hla : la ≤ 140737488351232) :
    Calls Try.prog 9 #[.slice a la ca, .int .i64 uid] w fun r w' => r = .returned (getU f la uid).v ∧ Kept (fun _ => False) w w' := by
  go_enter Try.func9, Try.ntmps9
  go_wp2_with fail
  generalize hw0 : World.alloc w _ = w1
  have h4 : RowV w1 w.heap.size 29 (U.cs ⟨0, 0, 0, 0, 0⟩) := by rw [← hw0]; exact RowV.new w _ _
  have hK : Kept (fun _ => False) w w1 := by rw [← hw0]; exact (Kept.refl _ w).alloc _
  clear hw0
  go_loopg [9] (la + 1) (fun k i wr => ∃ n : Nat, n + k = la + 1 ∧ n ≤ la ∧ i = .int .i64 (n : Int) ∧ getU f la uid = getFrom f uid n (la - n) ∧ RowV wr w.heap.size 29 (U.cs ⟨0, 0, 0, 0, 0⟩) ∧ Kept (fun _ => False) w wr)
  case atStart => exact ⟨0, by omega, by omega, rfl, rfl, h4, hK⟩
  case round =>
    clear h4 hK
    obtain ⟨n, hn, hnl, rfl, he, h4, hK⟩ := hrel
    have Hn := Lib.hid hn
    clear hn
    by_cases hlt : n < la
    · have q : (n : Int) < la := by omega
      have qa : (la : Int) ≤ 140737488351232 := by omega
      rw [show la - n = (la - (n + 1)) + 1 by omega] at he
      unfold getFrom at he
      have He := Lib.hid he
      clear he
      obtain ⟨ga, oa, rfl, hca⟩ := ha.resolve_left (by omega)
      obtain ⟨a0, a1, a2, a3, a4⟩ := (hca n hlt).kept hK
      go_upto_region 4 with fail
      generalize hw0 : World.alloc wr _ = w2
      have h6 : RowV w2 wr.heap.size 29 (f n).cs := by rw [← hw0]; exact RowV.new wr _ _
      have h4' : RowV w2 w.heap.size 29 (U.cs ⟨0, 0, 0, 0, 0⟩) := by rw [← hw0]; exact h4.alloc _
      have hK' : Kept (fun _ => False) w w2 := by rw [← hw0]; exact hK.alloc _
      clear hw0 h4 hK a0 a1 a2 a3 a4
      have e0 := h6.u.c0
      by_cases hu : (f n).uid = uid
      · have hv := He.out
        rw [if_pos hu] at hv
        have Hv := Lib.hid hv
        clear hv He
        go_wp2_with (first | (refine wpList_load_row rfl 29 (.tmp 6) rfl wr.heap.size rfl 29 (f n).cs (0, 0) _ h6 Try.underlying29 rfl (info29 _) ?_) | (refine wpList_store_row rfl 29 (.tmp 4) (.tmp 17) rfl w.heap.size (f n).cs rfl rfl 29 _ h4' (info29 _) rfl (one_cs _) ?_))
        exact bodyPost_ret (v := (f n).v) (results_cell_row rfl _ _ w.heap.size 29 _ (0, 0) _ rfl (h4'.row _) Try.underlying29 rfl (info29 _)) rfl ⟨by rw [Hv.out], hK'.setRowNew (Nat.le_refl _) _⟩
      · have hv := He.out
        rw [if_neg hu] at hv
        have Hv := Lib.hid hv
        clear hv He
        go_wp2_with fail
        go_roundg (gk - 1)
        case measure => have := Hn.out; omega
        case rel =>
          have := Hn.out
          exact ⟨n + 1, by omega, by omega, by go_num, Hv.out, h4', hK'⟩
    · have hv := he
      rw [show la - n = 0 by omega] at hv
      unfold getFrom at hv
      have Hv := Lib.hid hv
      clear hv he
      have q : (la : Int) ≤ n := by omega
      go_wp2_with (refine wpList_store_row rfl 29 (.tmp 4) (.tmp 20) rfl w.heap.size (U.cs ⟨uid, 0, 0, -1, -1⟩) rfl rfl 29 _ h4 (info29 _) rfl (one_cs _) ?_)
      exact bodyPost_ret (v := (U.v ⟨uid, 0, 0, -1, -1⟩)) (results_cell_row rfl _ _ w.heap.size 29 _ (0, 0) _ rfl (h4.row _) Try.underlying29 rfl (info29 ⟨uid, 0, 0, -1, -1⟩)) rfl ⟨by rw [Hv.out], hK.setRowNew (Nat.le_refl _) _⟩
end Go.Proofs.Ytahlmlhdfoijhaa
