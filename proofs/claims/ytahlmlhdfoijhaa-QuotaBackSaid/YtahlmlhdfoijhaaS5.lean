/-
  slices.Insert of one usage.
-/
import Derived.Test.YtahlmlhdfoijhaaS4
import Derived.Lib.AppendZeros
import Derived.Lib.Overlaps
namespace Go.Proofs.Ytahlmlhdfoijhaa
open Go.RowKit
theorem Blk.shape {w : World} {g : Nat} {t : TypeId} {cs : List Value} (h : Blk w g t cs) : w.shape? g = some (t, cs.length) := by
  unfold Blk at h; simp [World.shape?, h]
theorem apart_any (W : World) (vb g o vc la lb cb : Nat) (cv cg : List Value) (hv : Blk W vb 29 cv) (hg : Blk W g 29 cg) (hne : vb ≠ g) (hcg : cg.length ≠ 0) :
    (callFunc 29 #[.slice (some ⟨vb, 0, none⟩) la vc, .slice (some ⟨g, o, none⟩) lb cb]).run Try.prog W = .ok (.value (.bool false)) W := by
  rw [run_callFunc_extern (P := Try.prog) Try.func29 (by kernel_rfl) (by kernel_rfl) (by kernel_rfl) (e := Extern.SlicesOverlaps.overlaps #[22, 22] #[4]) (by kernel_rfl),
    Lib.run_overlaps_apart W 22 4 29 Try.underlying22 5 (fun w => by kernel_rfl) ⟨vb, 0, none⟩ ⟨g, o, none⟩ la vc lb cb hne 29 29 _ _ hv.shape hg.shape hcg (hv.free 0) (hv.free _)]
  rfl
def InsPost (xs : List U) (u : U) (i : Nat) (base : Nat) (v : Value) (w : World) (r : Ending) (w' : World) : Prop :=
  ∃ v', r = .returned v' ∧ w'.ownsRow base 29 5 v' (xs.length + 1) (flat ucl (xs.take i ++ u :: xs.drop i)) ∧ Kept (fun k => v.ownBlock = some k) w w'
set_option maxHeartbeats 2000000 in
/-- At the end. -/
theorem insert_end (v : Value) (xs : List U) (u : U) (base vb vc : Nat) (w : World) (ho : w.ownsRow base 29 5 v xs.length (flat ucl xs)) (hb : base ≤ w.heap.size) (hn : (xs.length + 1) * 40 ≤ 140737488355328) (hv : Blk w vb 29 (ucl u)) :
    Calls Try.prog 27 #[v, .int .i64 xs.length, .slice (some ⟨vb, 0, none⟩) 1 vc] w (InsPost xs u xs.length base v w) := by
  have hnew : ∀ j x, (ucl u)[j]? = some x → w.cell? ((⟨vb, 0, none⟩ : Addr).add j) = some x := fun j x hj => by
    rw [Addr.add_lit, Nat.zero_add, hv.cell]; exact hj
  have HO := Lib.hid ho
  have HNEW := Lib.hid hnew
  have key : ∀ v' w', w'.ownsRow base 29 5 v' (xs.length + 1) (flat ucl xs ++ ucl u) → w.grownBy w' v.ownBlock → InsPost xs u xs.length base v w (.returned v') w' := fun v' w' h1 h2 =>
    ⟨v', rfl, by rw [List.take_length, List.drop_length, flat_append, flat_cons, flat_nil, List.append_nil]; exact h1, Kept.grown h2⟩
  have KEY := Lib.hid key
  have q1 : (xs.length : Int) ≤ 140737488355328 := by omega
  clear key hnew hv
  rcases ho.2 with ⟨rfl, h0⟩ | ⟨g, cap, cur, rfl, hg, hh, hle, hm, hs, ht⟩
  · have H0 := Lib.hid h0
    have e : (xs.length : Int) = 0 := by omega
    rw [e]
    clear h0 e ho
    go_enter Try.func27, Try.ntmps27
    go_wp2_with (at_builtin; go_loud (refine wpList_append_own_at _ rfl (.tmp 23) (.tmp 24) 22 rfl base 29 _ _ 5 40 Try.underlying22 info29i zero29 size29 bytes29 rfl (by omega) (.slice none 0 0) xs.length (flat ucl xs) (by rfl) HO.out ⟨vb, 0, none⟩ 1 vc (ucl u) (by rfl) rfl HNEW.out (ucl_one u) (by unfold maxLen; omega) (by omega) hb ?_); intro v' w2 hown hgrow hnil hat)
    go_ret
    exact KEY.out _ _ hown hgrow
  · have q2 : (xs.length : Int) ≤ cap := by omega
    have q3 : (cap : Int) ≤ 9223372036854775807 := by unfold maxLen at hm; omega
    clear ho hh hs ht hm hg
    by_cases hc : cap = xs.length
    · have HC := Lib.hid hc
      go_enter Try.func27, Try.ntmps27
      go_wp2_with (at_builtin; go_loud (refine wpList_append_own_at _ rfl (.tmp 23) (.tmp 24) 22 rfl base 29 _ _ 5 40 Try.underlying22 info29i zero29 size29 bytes29 rfl (by omega) (.slice (some ⟨g, 0, none⟩) xs.length cap) xs.length (flat ucl xs) (by first | rfl | (rw [HC.out]; rfl)) HO.out ⟨vb, 0, none⟩ 1 vc (ucl u) (by rfl) rfl HNEW.out (ucl_one u) (by unfold maxLen; omega) (by omega) hb ?_); intro v' w2 hown hgrow hnil hat)
      go_ret
      exact KEY.out _ _ hown hgrow
    · go_enter Try.func27, Try.ntmps27
      go_wp2_with (at_builtin; go_loud (refine wpList_append_own_at _ rfl (.tmp 23) (.tmp 24) 22 rfl base 29 _ _ 5 40 Try.underlying22 info29i zero29 size29 bytes29 rfl (by omega) (.slice (some ⟨g, 0, none⟩) xs.length cap) xs.length (flat ucl xs) (by rfl) HO.out ⟨vb, 0, none⟩ 1 vc (ucl u) (by rfl) rfl HNEW.out (ucl_one u) (by unfold maxLen; omega) (by omega) hb ?_); intro v' w2 hown hgrow hnil hat)
      go_ret
      exact KEY.out _ _ hown hgrow
end Go.Proofs.Ytahlmlhdfoijhaa
