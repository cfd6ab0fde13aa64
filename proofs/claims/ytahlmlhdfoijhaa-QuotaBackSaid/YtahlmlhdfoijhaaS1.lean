/-
  slices.Clone of usages, the closure that knows an owner, slices.IndexFunc with it.
-/
import Derived.Test.YtahlmlhdfoijhaaQ4
import Derived.Test.YtahlmlhdfoijhaaS0
import Derived.Lib.SliceRun
namespace Go.Proofs.Ytahlmlhdfoijhaa
open Go.RowKit
def ucl (u : U) : List Value := [.int .i64 u.uid, .int .i64 u.bl, .int .i64 u.ino, .int .i64 u.mb, .int .i64 u.mi]
theorem ucl_len (u : U) : (ucl u).length = 5 := rfl
theorem ucl_one (u : U) : ∀ v ∈ ucl u, v.oneCell' = true := by
  intro v hv
  simp only [ucl, List.mem_cons, List.not_mem_nil, or_false] at hv
  rcases hv with rfl | rfl | rfl | rfl | rfl <;> rfl
def nth (xs : List U) (i : Nat) : U := xs.getD i ⟨0, 0, 0, 0, 0⟩
theorem nth_get (xs : List U) (i : Nat) (h : i < xs.length) : xs[i]? = some (nth xs i) := by simp [nth, h]
theorem nth_eq (xs : List U) (i : Nat) (h : i < xs.length) : xs[i] = nth xs i := by simp [nth, h]
/-- A list's cells, as one row. -/
theorem ListAt.cells {w : World} {g o n : Nat} {xs : List U} (h : ∀ i, i < n → UAt w g (o + i * 5) (nth xs i)) (hn : xs.length = n) : ∀ j u, (flat ucl xs)[j]? = some u → w.cell? ((⟨g, o, none⟩ : Addr).add j) = some u := by
  intro j u hj
  rw [Addr.add_lit]
  have hlt : j < (flat ucl xs).length := (List.getElem?_eq_some_iff.1 hj).1
  rw [flat_length ucl_len] at hlt
  have hi : j / 5 < xs.length := by omega
  have hg := flat_get (cells := ucl) ucl_len xs [] (j / 5) (j % 5) hi (by omega)
  rw [List.append_nil, show j / 5 * 5 + j % 5 = j by omega, hj, nth_eq xs _ hi] at hg
  have hu := h (j / 5) (by omega)
  have : j % 5 = 0 ∨ j % 5 = 1 ∨ j % 5 = 2 ∨ j % 5 = 3 ∨ j % 5 = 4 := by omega
  rcases this with e | e | e | e | e <;> rw [e] at hg <;> simp [ucl] at hg <;> rw [show o + j = o + j / 5 * 5 + j % 5 by omega, e, hg]
  · exact hu.c0
  · exact hu.c1
  · exact hu.c2
  · exact hu.c3
  · exact hu.c4
theorem Kept.grown {w w' : World} {row : Option Nat} (h : w.grownBy w' row) : Kept (fun k => row = some k) w w' :=
  ⟨h.os, h.tape, h.output, h.size, fun k hk hn => h.block k hk (fun e => hn e.symm)⟩
theorem eql_nil (w : World) (a : Option Addr) (n c : Nat) : (binOp .eql 22 (.slice a n c) (.slice none 0 0)).run Try.prog w = .ok (.bool a.isNone) w := by
  simpa using Lib.run_eql_slice_nil (P := Try.prog) w 22 29 a n c 0 0 Try.underlying22
theorem info29i : Try.prog.info? 29 = some ((Try.prog.info? 29).getD default) := by kernel_rfl
theorem zero29 : ((Try.prog.info? 29).getD default).zero = some (.agg #[.int .i64 0, .int .i64 0, .int .i64 0, .int .i64 0, .int .i64 0]) := by kernel_rfl
theorem size29 : ((Try.prog.info? 29).getD default).size = 5 := by kernel_rfl
theorem bytes29 : ((Try.prog.info? 29).getD default).bytes = 40 := by kernel_rfl
set_option maxHeartbeats 1000000 in
theorem clone_any (a : Option Addr) (ca : Nat) (xs : List U) (w : World) (ha : ListAt w a xs.length (nth xs)) (hla : xs.length * 40 ≤ 140737488351232) :
    Calls Try.prog 23 #[.slice a xs.length ca] w fun r w' => ∃ v, r = .returned v ∧ w'.ownsRow w.heap.size 29 5 v xs.length (flat ucl xs) ∧ Kept (fun _ => False) w w' := by
  have hnil := eql_nil
  cases a with
  | none =>
    have h0 : xs.length = 0 := ha.resolve_right (fun ⟨_, _, h, _⟩ => by simp at h)
    go_enter Try.func23, Try.ntmps23
    go_wp2_with fail
    go_ret
    exact ⟨_, rfl, by rw [h0, List.eq_nil_of_length_eq_zero h0]; exact World.ownsRow_nil _ _ _ _, Kept.refl _ w⟩
  | some p =>
    have hsrc : ∀ j u, (flat ucl xs)[j]? = some u → w.cell? (p.add j) = some u := by
      intro j u hj
      rcases ha with h0 | ⟨g, o, hp, hc⟩
      · rw [List.eq_nil_of_length_eq_zero h0] at hj; simp at hj
      · injection hp with hp
        subst hp
        exact ListAt.cells hc rfl j u hj
    have hlen : (flat ucl xs).length = xs.length * 5 := flat_length ucl_len xs
    generalize hf : flat ucl xs = cs at *
    have h1 : ∀ u ∈ cs, u.oneCell' = true := by rw [← hf]; exact flat_one ucl_one xs
    clear hf ha
    go_enter Try.func23, Try.ntmps23
    go_wp2_with (at_builtin; go_loud (refine wpList_append_own_at _ rfl (.tmp 5) (.tmp 6) 22 rfl w.heap.size 29 _ _ 5 40 Try.underlying22 info29i zero29 size29 bytes29 rfl (by omega) (.slice (some ⟨w.heap.size, 0, none⟩) 0 0) 0 [] (by rfl) (World.ownsRow_made w #[] 0 (Nat.le_refl _) (by unfold maxLen; omega) rfl) p xs.length ca cs (by rfl) hlen (fun j u hj => (((Kept.refl (fun _ => False) w).alloc _).cell (hsrc j u hj))) h1 (by unfold maxLen; omega) (by omega) (by simp) ?_); intro v' w2 hown hgrow hnil hat)
    go_ret
    refine ⟨_, rfl, by simpa using hown, ((Kept.refl _ w).alloc _).trans (Kept.grown hgrow) ?_⟩
    intro i hi h
    simp [Value.ownBlock] at h
    omega
set_option maxHeartbeats 1000000 in
/-- The closure that knows an owner. -/
theorem knows_any (x u : U) (gb : Nat) (w : World) (hb : RowV w gb 29 u.cs) :
    Calls Try.prog 24 #[x.v, .pointer (some ⟨gb, 0, none⟩)] w fun r w' => r = .returned (.bool (decide (x.uid = u.uid))) ∧ Kept (fun _ => False) w w' := by
  have c0 := (hb.alloc (.cells #[.int .i64 x.uid, .int .i64 x.bl, .int .i64 x.ino, .int .i64 x.mb, .int .i64 x.mi] 29)).u.c0
  have hlt := hb.lt
  go_enter Try.func24, Try.ntmps24
  go_wp2_with fail
  go_ret
  exact ⟨by congr 2, (Kept.refl _ w).alloc _⟩
end Go.Proofs.Ytahlmlhdfoijhaa
