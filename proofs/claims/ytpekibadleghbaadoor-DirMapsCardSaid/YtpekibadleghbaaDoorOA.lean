/-
  append of a slice of whatever length to a slice of one's own.
-/
import Derived.Test.YtpekibadleghbaaDoorOwn
import Derived.Deep.Upon
namespace Go.Proofs.YtpekibadleghbaaDoor
open Go.RowKit
set_option linter.unusedVariables false
set_option linter.unusedSimpArgs false
theorem glue_zero (n : Nat) (f h : Nat → Byte) (i : Nat) (hi : i < n + 0) : f i = glue n f h i := by unfold glue; rw [if_pos (by omega)]
theorem Pushed.refl (w : World) (ad : Option Addr) (n : Nat) : Pushed ad n ad w w := ⟨Kept.refl _ w, fun _ _ _ _ => rfl, fun _ h => .inl h⟩
theorem OwnB.base_le {w : World} {base n cap g : Nat} {f : Nat → Byte} (h : OwnB w base (some ⟨g, 0, none⟩) n cap f) : base ≤ g := by
  rcases h.at with ⟨h1, _⟩ | ⟨g', _, h1, h2, _⟩
  · cases h1
  · simp only [Option.some.injEq, Addr.mk.injEq, and_true] at h1; omega
theorem run_pushA (w : World) (ty : TypeId) (base : Nat) (ad : Option Addr) (n cap : Nat) (f : Nat → Byte) (hown : OwnB w base ad n cap f)
    (b : Option Addr) (m c : Nat) (h : Nat → Byte) (hc : BytesAt w b m h) (hn : n + m ≤ 140737488355328) (hbase : base ≤ w.heap.size) :
    ∃ a' cap' w', (Builtin.append_ #[37, 37] ty #[.slice ad n cap, .slice b m c]).run Tryd.prog w = .ok (.slice a' (n + m) cap') w' ∧ OwnB w' base a' (n + m) cap' (glue n f h) ∧ Pushed ad n a' w w' ∧ (m = 0 → a' = ad ∧ cap' = cap) := by
  by_cases h0 : m = 0
  · subst h0
    obtain ⟨i0, hi, hz0, hz1, hz2⟩ := info_parts info5
    have hle : n ≤ cap := by
      rcases hown.at with ⟨_, h1, h2⟩ | ⟨_, _, _, _, _, h1, _⟩
      · omega
      · exact h1
    have hs : Src Tryd.prog i0.size 37 (.slice b 0 c) 0 [] w := by
      cases b with
      | none => exact Src.ofNil w Tryd.underlying37 c
      | some x => exact Src.ofSlice w Tryd.underlying37 x 0 c [] (by simp) (by simp) (by simp)
    exact ⟨ad, cap, w, run_append_nothing w 37 37 ty 5 i0 Tryd.underlying37 hi ad n cap hle _ hs, hown.congr (fun i hi => glue_zero n f h i hi), Pushed.refl w ad n, fun _ => ⟨rfl, rfl⟩⟩
  · cases b with
    | none =>
      rcases hc with hc | ⟨_, _, hx, _⟩
      · omega
      · cases hx
    | some x =>
      obtain ⟨a', cap', w', h1, h2, h3⟩ := run_pushN w ty base ad n cap f hown x m c h hc (by omega) hn hbase
      exact ⟨a', cap', w', h1, h2, h3, fun h => absurd h h0⟩
theorem wp_appendA {a : Act} {w : World} {o : Oper} {K : Act → World → Prop} {Q : Exit → Act → World → Prop} (s x : Operand)
    (ho : o.op = .call { callee := .builtin .append, args := #[s, x], argTypes := #[37, 37] }) (base : Nat) (ad : Option Addr) (n cap : Nat) (f : Nat → Byte) (hs : a.eval s = .slice ad n cap) (hown : OwnB w base ad n cap f)
    (b : Option Addr) (m c : Nat) (h : Nat → Byte) (hx : a.eval x = .slice b m c) (hc : BytesAt w b m h) (hn : n + m ≤ 140737488355328) (hbase : base ≤ w.heap.size)
    (hk : ∀ a' cap' w', OwnB w' base a' (n + m) cap' (glue n f h) → Pushed ad n a' w w' → (m = 0 → a' = ad ∧ cap' = cap) → K (a.put o.dst (.slice a' (n + m) cap')) w') : o.wp Tryd.prog a w K Q := by
  obtain ⟨a', cap', w', hr, h1, h2, h3⟩ := run_pushA w o.type base ad n cap f hown b m c h hc hn hbase
  unfold Oper.wp execOp
  simp only [ho, resolve, invoke, builtin, Sem.run_bind, Sem.run_pure, Result.andThen_ok, List.map_toArray, List.map_cons, List.map_nil, hs, hx, hr]
  exact hk a' cap' w' h1 h2 h3
theorem appendA {a : Act} {w : World} {ops : Array Oper} {rest : List Oper} {o : Oper} {Q : Exit → Act → World → Prop} (hgd : o.guard = none) (s x : Operand)
    (ho : o.op = .call { callee := .builtin .append, args := #[s, x], argTypes := #[37, 37] }) (base : Nat) (ad : Option Addr) (n cap : Nat) (f : Nat → Byte) (hs : a.eval s = .slice ad n cap) (hown : OwnB w base ad n cap f)
    (b : Option Addr) (m c : Nat) (h : Nat → Byte) (hx : a.eval x = .slice b m c) (hc : BytesAt w b m h) (hn : n + m ≤ 140737488355328) (hbase : base ≤ w.heap.size)
    (hk : ∀ a' cap' w', OwnB w' base a' (n + m) cap' (glue n f h) → Pushed ad n a' w w' → (m = 0 → a' = ad ∧ cap' = cap) → wpList Tryd.prog ops Q rest (a.put o.dst (.slice a' (n + m) cap')) w') : wpList Tryd.prog ops Q (o :: rest) a w := by
  refine wpList_plain hgd fun K hK => ?_
  obtain ⟨a', cap', w', hr, h1, h2, h3⟩ := run_pushA w o.type base ad n cap f hown b m c h hc hn hbase
  unfold Oper.wp execOp
  simp only [ho, resolve, invoke, builtin, Sem.run_bind, Sem.run_pure, Result.andThen_ok, List.map_toArray, List.map_cons, List.map_nil, hs, hx, hr]
  exact hK _ _ (hk a' cap' w' h1 h2 h3)
end Go.Proofs.YtpekibadleghbaaDoor
