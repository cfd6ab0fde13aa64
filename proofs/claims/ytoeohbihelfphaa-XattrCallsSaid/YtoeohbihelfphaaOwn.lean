/-
  A slice of bytes that the call itself has made, and appends to it.
-/
import Derived.Test.YtoeohbihelfphaaBts
import Derived.Test.YtoeohbihelfphaaReg
namespace Go.Proofs.Ytoeohbihelfphaa
open Go.RowKit
set_option linter.unusedVariables false
set_option linter.unusedSimpArgs false
theorem some_eq {g k : Nat} (h : some (⟨g, 0, none⟩ : Addr) = some ⟨k, 0, none⟩) : g = k := by simpa using h
def OwnB (w : World) (base : Nat) (a : Option Addr) (n cap : Nat) (f : Nat → Byte) : Prop := w.ownsRow base 5 1 (.slice a n cap) n ((List.range n).map fun i => B (f i))
theorem OwnB.nil (w : World) (base : Nat) (f : Nat → Byte) : OwnB w base none 0 0 f := World.ownsRow_nil w base 5 1
theorem OwnB.congr {w : World} {base n cap : Nat} {a : Option Addr} {f f' : Nat → Byte} (h : OwnB w base a n cap f) (e : ∀ i, i < n → f i = f' i) : OwnB w base a n cap f' := by
  unfold OwnB at *
  rw [show (List.range n).map (fun i => B (f' i)) = (List.range n).map (fun i => B (f i)) from List.map_congr_left fun i hi => by rw [e i (by simpa using hi)]]
  exact h
theorem OwnB.at {w : World} {base n cap : Nat} {a : Option Addr} {f : Nat → Byte} (h : OwnB w base a n cap f) :
    (a = none ∧ n = 0 ∧ cap = 0) ∨ ∃ g cur, a = some ⟨g, 0, none⟩ ∧ base ≤ g ∧ w.heap[g]? = some (.cells cur 5 (0, 0)) ∧ n ≤ cap ∧ ∀ i, i < n → cur[i]? = some (B (f i)) := by
  rcases h.2 with ⟨h1, h2⟩ | ⟨g, cap', cur, hv, hb, hg, h3, _, h4, h5⟩
  · left
    simp only [Value.slice.injEq] at h1
    exact h1
  · right
    simp only [Value.slice.injEq] at hv
    obtain ⟨rfl, _, rfl⟩ := hv
    refine ⟨g, cur, rfl, hb, hg, h3, fun i hi => ?_⟩
    have h6 : cur.toList[i]? = some (B (f i)) := by
      have e : (cur.toList.take (n * 1))[i]? = cur.toList[i]? := by rw [List.getElem?_take, if_pos (by omega)]
      rw [← e, h5]
      simp [hi]
    simpa using h6
theorem OwnB.cell {w : World} {base n cap : Nat} {a : Option Addr} {f : Nat → Byte} (h : OwnB w base a n cap f) (hn : 0 < n) :
    ∃ g, a = some ⟨g, 0, none⟩ ∧ base ≤ g ∧ g < w.heap.size ∧ (∀ i, i < n → w.cell? ⟨g, i, none⟩ = some (B (f i))) ∧ ∀ i, w.frozen? ⟨g, i, none⟩ = false := by
  rcases h.at with ⟨_, h2, _⟩ | ⟨g, cur, ha, hb, hg, _, hc⟩
  · omega
  · exact ⟨g, ha, hb, lt_of_at hg, fun i hi => by rw [cell_of_row w g i cur 5 _ hg]; exact hc i hi, fun i => frozen_of_row w g i cur 5 hg⟩
theorem OwnB.bytes {w : World} {base n cap : Nat} {a : Option Addr} {f : Nat → Byte} (h : OwnB w base a n cap f) : BytesAt w a n f := by
  rcases Nat.eq_zero_or_pos n with h0 | h0
  · exact .inl h0
  · obtain ⟨g, ha, _, _, hc, _⟩ := h.cell h0
    exact .inr ⟨g, 0, ha, fun i hi => by rw [Nat.zero_add]; exact hc i hi⟩
theorem OwnB.empty {w : World} {base n cap : Nat} {a : Option Addr} {f : Nat → Byte} (h : OwnB w base a n cap f) (ha : a = none) : n = 0 := by
  rcases h.at with ⟨_, h2, _⟩ | ⟨g, cur, ha', _⟩
  · exact h2
  · rw [ha'] at ha; cases ha
theorem OwnB.kept {w w' : World} {base n cap : Nat} {a : Option Addr} {f : Nat → Byte} {S : Nat → Prop} (h : OwnB w base a n cap f) (k : Kept S w w') (hs : ∀ g, a = some ⟨g, 0, none⟩ → ¬ S g) : OwnB w' base a n cap f := by
  refine ⟨h.1, ?_⟩
  rcases h.2 with h1 | ⟨g, cap', cur, hv, hb, hg, r⟩
  · exact .inl h1
  · refine .inr ⟨g, cap', cur, hv, hb, ?_, r⟩
    exact k.at hg (hs g (by simp only [Value.slice.injEq] at hv; exact hv.1))
theorem OwnB.alloc {w : World} {base n cap : Nat} {a : Option Addr} {f : Nat → Byte} (h : OwnB w base a n cap f) (o : Obj) : OwnB (w.alloc o) base a n cap f := World.ownsRow.alloc h o
theorem OwnB.drew {w : World} {base n cap : Nat} {a : Option Addr} {f : Nat → Byte} (h : OwnB w base a n cap f) : OwnB w.drew base a n cap f := h

theorem info5 : (Try.prog.info? 5).map (fun i => (i.zero, i.size, i.bytes)) = some (some (.int .u8 0), 1, 1) := by kernel_rfl
/-- What an append to such a slice leaves of the old world. -/
structure Pushed (ad : Option Addr) (n : Nat) (a' : Option Addr) (w w' : World) : Prop where
  kept : Kept (fun k => ad = some ⟨k, 0, none⟩) w w'
  cells : ∀ g, ad = some ⟨g, 0, none⟩ → ∀ j, j < n → w'.cell? ⟨g, j, none⟩ = w.cell? ⟨g, j, none⟩
  fresh : ∀ g, a' = some ⟨g, 0, none⟩ → ad = some ⟨g, 0, none⟩ ∨ w.heap.size ≤ g
theorem Pushed.of_none {ad a' : Option Addr} {n base cap : Nat} {w w' : World} {f : Nat → Byte} (h : w.grownBy w' none) (ho : OwnB w' base a' n cap f) (hb : w.heap.size ≤ base) {m : Nat} (hm : ∀ g, ad = some ⟨g, 0, none⟩ → g < w.heap.size) : Pushed ad m a' w w' := by
  refine ⟨⟨h.os, h.tape, h.output, h.size, fun k hk _ => h.block k hk (by simp)⟩, fun g hg j _ => World.cell?_of_block (w := w) (h.block g (hm g hg) (by simp)), fun g hg => ?_⟩
  right
  rcases ho.at with ⟨h1, _⟩ | ⟨g', _, h1, h2, _⟩
  · rw [h1] at hg; cases hg
  · rw [h1] at hg; simp at hg; omega
theorem OwnB.lower {w : World} {base base' n cap : Nat} {a : Option Addr} {f : Nat → Byte} (h : OwnB w base a n cap f) (hb : base' ≤ base) : OwnB w base' a n cap f := by
  refine ⟨h.1, ?_⟩
  rcases h.2 with h1 | ⟨g, cap', cur, hv, hg, r⟩
  · exact .inl h1
  · exact .inr ⟨g, cap', cur, hv, by omega, r⟩
/-- Two rows' bytes, one behind the other. -/
def glue (n : Nat) (f h : Nat → Byte) : Nat → Byte := fun i => if i < n then f i else h (i - n)
theorem own_glue {w' : World} {base n m : Nat} {f h : Nat → Byte} {v : Value} (hm : 0 < n + m) (hw : w'.ownsRow base 5 1 v (n + m) ((List.range n).map (fun i => B (f i)) ++ (List.range m).map (fun i => B (h i)))) :
    ∃ a' cap', v = .slice a' (n + m) cap' ∧ OwnB w' base a' (n + m) cap' (glue n f h) := by
  have e : (List.range (n + m)).map (fun i => B (glue n f h i)) = (List.range n).map (fun i => B (f i)) ++ (List.range m).map (fun i => B (h i)) := by
    rw [List.range_add, List.map_append, List.map_map]
    congr 1
    · apply List.map_congr_left; intro i hi
      unfold glue; rw [if_pos (by simpa using hi)]
    · apply List.map_congr_left; intro i hi
      show B (glue n f h (n + i)) = _
      unfold glue; rw [if_neg (by omega), Nat.add_sub_cancel_left]
  rw [← e] at hw
  rcases hw.2 with ⟨_, h2⟩ | ⟨g, cap, cur, hv, r⟩
  · omega
  · exact ⟨_, _, hv, by rw [hv] at hw; exact hw⟩
theorem run_pushN (w : World) (ty : TypeId) (base : Nat) (ad : Option Addr) (n cap : Nat) (f : Nat → Byte) (hown : OwnB w base ad n cap f)
    (b : Addr) (m c : Nat) (h : Nat → Byte) (hc : BytesAt w (some b) m h) (hm : 0 < n + m) (hn : n + m ≤ 140737488355328) (hbase : base ≤ w.heap.size) :
    ∃ a' cap' w', (Builtin.append_ #[24, 24] ty #[.slice ad n cap, .slice (some b) m c]).run Try.prog w = .ok (.slice a' (n + m) cap') w' ∧ OwnB w' base a' (n + m) cap' (glue n f h) ∧ Pushed ad n a' w w' := by
  obtain ⟨i0, hi, hz0, hz1, hz2⟩ := info_parts info5
  have hnews : ∀ j u, ((List.range m).map fun i => B (h i))[j]? = some u → w.cell? (b.add j) = some u := by
    intro j u hj
    have hj2 : j < m := by have := (List.getElem?_eq_some_iff.1 hj).1; simpa using this
    rcases hc with hc | ⟨g, o, hb, hc⟩
    · omega
    · obtain rfl : b = ⟨g, o, none⟩ := by simpa using hb
      have hadd : (⟨g, o, none⟩ : Addr).add j = ⟨g, o + j, none⟩ := by unfold Addr.add; split <;> simp_all
      rw [hadd, hc j hj2, ← hj]
      simp [hj2]
  have h1c : ∀ u ∈ ((List.range m).map fun i => B (h i)), u.oneCell' = true := by
    intro u hu
    simp only [List.mem_map] at hu
    obtain ⟨i, _, rfl⟩ := hu
    rfl
  cases ad with
  | none =>
    have h0 := hown.empty rfl
    subst h0
    have hown' : w.ownsRow w.heap.size 5 1 (.slice none 0 cap) 0 ((List.range 0).map fun i => B (f i)) := by
      rcases hown.at with ⟨_, _, rfl⟩ | ⟨g, _, hx, _⟩
      · exact OwnB.nil w w.heap.size f
      · cases hx
    obtain ⟨v', w', hr, ho, hg, _⟩ := run_append_own w w.heap.size 24 ty 5 i0 (.int .u8 0) 1 1 Try.underlying24 hi hz0 hz1 hz2 rfl (by decide) _ 0 _ hown' b m c _ (by simp) hnews h1c (by unfold maxLen; omega) (by omega) (Nat.le_refl _)
    obtain ⟨a', cap', rfl, h3⟩ := own_glue hm ho
    exact ⟨a', cap', w', hr, h3.lower hbase, Pushed.of_none hg h3 (Nat.le_refl _) (fun g h => by cases h)⟩
  | some ax =>
    rcases hown.at with ⟨h1, _⟩ | ⟨g, cur, hax, hbg, hgr, hnc, hcur⟩
    · cases h1
    · obtain rfl : ax = ⟨g, 0, none⟩ := by simpa using hax
      have hgl : g < w.heap.size := lt_of_at hgr
      by_cases hfit : n + m ≤ cap
      · have hsz : cur.size = cap * 1 := by
          rcases hown.2 with ⟨h1, _⟩ | ⟨g', cap', cur', hv, _, hg', _, _, h4, _⟩
          · simp at h1
          · simp only [Value.slice.injEq, Option.some.injEq, Addr.mk.injEq, and_true, true_and] at hv
            obtain ⟨rfl, rfl⟩ := hv
            rw [hgr] at hg'
            simp only [Option.some.injEq, Obj.cells.injEq] at hg'
            rw [hg'.1]; exact h4
        have hr := run_append_room_cells (P := Try.prog) w 24 ty 5 i0 Try.underlying24 hi g 0 n cap b m c _ (by rw [hz1]; simp) hnews h1c hfit
          (fun j hj => by rw [hz1, cell_of_row w g _ cur 5 _ hgr]; simp at hj; rw [Array.getElem?_eq_getElem (by omega)]; rfl) (fun j _ => frozen_of_row w g _ cur 5 hgr)
        rw [hz1, Nat.zero_add, Nat.mul_one] at hr
        have hown2 := run_append_own w base 24 ty 5 i0 (.int .u8 0) 1 1 Try.underlying24 hi hz0 hz1 hz2 rfl (by decide) _ n _ hown b m c _ (by simp) hnews h1c (by unfold maxLen; omega) (by omega) hbase
        obtain ⟨v', w', hr2, ho, hg, _⟩ := hown2
        rw [hr] at hr2
        simp only [Result.ok.injEq] at hr2
        obtain ⟨rfl, rfl⟩ := hr2
        obtain ⟨a', cap', hv, h3⟩ := own_glue hm ho
        simp only [Value.slice.injEq, true_and] at hv
        obtain ⟨rfl, rfl⟩ := hv
        refine ⟨_, _, _, hr, h3, ⟨hg.os, hg.tape, hg.output, hg.size, fun k hk hb => hg.block k hk (fun e => by simp [Value.ownBlock] at e; subst e; exact hb rfl)⟩, fun g' hg' j hj => ?_, fun g' hg' => .inl hg'⟩
        exact World.cell?_setCells_out g _ n w ⟨g', j, none⟩ (fun _ _ => .inl hj)
      · obtain ⟨v', w', hr, ho, hg⟩ := run_append_arg_grows (P := Try.prog) w 24 ty 5 i0 (.int .u8 0) 1 1 Try.underlying24 hi hz0 hz1 hz2 rfl (by decide) ⟨g, 0, none⟩ n cap ((List.range n).map fun i => B (f i)) (by simp)
          (fun j u hj => by
            have hj2 : j < n := by have := (List.getElem?_eq_some_iff.1 hj).1; simpa using this
            have hadd : (⟨g, 0, none⟩ : Addr).add j = ⟨g, j, none⟩ := by unfold Addr.add; split <;> simp_all
            rw [hadd, cell_of_row w g j cur 5 _ hgr, hcur j hj2, ← hj]; simp [hj2])
          b m c _ (by simp) hnews (by omega) (by unfold maxLen; omega) (by omega)
        obtain ⟨a', cap', rfl, h3⟩ := own_glue hm ho
        exact ⟨a', cap', w', hr, h3.lower hbase, Pushed.of_none hg h3 (Nat.le_refl _) (fun g' h => by simp at h; omega)⟩
theorem wp_appendN {a : Act} {w : World} {o : Oper} {K : Act → World → Prop} {Q : Exit → Act → World → Prop} (s x : Operand)
    (ho : o.op = .call { callee := .builtin .append, args := #[s, x], argTypes := #[24, 24] }) (base : Nat) (ad : Option Addr) (n cap : Nat) (f : Nat → Byte) (hs : a.eval s = .slice ad n cap) (hown : OwnB w base ad n cap f)
    (b : Addr) (m c : Nat) (h : Nat → Byte) (hx : a.eval x = .slice (some b) m c) (hc : BytesAt w (some b) m h) (hm : 0 < n + m) (hn : n + m ≤ 140737488355328) (hbase : base ≤ w.heap.size)
    (hk : ∀ a' cap' w', OwnB w' base a' (n + m) cap' (glue n f h) → Pushed ad n a' w w' → K (a.put o.dst (.slice a' (n + m) cap')) w') : o.wp Try.prog a w K Q := by
  obtain ⟨a', cap', w', hr, h1, h2⟩ := run_pushN w o.type base ad n cap f hown b m c h hc hm hn hbase
  unfold Oper.wp execOp
  simp only [ho, resolve, invoke, builtin, Sem.run_bind, Sem.run_pure, Result.andThen_ok, List.map_toArray, List.map_cons, List.map_nil, hs, hx, hr]
  exact hk a' cap' w' h1 h2
theorem wp_append1 {a : Act} {w : World} {o : Oper} {K : Act → World → Prop} {Q : Exit → Act → World → Prop} (s x : Operand)
    (ho : o.op = .call { callee := .builtin .append, args := #[s, x], argTypes := #[24, 24] }) (base : Nat) (ad : Option Addr) (n cap : Nat) (f : Nat → Byte) (hs : a.eval s = .slice ad n cap) (hown : OwnB w base ad n cap f)
    (g c : Nat) (b : Byte) (hx : a.eval x = .slice (some ⟨g, 0, none⟩) 1 c) (hc : w.cell? ⟨g, 0, none⟩ = some (B b)) (hn : n + 1 ≤ 140737488355328) (hbase : base ≤ w.heap.size)
    (h : ∀ a' cap' w', OwnB w' base a' (n + 1) cap' (upd f n b) → Pushed ad n a' w w' → K (a.put o.dst (.slice a' (n + 1) cap')) w') : o.wp Try.prog a w K Q :=
  wp_appendN s x ho base ad n cap f hs hown ⟨g, 0, none⟩ 1 c (fun _ => b) hx (.inr ⟨g, 0, rfl, fun i hi => by rw [show i = 0 by omega]; exact hc⟩) (by omega) hn hbase fun a' cap' w' h1 h2 =>
    h a' cap' w' (h1.congr fun i hi => by
      unfold glue upd
      by_cases hlt : i < n
      · rw [if_pos hlt, if_neg (by omega)]
      · rw [if_neg hlt, if_pos (by omega)]) h2
theorem append1 {a : Act} {w : World} {ops : Array Oper} {rest : List Oper} {o : Oper} {Q : Exit → Act → World → Prop} (hgd : o.guard = none) (s x : Operand)
    (ho : o.op = .call { callee := .builtin .append, args := #[s, x], argTypes := #[24, 24] }) (base : Nat) (ad : Option Addr) (n cap : Nat) (f : Nat → Byte) (hs : a.eval s = .slice ad n cap) (hown : OwnB w base ad n cap f)
    (g c : Nat) (b : Byte) (hx : a.eval x = .slice (some ⟨g, 0, none⟩) 1 c) (hc : w.cell? ⟨g, 0, none⟩ = some (B b)) (hn : n + 1 ≤ 140737488355328) (hbase : base ≤ w.heap.size)
    (h : ∀ a' cap' w', OwnB w' base a' (n + 1) cap' (upd f n b) → Pushed ad n a' w w' → wpList Try.prog ops Q rest (a.put o.dst (.slice a' (n + 1) cap')) w') : wpList Try.prog ops Q (o :: rest) a w :=
  wpList_plain hgd fun _ hK => wp_append1 s x ho base ad n cap f hs hown g c b hx hc hn hbase fun a' cap' w' h1 h2 => hK _ _ (h a' cap' w' h1 h2)
theorem appendN {a : Act} {w : World} {ops : Array Oper} {rest : List Oper} {o : Oper} {Q : Exit → Act → World → Prop} (hgd : o.guard = none) (s x : Operand)
    (ho : o.op = .call { callee := .builtin .append, args := #[s, x], argTypes := #[24, 24] }) (base : Nat) (ad : Option Addr) (n cap : Nat) (f : Nat → Byte) (hs : a.eval s = .slice ad n cap) (hown : OwnB w base ad n cap f)
    (b : Addr) (m c : Nat) (h : Nat → Byte) (hx : a.eval x = .slice (some b) m c) (hc : BytesAt w (some b) m h) (hm : 0 < n + m) (hn : n + m ≤ 140737488355328) (hbase : base ≤ w.heap.size)
    (hk : ∀ a' cap' w', OwnB w' base a' (n + m) cap' (glue n f h) → Pushed ad n a' w w' → wpList Try.prog ops Q rest (a.put o.dst (.slice a' (n + m) cap')) w') : wpList Try.prog ops Q (o :: rest) a w :=
  wpList_plain hgd fun _ hK => wp_appendN s x ho base ad n cap f hs hown b m c h hx hc hm hn hbase fun a' cap' w' h1 h2 => hK _ _ (hk a' cap' w' h1 h2)
theorem OwnB.size {w : World} {base n cap g : Nat} {f : Nat → Byte} (h : OwnB w base (some ⟨g, 0, none⟩) n cap f) {t m : Nat} {f' : Nat → Byte} (hr : Row w g t m f') : n ≤ m := by
  rcases h.2 with ⟨h1, _⟩ | ⟨g', cap', cur, hv, hb, hg, h3, _, h4, _⟩
  · simp at h1
  · simp only [Value.slice.injEq, Option.some.injEq, Addr.mk.injEq, and_true, true_and] at hv
    obtain ⟨rfl, rfl⟩ := hv
    rw [hr] at hg
    simp only [Option.some.injEq, Obj.cells.injEq] at hg
    have : (Fs m f').size = cur.size := by rw [hg.1]
    rw [Fs_size] at this
    omega
theorem OwnB.new {w : World} {base g n : Nat} {f : Nat → Byte} (h : Row w g 5 n f) (hb : base ≤ g) (hn : n ≤ 140737488355328) : OwnB w base (some ⟨g, 0, none⟩) n n f := by
  refine ⟨by simp, .inr ⟨g, n, Fs n f, rfl, hb, h, Nat.le_refl _, by unfold maxLen; omega, by rw [Fs_size]; omega, ?_⟩⟩
  simp [Fs, List.take_of_length_le]
end Go.Proofs.Ytoeohbihelfphaa
