/-
  Words of memory for slices of structs: a block known whole, elements of k cells; copy, clear, load and store at such a block.
-/
import Derived.Test.YtoeohbihelfphaaReg
import Derived.Laws.CopyRow
import Derived.Laws.CopyOwn
import Derived.Laws.IdiomCopy
import Derived.Laws.OwnMore
import Derived.Maps.AppendAt
import Derived.Deep.AppendLies
import Derived.Lib.Overlaps
namespace Go.Proofs.Ytoeohbihelfphaa
open Go.RowKit
set_option linter.unusedVariables false
set_option linter.unusedSimpArgs false

/-- The block g holds the cells cs. -/
def Blk (w : World) (g : Nat) (t : TypeId) (cs : List Value) : Prop := w.heap[g]? = some (.cells cs.toArray t (0, 0))
theorem Blk.lt {w : World} {g : Nat} {t : TypeId} {cs : List Value} (h : Blk w g t cs) : g < w.heap.size := lt_of_at h
theorem Blk.new (w : World) (t : TypeId) (cs : List Value) : Blk (w.alloc (.cells cs.toArray t)) w.heap.size t cs := heap_alloc_new w _
theorem Blk.row {w : World} {g : Nat} {t : TypeId} {cs : List Value} (h : Blk w g t cs) (cs' : List Value) : Blk (w.setRow g cs'.toArray) g t cs' := setRow_heap w g _ _ t _ h
theorem Blk.rowOther {w : World} {g g' : Nat} {t : TypeId} {cs : List Value} (h : Blk w g t cs) (hne : g ≠ g') (cs' : Array Value) : Blk (w.setRow g' cs') g t cs := by
  unfold Blk; rw [setRow_other w g' g cs' hne]; exact h
theorem Blk.alloc {w : World} {g : Nat} {t : TypeId} {cs : List Value} (h : Blk w g t cs) (o : Obj) : Blk (w.alloc o) g t cs := by
  unfold Blk; rw [Below.heap_alloc w o g (lt_of_at h)]; exact h
theorem Blk.drew {w : World} {g : Nat} {t : TypeId} {cs : List Value} (h : Blk w g t cs) : Blk w.drew g t cs := h
theorem Blk.kept {S : Nat → Prop} {w w' : World} {g : Nat} {t : TypeId} {cs : List Value} (h : Blk w g t cs) (k : Kept S w w') (hn : ¬ S g) : Blk w' g t cs := k.at h hn
theorem Blk.cell {w : World} {g : Nat} {t : TypeId} {cs : List Value} (h : Blk w g t cs) (i : Nat) : w.cell? ⟨g, i, none⟩ = cs[i]? := by
  rw [cell_of_row w g i _ t _ h]; simp
theorem Blk.free {w : World} {g : Nat} {t : TypeId} {cs : List Value} (h : Blk w g t cs) (i : Nat) : w.frozen? ⟨g, i, none⟩ = false := frozen_of_row w g i _ t h
theorem Blk.range {w : World} {g : Nat} {t : TypeId} {cs : List Value} (h : Blk w g t cs) (o : Nat) (vs : List Value) (hv : ∀ j v, vs[j]? = some v → cs[o + j]? = some v) : w.rangeAt g o vs := fun j v hj => by
  rw [h.cell]; exact hv j v hj

/-- cs laid over L from place off on. -/
def spl (L : List Value) (off : Nat) (cs : List Value) : List Value := L.take off ++ cs ++ L.drop (off + cs.length)
theorem spl_length (L : List Value) (off : Nat) (cs : List Value) (h : off + cs.length ≤ L.length) : (spl L off cs).length = L.length := by simp [spl]; omega

section
variable {P : Program}
/-- copy, at elements of any size: all is read before anything is written. -/
theorem run_copyK (w : World) (dT sT ty elem : TypeId) (k : Nat) (g o dLen dCap : Nat) (a : Addr) (sLen sCap : Nat) (cur : List Value) (t : TypeId) (cs : List Value)
    (hu : P.underlying dT = some (.slice elem)) (hs : (P.info? elem).map (·.size) = some k)
    (hg : Blk w g t cur) (hn : cs.length = Nat.min sLen dLen * k)
    (hsrc : ∀ j v, cs[j]? = some v → w.cell? (a.add j) = some v) (hfit : o + cs.length ≤ cur.length) (h1 : ∀ v ∈ cs, v.oneCell' = true) :
    (Builtin.copy_ #[dT, sT] ty #[.slice (some ⟨g, o, none⟩) dLen dCap, .slice (some a) sLen sCap]).run P w =
      .ok (goInt (Nat.min sLen dLen)) (w.setRow g (spl cur o cs).toArray) := by
  have hl := run_loadCells_list (P := P) w a cs hsrc
  have hst := run_storeCells_at P g o t cs 0 cur.toArray w hg (by simpa using hfit) h1
  cases hq : P.info? elem with
  | none => simp [hq] at hs
  | some i =>
    have hi : i.size = k := by simpa [hq] using hs
    rw [hn] at hl
    simp [Builtin.copy_, run_underlying hu, Builtin.lenOf, Builtin.firstCells, sizeOf, typeInfo, hq, hi, hl, hst, spl]
/-- copy with nothing to go over from a source that has an address, or to a place that has none. -/
theorem run_copyK_none (w : World) (dT sT ty elem : TypeId) (d a : Option Addr) (dLen dCap sLen sCap : Nat) (hu : P.underlying dT = some (.slice elem)) (hs : ((P.info? elem).map (·.size)).isSome = true) (hn : Nat.min sLen dLen = 0) :
    (Builtin.copy_ #[dT, sT] ty #[.slice d dLen dCap, .slice a sLen sCap]).run P w = .ok (goInt 0) w := by
  cases hq : P.info? elem with
  | none => simp [hq] at hs
  | some i =>
    have hl : ∀ (x : Addr), (loadCells x 0).run P w = .ok #[] w := fun x => by simpa using run_loadCells_list (P := P) w x [] (by simp)
    cases d <;> cases a <;> simp [Builtin.copy_, run_underlying hu, Builtin.lenOf, Builtin.firstCells, sizeOf, typeInfo, hq, hn, storeCells, hl]
/-- clear of a slice whose block is known. -/
theorem run_clearK (w : World) (tT ty elem : TypeId) (z : Array Value) (k : Nat) (g o n c : Nat) (cur : List Value) (t : TypeId)
    (hu : P.underlying tT = some (.slice elem)) (hz : (zeroValue elem).run P w = .ok (.agg z) w) (hk : z.size = k)
    (hg : Blk w g t cur) (hn : 0 < n) (hfit : o + n * k ≤ cur.length) (h1 : ∀ v ∈ (Builtin.zeroCells z n).toList, v.oneCell' = true) :
    (Builtin.clear_ #[tT] ty #[.slice (some ⟨g, o, none⟩) n c]).run P w = .ok (.tuple #[]) (w.setRow g (spl cur o (Builtin.zeroCells z n).toList).toArray) := by
  have hlen : (Builtin.zeroCells z n).toList.length = n * k := by rw [Array.length_toList, size_zeroCells, hk]
  have hst := run_storeCells_at P g o t (Builtin.zeroCells z n).toList 0 cur.toArray w hg (by rw [hlen]; simpa using hfit) h1
  obtain ⟨m, rfl⟩ : ∃ m, n = m + 1 := ⟨n - 1, by omega⟩
  simp only [Nat.add_zero] at hst
  simp [Builtin.clear_, run_underlying hu, hz, Value.cells, hst, spl]

theorem wp_copyK {o : Oper} {a : Act} {w : World} {K : Act → World → Prop} {Q : Exit → Act → World → Prop} (d s : Operand) (t t' : TypeId)
    (ho : o.op = .call { callee := .builtin .copy, args := #[d, s], argTypes := #[t, t'] }) {v u : Value} (hd : a.eval d = v) (hs : a.eval s = u) {v' : Value} {w' : World}
    (hr : (Builtin.copy_ #[t, t'] o.type #[v, u]).run P w = .ok v' w') (h : K (a.put o.dst v') w') : o.wp P a w K Q := by
  unfold Oper.wp execOp
  simp only [ho, resolve, invoke, builtin, Sem.run_bind, Sem.run_pure, Result.andThen_ok, List.map_toArray, List.map_cons, List.map_nil, hd, hs, hr]
  exact h
theorem wpList_copyK {w : World} {ops : Array Oper} {rest : List Oper} {o : Oper} {a : Act} {Q : Exit → Act → World → Prop} (hgd : o.guard = none) (d s : Operand) (t t' : TypeId)
    (ho : o.op = .call { callee := .builtin .copy, args := #[d, s], argTypes := #[t, t'] }) {v u : Value} (hd : a.eval d = v) (hs : a.eval s = u) {v' : Value} {w' : World}
    (hr : (Builtin.copy_ #[t, t'] o.type #[v, u]).run P w = .ok v' w') (h : wpList P ops Q rest (a.put o.dst v') w') : wpList P ops Q (o :: rest) a w :=
  wpList_plain hgd fun _ hK => wp_copyK d s t t' ho hd hs hr (hK _ _ h)
theorem wpList_clearK {w : World} {ops : Array Oper} {rest : List Oper} {o : Oper} {a : Act} {Q : Exit → Act → World → Prop} (hgd : o.guard = none) (d : Operand) (t : TypeId)
    (ho : o.op = .call { callee := .builtin .clear, args := #[d], argTypes := #[t] }) {v : Value} (hd : a.eval d = v) {v' : Value} {w' : World}
    (hr : (Builtin.clear_ #[t] o.type #[v]).run P w = .ok v' w') (h : wpList P ops Q rest (a.put o.dst v') w') : wpList P ops Q (o :: rest) a w := by
  refine wpList_plain hgd fun K hK => ?_
  unfold Oper.wp execOp
  simp only [ho, resolve, invoke, builtin, Sem.run_bind, Sem.run_pure, Result.andThen_ok, List.map_toArray, List.map_cons, List.map_nil, hd, hr]
  exact hK _ _ h
/-- A store of an element into a block that is known. -/
theorem run_storeVarK (w : World) (g o : Nat) (t ty : TypeId) (cur : List Value) (cells : Array Value) (hg : Blk w g t cur) (hi : (P.info? ty).map (·.size) = some cells.size)
    (hfit : o + cells.size ≤ cur.length) (h1 : cells.all (·.oneCell') = true) :
    (storeVar ty ⟨g, o, none⟩ (.agg cells)).run P w = .ok () (w.setRow g (spl cur o cells.toList).toArray) := by
  have := run_storeCells_at P g o t cells.toList 0 cur.toArray w hg (by simpa using hfit) (fun v hv => (Array.all_eq_true_iff_forall_mem.1 h1) v (by simpa using hv))
  simp only [Nat.add_zero] at this
  cases hq : P.info? ty with
  | none => simp [hq] at hi
  | some i =>
    have hs : cells.size = i.size := by simp [hq] at hi; omega
    simp [storeVar, sizeOf, typeInfo, hq, Value.cells, hs, this, spl]
theorem wpList_storeK {ops : Array Oper} {rest : List Oper} {o : Oper} {a : Act} {w : World} {Q : Exit → Act → World → Prop} (hgd : o.guard = none) (ty : TypeId) (x y : Operand) (ho : o.op = .store ty x y)
    (g off : Nat) (cells : Array Value) (hx : a.eval x = .pointer (some ⟨g, off, none⟩)) (hy : a.eval y = .agg cells)
    (t : TypeId) (cur : List Value) (hg : Blk w g t cur) (hi : (P.info? ty).map (·.size) = some cells.size)
    (hfit : off + cells.size ≤ cur.length) (h1 : cells.all (·.oneCell') = true)
    (h : wpList P ops Q rest (a.put o.dst undef) (w.setRow g (spl cur off cells.toList).toArray)) : wpList P ops Q (o :: rest) a w := by
  refine wpList_plain hgd fun K hK => ?_
  unfold Oper.wp execOp
  simp only [ho, hx, hy, Instr.storeAt, Instr.sureAddr, Sem.run_bind, Sem.run_pure, Result.andThen_ok, run_storeVarK w g off t ty cur cells hg hi hfit h1]
  exact hK _ _ h
end

/-- Elements laid flat. -/
def flat {α : Type} (cells : α → List Value) (xs : List α) : List Value := xs.flatMap cells
section
variable {α : Type} {cells : α → List Value} {k : Nat}
@[simp] theorem flat_nil : flat cells [] = [] := rfl
theorem flat_cons (x : α) (xs : List α) : flat cells (x :: xs) = cells x ++ flat cells xs := rfl
theorem flat_append (xs ys : List α) : flat cells (xs ++ ys) = flat cells xs ++ flat cells ys := by simp [flat]
theorem flat_length (hk : ∀ x, (cells x).length = k) (xs : List α) : (flat cells xs).length = xs.length * k := by
  induction xs with
  | nil => simp
  | cons x xs ih => rw [flat_cons, List.length_append, hk, ih, List.length_cons, Nat.add_mul]; omega
theorem flat_take (hk : ∀ x, (cells x).length = k) (xs : List α) (i : Nat) : (flat cells xs).take (i * k) = flat cells (xs.take i) := by
  induction xs generalizing i with
  | nil => simp
  | cons x xs ih =>
    cases i with
    | zero => simp
    | succ i =>
      rw [flat_cons, List.take_succ_cons, flat_cons, List.take_append, hk, show (i + 1) * k - k = i * k by rw [Nat.add_mul]; omega, ih, List.take_of_length_le (by rw [hk, Nat.add_mul]; omega)]
theorem flat_drop (hk : ∀ x, (cells x).length = k) (xs : List α) (i : Nat) : (flat cells xs).drop (i * k) = flat cells (xs.drop i) := by
  induction xs generalizing i with
  | nil => simp
  | cons x xs ih =>
    cases i with
    | zero => simp
    | succ i =>
      rw [flat_cons, List.drop_succ_cons, List.drop_append, hk, show (i + 1) * k - k = i * k by rw [Nat.add_mul]; omega, ih, List.drop_eq_nil_of_le (by rw [hk, Nat.add_mul]; omega), List.nil_append]
theorem flat_get (hk : ∀ x, (cells x).length = k) (xs : List α) (r : List Value) (i j : Nat) (hi : i < xs.length) (hj : j < k) : (flat cells xs ++ r)[i * k + j]? = (cells xs[i])[j]? := by
  have h1 : (flat cells xs).drop (i * k) = cells xs[i] ++ flat cells (xs.drop (i + 1)) := by
    rw [flat_drop hk, List.drop_eq_getElem_cons hi, flat_cons]
  have hlt : i * k + j < (flat cells xs).length := by
    rw [flat_length hk]
    have : (i + 1) * k ≤ xs.length * k := Nat.mul_le_mul_right k hi
    rw [Nat.add_mul] at this; omega
  rw [List.getElem?_append_left hlt, ← List.getElem?_drop, h1, List.getElem?_append_left (by rw [hk]; exact hj)]
theorem flat_set (hk : ∀ x, (cells x).length = k) (xs : List α) (r : List Value) (i : Nat) (u : α) (hi : i < xs.length) : spl (flat cells xs ++ r) (i * k) (cells u) = flat cells (xs.set i u) ++ r := by
  have hle : i * k + k ≤ xs.length * k := by
    have := Nat.mul_le_mul_right k (show i + 1 ≤ xs.length by omega)
    rw [Nat.add_mul] at this; omega
  unfold spl
  rw [List.take_append_of_le_length (by rw [flat_length hk]; omega), flat_take hk, hk, show i * k + k = (i + 1) * k by rw [Nat.add_mul]; omega, List.drop_append_of_le_length (by rw [flat_length hk, Nat.add_mul]; omega), flat_drop hk]
  have : xs.set i u = xs.take i ++ u :: xs.drop (i + 1) := by rw [List.set_eq_take_append_cons_drop, if_pos hi]
  rw [this, flat_append, flat_cons]
  simp
theorem flat_one (h1 : ∀ x, ∀ v ∈ cells x, v.oneCell' = true) (xs : List α) : ∀ v ∈ flat cells xs, v.oneCell' = true := by
  intro v hv
  unfold flat at hv
  obtain ⟨x, _, hx⟩ := List.mem_flatMap.1 hv
  exact h1 x v hx
end
end Go.Proofs.Ytoeohbihelfphaa
