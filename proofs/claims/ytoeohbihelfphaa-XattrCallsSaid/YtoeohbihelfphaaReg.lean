/-
  A region that draws its order, walked in one chosen order: operations that yield in every world that meets S are taken when they are ready; the others stand in one chain.
-/
import Derived.Test.YtoeohbihelfphaaMem
import Derived.OrdersHeld
namespace Go.Proofs.Ytoeohbihelfphaa
open Go.RowKit
set_option linter.unusedVariables false
set_option linter.unusedSimpArgs false
section
variable {P : Program} {ops : Array Oper} {Q : Exit → Act → World → Prop} {S : World → Prop} {md : Region.Mode}

def permB (md : Region.Mode) (ops : Array Oper) : List (Nat × Bool) → Array Bool → Bool
  | [], listed => (Region.ready md ops listed).isEmpty
  | (i, true) :: r, listed => (Region.ready md ops listed).contains i && Region.free md ops listed i && permB md ops r (listed.setIfInBounds i true)
  | (i, false) :: r, listed => decide (Region.ready md ops listed = [i]) && permB md ops r (listed.setIfInBounds i true)
def permOk (ops : Array Oper) (l : List (Nat × Bool)) : Bool :=
  Region.noSelect ops && l.length == ops.size && permB .any ops l (Array.replicate ops.size false)

def HeldSeq (P : Program) (ops : Array Oper) (S : World → Prop) (Q : Exit → Act → World → Prop) : List (Nat × Bool) → Act → World → Prop
  | [], a, w => Q .normal a w
  | (i, true) :: r, a, w => ∃ o v, ops[i]? = some o ∧ YieldsIf P ops S o v a ∧ HeldSeq P ops S Q r (a.put o.dst v) w
  | (i, false) :: r, a, w => wpOp P ops Q i (fun a' w' => S w' ∧ HeldSeq P ops S Q r a' w') a w

theorem heldSeq_any (hs : Region.noSelect ops = true) (hQ : ∀ c a d v w, Q (.panic c) (Act.put a d v) w → Q (.panic c) a w) : ∀ (l : List (Nat × Bool)) (listed : Array Bool) (a : Act) (w : World),
    permB md ops l listed = true → S w → HeldSeq P ops S Q l a w → wpAnyH P md ops Q S l.length listed a w
  | [], listed, a, w, hB, _, h => ⟨by simpa [permB] using hB, h⟩
  | (i, true) :: r, listed, a, w, hB, hS, h => by
    simp only [permB, Bool.and_eq_true] at hB
    obtain ⟨o, v, ho, hy, h'⟩ := h
    exact wpAnyH_take ho hs hB.1.2 hB.1.1 (fun c a w => hQ c a _ _ w) hy hS (heldSeq_any hs hQ r _ _ _ hB.2 hS h')
  | (i, false) :: r, listed, a, w, hB, hS, h => by
    simp only [permB, Bool.and_eq_true, decide_eq_true_eq] at hB
    refine wpAnyH_all hB.1 (by simp) fun j hj => ?_
    obtain rfl : j = i := by simpa using hj
    exact wpOp_mono (fun a' w' hk => ⟨hk.1, heldSeq_any hs hQ r _ _ _ hB.2 hk.1 hk.2⟩) h

theorem region_perm {id : Nat} {a : Act} {w : World} {ol : List Oper} (S : World → Prop) (l : List (Nat × Bool)) (hm : P.follows .mixedOrders = true) (hB : permOk ol.toArray l = true)
    (hQ : ∀ c a d v w, Q (.panic c) (Act.put a d v) w → Q (.panic c) a w) (hS : S w.drew)
    (h : HeldSeq P ol.toArray S Q l a w.drew) : (Code.region id ol.toArray true).wp P Q a w := by
  simp only [permOk, Bool.and_eq_true, beq_iff_eq] at hB
  refine wp_region_held (S := S) hm ?_
  have h2 := heldSeq_any hB.1.1 hQ l (Array.replicate ol.toArray.size false) a _ hB.2 hS h
  rw [hB.1.2] at h2
  exact h2

/-- An operation that yields in every world that meets S. -/
theorem HeldSeq.take {i : Nat} {r : List (Nat × Bool)} {a : Act} {w : World} {o : Oper} {v : Value} (ho : ops[i]? = some o) (hg : Region.wanted o (yielded ops a.tmps) = true)
    (hy : ∀ w', S w' → (execOp a.eval o).run P w' = .ok (.value v) w') (h : HeldSeq P ops S Q r (a.put o.dst v) w) : HeldSeq P ops S Q ((i, true) :: r) a w :=
  ⟨o, v, ho, .inl ⟨hg, hy⟩, h⟩
/-- The next one in the chain. -/
theorem HeldSeq.run {i : Nat} {r : List (Nat × Bool)} {a : Act} {w : World} {o : Oper} (ho : ops[i]? = some o) (hg : Region.wanted o (yielded ops a.tmps) = true)
    (h : ∀ K : Act → World → Prop, (∀ a w, S w → HeldSeq P ops S Q r a w → K a w) → o.wp P a w K Q) : HeldSeq P ops S Q ((i, false) :: r) a w := by
  show wpOp P ops Q i _ a w
  unfold wpOp
  simp only [ho, hg, if_true]
  exact .inl (h _ fun a w hS hr => ⟨hS, hr⟩)
/-- An operation whose guard denies it. -/
theorem HeldSeq.skip {i : Nat} {r : List (Nat × Bool)} {a : Act} {w : World} {o : Oper} (ho : ops[i]? = some o) (hg : Region.wanted o (yielded ops a.tmps) = false)
    (h : HeldSeq P ops S Q r (a.put o.dst undef) w) : HeldSeq P ops S Q ((i, true) :: r) a w :=
  ⟨o, undef, ho, .inr ⟨hg, rfl⟩, h⟩
theorem HeldSeq.done {a : Act} {w : World} (h : Q .normal a w) : HeldSeq P ops S Q [] a w := h

theorem yields_row {a : Act} {o : Oper} {w : World} (ty : TypeId) (x : Operand) (ho : o.op = .load ty x)
    (g : Nat) (hx : a.eval x = .pointer (some ⟨g, 0, none⟩)) (t : TypeId) (cs : Array Value) (fr : Nat × Nat) (d : TypeDesc) (hg : w.heap[g]? = some (.cells cs t fr))
    (hu : P.underlying ty = some d) (hd : (match d with | .struct _ | .array _ _ => true | _ => false) = true) (hi : (P.info? ty).map (·.size) = some cs.size) :
    (execOp a.eval o).run P w = .ok (.value (.agg cs)) w := by
  unfold execOp
  simp only [ho, hx, Instr.loadAt, Instr.sureAddr, Sem.run_bind, Sem.run_pure, Result.andThen_ok, run_loadVar_row w g t ty cs fr d hg hu hd hi]
end
end Go.Proofs.Ytoeohbihelfphaa
