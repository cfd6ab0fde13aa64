/-
  What a right list is, and the walk of Check.
-/
import Derived.Test.YtahlmlhdfoijhaaQ3
namespace Go.Proofs.Ytahlmlhdfoijhaa
open Go.RowKit
section
variable {P : Program} {ops : Array Oper} {Q : Exit → Act → World → Prop} {S : World → Prop}
/-- A call whose guard denies it. -/
theorem HeldSeq.pass {i : Nat} {r : List (Nat × Bool)} {a : Act} {w : World} {o : Oper} (ho : ops[i]? = some o) (hg : Region.wanted o (yielded ops a.tmps) = false) (hS : S w)
    (h : HeldSeq P ops S Q r (a.put o.dst undef) w) : HeldSeq P ops S Q ((i, false) :: r) a w := by
  show wpOp P ops Q i _ a w
  unfold wpOp
  simp only [ho, hg]
  exact ⟨hS, h⟩
end
def okU (u : U) : Bool := inr u.uid 0 && inr u.bl 0 && inr u.ino 0 && inr u.mb (-1) && inr u.mi (-1)
def fineAt (f : Nat → U) (n : Nat) : Bool := okU (f n) && !idleB (f n) && (decide (n = 0) || decide ((f (n - 1)).uid < (f n).uid))
def Right (la : Nat) (f : Nat → U) : Prop := la ≤ 8 ∧ ∀ i, i < la → fineAt f i = true
end Go.Proofs.Ytahlmlhdfoijhaa
