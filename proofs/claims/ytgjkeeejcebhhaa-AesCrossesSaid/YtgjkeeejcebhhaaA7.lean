/-
  Two arrays of 16 bytes are equal, or not.
-/
import Derived.Test.YtgjkeeejcebhhaaA6
namespace Go.Proofs.Ytgjkeeejcebhhaa
open Go.RowKit
def eqB (n : Nat) (f g : Nat → Byte) : Bool := (List.range n).all fun i => f i == g i
theorem eqB_iff (n : Nat) (f g : Nat → Byte) : eqB n f g = true ↔ ∀ i, i < n → f i = g i := by simp [eqB]
theorem isAgg5 (w : World) : (isAgg 5).run Try.prog w = .ok false w := by kernel_rfl
theorem size5 (w : World) : (sizeOf 5).run Try.prog w = .ok 1 w := by kernel_rfl
theorem part5 (n : Nat) (f : Nat → Byte) (i : Nat) (h : i < n) (w : World) : (part 5 (Fs n f) (i * 1)).run Try.prog w = .ok (B (f i)) w := by
  unfold part
  simp only [Sem.run_bind, isAgg5, Result.andThen_ok, Nat.mul_one, Fs_get n f i h]
  rfl
theorem eq5 (d : Nat) (a b : Byte) (w : World) : (Op.equalIn (d + 1) 5 (B a) (B b)).run Try.prog w = .ok (a == b) w := by
  rw [Op.equalIn]
  simp only [Sem.run_bind, run_underlying Try.underlying5, Result.andThen_ok, if_true]
  have e : (iB a == iB b) = (a == b) := by
    by_cases h : a = b
    · subst h; rw [beq_self_eq_true, beq_self_eq_true]
    · have : iB a ≠ iB b := fun e => h (iB_inj e)
      rw [beq_eq_false_iff_ne.2 this, beq_eq_false_iff_ne.2 h]
  rw [e]; rfl
theorem eq_loop (f g : Nat → Byte) (n d : Nat) (w : World) : ∀ (l : List Nat), (∀ i ∈ l, i < n) →
   (forIn (m := Sem) l ((none : Option Bool), ()) (fun i _ => do
              let x ← part 5 (Fs n f) (i * 1)
              let y ← part 5 (Fs n g) (i * 1)
              let r ← Op.equalIn (d + 1) 5 x y
              if (!r) = true then pure (ForInStep.done (some false, ())) else pure (ForInStep.yield (none, ())))).run Try.prog w = .ok (if l.all (fun i => f i == g i) then none else some false, ()) w
  | [], _ => rfl
  | i :: l, h => by
    simp only [List.forIn_cons, Sem.run_bind, part5 n f i (h i (by simp)), part5 n g i (h i (by simp)), Result.andThen_ok, eq5]
    by_cases e : f i = g i
    · simp only [e, beq_self_eq_true, Bool.not_true, Bool.false_eq_true, if_false, Sem.run_pure, Result.andThen_ok, List.all_cons, Bool.true_and]
      exact eq_loop f g n d w l (fun j hj => h j (by simp [hj]))
    · have e' : (f i == g i) = false := by simp [e]
      simp [e', Sem.run_pure]
theorem eq22 (f g : Nat → Byte) (w : World) : (Op.equal 22 (.agg (Fs 16 f)) (.agg (Fs 16 g))).run Try.prog w = .ok (eqB 16 f g) w := by
  unfold Op.equal Op.maxDepth
  rw [Op.equalIn]
  simp only [Sem.run_bind, run_underlying Try.underlying22, Result.andThen_ok, size5, Std.Legacy.Range.forIn_eq_forIn_range', Std.Legacy.Range.size]
  have := eq_loop f g 16 9998 w (List.range 16) (by simp)
  rw [List.range_eq_range'] at this
  simp only [Nat.sub_zero, Nat.add_sub_cancel, Nat.div_one] at *
  rw [this]
  simp only [Result.andThen_ok]
  unfold eqB
  rw [List.range_eq_range']
  generalize (List.range' 0 16).all (fun i => f i == g i) = r
  cases r <;> rfl
end Go.Proofs.Ytgjkeeejcebhhaa
