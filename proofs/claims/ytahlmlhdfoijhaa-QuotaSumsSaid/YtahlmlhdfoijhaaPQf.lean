/-
  The answers that the document fixes: fixed comes to true.
-/
import Derived.Test.YtahlmlhdfoijhaaPQe
import Derived.Test.YtahlmlhdfoijhaaPQx7
namespace Go.Proofs.Ytahlmlhdfoijhaa.PQ
open Go.RowKit
theorem fixed_eq (k : Nat) (hk : 20 ≤ k) : cloisterlaw20_fixed.f k = some true := by
  unfold cloisterlaw20_fixed.f quota_Charge.f quota_Limit.f
  have h1 : outL (chargeU (([] : List S29).map toU) 5 2 1) = ([⟨5, 2, 1, -1, -1⟩], 0) := by decide
  have h2 : outL (limitU (([⟨5, 2, 1, -1, -1⟩] : List S29).map toU) 5 3 (-1)) = ([⟨5, 2, 1, 3, -1⟩], 0) := by decide
  have h3 : outL (chargeU (([⟨5, 2, 1, 3, -1⟩] : List S29).map toU) 5 2 0) = ([], 52) := by decide
  simp only [h1, h2, h3, Option.bind_some, if_true]
  rw [same_eq _ _ k (by simp) (by simp; omega)]
  simp
end Go.Proofs.Ytahlmlhdfoijhaa.PQ
