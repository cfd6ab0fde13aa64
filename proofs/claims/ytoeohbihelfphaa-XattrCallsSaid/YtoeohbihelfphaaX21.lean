/-
  The walk of XattrCalls, as its row takes it.
-/
import Derived.Test.YtoeohbihelfphaaX20
import Derived.Test.YtoeohbihelfphaaOpX
namespace Go.Proofs.Ytoeohbihelfphaa
open Go.RowKit
set_option linter.unusedVariables false
set_option linter.unusedSimpArgs false
theorem xattrCalls_below (a : Option Addr) (cap : Nat) (cs : List Xc) (xs : List Xa) (nm : ByteArray) (va : Option Addr) (vn vc : Nat) (f : Nat → Byte) (w : World) (h : XsAt w a cs xs) (hn : xs.length ≤ cap) (hcap : cap * 40 ≤ 140737488351232) (hs : ∀ i, i < xs.length → (nthA xs i).nm.size ≤ 140737488351232) (hv : ∀ i, i < xs.length → (nthA xs i).val.length ≤ 140737488351232)
    (hns : nm.size ≤ 140737488351232) (hb : BytesAt w va vn f) (h0 : va = none → vn = 0) (hnc : vn ≤ vc) (hvc : vc ≤ 140737488351232) :
    Calls Try.prog 4 #[.slice a xs.length cap, .string nm, .slice va vn vc] w fun e w' => e = .returned (.bool true) ∧ Below w.heap.size w w' := by
  have hl : ((List.range vn).map f).length = vn := by simp
  refine (xattrCalls_any a cap cs xs nm va vn vc ((List.range vn).map f) w h (by omega) hs hv hns ⟨hl, hnc, (show vc ≤ 9223372036854775807 by omega), h0, ?_⟩ (by omega)).mono fun _ _ ⟨h, k⟩ => ⟨h, k.os, k.tape, k.output, k.size, fun i hi => k.block i hi (fun h => h)⟩
  rcases hb with h | ⟨g, o, h1, h2⟩
  · exact .inl h
  · refine .inr ⟨g, o, h1, fun i hi => ?_⟩
    rw [h2 i hi]
    simp [hi]
end Go.Proofs.Ytoeohbihelfphaa
