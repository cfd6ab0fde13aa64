/-
  The walk of sha.word.
-/
import Derived.Test.YtpekibadleghbaaDoorN1
import Derived.Test.YtpekibadleghbaaDoorBts
import Derived.IntWalk
namespace Go.Proofs.YtpekibadleghbaaDoor
open Go.RowKit
set_option linter.unusedVariables false
set_option linter.unusedSimpArgs false
attribute [local go_sem] modB shl24 shl16 shl8 orW orB
set_option maxRecDepth 100000 in
set_option maxHeartbeats 1000000 in
theorem word_any (a : Option Addr) (len cap p : Nat) (f : Nat → Byte) (w : World) (hc : BytesAt w a len f) (hp : p + 3 < len) (hl : len ≤ 140737488355328) :
    Calls Tryd.prog 77 #[.slice a len cap, .int .i64 p] w fun r w' => r = .returned (W (wordAt f p)) ∧ w' = w.drew := by
  obtain ⟨g, o, rfl, hcell⟩ := hc.resolve_left (by omega)
  have c0 := hcell p (by omega)
  have c1 := hcell (p + 1) (by omega)
  have c2 := hcell (p + 2) (by omega)
  have c3 := hcell (p + 3) (by omega)
  clear hcell
  have q0 : (0 : Int) ≤ p := by omega
  have q1 : (p : Int) + 3 < len := by omega
  have q2 : (len : Int) ≤ 140737488355328 := by omega
  have n0 : p < len := by omega
  have n1 : p + 1 < len := by omega
  have i1 : (p : Int) + 1 < len := by omega
  have z1 : (0 : Int) ≤ p + 1 := by omega
  have t1 : ((p : Int) + 1).toNat = p + 1 := by omega
  have n2 : p + 2 < len := by omega
  have i2 : (p : Int) + 2 < len := by omega
  have z2 : (0 : Int) ≤ p + 2 := by omega
  have t2 : ((p : Int) + 2).toNat = p + 2 := by omega
  have n3 : p + 3 < len := by omega
  have i3 : (p : Int) + 3 < len := by omega
  have z3 : (0 : Int) ≤ p + 3 := by omega
  have t3 : ((p : Int) + 3).toNat = p + 3 := by omega
  have w3 : IntKind.i64.wrap ((p : Int) + 3) = (p : Int) + 3 := IntWalk.i64_in _ (by omega)
  have w2 : IntKind.i64.wrap ((p : Int) + 2) = (p : Int) + 2 := IntWalk.i64_in _ (by omega)
  have w1 : IntKind.i64.wrap ((p : Int) + 1) = (p : Int) + 1 := IntWalk.i64_in _ (by omega)
  go_enter Tryd.func77, Tryd.ntmps77
  go_wp2_with fail
  refine region_still (by kernel_rfl) (by kernel_rfl) ?_
  repeat (refine wpStill_step (fun K hK => ?_); go_simp; (first | (go_bits; refine hK _ ?_) | refine hK _ ?_); clear hK K)
  refine wpStill_nil ?_
  go_wp2_with fail
  go_ret
  exact ⟨rfl, rfl⟩
end Go.Proofs.YtpekibadleghbaaDoor
