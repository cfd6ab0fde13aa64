/-
  What the two tables hold when a call begins; the laws' walks as the rows want them.
-/
import Derived.Test.YtpekibadleghbaaDoorN27
import Derived.Test.YtpekibadleghbaaDoorRows
import Derived.LaidMore
import Derived.OpenShut
import Derived.Stop.Joined
namespace Go.Proofs.YtpekibadleghbaaDoor
open Go.ChangeShapes Go.WideShapes Go.ChangeAt Go.RowKit
set_option linter.unusedVariables false
set_option linter.unusedSimpArgs false
theorem kT_len : kT.length = 64 := by decide
theorem table_at {cs : Array Value} {w : World} {g : Nat} {name : String} {fuel : Nat} {p : List MemPlace} (hg : Tryd.prog.globalNamed name = some g)
    (hv : w.var? Tryd.prog name = some cs) (hd : DataW.trod (fun _ : TypeId × Value => ()) Tryd.prog w 0 (fun _ => true) false fuel 103 cs.toList = some (.agg (kT.map fun k => .lit (.int .u32 (iW k))), p)) (r : Nat) (hr : r < 64) : w.cell? ⟨g, r, none⟩ = some (W (kk r)) := by
  obtain ⟨xs, m, _, ex, _, hl, hel⟩ := DataW.trod_array Tryd.underlying103 hd
  have c23 : Tryd.prog.cellsOf 23 = 1 := by kernel_rfl
  have hE := hel r hr
  rw [c23, Nat.mul_one, List.getElem?_eq_getElem (by omega)] at hE
  obtain ⟨z, e1, e2, _⟩ := DataW.trod_int Tryd.underlying23 hE
  have hlen := kT_len
  have e3 : (xs.map (·.1)) = kT.map fun k => .lit (.int .u32 (iW k)) := (DataW.agg.inj (Prod.mk.inj ex).1).symm
  have e4 : (xs.map (·.1))[r]? = (kT.map fun k => (DataW.lit (.int .u32 (iW k)) : DataW Unit))[r]? := by rw [e3]
  rw [List.getElem?_map, List.getElem?_map, List.getElem?_eq_getElem (by omega : r < xs.length), List.getElem?_eq_getElem (by omega : r < kT.length), e2] at e4
  have hz : z = iW (kk r) := by
    simp only [Option.map_some, Option.some.injEq, DataW.lit.injEq, Lit.int.injEq, true_and] at e4
    rw [e4]
    unfold kk
    rw [List.getD, List.getElem?_eq_getElem (by omega : r < kT.length)]; rfl
  rw [World.var?_cell hg hv r, show W (kk r) = .int .u32 z from by rw [hz]]
  have : cs.toList[r]? = some (.int .u32 z) := by
    have h0 : ((cs.toList.drop r).take 1)[0]? = some (.int .u32 z) := by rw [e1]; rfl
    simpa using h0
  simpa using this
theorem laidRef : (Rows.laid_cloister_cloisterref01_k : DataW Unit) = .agg (kT.map fun k => .lit (.int .u32 (iW k))) := by kernel_rfl
theorem laidKeys : (Rows.laid_cloister_sha_keys : DataW Unit) = .agg (kT.map fun k => .lit (.int .u32 (iW k))) := by kernel_rfl
theorem gRef : Tryd.prog.globalNamed "cloister/cloisterref01.k" = some 0 := by kernel_rfl
theorem gKeys : Tryd.prog.globalNamed "cloister/sha.keys" = some 1 := by kernel_rfl
theorem tRef : (Tryd.prog.globals[0]?).map (·.type) = some 103 := by kernel_rfl
theorem tKeys : (Tryd.prog.globals[1]?).map (·.type) = some 103 := by kernel_rfl
theorem both_of_laid {w : World} (h : laidMetH Tryd.prog [("cloister/cloisterref01.k", Rows.laid_cloister_cloisterref01_k), ("cloister/sha.keys", Rows.laid_cloister_sha_keys)] w) : KeysRef w ∧ KeysAt w := by
  rw [MakeChecks.laidMetH_plain _ _ _ (by kernel_rfl)] at h
  obtain ⟨ps, ⟨g0, t0, cs0, f0, p0, q0, hg0, ht0, hv0, hd0, ⟨g1, t1, cs1, f1, p1, q1, hg1, ht1, hv1, hd1, _, _⟩, _⟩, _, _⟩ := h
  obtain rfl := Option.some.inj (gRef.symm.trans hg0)
  obtain rfl := Option.some.inj (gKeys.symm.trans hg1)
  obtain rfl := Option.some.inj (tRef.symm.trans ht0)
  obtain rfl := Option.some.inj (tKeys.symm.trans ht1)
  rw [laidRef] at hd0
  rw [laidKeys] at hd1
  exact ⟨fun r hr => table_at hg0 hv0 hd0 r hr, fun r hr => table_at hg1 hv1 hd1 r hr⟩
theorem keys_of_laid {w : World} (h : laidMetH Tryd.prog [("cloister/sha.keys", Rows.laid_cloister_sha_keys)] w) : KeysAt w := by
  rw [MakeChecks.laidMetH_plain _ _ _ (by kernel_rfl)] at h
  obtain ⟨ps, ⟨g1, t1, cs1, f1, p1, q1, hg1, ht1, hv1, hd1, _, _⟩, _, _⟩ := h
  obtain rfl := Option.some.inj (gKeys.symm.trans hg1)
  obtain rfl := Option.some.inj (tKeys.symm.trans ht1)
  rw [laidKeys] at hd1
  exact fun r hr => table_at hg1 hv1 hd1 r hr
theorem below_of {w w' : World} (h : Kept (fun _ => False) w w') : Below w.heap.size w w' := (h.mono (fun _ _ h => h.elim)).below (Nat.le_refl _)
theorem salts_below (a b : Nat → Byte) (s : ByteArray) (w : World) (hs : s.size ≤ 140737488351232) (hl : KeysRef w ∧ KeysAt w) :
    Calls Tryd.prog 3 #[.agg (Fs 16 a), .agg (Fs 16 b), .string s] w fun e w' => e = .returned (.bool true) ∧ Below w.heap.size w w' :=
  (namesSalts_any a b s w hl.2 hl.1 hs).mono fun _ _ ⟨he, hk⟩ => ⟨he, below_of hk⟩
theorem calls_below (salt : Nat → Byte) (a b : ByteArray) (w : World) (ha : a.size ≤ 140737488351232) (hb : b.size ≤ 140737488351232) (hl : KeysRef w ∧ KeysAt w) :
    Calls Tryd.prog 4 #[.agg (Fs 16 salt), .string a, .string b] w fun e w' => e = .returned (.bool true) ∧ Below w.heap.size w w' :=
  (namesCalls_any salt a b w hl.2 hl.1 ha hb).mono fun _ _ ⟨he, hk⟩ => ⟨he, below_of hk⟩
theorem orders_below (salt : Nat → Byte) (a b c : ByteArray) (w : World) (ha : a.size ≤ 140737488351232) (hb : b.size ≤ 140737488351232) (hc : c.size ≤ 140737488351232) (hl : KeysRef w ∧ KeysAt w) :
    Calls Tryd.prog 5 #[.agg (Fs 16 salt), .string a, .string b, .string c] w fun e w' => e = .returned (.bool true) ∧ Below w.heap.size w w' :=
  (namesOrders_any salt a b c w hl.2 hl.1 ha hb hc).mono fun _ _ ⟨he, hk⟩ => ⟨he, below_of hk⟩
end Go.Proofs.YtpekibadleghbaaDoor
