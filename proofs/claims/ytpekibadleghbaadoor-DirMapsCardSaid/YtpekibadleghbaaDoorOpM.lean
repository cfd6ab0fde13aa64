/-
  A slice of a script's steps, as it comes in.
-/
import Derived.Test.YtpekibadleghbaaDoorD26
import Derived.Test.YtpekibadleghbaaDoorN28
import Derived.OpenShut
import Derived.ShutString
import Derived.SizedLaws
import Derived.Deep.Slices
import Derived.ChangeSame
import Derived.ChangeArms
import Derived.Deep.Strs
namespace Go.Proofs.YtpekibadleghbaaDoor
open Go.ChangeShapes Go.WideShapes Go.ChangeAt Go.RowKit
set_option linter.unusedVariables false
section
variable {H : Type} {enc : TypeId × Value → H} {w : World}
theorem open_ops {len cap : Nat} {a : Option Addr} {d : DataW H} {p : List MemPlace} (h : DataW.Trod enc Tryd.prog w 0 (fun _ => true) true 62 (.slice a len cap) d p) :
    ∃ f : Nat → OpD, OpsAt w a len f ∧ len ≤ cap ∧ (cap = 0 ∨ ∃ es sp, d = .slice es sp ∧ es.length + sp.length = cap ∧ ∀ i, i < len → ∃ x y, DataW.agg [x, .lit (.string (f i).nm.data.toList), y] ∈ es) := by
  obtain ⟨fuel, hfu⟩ := h
  rcases Deep.open_slice Tryd.underlying62 hfu with ⟨hcs, _⟩ | ⟨ad, l, c, m, n, D, Pl, hcs, _, hl, hm, hmm, hx, hcell⟩
  · simp [Value.cells] at hcs
    obtain ⟨rfl, rfl, rfl⟩ := hcs
    exact ⟨fun _ => ⟨0, ⟨#[]⟩, 0⟩, .inl rfl, Nat.le_refl _, .inl rfl⟩
  · simp [Value.cells] at hcs
    obtain ⟨rfl, rfl, rfl⟩ := hcs
    simp only [if_true] at hmm
    subst hmm
    have h2 : Tryd.prog.cellsOf 65 = 3 := by kernel_rfl
    have h9 : Tryd.prog.cellsOf 9 = 1 := by kernel_rfl
    have h3 : Tryd.prog.cellsOf 3 = 1 := by kernel_rfl
    have each : ∀ i, ∃ e : OpD, i < m → (w.cell? ((ad.add (i * 3)).add 0) = some (.int .i64 e.kind) ∧ w.cell? ((ad.add (i * 3)).add 1) = some (.string e.nm) ∧ w.cell? ((ad.add (i * 3)).add 2) = some (.int .i64 e.ino)) ∧ ∃ x y, D i = .agg [x, .lit (.string e.nm.data.toList), y] := by
      intro i
      by_cases hi : i < m
      · obtain ⟨cs', q1, q2⟩ := hcell i hi
        rw [h2] at q1
        obtain ⟨_, hlen, hce⟩ := World.cells?_some q1
        obtain ⟨y0, y1, y2, k, hd, _, f0, f1, f2⟩ := Deep.trod_struct3 Tryd.underlying65 q2
        obtain ⟨z0, hz0, _⟩ := DataW.trod_int Tryd.underlying3 f0
        obtain ⟨s, hs1, hs2, _⟩ := DataW.trod_string Tryd.underlying9 f1
        obtain ⟨z2, hz2, _⟩ := DataW.trod_int Tryd.underlying3 f2
        have e0 : cs'[0]? = some (.int .i64 z0) := by
          have : ((cs'.drop 0).take (Tryd.prog.cellsOf 3))[0]? = some (.int .i64 z0) := by rw [show (cs'.drop 0).take (Tryd.prog.cellsOf 3) = _ from hz0]; rfl
          rw [h3] at this
          simpa using this
        have e1 : cs'[1]? = some (.string s) := by
          have : ((cs'.drop 1).take (Tryd.prog.cellsOf 9))[0]? = some (.string s) := by rw [show (cs'.drop 1).take (Tryd.prog.cellsOf 9) = _ from hs1]; rfl
          rw [h9] at this
          simpa using this
        have e2 : cs'[2]? = some (.int .i64 z2) := by
          have : ((cs'.drop 2).take (Tryd.prog.cellsOf 3))[0]? = some (.int .i64 z2) := by rw [show (cs'.drop 2).take (Tryd.prog.cellsOf 3) = _ from hz2]; rfl
          rw [h3] at this
          simpa using this
        have c0 := hce 0 (by omega)
        have c1 := hce 1 (by omega)
        have c2 := hce 2 (by omega)
        rw [e0] at c0
        rw [e1] at c1
        rw [e2] at c2
        refine ⟨⟨z0, s, z2⟩, fun _ => ⟨⟨c0, c1, c2⟩, y0.1, y2.1, ?_⟩⟩
        have := congrArg Prod.fst hd
        simp only at this
        rw [this, hs2]
      · exact ⟨⟨0, ⟨#[]⟩, 0⟩, fun h => absurd h hi⟩
    refine ⟨fun i => (each i).choose, ?_, hl, .inr ⟨_, _, congrArg Prod.fst hx, by simp; omega, fun i hi => ?_⟩⟩
    · rcases Nat.eq_zero_or_pos len with h0 | h0
      · exact .inl h0
      · right
        obtain ⟨v, q⟩ : ∃ v, w.cell? ((ad.add (0 * 3)).add 0) = some v := ⟨_, ((each 0).choose_spec (by omega)).1.1⟩
        obtain ⟨g, o, s⟩ := ad
        have hs : s = none := by
          cases s with
          | none => rfl
          | some n => simp [Addr.add, World.cell?] at q; split at q <;> simp at q
        subst hs
        refine ⟨g, o, rfl, fun i hi => ?_⟩
        have q2 := ((each i).choose_spec (by omega)).1
        dsimp only
        generalize (each i).choose = e at q2 ⊢
        simp only [addr_add0, Nat.add_zero] at q2
        exact q2
    · obtain ⟨x, y, hy⟩ := ((each i).choose_spec (by omega)).2
      refine ⟨x, y, ?_⟩
      rw [← hy]
      exact List.mem_map.2 ⟨i, by simpa using hi, rfl⟩
theorem sized_opname {ts : List TypeId} {ds : List (DataW H)} (h : (DataW.weightsEach Tryd.prog ts ds).all (· ≤ reachBytes) = true) {j : Nat} {elems spare : List (DataW H)} {b : List UInt8} {x y : DataW H}
    (ht : ts[j]? = some 62) (hd : ds[j]? = some (.slice elems spare)) (hx : DataW.agg [x, .lit (.string b), y] ∈ elems) : b.length ≤ reachBytes := by
  refine of_decide_eq_true (List.all_eq_true.1 h _ (DataW.weights_mem_each ht hd _ ?_))
  simp only [DataW.weights, Tryd.underlying62, List.mem_cons, List.mem_append]
  exact .inr (.inl (weightsAll_in hx _ (by simp [DataW.weights, Tryd.underlying65, DataW.weightsEach])))
end
theorem dirMaps_below (salt : Nat → Byte) (a : Option Addr) (n cap : Nat) (f : Nat → OpD) (s : Int) (w : World) (h : OpsAt w a n f) (hnc : n ≤ cap) (hcap2 : cap * 32 ≤ 140737488351232) (hs : ∀ i, i < n → (f i).nm.size ≤ 140737488351232) (hi : (Lit.int .i64 s).wf = true) (hl : KeysAt w) :
    Calls Tryd.prog 9 #[.agg (Fs 16 salt), .slice a n cap, .int .i64 s] w fun e w' => e = .returned (.bool true) ∧ Below w.heap.size w w' :=
  (dirMaps_any salt a n cap f s w hl h (by omega) hs (bounds_i64 hi).1 (bounds_i64 hi).2).mono fun _ _ ⟨he, hk⟩ => ⟨he, below_of hk⟩
end Go.Proofs.YtpekibadleghbaaDoor
