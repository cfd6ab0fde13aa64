/-
  A slice of entries, as it comes in.
-/
import Derived.Test.YtpekibadleghbaaDoorD15
import Derived.Test.YtpekibadleghbaaDoorN28
import Derived.OpenShut
import Derived.ShutString
import Derived.SizedLaws
import Derived.Deep.Slices
import Derived.ChangeSame
import Derived.ChangeArms
namespace Go.Proofs.YtpekibadleghbaaDoor
open Go.ChangeShapes Go.WideShapes Go.ChangeAt Go.RowKit
set_option linter.unusedVariables false
section
variable {H : Type} {enc : TypeId × Value → H} {w : World}
theorem addr_add0 (g o i : Nat) : (⟨g, o, none⟩ : Addr).add i = ⟨g, o + i, none⟩ := by unfold Addr.add; split <;> simp_all
theorem open_ents {len cap : Nat} {a : Option Addr} {d : DataW H} {p : List MemPlace} (h : DataW.Trod enc Tryd.prog w 0 (fun _ => true) true 32 (.slice a len cap) d p) :
    ∃ xs : List En, xs.length = len ∧ ListE w a len (nthE xs) ∧ (a = none → cap = 0) ∧ len ≤ cap ∧ (cap = 0 ∨ ∃ es sp, d = .slice es sp ∧ es.length + sp.length = cap ∧ ∀ i, i < len → ∃ y, DataW.agg [.lit (.string (nthE xs i).nm.data.toList), y] ∈ es) := by
  obtain ⟨fuel, hfu⟩ := h
  rcases Deep.open_slice Tryd.underlying32 hfu with ⟨hcs, _⟩ | ⟨ad, l, c, m, n, D, Pl, hcs, _, hl, hm, hmm, hx, hcell⟩
  · simp [Value.cells] at hcs
    obtain ⟨rfl, rfl, rfl⟩ := hcs
    exact ⟨[], rfl, .inl rfl, fun _ => rfl, Nat.le_refl _, .inl rfl⟩
  · simp [Value.cells] at hcs
    obtain ⟨rfl, rfl, rfl⟩ := hcs
    simp only [if_true] at hmm
    subst hmm
    have h2 : Tryd.prog.cellsOf 68 = 2 := by kernel_rfl
    have h9 : Tryd.prog.cellsOf 9 = 1 := by kernel_rfl
    have h3 : Tryd.prog.cellsOf 3 = 1 := by kernel_rfl
    have each : ∀ i, ∃ e : En, i < m → (w.cell? (ad.add (i * 2)) = some (.string e.nm) ∧ w.cell? ((ad.add (i * 2)).add 1) = some (.int .i64 e.ino)) ∧ ∃ y, D i = .agg [.lit (.string e.nm.data.toList), y] := by
      intro i
      by_cases hi : i < m
      · obtain ⟨cs', q1, q2⟩ := hcell i hi
        rw [h2] at q1
        obtain ⟨_, hlen, hce⟩ := World.cells?_some q1
        obtain ⟨y0, y1, k, hd, _, f0, f1⟩ := trod_struct2 Tryd.underlying68 q2
        obtain ⟨s, hs1, hs2, _⟩ := DataW.trod_string Tryd.underlying9 f0
        obtain ⟨z, hz, _⟩ := DataW.trod_int Tryd.underlying3 f1
        have e0 : cs'[0]? = some (.string s) := by
          have : ((cs'.drop 0).take (Tryd.prog.cellsOf 9))[0]? = some (.string s) := by rw [show (cs'.drop 0).take (Tryd.prog.cellsOf 9) = _ from hs1]; rfl
          rw [h9] at this
          simpa using this
        have e1 : cs'[1]? = some (.int .i64 z) := by
          have : ((cs'.drop 1).take (Tryd.prog.cellsOf 3))[0]? = some (.int .i64 z) := by rw [show (cs'.drop 1).take (Tryd.prog.cellsOf 3) = _ from hz]; rfl
          rw [h3] at this
          simpa using this
        have c0 := hce 0 (by omega)
        have c1 := hce 1 (by omega)
        rw [e0] at c0
        rw [e1] at c1
        refine ⟨⟨s, z⟩, fun _ => ⟨⟨by simpa [Addr.add] using c0, c1⟩, y1.1, ?_⟩⟩
        have := congrArg Prod.fst hd
        simp only at this
        rw [this, hs2]
      · exact ⟨⟨⟨#[]⟩, 0⟩, fun h => absurd h hi⟩
    have hf : ∀ i, ((List.range len).map fun i => (each i).choose)[i]? = if i < len then some (each i).choose else none := fun i => by
      rw [List.getElem?_map]
      by_cases hi : i < len
      · rw [List.getElem?_range hi, if_pos hi]; rfl
      · rw [List.getElem?_eq_none (by simp; omega), if_neg hi]; rfl
    have hn : ∀ i, i < len → nthE ((List.range len).map fun i => (each i).choose) i = (each i).choose := fun i hi => by
      unfold nthE
      rw [List.getD_eq_getElem?_getD, hf, if_pos hi]; rfl
    refine ⟨(List.range len).map fun i => (each i).choose, by simp, ?_, (fun h => by cases h), hl, .inr ⟨_, _, congrArg Prod.fst hx, by simp; omega, fun i hi => ?_⟩⟩
    · rcases Nat.eq_zero_or_pos len with h0 | h0
      · exact .inl h0
      · right
        obtain ⟨v, q⟩ : ∃ v, w.cell? (ad.add (0 * 2)) = some v := ⟨_, ((each 0).choose_spec (by omega)).1.1⟩
        obtain ⟨g, o, s⟩ := ad
        have hs : s = none := by
          cases s with
          | none => rfl
          | some n => simp [Addr.add, World.cell?] at q; split at q <;> simp at q
        subst hs
        refine ⟨g, o, rfl, fun i hi => ?_⟩
        have q2 := ((each i).choose_spec (by omega)).1
        rw [hn i hi]
        generalize (each i).choose = e at q2 ⊢
        simp only [addr_add0] at q2
        exact q2
    · obtain ⟨y, hy⟩ := ((each i).choose_spec (by omega)).2
      refine ⟨y, ?_⟩
      rw [hn i hi, ← hy]
      exact List.mem_map.2 ⟨i, by simpa using hi, rfl⟩
theorem weightsAll_in {P : Program} {e : TypeId} : ∀ {l : List (DataW H)} {d : DataW H}, d ∈ l → ∀ n ∈ d.weights P e, n ∈ DataW.weightsAll P e l
  | [], _, hd, _, _ => by simp at hd
  | x :: l, d, hd, n, hn => by
    simp only [DataW.weightsAll, List.mem_append]
    rcases List.mem_cons.1 hd with rfl | h
    · exact .inl hn
    · exact .inr (weightsAll_in h n hn)
theorem sized_name {ts : List TypeId} {ds : List (DataW H)} (h : (DataW.weightsEach Tryd.prog ts ds).all (· ≤ reachBytes) = true) {j : Nat} {elems spare : List (DataW H)} {b : List UInt8} {y : DataW H}
    (ht : ts[j]? = some 32) (hd : ds[j]? = some (.slice elems spare)) (hx : DataW.agg [.lit (.string b), y] ∈ elems) : b.length ≤ reachBytes := by
  refine of_decide_eq_true (List.all_eq_true.1 h _ (DataW.weights_mem_each ht hd _ ?_))
  simp only [DataW.weights, Tryd.underlying32, List.mem_cons, List.mem_append]
  exact .inr (.inl (weightsAll_in hx _ (by simp [DataW.weights, Tryd.underlying68, DataW.weightsEach])))
end
theorem dirCalls_below (salt : Nat → Byte) (a : Option Addr) (cap : Nat) (xs : List En) (nm : ByteArray) (ino n : Int) (w : World) (h : ListE w a xs.length (nthE xs)) (h0 : a = none → cap = 0) (hcap : xs.length ≤ cap) (hcap2 : cap * 24 ≤ 140737488351232) (hs : ∀ i, i < xs.length → (nthE xs i).nm.size ≤ 140737488351232) (h2 : nm.size ≤ 140737488351232) (hi : (Lit.int .i64 ino).wf = true) (hn1 : (Lit.int .i64 n).wf = true) (hl : KeysRef w ∧ KeysAt w) :
    Calls Tryd.prog 8 #[.agg (Fs 16 salt), .slice a xs.length cap, .string nm, .int .i64 ino, .int .i64 n] w fun e w' => e = .returned (.bool true) ∧ Below w.heap.size w w' :=
  (dirCalls_any salt a cap xs nm ino n w hl.2 hl.1 h h0 hcap hcap2 hs h2 (bounds_i64 hn1).2).mono fun _ _ ⟨he, hk⟩ => ⟨he, below_of hk⟩
end Go.Proofs.YtpekibadleghbaaDoor
