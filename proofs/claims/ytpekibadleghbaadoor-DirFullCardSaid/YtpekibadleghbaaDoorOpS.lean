/-
  A slice of texts, as it comes in; the walk of DirFull as the row wants it.
-/
import Derived.Test.YtpekibadleghbaaDoorD17
import Derived.Test.YtpekibadleghbaaDoorOpE
namespace Go.Proofs.YtpekibadleghbaaDoor
open Go.ChangeShapes Go.WideShapes Go.ChangeAt Go.RowKit
set_option linter.unusedVariables false
section
variable {H : Type} {enc : TypeId × Value → H} {w : World}
theorem open_strs {len cap : Nat} {a : Option Addr} {d : DataW H} {p : List MemPlace} (h : DataW.Trod enc Tryd.prog w 0 (fun _ => true) true 31 (.slice a len cap) d p) :
    ∃ f : Nat → ByteArray, ListS w a len f ∧ len ≤ cap ∧ (cap = 0 ∨ ∃ es sp, d = .slice es sp ∧ es.length + sp.length = cap ∧ ∀ i, i < len → DataW.lit (.string (f i).data.toList) ∈ es) := by
  obtain ⟨fuel, hfu⟩ := h
  have h9 : Tryd.prog.cellsOf 9 = 1 := by kernel_rfl
  rcases Deep.open_slice1 Tryd.underlying31 h9 hfu with ⟨hcs, _⟩ | ⟨ad, l, c, m, n, V, D, Pl, hcs, _, hl, hm, hmm, hx, hcell⟩
  · simp [Value.cells] at hcs
    obtain ⟨rfl, rfl, rfl⟩ := hcs
    exact ⟨fun _ => ⟨#[]⟩, .inl rfl, Nat.le_refl _, .inl rfl⟩
  · simp [Value.cells] at hcs
    obtain ⟨rfl, rfl, rfl⟩ := hcs
    simp only [if_true] at hmm
    subst hmm
    have each : ∀ i, ∃ s : ByteArray, i < m → w.cell? (ad.add i) = some (.string s) ∧ D i = .lit (.string s.data.toList) := by
      intro i
      by_cases hi : i < m
      · obtain ⟨q1, q2⟩ := hcell i hi
        obtain ⟨s, hs1, hs2, _⟩ := DataW.trod_string Tryd.underlying9 q2
        simp only [List.cons.injEq, and_true] at hs1
        refine ⟨s, fun _ => ⟨by rw [q1, hs1], ?_⟩⟩
        have := congrArg Prod.fst hs2
        simpa using this
      · exact ⟨⟨#[]⟩, fun h => absurd h hi⟩
    refine ⟨fun i => (each i).choose, ?_, hl, .inr ⟨_, _, congrArg Prod.fst hx, by simp; omega, fun i hi => ?_⟩⟩
    · rcases Nat.eq_zero_or_pos len with h0 | h0
      · exact .inl h0
      · right
        obtain ⟨v, q⟩ : ∃ v, w.cell? (ad.add 0) = some v := ⟨_, ((each 0).choose_spec (by omega)).1⟩
        obtain ⟨g, o, s⟩ := ad
        have hs : s = none := by
          cases s with
          | none => rfl
          | some n => simp [Addr.add, World.cell?] at q; split at q <;> simp at q
        subst hs
        refine ⟨g, o, rfl, fun i hi => ?_⟩
        have q2 := ((each i).choose_spec (by omega)).1
        show w.cell? ⟨g, o + i, none⟩ = some (.string (each i).choose)
        generalize (each i).choose = e at q2 ⊢
        simp only [addr_add0] at q2
        exact q2
    · have q2 := ((each i).choose_spec (by omega)).2
      show DataW.lit (.string (each i).choose.data.toList) ∈ _
      rw [← q2]
      exact List.mem_map.2 ⟨i, by simpa using hi, rfl⟩
theorem sized_text {ts : List TypeId} {ds : List (DataW H)} (h : (DataW.weightsEach Tryd.prog ts ds).all (· ≤ reachBytes) = true) {j : Nat} {elems spare : List (DataW H)} {b : List UInt8}
    (ht : ts[j]? = some 31) (hd : ds[j]? = some (.slice elems spare)) (hx : DataW.lit (.string b) ∈ elems) : b.length ≤ reachBytes := by
  refine of_decide_eq_true (List.all_eq_true.1 h _ (DataW.weights_mem_each ht hd _ ?_))
  simp only [DataW.weights, Tryd.underlying31, List.mem_cons, List.mem_append]
  exact .inr (.inl (weightsAll_in hx _ (by simp [DataW.weights])))
end
theorem dirFull_below (salt : Nat → Byte) (a : Option Addr) (n cap : Nat) (f : Nat → ByteArray) (w : World) (h : ListS w a n f) (hn : n ≤ cap) (hm : cap * 16 ≤ 140737488351232) (hs : ∀ i, i < n → (f i).size ≤ 140737488351232) (hl : KeysAt w) :
    Calls Tryd.prog 6 #[.agg (Fs 16 salt), .slice a n cap] w fun e w' => e = .returned (.bool true) ∧ Below w.heap.size w w' :=
  (dirFull_any salt a n cap f w hl h (by omega) hs).mono fun _ _ ⟨he, hk⟩ => ⟨he, below_of hk⟩
end Go.Proofs.YtpekibadleghbaaDoor
