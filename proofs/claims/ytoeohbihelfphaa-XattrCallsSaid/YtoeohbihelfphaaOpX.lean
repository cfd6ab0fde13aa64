/-
  A slice of attributes, as it comes in.
-/
import Derived.Test.YtoeohbihelfphaaX13
import Derived.OpenShut
import Derived.ShutString
import Derived.SizedLaws
import Derived.Deep.Slices
import Derived.ChangeSame
import Derived.ChangeArms
namespace Go.Proofs.Ytoeohbihelfphaa
open Go.ChangeShapes Go.WideShapes Go.ChangeAt Go.RowKit
set_option linter.unusedVariables false
section
variable {H : Type} {enc : TypeId × Value → H} {w : World}
theorem addr_add0X (g o i : Nat) : (⟨g, o, none⟩ : Addr).add i = ⟨g, o + i, none⟩ := by unfold Addr.add; split <;> simp_all
theorem open_byte_cells {cl : List Value} {fuel : Nat} {d : DataW H} {p : List MemPlace} (hf : DataW.trod enc Try.prog w 0 (fun _ => true) true fuel 24 cl = some (d, p)) :
    ∃ (b : Option Addr) (m c : Nat) (v : List Byte), cl = [.slice b m c] ∧ v.length = m ∧ m ≤ c ∧ (b = none → m = 0) ∧ BytesAt w b m (fun i => v.getD i 0#8) ∧ ((c = 0) ∨ ∃ es sp, d = .slice es sp ∧ es.length + sp.length = c) := by
  rcases open_ints Try.underlying24 Try.underlying5 (by kernel_rfl) hf with ⟨hcs, _⟩ | ⟨x, l, c, zs, hcs, _, hl, _, hz, hx, hcell, hwz⟩
  · exact ⟨none, 0, 0, [], hcs, rfl, Nat.le_refl _, fun _ => rfl, .inl rfl, .inl rfl⟩
  · simp only [if_true] at hz
    refine ⟨some x, l, c, (List.range l).map fun i => BitVec.ofInt 8 (zs.getD i 0), hcs, by simp, hl, (fun h => by cases h), ?_, .inr ⟨_, _, (congrArg Prod.fst hx), by simp [lits]; omega⟩⟩
    rcases Nat.eq_zero_or_pos l with h0 | h0
    · exact .inl h0
    · right
      have h1 := hcell 0 (by omega)
      obtain ⟨g, o, s⟩ := x
      have hs : s = none := by
        cases s with
        | none => rfl
        | some n => simp [Addr.add, World.cell?] at h1; split at h1 <;> simp at h1
      subst hs
      refine ⟨g, o, rfl, fun i hi => ?_⟩
      have h2 := hcell i (by omega)
      rw [addr_add0X] at h2
      have bd := bounds_u8 (hwz (zs.getD i 0) (by
        rw [List.getD_eq_getElem?_getD, List.getElem?_eq_getElem (by omega), Option.getD_some]; exact List.getElem_mem _))
      rw [h2]
      have e : ((List.range l).map fun i => BitVec.ofInt 8 (zs.getD i 0)).getD i 0#8 = BitVec.ofInt 8 (zs.getD i 0) := by
        rw [List.getD_eq_getElem?_getD, List.getElem?_map, List.getElem?_range hi]; rfl
      show some (Value.int .u8 (zs.getD i 0)) = some (B (((List.range l).map fun i => BitVec.ofInt 8 (zs.getD i 0)).getD i 0#8))
      rw [e]
      congr 2
      unfold iB
      rw [BitVec.toNat_ofInt]
      omega
theorem open_xattrs {len cap : Nat} {a : Option Addr} {d : DataW H} {p : List MemPlace} (h : DataW.Trod enc Try.prog w 0 (fun _ => true) true 22 (.slice a len cap) d p) :
    ∃ (cs : List Xc) (xs : List Xa), cs.length = len ∧ xs.length = len ∧ ListC w a len (nthC cs) ∧ len ≤ cap ∧ (cap = 0 ∨ ∃ es sp, d = .slice es sp ∧ es.length + sp.length = cap ∧ ∀ i, i < len → (nthC cs i).nm = (nthA xs i).nm ∧ (nthA xs i).val.length = (nthC cs i).n ∧ (nthC cs i).n ≤ (nthC cs i).c ∧ ((nthC cs i).a = none → (nthC cs i).n = 0) ∧ BytesAt w (nthC cs i).a (nthC cs i).n (fun j => (nthA xs i).val.getD j 0#8) ∧
      ∃ y, DataW.agg [.lit (.string (nthA xs i).nm.data.toList), y] ∈ es ∧ ((nthC cs i).c = 0 ∨ ∃ es2 sp2, y = .slice es2 sp2 ∧ es2.length + sp2.length = (nthC cs i).c)) := by
  obtain ⟨fuel, hfu⟩ := h
  rcases Deep.open_slice Try.underlying22 hfu with ⟨hcs, _⟩ | ⟨ad, l, c, m, n, D, Pl, hcs, _, hl, hm, hmm, hx, hcell⟩
  · simp [Value.cells] at hcs
    obtain ⟨rfl, rfl, rfl⟩ := hcs
    exact ⟨[], [], rfl, rfl, .inl rfl, Nat.le_refl _, .inl rfl⟩
  · simp [Value.cells] at hcs
    obtain ⟨rfl, rfl, rfl⟩ := hcs
    simp only [if_true] at hmm
    subst hmm
    have h2 : Try.prog.cellsOf 26 = 2 := by kernel_rfl
    have h9 : Try.prog.cellsOf 9 = 1 := by kernel_rfl
    have h3 : Try.prog.cellsOf 24 = 1 := by kernel_rfl
    have each : ∀ i, ∃ e : Xc × Xa, i < m → (w.cell? (ad.add (i * 2)) = some (.string e.1.nm) ∧ w.cell? ((ad.add (i * 2)).add 1) = some (.slice e.1.a e.1.n e.1.c)) ∧ e.1.nm = e.2.nm ∧ e.2.val.length = e.1.n ∧ e.1.n ≤ e.1.c ∧ (e.1.a = none → e.1.n = 0) ∧ BytesAt w e.1.a e.1.n (fun j => e.2.val.getD j 0#8) ∧ ∃ y, D i = .agg [.lit (.string e.2.nm.data.toList), y] ∧ (e.1.c = 0 ∨ ∃ es2 sp2, y = .slice es2 sp2 ∧ es2.length + sp2.length = e.1.c) := by
      intro i
      by_cases hi : i < m
      · obtain ⟨cs', q1, q2⟩ := hcell i hi
        rw [h2] at q1
        obtain ⟨_, hlen, hce⟩ := World.cells?_some q1
        obtain ⟨y0, y1, k, hd, _, f0, f1⟩ := trod_struct2 Try.underlying26 q2
        obtain ⟨s, hs1, hs2, _⟩ := DataW.trod_string Try.underlying9 f0
        obtain ⟨y1d, y1p⟩ := y1
        obtain ⟨b, vm, vc, v, hv1, hv2, hv3, hv4, hv5, hv6⟩ := open_byte_cells f1
        have e0 : cs'[0]? = some (.string s) := by
          have : ((cs'.drop 0).take (Try.prog.cellsOf 9))[0]? = some (.string s) := by rw [show (cs'.drop 0).take (Try.prog.cellsOf 9) = _ from hs1]; rfl
          rw [h9] at this
          simpa using this
        have e1 : cs'[1]? = some (.slice b vm vc) := by
          have : ((cs'.drop 1).take (Try.prog.cellsOf 24))[0]? = some (.slice b vm vc) := by rw [show (cs'.drop 1).take (Try.prog.cellsOf 24) = _ from hv1]; rfl
          rw [h3] at this
          simpa using this
        have c0 := hce 0 (by omega)
        have c1 := hce 1 (by omega)
        rw [e0] at c0
        rw [e1] at c1
        refine ⟨⟨⟨s, b, vm, vc⟩, ⟨s, v⟩⟩, fun _ => ⟨⟨by simpa [Addr.add] using c0, c1⟩, rfl, hv2, hv3, hv4, hv5, y1d, ?_, hv6⟩⟩
        have := congrArg Prod.fst hd
        simp only at this
        rw [this, hs2]
      · exact ⟨⟨⟨⟨#[]⟩, none, 0, 0⟩, ⟨⟨#[]⟩, []⟩⟩, fun h => absurd h hi⟩
    have hn1 : ∀ i, i < len → nthC ((List.range len).map fun i => (each i).choose.1) i = (each i).choose.1 := fun i hi => by
      unfold nthC
      rw [List.getD_eq_getElem?_getD, List.getElem?_map, List.getElem?_range hi]; rfl
    have hn2 : ∀ i, i < len → nthA ((List.range len).map fun i => (each i).choose.2) i = (each i).choose.2 := fun i hi => by
      unfold nthA
      rw [List.getD_eq_getElem?_getD, List.getElem?_map, List.getElem?_range hi]; rfl
    refine ⟨(List.range len).map fun i => (each i).choose.1, (List.range len).map fun i => (each i).choose.2, by simp, by simp, ?_, hl, .inr ⟨_, _, congrArg Prod.fst hx, by simp; omega, fun i hi => ?_⟩⟩
    · rcases Nat.eq_zero_or_pos len with h0 | h0
      · exact .inl h0
      · right
        obtain ⟨v, q⟩ : ∃ v, w.cell? (ad.add (0 * 2)) = some v := ⟨_, ((each 0).choose_spec (by omega)).1.1⟩
        obtain ⟨g, o, s⟩ := ad
        have hs : s = none := by
          cases s with
          | none => rfl
          | some n => simp [Addr.add, World.cell?] at q; split at q <;> simp at q
        subst hs
        refine ⟨g, o, rfl, fun i hi => ?_⟩
        have q2 := ((each i).choose_spec (by omega)).1
        rw [hn1 i hi]
        generalize (each i).choose = e at q2 ⊢
        simp only [addr_add0X] at q2
        exact q2
    · obtain ⟨_, r1, r2, r3, r4, r5, y, r6, r7⟩ := (each i).choose_spec (by omega)
      rw [hn1 i hi, hn2 i hi]
      refine ⟨r1, r2, r3, r4, r5, y, ?_, r7⟩
      rw [← r6]
      exact List.mem_map.2 ⟨i, by simpa using hi, rfl⟩
theorem weightsAll_inX {P : Program} {e : TypeId} : ∀ {l : List (DataW H)} {d : DataW H}, d ∈ l → ∀ n ∈ d.weights P e, n ∈ DataW.weightsAll P e l
  | [], _, hd, _, _ => by simp at hd
  | x :: l, d, hd, n, hn => by
    simp only [DataW.weightsAll, List.mem_append]
    rcases List.mem_cons.1 hd with rfl | h
    · exact .inl hn
    · exact .inr (weightsAll_inX h n hn)
theorem sized_xname {ts : List TypeId} {ds : List (DataW H)} (h : (DataW.weightsEach Try.prog ts ds).all (· ≤ reachBytes) = true) {j : Nat} {elems spare : List (DataW H)} {b : List UInt8} {y : DataW H}
    (ht : ts[j]? = some 22) (hd : ds[j]? = some (.slice elems spare)) (hx : DataW.agg [.lit (.string b), y] ∈ elems) : b.length ≤ reachBytes := by
  refine of_decide_eq_true (List.all_eq_true.1 h _ (DataW.weights_mem_each ht hd _ ?_))
  simp only [DataW.weights, Try.underlying22, List.mem_cons, List.mem_append]
  exact .inr (.inl (weightsAll_inX hx _ (by simp [DataW.weights, Try.underlying26, DataW.weightsEach])))
theorem sized_xval {ts : List TypeId} {ds : List (DataW H)} (h : (DataW.weightsEach Try.prog ts ds).all (· ≤ reachBytes) = true) {j : Nat} {elems spare es2 sp2 : List (DataW H)} {b : List UInt8}
    (ht : ts[j]? = some 22) (hd : ds[j]? = some (.slice elems spare)) (hx : DataW.agg [.lit (.string b), .slice es2 sp2] ∈ elems) : es2.length + sp2.length ≤ reachBytes := by
  have hby : Try.prog.bytesOf 5 = 1 := by kernel_rfl
  have key : (es2.length + sp2.length) * Try.prog.bytesOf 5 ≤ reachBytes := by
    refine of_decide_eq_true (List.all_eq_true.1 h _ (DataW.weights_mem_each ht hd _ ?_))
    simp only [DataW.weights, Try.underlying22, List.mem_cons, List.mem_append]
    exact .inr (.inl (weightsAll_inX hx _ (by simp [DataW.weights, Try.underlying26, Try.underlying24, DataW.weightsEach])))
  rw [hby] at key
  omega
theorem open_xs {W : World} {len cap : Nat} {a : Option Addr} {d : DataW H} {p : List MemPlace} (h : DataW.Trod enc Try.prog W 0 (fun _ => true) true 22 (.slice a len cap) d p) {ts : List TypeId} {ds : List (DataW H)}
    (hz : (DataW.weightsEach Try.prog ts ds).all (· ≤ reachBytes) = true) {j : Nat} (ht : ts[j]? = some 22) (hd : ds[j]? = some d) :
    ∃ (cs : List Xc) (xs : List Xa), xs.length = len ∧ XsAt W a cs xs ∧ len ≤ cap ∧ cap * 40 ≤ 140737488351232 ∧ (∀ i, i < xs.length → (nthA xs i).nm.size ≤ 140737488351232) ∧ (∀ i, i < xs.length → (nthA xs i).val.length ≤ 140737488351232) := by
  obtain ⟨cs, xs, h1, h2, h3, h4, h5⟩ := open_xattrs h
  have hr : reachBytes = 140737488351232 := rfl
  have each : ∀ i, i < len → ∃ es sp, d = .slice es sp ∧ es.length + sp.length = cap ∧ (nthC cs i).nm = (nthA xs i).nm ∧ (nthA xs i).val.length = (nthC cs i).n ∧ (nthC cs i).n ≤ (nthC cs i).c ∧ ((nthC cs i).a = none → (nthC cs i).n = 0) ∧ BytesAt W (nthC cs i).a (nthC cs i).n (fun j => (nthA xs i).val.getD j 0#8) ∧
      ∃ y, DataW.agg [.lit (.string (nthA xs i).nm.data.toList), y] ∈ es ∧ ((nthC cs i).c = 0 ∨ ∃ es2 sp2, y = .slice es2 sp2 ∧ es2.length + sp2.length = (nthC cs i).c) := fun i hi => by
    rcases h5 with h | ⟨es, sp, e1, e2, e3⟩
    · omega
    · obtain ⟨r1, r2, r3, r4, r5, r6⟩ := e3 i hi
      exact ⟨es, sp, e1, e2, r1, r2, r3, r4, r5, r6⟩
  have caps : ∀ i, i < len → (nthC cs i).c ≤ 140737488351232 := fun i hi => by
    obtain ⟨es, sp, rfl, _, _, _, _, _, _, y, hy, hc⟩ := each i hi
    rcases hc with h | ⟨es2, sp2, rfl, e⟩
    · omega
    · have := sized_xval hz ht hd hy
      rw [hr] at this; omega
  refine ⟨cs, xs, h2, ⟨by omega, by rw [h2]; exact h3, fun i hi => ?_, fun i hi => ?_⟩, h4, ?_, fun i hi => ?_, fun i hi => ?_⟩
  · obtain ⟨_, _, _, _, r1, _⟩ := each i (by omega)
    exact r1
  · obtain ⟨_, _, _, _, r1, r2, r3, r4, r5, _⟩ := each i (by omega)
    exact ⟨r2, r3, by have := caps i (by omega); omega, r4, r5⟩
  · rcases h5 with h | ⟨es, sp, rfl, e2, _⟩
    · omega
    · have hby : Try.prog.bytesOf 26 = 40 := by kernel_rfl
      have := sized_slice hz (j := j) (t := 22) (e := 26) ht hd Try.underlying22
      rw [hby, hr] at this
      omega
  · obtain ⟨es, sp, rfl, _, _, _, _, _, _, y, hy, _⟩ := each i (by omega)
    have := sized_xname hz ht hd hy
    rw [hr] at this
    simpa using this
  · obtain ⟨_, _, _, _, r1, r2, r3, _⟩ := each i (by omega)
    have := caps i (by omega); omega
end
theorem xattrMaps_below (a : Option Addr) (cap : Nat) (cs : List Xc) (xs : List Xa) (w : World) (h : XsAt w a cs xs) (hn : xs.length ≤ cap) (hcap : cap * 40 ≤ 140737488351232) (hs : ∀ i, i < xs.length → (nthA xs i).nm.size ≤ 140737488351232) (hv : ∀ i, i < xs.length → (nthA xs i).val.length ≤ 140737488351232) :
    Calls Try.prog 3 #[.slice a xs.length cap] w fun e w' => e = .returned (.bool true) ∧ Below w.heap.size w w' :=
  (xattrMaps_any a cap cs xs w h (by omega) hs hv).mono fun _ _ ⟨h, k⟩ => ⟨h, k.os, k.tape, k.output, k.size, fun i hi => k.block i hi (fun h => h)⟩
end Go.Proofs.Ytoeohbihelfphaa
