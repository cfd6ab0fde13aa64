/-
  Bytes that a slice leads to: as they come in; as a string.
-/
import Derived.Test.YtoeohbihelfphaaOpen
import Derived.SizedLaws
namespace Go.Proofs.Ytoeohbihelfphaa
open Go.ChangeShapes Go.WideShapes Go.ChangeAt Go.RowKit
set_option linter.unusedVariables false
set_option linter.unusedSimpArgs false
/-- Bytes that a slice leads to. -/
def BytesAt (w : World) (a : Option Addr) (len : Nat) (f : Nat → Byte) : Prop := len = 0 ∨ ∃ g o, a = some ⟨g, o, none⟩ ∧ ∀ i, i < len → w.cell? ⟨g, o + i, none⟩ = some (B (f i))
theorem Kept.cell {w w' : World} (h : Kept (fun _ => False) w w') {p : Addr} {v : Value} (hc : w.cell? p = some v) : w'.cell? p = some v := by
  have hb := block_lt_of_cell hc
  have := h.block p.block hb (fun h => h)
  rw [World.cell?_of_block (w := w) this]; exact hc
theorem BytesAt.kept {w w' : World} {a : Option Addr} {len : Nat} {f : Nat → Byte} (h : BytesAt w a len f) (k : Kept (fun _ => False) w w') : BytesAt w' a len f := by
  rcases h with h | ⟨g, o, ha, hc⟩
  · exact .inl h
  · exact .inr ⟨g, o, ha, fun i hi => k.cell (hc i hi)⟩
theorem BytesAt.take {w : World} {a : Option Addr} {len n : Nat} {f : Nat → Byte} (h : BytesAt w a len f) (hn : n ≤ len) : BytesAt w a n f := by
  rcases h with h | ⟨g, o, ha, hc⟩
  · exact .inl (by omega)
  · exact .inr ⟨g, o, ha, fun i hi => hc i (by omega)⟩
theorem Row.bytes {w : World} {g t n : Nat} {f : Nat → Byte} (h : Row w g t n f) : BytesAt w (some ⟨g, 0, none⟩) n f :=
  .inr ⟨g, 0, rfl, fun i hi => by rw [Nat.zero_add]; exact h.cell hi⟩
/-- A string of n bytes. -/
def strOf (n : Nat) (f : Nat → Byte) : ByteArray := ⟨((List.range n).map fun i => UInt8.ofNat (f i).toNat).toArray⟩
theorem strOf_congr {n : Nat} {f g : Nat → Byte} (h : ∀ i, i < n → f i = g i) : strOf n f = strOf n g := by
  unfold strOf; congr 2; apply List.map_congr_left; intro i hi; rw [h i (by simpa using hi)]
theorem fold_push (f : Nat → Byte) : ∀ (l : List Nat) (s : ByteArray), (l.map fun i => iB (f i)).foldl (fun r n => r.push (UInt8.ofNat n.toNat)) s = ⟨s.data ++ (l.map fun i => UInt8.ofNat (f i).toNat).toArray⟩
  | [], s => by simp
  | i :: l, s => by
    simp only [List.map_cons, List.foldl_cons]
    rw [fold_push f l]
    congr 1
    show (s.data.push _) ++ _ = _
    simp [iB_toNat]
theorem run_loadBytes {P : Program} (w : World) (a : Option Addr) (len : Nat) (f : Nat → Byte) (x : Addr) (ha : a = some x) (h : BytesAt w a len f) :
    (loadCells x len).run P w = .ok (((List.range len).map fun i => iB (f i)).map (Value.int .u8)).toArray w := by
  subst ha
  have hl : len = (((List.range len).map fun i => iB (f i)).map (Value.int .u8)).length := by simp
  have := run_loadCells_list (P := P) w x (((List.range len).map fun i => iB (f i)).map (Value.int .u8)) (fun j v hv => by
    rcases h with h | ⟨g, o, hx, hc⟩
    · subst h; simp at hv
    · obtain rfl : x = ⟨g, o, none⟩ := by simpa using hx
      have hj : j < len := by
        have := (List.getElem?_eq_some_iff.1 hv).1
        simpa using this
      have hadd : (⟨g, o, none⟩ : Addr).add j = ⟨g, o + j, none⟩ := by unfold Addr.add; split <;> simp_all
      rw [hadd, hc j hj, ← hv]
      simp [hj])
  rw [← hl] at this
  exact this
theorem conv_str {P : Program} (w : World) (src dst e : TypeId) (a : Option Addr) (len cap : Nat) (f : Nat → Byte)
    (hs : P.underlying src = some (.slice e)) (he : P.underlying e = some (.int .u8)) (hd : P.underlying dst = some .string) (h : BytesAt w a len f) (h0 : a = none → len = 0) :
    (convert src dst (.slice a len cap)).run P w = .ok (.string (strOf len f)) w := by
  rw [run_convert_bytes_string w src dst e a len cap hs he hd]
  cases a with
  | none => rw [h0 rfl]; rfl
  | some x =>
    rw [run_bytesToString w x len cap _ (run_loadBytes w _ len f x rfl h), fold_push]
    simp [strOf]
section
variable {H : Type} {enc : TypeId × Value → H} {P : Program} {w : World}
theorem open_byte_slice {t e len cap : Nat} {a : Option Addr} {d : DataW H} {p : List MemPlace} (ht : P.underlying t = some (.slice e)) (he : P.underlying e = some (.int .u8)) (hc : P.cellsOf e = 1)
    (h : DataW.Trod enc P w 0 (fun _ => true) true t (.slice a len cap) d p) :
    ∃ f, BytesAt w a len f ∧ (a = none → len = 0) ∧ len ≤ cap ∧ ((cap = 0) ∨ ∃ es sp, d = .slice es sp ∧ es.length + sp.length = cap) := by
  obtain ⟨fuel, hf⟩ := h
  rcases open_ints ht he hc hf with ⟨hcs, _⟩ | ⟨x, l, c, zs, hcs, _, hl, _, hz, hx, hcell, hwz⟩
  · simp [Value.cells] at hcs
    obtain ⟨rfl, rfl, rfl⟩ := hcs
    exact ⟨fun _ => 0#8, .inl rfl, fun _ => rfl, Nat.le_refl _, .inl rfl⟩
  · simp [Value.cells] at hcs
    obtain ⟨rfl, rfl, rfl⟩ := hcs
    simp only [if_true] at hz
    refine ⟨fun i => BitVec.ofInt 8 (zs.getD i 0), ?_, (fun h => by cases h), hl, .inr ⟨_, _, (congrArg Prod.fst hx), by simp [lits]; omega⟩⟩
    rcases Nat.eq_zero_or_pos len with h0 | h0
    · exact .inl h0
    · right
      have h1 := hcell 0 (by omega)
      obtain ⟨g, o, s⟩ := x
      have hs : s = none := by
        cases s with
        | none => rfl
        | some n => simp [Addr.add, World.cell?] at h1; split at h1 <;> simp at h1
      subst hs
      refine ⟨g, o, rfl, fun i hi => ?_⟩
      have h2 := hcell i (by omega)
      have hadd : (⟨g, o, none⟩ : Addr).add i = ⟨g, o + i, none⟩ := by unfold Addr.add; split <;> simp_all
      rw [hadd] at h2
      have bd := bounds_u8 (hwz (zs.getD i 0) (by
        rw [List.getD_eq_getElem?_getD, List.getElem?_eq_getElem (by omega), Option.getD_some]; exact List.getElem_mem _))
      rw [h2]
      congr 2
      unfold iB
      rw [BitVec.toNat_ofInt]
      omega
end
end Go.Proofs.Ytoeohbihelfphaa
