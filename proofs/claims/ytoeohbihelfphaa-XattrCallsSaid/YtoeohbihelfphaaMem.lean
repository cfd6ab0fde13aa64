/-
  Small words of memory: a world that kept all old blocks but some; rows of bytes that are given by a function.
-/
import Derived.WalkKit
import Derived.WalkSpells
import Derived.WalkLawsBesides
import Derived.StillTailTactics
import Derived.Deep.LoopGhost
import Derived.Deep.DeepCutAuto
import Derived.Deep.CutBlock
import Derived.Deep.MidRow
import Derived.Lib.Hide
import Derived.Deep.RegionHeld3
import Derived.Deep.RegionWith
import Derived.Deep.RegionLaw
import Derived.BigQuiet
import Derived.Deep.DeepFit
namespace Go.Proofs.Ytoeohbihelfphaa
open Go.RowKit
set_option linter.unusedVariables false
set_option linter.unusedSimpArgs false

/-- All blocks of w but those in S are in w' as they were; the streams, too. -/
structure Kept (S : Nat → Prop) (w w' : World) : Prop where
  os : w'.os = w.os
  tape : w'.tape = w.tape
  output : w'.output = w.output
  size : w.heap.size ≤ w'.heap.size
  block : ∀ k, k < w.heap.size → ¬ S k → w'.heap[k]? = w.heap[k]?

theorem Kept.refl (S : Nat → Prop) (w : World) : Kept S w w := ⟨rfl, rfl, rfl, Nat.le_refl _, fun _ _ _ => rfl⟩

theorem Kept.trans {S S' : Nat → Prop} {a b c : World} (h : Kept S a b) (k : Kept S' b c) (hs : ∀ i, i < a.heap.size → S' i → S i) : Kept S a c :=
  ⟨k.os.trans h.os, k.tape.trans h.tape, k.output.trans h.output, Nat.le_trans h.size k.size,
    fun i hi hn => (k.block i (Nat.lt_of_lt_of_le hi h.size) (fun h' => hn (hs i hi h'))).trans (h.block i hi hn)⟩

theorem Kept.mono {S S' : Nat → Prop} {a b : World} (h : Kept S a b) (hs : ∀ i, i < a.heap.size → S i → S' i) : Kept S' a b :=
  ⟨h.os, h.tape, h.output, h.size, fun i hi hn => h.block i hi (fun h' => hn (hs i hi h'))⟩

theorem Kept.drew {S : Nat → Prop} {a w : World} (h : Kept S a w) : Kept S a w.drew := ⟨h.os, h.tape, h.output, h.size, h.block⟩

theorem size_alloc (w : World) (o : Obj) : (w.alloc o).heap.size = w.heap.size + 1 := by show (w.heap.push o).size = _; simp

theorem Kept.alloc {S : Nat → Prop} {a w : World} (h : Kept S a w) (o : Obj) : Kept S a (w.alloc o) :=
  h.trans (S' := fun _ => False) ⟨rfl, rfl, rfl, by rw [size_alloc]; omega, fun k hk _ => Below.heap_alloc _ _ _ hk⟩ (fun _ _ h => h.elim)

theorem size_setCell (w : World) (p : Addr) (u : Value) : (w.setCell p u).heap.size = w.heap.size := by simp [World.setCell]

theorem Kept.setCell {S : Nat → Prop} {a w : World} (h : Kept S a w) {p : Addr} (hp : p.block < a.heap.size → S p.block) (u : Value) : Kept S a (w.setCell p u) :=
  h.trans (S' := fun k => k = p.block) ⟨rfl, rfl, rfl, by rw [size_setCell]; omega, fun k _ hn => Below.heap_setCell _ _ _ _ hn⟩ (fun i hi e => by rw [e] at hi ⊢; exact hp hi)

theorem Kept.below {B : Nat} {w w' : World} (h : Kept (fun k => B ≤ k) w w') (hB : B ≤ w.heap.size) : Below B w w' :=
  ⟨h.os, h.tape, h.output, h.size, fun k hk => h.block k (by omega) (by omega)⟩

/-- A block of w that is not in S. -/
theorem Kept.at {S : Nat → Prop} {w w' : World} (h : Kept S w w') {k : Nat} {o : Obj} (ho : w.heap[k]? = some o) (hn : ¬ S k) : w'.heap[k]? = some o := by
  have hk : k < w.heap.size := by
    rcases Nat.lt_or_ge k w.heap.size with h' | h'
    · exact h'
    · simp [Array.getElem?_eq_none h'] at ho
  rw [h.block k hk hn, ho]

theorem lt_of_at {w : World} {k : Nat} {o : Obj} (ho : w.heap[k]? = some o) : k < w.heap.size := by
  rcases Nat.lt_or_ge k w.heap.size with h' | h'
  · exact h'
  · simp [Array.getElem?_eq_none h'] at ho

abbrev Byte := BitVec 8
/-- A byte as a number; closed to the walk's own words. -/
def iB (b : Byte) : Int := (b.toNat : Int)
abbrev B (b : Byte) : Value := .int .u8 (iB b)
theorem iB_ge (b : Byte) : 0 ≤ iB b := Int.natCast_nonneg _
theorem iB_lt (b : Byte) : iB b < 256 := by have := b.isLt; unfold iB; omega
theorem iB_toNat (b : Byte) : (iB b).toNat = b.toNat := rfl
theorem iB_inj {a b : Byte} (h : iB a = iB b) : a = b := by unfold iB at h; exact BitVec.eq_of_toNat_eq (by omega)
/-- A row of n bytes. -/
def Fs (n : Nat) (f : Nat → Byte) : Array Value := ((List.range n).map fun i => B (f i)).toArray
def upd (f : Nat → Byte) (i : Nat) (v : Byte) : Nat → Byte := fun j => if j = i then v else f j
theorem upd_same (f : Nat → Byte) (i : Nat) (v : Byte) : upd f i v i = v := by simp [upd]
theorem upd_other (f : Nat → Byte) (i j : Nat) (v : Byte) (h : j ≠ i) : upd f i v j = f j := by simp [upd, h]

theorem Fs_size (n : Nat) (f : Nat → Byte) : (Fs n f).size = n := by simp [Fs]
theorem Fs_get (n : Nat) (f : Nat → Byte) (i : Nat) (h : i < n) : (Fs n f)[i]? = some (B (f i)) := by simp [Fs, h]
theorem Fs_set (n : Nat) (f : Nat → Byte) (i : Nat) (v : Byte) : (Fs n f).setIfInBounds i (B v) = Fs n (upd f i v) := by
  unfold Fs upd
  rw [List.setIfInBounds_toArray]
  congr 1
  apply List.ext_getElem
  · simp
  · intro j h1 h2
    simp only [List.length_set, List.length_map, List.length_range] at h1
    simp only [List.getElem_set, List.getElem_map, List.getElem_range]
    by_cases h : i = j
    · subst h; simp
    · simp [h, Ne.symm h]
theorem Fs_congr {n : Nat} {f g : Nat → Byte} (h : ∀ i, i < n → f i = g i) : Fs n f = Fs n g := by
  unfold Fs; congr 1; apply List.map_congr_left; intro i hi; rw [h i (by simpa using hi)]

/-- The block g of w is a row of n bytes of type t. -/
abbrev Row (w : World) (g t n : Nat) (f : Nat → Byte) : Prop := w.heap[g]? = some (.cells (Fs n f) t (0, 0))

theorem Row.cell {w : World} {g t n : Nat} {f : Nat → Byte} (h : Row w g t n f) {i : Nat} (hi : i < n) : w.cell? ⟨g, i, none⟩ = some (B (f i)) := by
  rw [cell_of_row w g i _ t _ h, Fs_get n f i hi]
theorem Row.free {w : World} {g t n : Nat} {f : Nat → Byte} (h : Row w g t n f) (i : Nat) : w.frozen? ⟨g, i, none⟩ = false := frozen_of_row w g i _ t h
theorem Row.set {w : World} {g t n : Nat} {f : Nat → Byte} (h : Row w g t n f) (i : Nat) (v : Byte) : Row (w.setCell ⟨g, i, none⟩ (B v)) g t n (upd f i v) := by
  unfold Row
  rw [heap_setCell_same w g i _ t _ h, Fs_set]
theorem Row.other {w : World} {g t n : Nat} {f : Nat → Byte} (h : Row w g t n f) {p : Addr} (hp : g ≠ p.block) (u : Value) : Row (w.setCell p u) g t n f := by
  unfold Row
  rw [heap_setCell_other w p g u hp]; exact h
theorem Row.congr {w : World} {g t n : Nat} {f f' : Nat → Byte} (h : Row w g t n f) (e : ∀ i, i < n → f i = f' i) : Row w g t n f' := by
  unfold Row; rw [← Fs_congr e]; exact h

theorem Fs_one (n : Nat) (f : Nat → Byte) : (Fs n f).all (·.oneCell') = true := by
  rw [Array.all_eq_true_iff_forall_mem]
  intro v hv
  unfold Fs at hv
  simp only [List.mem_toArray, List.mem_map] at hv
  obtain ⟨i, _, rfl⟩ := hv
  rfl
theorem Row.row {w : World} {g t n : Nat} {f f' : Nat → Byte} (h : Row w g t n f) : Row (w.setRow g (Fs n f')) g t n f' := setRow_heap w g _ _ t _ h
theorem Row.rowOther {w : World} {g g' t n : Nat} {f : Nat → Byte} (h : Row w g t n f) (hne : g ≠ g') (cs : Array Value) : Row (w.setRow g' cs) g t n f := by
  unfold Row; rw [setRow_other w g' g cs hne]; exact h
theorem Kept.setRow {S : Nat → Prop} {a w : World} (h : Kept S a w) {g : Nat} (hp : g < a.heap.size → S g) (cs : Array Value) : Kept S a (w.setRow g cs) :=
  h.trans (S' := fun k => k = g) ⟨rfl, rfl, rfl, by rw [size_setRow]; omega, fun k _ hn => setRow_other w g k cs hn⟩ (fun i hi e => by rw [e] at hi ⊢; exact hp hi)
theorem Kept.setNew {S : Nat → Prop} {a w : World} (h : Kept S a w) {p : Addr} (hp : a.heap.size ≤ p.block) (u : Value) : Kept S a (w.setCell p u) :=
  h.setCell (fun h' => absurd h' (by omega)) u
theorem Kept.setRowNew {S : Nat → Prop} {a w : World} (h : Kept S a w) {g : Nat} (hp : a.heap.size ≤ g) (cs : Array Value) : Kept S a (w.setRow g cs) :=
  h.setRow (fun h' => absurd h' (by omega)) cs
theorem Row.alloc {w : World} {g t n : Nat} {f : Nat → Byte} (h : Row w g t n f) (o : Obj) : Row (w.alloc o) g t n f := by
  unfold Row; rw [Below.heap_alloc w o g (lt_of_at h)]; exact h
theorem Row.new (w : World) (t n : Nat) (f : Nat → Byte) : Row (w.alloc (.cells (Fs n f) t)) w.heap.size t n f := heap_alloc_new w _
theorem Row.lt {w : World} {g t n : Nat} {f : Nat → Byte} (h : Row w g t n f) : g < w.heap.size := lt_of_at h

/- The byte's operations. -/
theorem byte_lt (a : Byte) : (a.toNat : Int) < 256 := by have := a.isLt; omega
theorem xorB (a b : Byte) : bits .xor .u8 (iB a) (iB b) = iB (a ^^^ b) := by
  unfold iB
  simp only [bits, IntKind.bits, BitVec.ofInt_natCast, BitVec.ofNat_toNat, BitVec.setWidth_eq, IntKind.wrap_u8]
  exact Int.emod_eq_of_lt (Int.natCast_nonneg _) (byte_lt (a ^^^ b))
theorem byte_of (n : Int) (h0 : 0 ≤ n) (h1 : n < 256) : ∃ b : Byte, n = iB b := ⟨BitVec.ofInt 8 n, by unfold iB; rw [BitVec.toNat_ofInt]; omega⟩

section
variable {P : Program} {id : Nat} {Q : Exit → Act → World → Prop} {a : Act} {w : World} {l : List Oper}
theorem region_still (hm : P.follows .mixedOrders = true) (hB : Region.lexB .any l.toArray = true)
    (h : wpStill P l.toArray w.drew (fun a' => Q .normal a' w.drew) l a) : (Code.region id l.toArray true).wp P Q a w := wp_region_still_lit hm hB h
theorem build_eq {ops : Array Oper} {rest : List Oper} {o : Oper} (hg : o.guard = none) (t : TypeId) (parts : Array (Nat × Operand)) (ho : o.op = .build t parts) {cs : Array Value}
    (hb : P.built t (parts.map fun (i, x) => (i, a.eval x)).toList = some cs) (h : wpList P ops Q rest (a.put o.dst (.agg cs)) w) : wpList P ops Q (o :: rest) a w :=
  wpList_build hg t parts ho (by rw [hb]; rfl) (by rw [hb]; exact h)
theorem region_tail (n : Nat) (hm : P.follows .mixedOrders = true) (hB : Region.lexTailB .any l.toArray n = true)
    (h : wpStill P l.toArray w.drew (fun a' => wpList P l.toArray Q (l.drop n) a' w.drew) (l.take n) a) : (Code.region id l.toArray true).wp P Q a w := wp_region_still_tail n hm hB h
end
end Go.Proofs.Ytoeohbihelfphaa
