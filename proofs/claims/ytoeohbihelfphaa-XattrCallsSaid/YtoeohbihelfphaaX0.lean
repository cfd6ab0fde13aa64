/-
  Attributes, in plain words: right lists, what Get, Set and Drop answer.
-/
import Derived.Test.YtoeohbihelfphaaBts
import Derived.Lib.Bytealg
namespace Go.Proofs.Ytoeohbihelfphaa
open Go.RowKit
set_option linter.unusedVariables false
set_option linter.unusedSimpArgs false
/-- An attribute. -/
structure Xa where
  nm : ByteArray
  val : List Byte
def ltN (a b : ByteArray) : Bool := Op.bytesLess a.toList b.toList
def cmpN (a b : ByteArray) : Int := Lib.compareBytes a.data.toList b.data.toList
theorem toListX {a b : ByteArray} (h : a.toList = b.toList) : a = b := by
  rw [Lib.toList_data, Lib.toList_data] at h
  cases a; cases b
  congr 1
  exact Array.ext' h
theorem ltL_irr : ∀ x : List UInt8, Op.bytesLess x x = false
  | [] => rfl
  | a :: x => by simp [Op.bytesLess, ltL_irr x]
theorem ltL_trans : ∀ x y z : List UInt8, Op.bytesLess x y = true → Op.bytesLess y z = true → Op.bytesLess x z = true
  | _, [], _, h, _ => by simp [Op.bytesLess] at h
  | _, _ :: _, [], _, k => by simp [Op.bytesLess] at k
  | [], _ :: _, _ :: _, _, _ => rfl
  | a :: x, b :: y, c :: z, h, k => by
    simp only [Op.bytesLess, Bool.or_eq_true, decide_eq_true_eq, Bool.and_eq_true, beq_iff_eq] at h k ⊢
    rcases h with h | ⟨rfl, h⟩
    · rcases k with k | ⟨rfl, k⟩
      · exact .inl (UInt8.lt_trans h k)
      · exact .inl h
    · rcases k with k | ⟨rfl, k⟩
      · exact .inl k
      · exact .inr ⟨rfl, ltL_trans x y z h k⟩
theorem cmpL_cases : ∀ x y : List UInt8, (Lib.compareBytes x y = 0 ∧ x = y) ∨ (Lib.compareBytes x y = -1 ∧ Op.bytesLess x y = true) ∨ (Lib.compareBytes x y = 1 ∧ Op.bytesLess y x = true)
  | [], [] => .inl ⟨rfl, rfl⟩
  | [], _ :: _ => .inr (.inl ⟨rfl, rfl⟩)
  | _ :: _, [] => .inr (.inr ⟨rfl, rfl⟩)
  | a :: x, b :: y => by
    unfold Lib.compareBytes
    simp only [Op.bytesLess, Bool.or_eq_true, decide_eq_true_eq, Bool.and_eq_true, beq_iff_eq]
    by_cases h1 : a < b
    · rw [if_pos h1]
      exact .inr (.inl ⟨rfl, .inl h1⟩)
    · rw [if_neg h1]
      by_cases h2 : b < a
      · rw [if_pos h2]
        exact .inr (.inr ⟨rfl, .inl h2⟩)
      · rw [if_neg h2]
        obtain rfl : a = b := UInt8.toNat_inj.1 (by rw [UInt8.lt_iff_toNat_lt] at h1 h2; omega)
        rcases cmpL_cases x y with ⟨h, rfl⟩ | ⟨h, k⟩ | ⟨h, k⟩
        · exact .inl ⟨h, rfl⟩
        · exact .inr (.inl ⟨h, .inr ⟨rfl, k⟩⟩)
        · exact .inr (.inr ⟨h, .inr ⟨rfl, k⟩⟩)
theorem cmpN_cases (a b : ByteArray) : (cmpN a b = 0 ∧ a = b) ∨ (cmpN a b = -1 ∧ ltN a b = true) ∨ (cmpN a b = 1 ∧ ltN b a = true) := by
  unfold cmpN ltN
  rw [Lib.toList_data, Lib.toList_data]
  rcases cmpL_cases a.data.toList b.data.toList with ⟨h, k⟩ | h | h
  · refine .inl ⟨h, toListX ?_⟩
    rw [Lib.toList_data, Lib.toList_data]; exact k
  · exact .inr (.inl h)
  · exact .inr (.inr h)
theorem ltN_irr (a : ByteArray) : ltN a a = false := ltL_irr _
theorem ltN_trans {a b c : ByteArray} (h : ltN a b = true) (k : ltN b c = true) : ltN a c = true := ltL_trans _ _ _ h k
theorem ltN_asymm {a b : ByteArray} (h : ltN a b = true) : ltN b a = false := by
  cases e : ltN b a
  · rfl
  · have := ltN_trans h e
    rw [ltN_irr] at this; cases this
theorem ltN_ne {a b : ByteArray} (h : ltN a b = true) : a ≠ b := fun e => by rw [e, ltN_irr] at h; cases h
theorem cmpN_lt (a b : ByteArray) : cmpN a b < 0 ↔ ltN a b = true := by
  rcases cmpN_cases a b with ⟨h, rfl⟩ | ⟨h, k⟩ | ⟨h, k⟩
  · rw [h, ltN_irr]; simp
  · rw [h, k]; simp
  · rw [h, ltN_asymm k]; simp
theorem cmpN_zero (a b : ByteArray) : cmpN a b = 0 ↔ a = b := by
  rcases cmpN_cases a b with ⟨h, rfl⟩ | ⟨h, k⟩ | ⟨h, k⟩
  · simp [h]
  · rw [h]; exact ⟨fun h => by omega, fun e => absurd e (ltN_ne k)⟩
  · rw [h]; exact ⟨fun h => by omega, fun e => absurd e.symm (ltN_ne k)⟩
theorem ltN_tri (a b : ByteArray) : a = b ∨ ltN a b = true ∨ ltN b a = true := by
  rcases cmpN_cases a b with ⟨_, h⟩ | ⟨_, h⟩ | ⟨_, h⟩
  · exact .inl h
  · exact .inr (.inl h)
  · exact .inr (.inr h)
def nthA (xs : List Xa) (i : Nat) : Xa := xs.getD i ⟨⟨#[]⟩, []⟩
theorem nthA_eq (xs : List Xa) (i : Nat) (h : i < xs.length) : xs[i] = nthA xs i := by simp [nthA, h]
theorem nthA_get (xs : List Xa) (i : Nat) (h : i < xs.length) : xs[i]? = some (nthA xs i) := by simp [nthA, h]
/-- May there be such an attribute, with a value of m bytes? -/
def xoneB (nm : ByteArray) (m : Nat) : Bool := decide (1 ≤ nm.size) && decide (nm.size ≤ 12) && !decide (0 ≤ Lib.indexByte nm.data.toList 0) && decide (m ≤ 40)
def xokTo (f : Nat → Xa) : Nat → Bool
  | 0 => true
  | n + 1 => xokTo f n && (xoneB (f n).nm (f n).val.length && (n == 0 || ltN (f (n - 1)).nm (f n).nm))
def rightX (f : Nat → Xa) (n : Nat) : Bool := decide (n ≤ 4) && xokTo f n
theorem xokTo_false (f : Nat → Xa) (i : Nat) (h : (xoneB (f i).nm (f i).val.length && (i == 0 || ltN (f (i - 1)).nm (f i).nm)) = false) : ∀ n, i < n → xokTo f n = false
  | 0, hi => by omega
  | n + 1, hi => by
    unfold xokTo
    by_cases e : i = n
    · subst e; rw [h, Bool.and_false]
    · rw [xokTo_false f i h n (by omega), Bool.false_and]
theorem xokTo_one (f : Nat → Xa) : ∀ n, xokTo f n = true → ∀ i, i < n → xoneB (f i).nm (f i).val.length = true
  | 0, _, i, hi => by omega
  | n + 1, h, i, hi => by
    unfold xokTo at h
    simp only [Bool.and_eq_true] at h
    by_cases e : i = n
    · subst e; exact h.2.1
    · exact xokTo_one f n h.1 i (by omega)
theorem xokTo_ord (f : Nat → Xa) : ∀ n, xokTo f n = true → ∀ i, i + 1 < n → ltN (f i).nm (f (i + 1)).nm = true
  | 0, _, i, hi => by omega
  | n + 1, h, i, hi => by
    unfold xokTo at h
    simp only [Bool.and_eq_true, Bool.or_eq_true, beq_iff_eq] at h
    by_cases e : i + 1 = n
    · subst e
      rcases h.2.2 with h2 | h2
      · omega
      · simpa using h2
    · exact xokTo_ord f n h.1 i (by omega)
def SortedX (f : Nat → Xa) (n : Nat) : Prop := ∀ i j, i < j → j < n → ltN (f i).nm (f j).nm = true
theorem xokTo_sorted (f : Nat → Xa) (n : Nat) (h : xokTo f n = true) : SortedX f n := by
  intro i j hij hj
  induction j with
  | zero => omega
  | succ j ih =>
    have h1 := xokTo_ord f n h j hj
    by_cases e : i = j
    · subst e; exact h1
    · exact ltN_trans (ih (by omega) (by omega)) h1
theorem rightX_ok {f : Nat → Xa} {n : Nat} (h : rightX f n = true) : n ≤ 4 ∧ xokTo f n = true := by
  unfold rightX at h
  simpa using h
theorem xone_size {nm : ByteArray} {m : Nat} (h : xoneB nm m = true) : 1 ≤ nm.size ∧ nm.size ≤ 12 ∧ m ≤ 40 := by
  unfold xoneB at h
  simp only [Bool.and_eq_true, decide_eq_true_eq] at h
  exact ⟨h.1.1.1, h.1.1.2, h.2⟩
/-- Where a name is looked for: before i the names are less, from j on they are not. -/
structure SplitX (f : Nat → Xa) (n : Nat) (nm : ByteArray) (i j : Nat) : Prop where
  le : i ≤ j
  len : j ≤ n
  low : ∀ m, m < i → ltN (f m).nm nm = true
  high : ∀ m, j ≤ m → m < n → ltN (f m).nm nm = false
theorem SplitX.up {f : Nat → Xa} {n : Nat} {nm : ByteArray} {i j h : Nat} (s : SplitX f n nm i j) (hs : SortedX f n) (h2 : h < j) (hb : ltN (f h).nm nm = true) : SplitX f n nm (h + 1) j :=
  ⟨h2, s.len, fun m hm => by
    by_cases e : m = h
    · subst e; exact hb
    · exact ltN_trans (hs m h (by omega) (by have := s.len; omega)) hb, s.high⟩
theorem SplitX.down {f : Nat → Xa} {n : Nat} {nm : ByteArray} {i j h : Nat} (s : SplitX f n nm i j) (hs : SortedX f n) (h1 : i ≤ h) (h2 : h < j) (hb : ltN (f h).nm nm = false) : SplitX f n nm i h :=
  ⟨h1, by have := s.len; omega, s.low, fun m hm hn => by
    by_cases e : m = h
    · subst e; exact hb
    · cases k : ltN (f m).nm nm
      · rfl
      · rw [ltN_trans (hs h m (by omega) hn) k] at hb; cases hb⟩
/-- Where a name stands; n: nowhere. -/
def idxX (f : Nat → Xa) (nm : ByteArray) : Nat → Option Nat
  | 0 => none
  | k + 1 => match idxX f nm k with
    | some i => some i
    | none => if (f k).nm.toList == nm.toList then some k else none
theorem idxX_none {f : Nat → Xa} {nm : ByteArray} : ∀ n, (∀ i, i < n → (f i).nm ≠ nm) → idxX f nm n = none
  | 0, _ => rfl
  | n + 1, h => by
    unfold idxX
    rw [idxX_none n fun i hi => h i (by omega)]
    have : ((f n).nm.toList == nm.toList) = false := by
      cases e : (f n).nm.toList == nm.toList
      · rfl
      · exact absurd (toListX (by simpa using e)) (h n (by omega))
    rw [this]; rfl
theorem idxX_some {f : Nat → Xa} {nm : ByteArray} {i : Nat} (hi : (f i).nm = nm) (hlt : ∀ m, m < i → (f m).nm ≠ nm) : ∀ n, i < n → idxX f nm n = some i
  | 0, h => by omega
  | n + 1, h => by
    unfold idxX
    by_cases e : i = n
    · subst e
      rw [idxX_none i hlt]
      simp [hi]
    · rw [idxX_some hi hlt n (by omega)]
theorem idxX_cases (f : Nat → Xa) (nm : ByteArray) : ∀ n, (idxX f nm n = none ∧ ∀ i, i < n → (f i).nm ≠ nm) ∨ ∃ i, idxX f nm n = some i ∧ i < n ∧ (f i).nm = nm ∧ ∀ m, m < i → (f m).nm ≠ nm
  | 0 => .inl ⟨rfl, fun i hi => by omega⟩
  | n + 1 => by
    unfold idxX
    rcases idxX_cases f nm n with ⟨h1, h2⟩ | ⟨i, h1, h2, h3, h4⟩
    · rw [h1]
      cases e : (f n).nm.toList == nm.toList
      · refine .inl ⟨rfl, fun i hi k => ?_⟩
        by_cases hin : i = n
        · subst hin; rw [k] at e; simp at e
        · exact h2 i (by omega) k
      · exact .inr ⟨n, rfl, by omega, toListX (by simpa using e), h2⟩
    · rw [h1]
      exact .inr ⟨i, rfl, by omega, h3, h4⟩
theorem idxX_yes {f : Nat → Xa} {n i : Nat} {nm : ByteArray} (hs : SortedX f n) (hi : i < n) (h : (f i).nm = nm) : idxX f nm n = some i :=
  idxX_some h (fun m hm e => ltN_ne (hs m i hm hi) (by rw [e, h])) n hi
theorem idxX_no {f : Nat → Xa} {n i : Nat} {nm : ByteArray} (hs : SortedX f n) (sp : SplitX f n nm i i) (h : i < n → (f i).nm ≠ nm) : idxX f nm n = none := by
  refine idxX_none n fun m hm e => ?_
  rcases Nat.lt_trichotomy m i with hlt | rfl | hgt
  · exact ltN_ne (sp.low m hlt) e
  · exact h hm e
  · have h1 := hs i m hgt hm
    have h2 := sp.high i (Nat.le_refl _) (by omega)
    rw [e] at h1
    rw [h1] at h2; cases h2
def insX (e : Xa) : List Xa → List Xa
  | [] => [e]
  | x :: xs => if ltN e.nm x.nm then e :: x :: xs else if e.nm.toList == x.nm.toList then e :: xs else x :: insX e xs
theorem nthA_cons (x : Xa) (xs : List Xa) (i : Nat) : nthA (x :: xs) (i + 1) = nthA xs i := rfl
theorem insX_at (e : Xa) : ∀ (xs : List Xa) (i : Nat), i ≤ xs.length → (∀ m, m < i → ltN (nthA xs m).nm e.nm = true) → (i < xs.length → ltN e.nm (nthA xs i).nm = true) → insX e xs = xs.take i ++ e :: xs.drop i
  | [], i, hi, _, _ => by
    have : i = 0 := by simpa using hi
    subst this; rfl
  | x :: xs, 0, _, _, h => by
    have h0 : ltN e.nm x.nm = true := h (by simp)
    unfold insX
    rw [if_pos h0]; rfl
  | x :: xs, i + 1, hi, h1, h2 => by
    have h0 : ltN x.nm e.nm = true := h1 0 (by omega)
    unfold insX
    rw [ltN_asymm h0]
    have hne : (e.nm.toList == x.nm.toList) = false := by
      cases k : e.nm.toList == x.nm.toList
      · rfl
      · exact absurd (toListX (by simpa using k)) (fun q => ltN_ne h0 q.symm)
    rw [hne]
    simp only [Bool.false_eq_true, if_false]
    rw [insX_at e xs i (by simpa using hi) (fun m hm => h1 (m + 1) (by omega)) (fun hlt => h2 (by simpa using hlt))]
    rfl
theorem insX_set (e : Xa) : ∀ (xs : List Xa) (i : Nat), i < xs.length → (∀ m, m < i → ltN (nthA xs m).nm e.nm = true) → (nthA xs i).nm = e.nm → insX e xs = xs.set i e
  | [], i, hi, _, _ => by simp at hi
  | x :: xs, 0, _, _, h => by
    have h : x.nm = e.nm := h
    unfold insX
    rw [h, ltN_irr]
    simp
  | x :: xs, i + 1, hi, h1, h2 => by
    have h0 : ltN x.nm e.nm = true := h1 0 (by omega)
    unfold insX
    rw [ltN_asymm h0]
    have hne : (e.nm.toList == x.nm.toList) = false := by
      cases k : e.nm.toList == x.nm.toList
      · rfl
      · exact absurd (toListX (by simpa using k)) (fun q => ltN_ne h0 q.symm)
    rw [hne]
    simp only [Bool.false_eq_true, if_false]
    rw [insX_set e xs i (by simpa using hi) (fun m hm => h1 (m + 1) (by omega)) h2]
    rfl
def notA (nm : ByteArray) (x : Xa) : Bool := !(x.nm.toList == nm.toList)
def getX (xs : List Xa) (nm : ByteArray) : List Byte × Int :=
  if rightX (nthA xs) xs.length = true then match idxX (nthA xs) nm xs.length with | some i => ((nthA xs i).val, 0) | none => ([], 4) else ([], 3)
def setX (xs : List Xa) (nm : ByteArray) (v : List Byte) : List Xa × Int :=
  if rightX (nthA xs) xs.length = true then if xoneB nm v.length = true then if idxX (nthA xs) nm xs.length = none ∧ xs.length = 4 then ([], 5) else (insX ⟨nm, v⟩ xs, 0) else ([], 2) else ([], 3)
def dropX (xs : List Xa) (nm : ByteArray) : List Xa × Int :=
  if rightX (nthA xs) xs.length = true then match idxX (nthA xs) nm xs.length with | some _ => (xs.filter (notA nm), 0) | none => ([], 4) else ([], 3)
theorem filterX_at {xs : List Xa} {nm : ByteArray} {i : Nat} (hi : i < xs.length) (h : (nthA xs i).nm = nm) (hu : ∀ j, j < xs.length → (nthA xs j).nm = nm → j = i) : xs.filter (notA nm) = xs.take i ++ xs.drop (i + 1) := by
  have key : ∀ (ys : List Xa), (∀ y ∈ ys, y.nm ≠ nm) → ys.filter (notA nm) = ys := fun ys hy => by
    rw [List.filter_eq_self]
    intro y hm
    have := hy y hm
    unfold notA
    cases e : y.nm.toList == nm.toList
    · rfl
    · exact absurd (toListX (by simpa using e)) this
  conv => lhs; rw [← List.take_append_drop i xs]
  rw [List.filter_append, List.drop_eq_getElem_cons hi, List.filter_cons]
  have hx : notA nm xs[i] = false := by
    unfold notA
    rw [nthA_eq xs i hi, h]; simp
  rw [hx]
  simp only [Bool.false_eq_true, if_false]
  rw [key, key]
  · intro y hy e
    obtain ⟨j, hj, rfl⟩ := List.getElem_of_mem hy
    rw [List.getElem_drop] at e
    have hj2 : i + 1 + j < xs.length := by simp at hj; omega
    rw [nthA_eq xs _ hj2] at e
    have := hu _ hj2 e; omega
  · intro y hy e
    obtain ⟨j, hj, rfl⟩ := List.getElem_of_mem hy
    rw [List.getElem_take] at e
    have hj2 : j < i ∧ j < xs.length := by simp at hj; omega
    rw [nthA_eq xs _ hj2.2] at e
    have := hu _ hj2.2 e; omega
end Go.Proofs.Ytoeohbihelfphaa
