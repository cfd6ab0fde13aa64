/-
  Plain facts of lists of usages: what a right list is, what with does to it, and that a right list is told by its owners' usages.
-/
import Derived.Test.YtahlmlhdfoijhaaPQg
namespace Go.Proofs.Ytahlmlhdfoijhaa.PQ
def Asc (xs : List U) : Prop := xs.Pairwise (fun a b => a.uid < b.uid)
structure Good (xs : List U) : Prop where
  ok : ∀ x ∈ xs, okU x = true ∧ idleB x = false
  asc : Asc xs
theorem Good.tail {x : U} {xs : List U} (h : Good (x :: xs)) : Good xs := ⟨fun y hy => h.ok y (List.mem_cons_of_mem _ hy), (List.pairwise_cons.1 h.asc).2⟩
theorem fine_cons (x : U) (xs : List U) (i : Nat) : fineAt (nth (x :: xs)) (i + 1 + 1) = fineAt (nth xs) (i + 1) := by
  simp [fineAt, nth]
theorem right_good : ∀ (xs : List U), (∀ i, i < xs.length → fineAt (nth xs) i = true) ↔ Good xs
  | [] => ⟨fun _ => ⟨fun x hx => by simp at hx, List.Pairwise.nil⟩, fun _ i hi => by simp at hi⟩
  | [x] => by
    constructor
    · intro h
      have := h 0 (by simp)
      simp [fineAt, nth] at this
      exact ⟨fun y hy => by simp at hy; subst hy; exact this, List.pairwise_singleton _ _⟩
    · intro h i hi
      obtain rfl : i = 0 := by simpa using hi
      have := h.ok x (by simp)
      simp [fineAt, nth, this]
  | x :: y :: r => by
    have ih := right_good (y :: r)
    constructor
    · intro h
      have h0 := h 0 (by simp)
      have h1 := h 1 (by simp)
      simp [fineAt, nth] at h0 h1
      have hg : Good (y :: r) := ih.1 (fun i hi => by
        cases i with
        | zero => simp [fineAt, nth, h1]
        | succ i => have := h (i + 2) (by simpa using hi); rw [fine_cons] at this; exact this)
      refine ⟨fun z hz => ?_, List.pairwise_cons.2 ⟨fun z hz => ?_, hg.asc⟩⟩
      · rcases List.mem_cons.1 hz with rfl | hz
        · exact h0
        · exact hg.ok z hz
      · rcases List.mem_cons.1 hz with rfl | hz
        · exact h1.2
        · have := (List.pairwise_cons.1 hg.asc).1 z hz
          omega
    · intro h i hi
      cases i with
      | zero => have := h.ok x (by simp); simp [fineAt, nth, this]
      | succ i =>
        cases i with
        | zero =>
          have h1 := h.ok y (by simp)
          have h2 := (List.pairwise_cons.1 h.asc).1 y (by simp)
          simp [fineAt, nth, h1, h2]
        | succ i =>
          rw [fine_cons]
          exact ih.2 h.tail (i + 1) (by simpa using hi)
theorem right_iff (xs : List U) : RightU xs ↔ xs.length ≤ 8 ∧ Good xs := by
  unfold RightU Right
  rw [right_good xs]
theorem find_mem {v : Int} : ∀ {xs : List U}, (∃ x ∈ xs, x.uid = v) → find v xs ∈ xs
  | [], h => by simp at h
  | x :: r, h => by
    unfold find
    split
    · exact List.mem_cons_self
    · rename_i hx
      obtain ⟨y, hy, hv⟩ := h
      rcases List.mem_cons.1 hy with rfl | hy
      · exact absurd hv hx
      · exact List.mem_cons_of_mem _ (find_mem ⟨y, hy, hv⟩)
theorem find_none {v : Int} : ∀ {xs : List U}, (∀ x ∈ xs, x.uid ≠ v) → find v xs = ⟨v, 0, 0, -1, -1⟩
  | [], _ => rfl
  | x :: r, h => by
    unfold find
    rw [if_neg (h x (by simp))]
    exact find_none (fun y hy => h y (List.mem_cons_of_mem _ hy))
theorem find_eq {xs : List U} (h : Good xs) {x : U} (hx : x ∈ xs) : find x.uid xs = x := by
  induction xs with
  | nil => simp at hx
  | cons y r ih =>
    unfold find
    rcases List.mem_cons.1 hx with rfl | hx
    · simp
    · have := (List.pairwise_cons.1 h.asc).1 x hx
      rw [if_neg (by omega)]
      exact ih h.tail hx
theorem mem_iff {xs : List U} (h : Good xs) (x : U) : x ∈ xs ↔ find x.uid xs = x ∧ idleB x = false := by
  constructor
  · intro hx
    exact ⟨find_eq h hx, (h.ok x hx).2⟩
  · rintro ⟨h1, h2⟩
    by_cases he : ∃ y ∈ xs, y.uid = x.uid
    · have := find_mem he
      rwa [h1] at this
    · have := find_none (v := x.uid) (xs := xs) (fun y hy e => he ⟨y, hy, e⟩)
      rw [this] at h1
      rw [← h1] at h2
      simp [idleB] at h2
theorem asc_ext : ∀ {xs ys : List U}, Asc xs → Asc ys → (∀ x, x ∈ xs ↔ x ∈ ys) → xs = ys
  | [], [], _, _, _ => rfl
  | [], y :: s, _, _, h => by have := (h y).2 (by simp); simp at this
  | x :: r, [], _, _, h => by have := (h x).1 (by simp); simp at this
  | x :: r, y :: s, hx, hy, h => by
    have hx' := List.pairwise_cons.1 hx
    have hy' := List.pairwise_cons.1 hy
    have hxy : x = y := by
      rcases List.mem_cons.1 ((h x).1 (by simp)) with e | e
      · exact e
      · rcases List.mem_cons.1 ((h y).2 (by simp)) with e2 | e2
        · exact e2.symm
        · have h1 := hx'.1 y e2
          have h2 := hy'.1 x e
          omega
    subst hxy
    congr 1
    refine asc_ext hx'.2 hy'.2 (fun z => ?_)
    constructor
    · intro hz
      rcases List.mem_cons.1 ((h z).1 (List.mem_cons_of_mem _ hz)) with e | e
      · have := hx'.1 z hz; rw [e] at this; omega
      · exact e
    · intro hz
      rcases List.mem_cons.1 ((h z).2 (List.mem_cons_of_mem _ hz)) with e | e
      · have := hy'.1 z hz; rw [e] at this; omega
      · exact e
theorem good_ext {xs ys : List U} (hx : Good xs) (hy : Good ys) (h : ∀ v, find v xs = find v ys) : xs = ys :=
  asc_ext hx.asc hy.asc (fun x => by rw [mem_iff hx, mem_iff hy, h])
theorem others_good {xs : List U} (h : Good xs) (v : Int) : Good (others xs v) :=
  ⟨fun x hx => h.ok x (List.mem_filter.1 hx).1, h.asc.filter _⟩
theorem mem_others {xs : List U} {v : Int} {x : U} : x ∈ others xs v ↔ x ∈ xs ∧ x.uid ≠ v := by
  unfold others; simp [List.mem_filter]
theorem find_others {xs : List U} (v w : Int) (hne : w ≠ v) : find w (others xs v) = find w xs := by
  induction xs with
  | nil => rfl
  | cons x r ih =>
    unfold others at ih ⊢
    by_cases hx : x.uid = v
    · rw [List.filter_cons_of_neg (by simp [hx])]
      rw [ih]
      conv => rhs; unfold find
      rw [if_neg (by omega)]
    · rw [List.filter_cons_of_pos (by simp [hx])]
      unfold find
      rw [ih]
theorem mem_insU {u x : U} : ∀ {ys : List U}, x ∈ insU u ys ↔ x = u ∨ x ∈ ys
  | [] => by simp [insU]
  | y :: r => by
    unfold insU
    split
    · simp
    · rw [List.mem_cons, mem_insU (ys := r), List.mem_cons]
      constructor
      · rintro (h | h | h) <;> simp [h]
      · rintro (h | h | h) <;> simp [h]
theorem insU_asc {u : U} : ∀ {ys : List U}, Asc ys → (∀ y ∈ ys, y.uid ≠ u.uid) → Asc (insU u ys)
  | [], _, _ => List.pairwise_singleton _ _
  | y :: r, h, hn => by
    have h' := List.pairwise_cons.1 h
    have hy := hn y (by simp)
    unfold insU
    split
    · refine List.pairwise_cons.2 ⟨fun z hz => ?_, h⟩
      rcases List.mem_cons.1 hz with rfl | hz
      · omega
      · have := h'.1 z hz; omega
    · refine List.pairwise_cons.2 ⟨fun z hz => ?_, insU_asc h'.2 (fun z hz => hn z (List.mem_cons_of_mem _ hz))⟩
      rcases mem_insU.1 hz with rfl | hz
      · omega
      · exact h'.1 z hz
theorem insU_good {u : U} {ys : List U} (h : Good ys) (hn : ∀ y ∈ ys, y.uid ≠ u.uid) (hu : okU u = true) (hi : idleB u = false) : Good (insU u ys) :=
  ⟨fun x hx => by
    rcases mem_insU.1 hx with rfl | hx
    · exact ⟨hu, hi⟩
    · exact h.ok x hx, insU_asc h.asc hn⟩
theorem find_insU (u : U) (v : Int) : ∀ (ys : List U), (∀ y ∈ ys, y.uid ≠ u.uid) → find v (insU u ys) = if v = u.uid then u else find v ys
  | [], _ => by
    simp only [insU, find]
    by_cases h : v = u.uid
    · rw [if_pos h.symm, if_pos h]
    · rw [if_neg (fun e => h e.symm), if_neg h]
  | y :: r, hn => by
    have hy := hn y (by simp)
    unfold insU
    split
    · conv => lhs; unfold find
      by_cases h : v = u.uid
      · rw [if_pos h.symm, if_pos h]
      · rw [if_neg (fun e => h e.symm), if_neg h]
    · unfold find
      rw [find_insU u v r (fun z hz => hn z (List.mem_cons_of_mem _ hz))]
      by_cases h : v = u.uid
      · rw [if_pos h, if_pos h, if_neg (by omega)]
      · rw [if_neg h, if_neg h]
theorem withL_good {xs : List U} (h : Good xs) {u : U} (hu : okU u = true) : Good (withL xs u) := by
  unfold withL
  split
  · exact others_good h _
  · rename_i hi
    exact insU_good (others_good h _) (fun y hy => (mem_others.1 hy).2) hu (by simpa using hi)
theorem idle_eq {u : U} (h : idleB u = true) : u = ⟨u.uid, 0, 0, -1, -1⟩ := by
  obtain ⟨a, b, c, d, e⟩ := u
  simp [idleB] at h
  obtain ⟨⟨⟨rfl, rfl⟩, rfl⟩, rfl⟩ := h
  rfl
theorem find_withL (xs : List U) (u : U) (v : Int) : find v (withL xs u) = if v = u.uid then u else find v xs := by
  unfold withL
  split
  · rename_i hi
    by_cases h : v = u.uid
    · rw [if_pos h, h, find_none (fun x hx => (mem_others.1 hx).2)]
      exact (idle_eq hi).symm
    · rw [if_neg h, find_others _ _ h]
  · rw [find_insU u v _ (fun y hy => (mem_others.1 hy).2)]
    by_cases h : v = u.uid
    · rw [if_pos h, if_pos h]
    · rw [if_neg h, if_neg h, find_others _ _ h]
theorem others_length (xs : List U) (v : Int) : (others xs v).length ≤ xs.length := List.length_filter_le _ _
theorem others_less {xs : List U} {v : Int} (h : ∃ x ∈ xs, x.uid = v) : (others xs v).length + 1 ≤ xs.length := by
  obtain ⟨x, hx, hv⟩ := h
  have : (others xs v).length < xs.length := List.length_filter_lt_length_iff_exists.2 ⟨x, hx, by simp [hv]⟩
  omega
theorem find_ok {xs : List U} (h : Good xs) (v : Int) (h0 : 0 ≤ v) (h1 : v ≤ 65535) : okU (find v xs) = true := by
  by_cases he : ∃ y ∈ xs, y.uid = v
  · exact (h.ok _ (find_mem he)).1
  · rw [find_none (fun y hy e => he ⟨y, hy, e⟩)]
    simp [okU, inr]; omega
end Go.Proofs.Ytahlmlhdfoijhaa.PQ
