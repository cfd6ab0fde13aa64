/-
  Names and inodes beside a right list; slices of one's own cut and joined in a region that draws its order.
-/
import Derived.Test.YtpekibadleghbaaDoorReg
import Derived.Test.YtpekibadleghbaaDoorDD
namespace Go.Proofs.YtpekibadleghbaaDoor
open Go.RowKit
set_option linter.unusedVariables false
set_option linter.unusedSimpArgs false
section
variable {P : Program} {ops : Array Oper} {Q : Exit → Act → World → Prop} {S : World → Prop} {md : Region.Mode}
def preB (md : Region.Mode) (ops : Array Oper) : List Nat → Array Bool → Option (Array Bool)
  | [], L => some L
  | i :: r, L => if (Region.ready md ops L).contains i && Region.free md ops L i then preB md ops r (L.setIfInBounds i true) else none
def twoB (md : Region.Mode) (ops : Array Oper) (rest : List (Nat × Bool)) : Nat → List Nat → List Nat → Array Bool → Bool
  | 0, [], [], L => permB md ops rest L
  | n + 1, i :: c1, [], L => decide (Region.ready md ops L = [i]) && twoB md ops rest n c1 [] (L.setIfInBounds i true)
  | n + 1, [], j :: c2, L => decide (Region.ready md ops L = [j]) && twoB md ops rest n [] c2 (L.setIfInBounds j true)
  | n + 1, i :: c1, j :: c2, L => (decide (Region.ready md ops L = [i, j]) || decide (Region.ready md ops L = [j, i])) && twoB md ops rest n c1 (j :: c2) (L.setIfInBounds i true) && twoB md ops rest n (i :: c1) c2 (L.setIfInBounds j true)
  | _, _, _, _ => false
def twoOk (ops : Array Oper) (pre c1 c2 : List Nat) (rest : List (Nat × Bool)) : Bool :=
  Region.noSelect ops && pre.length + c1.length + c2.length + rest.length == ops.size && ((preB .any ops pre (Array.replicate ops.size false)).map fun L => twoB .any ops rest (c1.length + c2.length) c1 c2 L).getD false
/-- Operations that only yield, one behind the other, then K. -/
def HeldPre (P : Program) (ops : Array Oper) (S : World → Prop) (K : Act → World → Prop) : List Nat → Act → World → Prop
  | [], a, w => K a w
  | i :: r, a, w => ∃ o v, ops[i]? = some o ∧ YieldsIf P ops S o v a ∧ HeldPre P ops S K r (a.put o.dst v) w
theorem HeldPre.take {K : Act → World → Prop} {i : Nat} {r : List Nat} {a : Act} {w : World} {o : Oper} {v : Value} (ho : ops[i]? = some o) (hg : Region.wanted o (yielded ops a.tmps) = true)
    (hy : ∀ w', S w' → (execOp a.eval o).run P w' = .ok (.value v) w') (h : HeldPre P ops S K r (a.put o.dst v) w) : HeldPre P ops S K (i :: r) a w :=
  ⟨o, v, ho, .inl ⟨hg, hy⟩, h⟩
theorem HeldPre.done {K : Act → World → Prop} {a : Act} {w : World} (h : K a w) : HeldPre P ops S K [] a w := h
def Two (P : Program) (ops : Array Oper) (S : World → Prop) (Q : Exit → Act → World → Prop) (c1 c2 : List Nat) (rest : List (Nat × Bool)) (a : Act) (w : World) : Prop :=
  ∃ (σ1 σ2 : Type) (T : σ1 → σ2 → Act) (A : Nat → σ1 → World → Prop) (B : Nat → σ2 → World → Prop) (s1 : σ1) (s2 : σ2), a = T s1 s2 ∧ A 0 s1 w ∧ B 0 s2 w ∧
    (∀ p i, c1[p]? = some i → ∀ s1 s2 w, S w → A p s1 w → wpOp P ops Q i (fun a' w' => S w' ∧ ∃ s1', a' = T s1' s2 ∧ A (p + 1) s1' w' ∧ ∀ q s2, B q s2 w → B q s2 w') (T s1 s2) w) ∧
    (∀ q j, c2[q]? = some j → ∀ s1 s2 w, S w → B q s2 w → wpOp P ops Q j (fun a' w' => S w' ∧ ∃ s2', a' = T s1 s2' ∧ B (q + 1) s2' w' ∧ ∀ p s1, A p s1 w → A p s1 w') (T s1 s2) w) ∧
    (∀ s1 s2 w, S w → A c1.length s1 w → B c2.length s2 w → HeldSeq P ops S Q rest (T s1 s2) w)
theorem two_any (hs : Region.noSelect ops = true) (hQ : ∀ c a d v w, Q (.panic c) (Act.put a d v) w → Q (.panic c) a w) {σ1 σ2 : Type} {T : σ1 → σ2 → Act} {A : Nat → σ1 → World → Prop} {B : Nat → σ2 → World → Prop} {c1 c2 : List Nat} {rest : List (Nat × Bool)}
    (h1 : ∀ p i, c1[p]? = some i → ∀ s1 s2 w, S w → A p s1 w → wpOp P ops Q i (fun a' w' => S w' ∧ ∃ s1', a' = T s1' s2 ∧ A (p + 1) s1' w' ∧ ∀ q s2, B q s2 w → B q s2 w') (T s1 s2) w)
    (h2 : ∀ q j, c2[q]? = some j → ∀ s1 s2 w, S w → B q s2 w → wpOp P ops Q j (fun a' w' => S w' ∧ ∃ s2', a' = T s1 s2' ∧ B (q + 1) s2' w' ∧ ∀ p s1, A p s1 w → A p s1 w') (T s1 s2) w)
    (h3 : ∀ s1 s2 w, S w → A c1.length s1 w → B c2.length s2 w → HeldSeq P ops S Q rest (T s1 s2) w) :
    ∀ (n p q : Nat) (L : Array Bool) (s1 : σ1) (s2 : σ2) (w : World), p ≤ c1.length → q ≤ c2.length → twoB md ops rest n (c1.drop p) (c2.drop q) L = true → S w → A p s1 w → B q s2 w → wpAnyH P md ops Q S (n + rest.length) L (T s1 s2) w := by
  intro n
  induction n with
  | zero =>
    intro p q L s1 s2 w hp hq hB hS ha hb
    rw [Nat.zero_add]
    cases e1 : c1.drop p with
    | cons i r => rw [e1] at hB; cases e2 : c2.drop q <;> rw [e2] at hB <;> simp [twoB] at hB
    | nil =>
      cases e2 : c2.drop q with
      | cons j r => rw [e1, e2] at hB; simp [twoB] at hB
      | nil =>
        rw [e1, e2] at hB
        have hp2 : p = c1.length := by have := congrArg List.length e1; simp at this; omega
        have hq2 : q = c2.length := by have := congrArg List.length e2; simp at this; omega
        subst hp2; subst hq2
        exact heldSeq_any hs hQ rest L _ _ hB hS (h3 s1 s2 w hS ha hb)
  | succ n ih =>
    intro p q L s1 s2 w hp hq hB hS ha hb
    rw [show n + 1 + rest.length = (n + rest.length) + 1 by omega]
    have key1 : ∀ i r, c1.drop p = i :: r → p < c1.length ∧ c1[p]? = some i ∧ c1.drop (p + 1) = r := fun i r e => by
      have hlt : p < c1.length := by have := congrArg List.length e; simp at this; omega
      rw [List.drop_eq_getElem_cons hlt] at e
      injection e with e1 e2
      exact ⟨hlt, by rw [List.getElem?_eq_getElem hlt, e1], e2⟩
    have key2 : ∀ i r, c2.drop q = i :: r → q < c2.length ∧ c2[q]? = some i ∧ c2.drop (q + 1) = r := fun i r e => by
      have hlt : q < c2.length := by have := congrArg List.length e; simp at this; omega
      rw [List.drop_eq_getElem_cons hlt] at e
      injection e with e1 e2
      exact ⟨hlt, by rw [List.getElem?_eq_getElem hlt, e1], e2⟩
    have go1 : ∀ i r, c1.drop p = i :: r → twoB md ops rest n r (c2.drop q) (L.setIfInBounds i true) = true → wpOp P ops Q i (fun a' w' => S w' ∧ wpAnyH P md ops Q S (n + rest.length) (L.setIfInBounds i true) a' w') (T s1 s2) w := fun i r e hB2 => by
      obtain ⟨k1, k2, k3⟩ := key1 i r e
      refine wpOp_mono (fun a' w' hk => ?_) (h1 p i k2 s1 s2 w hS ha)
      obtain ⟨hS', s1', rfl, ha', hb'⟩ := hk
      exact ⟨hS', ih (p + 1) q _ _ _ _ k1 hq (by rw [k3]; exact hB2) hS' ha' (hb' q s2 hb)⟩
    have go2 : ∀ j r, c2.drop q = j :: r → twoB md ops rest n (c1.drop p) r (L.setIfInBounds j true) = true → wpOp P ops Q j (fun a' w' => S w' ∧ wpAnyH P md ops Q S (n + rest.length) (L.setIfInBounds j true) a' w') (T s1 s2) w := fun j r e hB2 => by
      obtain ⟨k1, k2, k3⟩ := key2 j r e
      refine wpOp_mono (fun a' w' hk => ?_) (h2 q j k2 s1 s2 w hS hb)
      obtain ⟨hS', s2', rfl, hb', ha'⟩ := hk
      exact ⟨hS', ih p (q + 1) _ _ _ _ hp k1 (by rw [k3]; exact hB2) hS' (ha' p s1 ha) hb'⟩
    cases e1 : c1.drop p with
    | nil =>
      cases e2 : c2.drop q with
      | nil => rw [e1, e2] at hB; simp [twoB] at hB
      | cons j r2 =>
        rw [e1, e2] at hB
        simp only [twoB, Bool.and_eq_true, decide_eq_true_eq] at hB
        refine wpAnyH_all hB.1 (by simp) fun k hk => ?_
        obtain rfl : k = j := by simpa using hk
        exact go2 k r2 e2 (by rw [e1]; exact hB.2)
    | cons i r1 =>
      cases e2 : c2.drop q with
      | nil =>
        rw [e1, e2] at hB
        simp only [twoB, Bool.and_eq_true, decide_eq_true_eq] at hB
        refine wpAnyH_all hB.1 (by simp) fun k hk => ?_
        obtain rfl : k = i := by simpa using hk
        exact go1 k r1 e1 (by rw [e2]; exact hB.2)
      | cons j r2 =>
        rw [e1, e2] at hB
        simp only [twoB, Bool.and_eq_true, Bool.or_eq_true, decide_eq_true_eq] at hB
        obtain ⟨⟨hr, hB1⟩, hB2⟩ := hB
        rcases hr with hr | hr
        all_goals
          refine wpAnyH_all hr (by simp) fun k hk => ?_
          simp only [List.mem_cons, List.not_mem_nil, or_false] at hk
          rcases hk with rfl | rfl
          all_goals first | exact go1 _ r1 e1 (by rw [e2]; exact hB1) | exact go2 _ r2 e2 (by rw [e1]; exact hB2)
theorem heldPre_any (hs : Region.noSelect ops = true) (hQ : ∀ c a d v w, Q (.panic c) (Act.put a d v) w → Q (.panic c) a w) {K : Act → World → Prop} {m : Nat} : ∀ (l : List Nat) (L L' : Array Bool) (a : Act) (w : World), preB md ops l L = some L' → S w →
    (∀ a w, S w → K a w → wpAnyH P md ops Q S m L' a w) → HeldPre P ops S K l a w → wpAnyH P md ops Q S (l.length + m) L a w
  | [], L, L', a, w, hB, hS, hk, h => by
    simp only [preB, Option.some.injEq] at hB
    subst hB
    simpa using hk a w hS h
  | i :: r, L, L', a, w, hB, hS, hk, h => by
    unfold preB at hB
    split at hB
    · rename_i hc
      simp only [Bool.and_eq_true] at hc
      obtain ⟨o, v, ho, hy, h'⟩ := h
      rw [List.length_cons, show r.length + 1 + m = (r.length + m) + 1 by omega]
      exact wpAnyH_take ho hs hc.2 hc.1 (fun c a w => hQ c a _ _ w) hy hS (heldPre_any hs hQ r _ _ _ _ hB hS hk h')
    · cases hB
theorem region_two {id : Nat} {a : Act} {w : World} {ol : List Oper} (S : World → Prop) (pre c1 c2 : List Nat) (rest : List (Nat × Bool)) (hm : P.follows .mixedOrders = true) (hB : twoOk ol.toArray pre c1 c2 rest = true)
    (hQ : ∀ c a d v w, Q (.panic c) (Act.put a d v) w → Q (.panic c) a w) (hS : S w.drew)
    (h : HeldPre P ol.toArray S (Two P ol.toArray S Q c1 c2 rest) pre a w.drew) : (Code.region id ol.toArray true).wp P Q a w := by
  simp only [twoOk, Bool.and_eq_true, beq_iff_eq] at hB
  refine wp_region_held (S := S) hm ?_
  obtain ⟨⟨hs, hl⟩, hB⟩ := hB
  cases hL : preB .any ol.toArray pre (Array.replicate ol.toArray.size false) with
  | none => rw [hL] at hB; simp at hB
  | some L =>
    rw [hL] at hB
    simp only [Option.map_some, Option.getD_some] at hB
    have h2 := heldPre_any (md := .any) hs hQ (m := (c1.length + c2.length) + rest.length) pre _ L a _ hL hS (fun a w hS hk => by
      obtain ⟨σ1, σ2, T, A, B, s1, s2, rfl, ha, hb, k1, k2, k3⟩ := hk
      exact two_any hs hQ k1 k2 k3 (c1.length + c2.length) 0 0 L s1 s2 w (Nat.zero_le _) (Nat.zero_le _) (by simpa using hB) hS ha hb) h
    rw [show pre.length + (c1.length + c2.length + rest.length) = ol.toArray.size by omega] at h2
    exact h2
end
end Go.Proofs.YtpekibadleghbaaDoor
namespace Go.Proofs.YtpekibadleghbaaDoor
open Go.RowKit
set_option linter.unusedVariables false
set_option linter.unusedSimpArgs false
/-- Where a name stands last among the first n; -1: nowhere. -/
def atR (f : Nat → En) (nm : ByteArray) : Nat → Int
  | 0 => -1
  | j + 1 => if (f j).nm.toList == nm.toList then (j : Int) else atR f nm j
theorem atR_cases (f : Nat → En) (nm : ByteArray) : ∀ n, (atR f nm n = -1 ∧ ∀ i, i < n → (f i).nm ≠ nm) ∨ ∃ k, k < n ∧ atR f nm n = (k : Int) ∧ (f k).nm = nm
  | 0 => .inl ⟨rfl, fun i hi => by omega⟩
  | j + 1 => by
    unfold atR
    cases h : (f j).nm.toList == nm.toList
    · simp only [Bool.false_eq_true, if_false]
      rcases atR_cases f nm j with ⟨h1, h2⟩ | ⟨k, h1, h2, h3⟩
      · refine .inl ⟨h1, fun i hi e => ?_⟩
        by_cases hij : i = j
        · subst hij; rw [e] at h; simp at h
        · exact h2 i (by omega) e
      · exact .inr ⟨k, by omega, h2, h3⟩
    · simp only [if_true]
      exact .inr ⟨j, by omega, rfl, toList_inj (by simpa using h)⟩
theorem atR_range (f : Nat → En) (nm : ByteArray) (n : Nat) : -1 ≤ atR f nm n ∧ atR f nm n < n := by
  rcases atR_cases f nm n with ⟨h1, _⟩ | ⟨k, h1, h2, _⟩ <;> omega
/-- A right list, and names with their inodes that are its entries. -/
structure MapOk (salt : Nat → Byte) (xs Z : List En) : Prop where
  right : rightB salt (nthE xs) xs.length = true
  len : xs.length ≤ 140737488351232
  perm : Z.Perm xs
theorem MapOk.nil (salt : Nat → Byte) : MapOk salt [] [] := ⟨rfl, by simp, .refl _⟩
theorem MapOk.distinct {salt : Nat → Byte} {xs Z : List En} (h : MapOk salt xs Z) : Z.Pairwise (fun a b => a.nm ≠ b.nm) := by
  have h1 : xs.Pairwise (fun a b => a.nm ≠ b.nm) := (right_ok h.right).1.imp fun {a b} hlt e => by
    rw [e, ord_self] at hlt; omega
  exact (h.perm.symm.pairwise_iff (fun {a b} hab e => hab e.symm)).1 h1
theorem MapOk.ok {salt : Nat → Byte} {xs Z : List En} (h : MapOk salt xs Z) : ∀ x ∈ Z, oneB x.nm x.ino = true := fun x hx => (right_ok h.right).2 x (h.perm.mem_iff.1 hx)
theorem MapOk.small {salt : Nat → Byte} {xs Z : List En} (h : MapOk salt xs Z) : xs.length ≤ 440 ∧ Z.length = xs.length := ⟨(right_len h.len h.right).1, h.perm.length_eq⟩
theorem MapOk.has {salt : Nat → Byte} {xs Z : List En} (h : MapOk salt xs Z) (nm : ByteArray) : (∃ x ∈ xs, x.nm = nm) ↔ 0 ≤ atR (nthE Z) nm Z.length := by
  rcases atR_cases (nthE Z) nm Z.length with ⟨h1, h2⟩ | ⟨k, h1, h2, h3⟩
  · rw [h1]
    refine ⟨fun ⟨x, hx, e⟩ => ?_, fun h => by omega⟩
    obtain ⟨i, hi, rfl⟩ := List.getElem_of_mem (h.perm.mem_iff.2 hx)
    rw [nthE_eq Z i hi] at e
    exact absurd e (h2 i hi)
  · rw [h2]
    refine ⟨fun _ => by omega, fun _ => ⟨nthE Z k, h.perm.mem_iff.1 (by rw [← nthE_eq Z k h1]; exact List.getElem_mem _), h3⟩⟩
theorem filter_not {Z : List En} (hd : Z.Pairwise (fun a b => a.nm ≠ b.nm)) {k : Nat} (hk : k < Z.length) : Z.filter (notNm (nthE Z k).nm) = Z.take k ++ Z.drop (k + 1) := by
  refine filter_at hk rfl fun j hj e => ?_
  have hp := List.pairwise_iff_getElem.1 hd
  rcases Nat.lt_trichotomy j k with hlt | heq | hgt
  · exact absurd (by rw [nthE_eq Z j hj, nthE_eq Z k hk]; exact e) (hp j k hj hk hlt)
  · exact heq
  · exact absurd (by rw [nthE_eq Z j hj, nthE_eq Z k hk]; exact e.symm) (hp k j hk hj hgt)
theorem MapOk.drop {salt : Nat → Byte} {xs Z : List En} (h : MapOk salt xs Z) {nm : ByteArray} {k : Nat} (hk : k < Z.length) (he : (nthE Z k).nm = nm) : MapOk salt (xs.filter (notNm nm)) (Z.take k ++ Z.drop (k + 1)) := by
  refine ⟨filter_right _ h.len h.right, by have := List.length_filter_le (notNm nm) xs; have := h.len; omega, ?_⟩
  rw [← filter_not h.distinct hk, he]
  exact h.perm.filter _
theorem insE_perm (salt : Nat → Byte) (e : En) : ∀ xs : List En, (insE salt e xs).Perm (e :: xs)
  | [] => .refl _
  | x :: xs => by
    unfold insE
    split
    · exact .refl _
    · exact ((insE_perm salt e xs).cons x).trans (.swap e x xs)
theorem ListPost.outs {R : List En × Int} {w w' : World} {r : Ending} (h : ListPost R w r w') : ∃ ad c, r = .returned (.tuple #[.slice ad R.1.length c, .int .i64 R.2]) ∧ w'.ownsRow w.heap.size 68 2 (.slice ad R.1.length c) R.1.length (flat ecl R.1) ∧ Kept (fun _ => False) w w' := by
  obtain ⟨v, rfl, ho, k⟩ := h
  obtain ⟨a, c, rfl, _⟩ := OwnE.reads ho
  exact ⟨a, c, rfl, ho, k⟩
/-- Put, by its two answers. -/
theorem put_maps (salt : Nat → Byte) (a : Option Addr) (cap : Nat) (xs Z : List En) (nm : ByteArray) (ino : Int) (w : World) (hk : KeysAt w) (h : ListE w a xs.length (nthE xs)) (hm : MapOk salt xs Z) (h2 : nm.size ≤ 140737488351232) :
    Calls Tryd.prog 19 #[.agg (Fs 16 salt), .slice a xs.length cap, .string nm, .int .i64 ino] w fun r w' => ∃ (ad : Option Addr) (n c : Nat) (e : Int), r = .returned (.tuple #[.slice ad n c, .int .i64 e]) ∧ Kept (fun _ => False) w w' ∧
      (e = 2 ∨ e = 17 ∨ e = 5 ∨ (e = 0 ∧ atR (nthE Z) nm Z.length = -1 ∧ ∃ ys : List En, n = ys.length ∧ w'.ownsRow w.heap.size 68 2 (.slice ad ys.length c) ys.length (flat ecl ys) ∧ MapOk salt ys (Z ++ [⟨nm, ino⟩]))) := by
  refine (put_any salt a cap xs nm ino w hk h hm.len (right_szs hm.right) h2).mono fun r w' hp => ?_
  obtain ⟨ad, c, rfl, hl, k⟩ := hp.outs
  refine ⟨ad, _, c, _, rfl, k, ?_⟩
  rcases put_cases nm ino hm.right with ⟨_, e⟩ | ⟨_, i, _, e⟩ | ⟨_, hf, e⟩ | ⟨ho, hi, hf, e⟩
  · rw [e]; exact .inl rfl
  · rw [e]; exact .inr (.inl rfl)
  · rw [e]; exact .inr (.inr (.inl rfl))
  · rw [e] at hl ⊢
    refine .inr (.inr (.inr ⟨rfl, ?_, _, rfl, hl, ⟨(put_good hm.len hm.right ho hi hf).1, ?_, ?_⟩⟩))
    · have hno : ¬ ∃ x ∈ xs, x.nm = nm := fun ⟨x, hx, ex⟩ => by
        obtain ⟨j, hj, rfl⟩ := List.getElem_of_mem hx
        rw [nthE_eq xs j hj] at ex
        exact idxOf_none' hi j hj ex
      have := mt (hm.has nm).2 hno
      have := (atR_range (nthE Z) nm Z.length).1
      omega
    · have := hm.small.1
      rw [insE_len]; omega
    · exact ((List.perm_append_singleton _ _).trans (hm.perm.cons _)).trans (insE_perm salt _ xs).symm
/-- Drop, by its two answers. -/
theorem drop_maps (salt : Nat → Byte) (a : Option Addr) (cap : Nat) (xs Z : List En) (nm : ByteArray) (w : World) (hk : KeysAt w) (h : ListE w a xs.length (nthE xs)) (hm : MapOk salt xs Z) (h2 : nm.size ≤ 140737488351232) :
    Calls Tryd.prog 29 #[.agg (Fs 16 salt), .slice a xs.length cap, .string nm] w fun r w' => ∃ (ad : Option Addr) (n c : Nat) (e : Int), r = .returned (.tuple #[.slice ad n c, .int .i64 e]) ∧ Kept (fun _ => False) w w' ∧
      ((e = 4 ∧ atR (nthE Z) nm Z.length = -1) ∨ (e = 0 ∧ ∃ k : Nat, k < Z.length ∧ atR (nthE Z) nm Z.length = (k : Int) ∧ ∃ ys : List En, n = ys.length ∧ w'.ownsRow w.heap.size 68 2 (.slice ad ys.length c) ys.length (flat ecl ys) ∧ MapOk salt ys (Z.take k ++ Z.drop (k + 1)))) := by
  refine (drop_any salt a cap xs nm w hk h hm.len (right_szs hm.right) h2).mono fun r w' hp => ?_
  obtain ⟨ad, c, rfl, hl, k⟩ := hp.outs
  refine ⟨ad, _, c, _, rfl, k, ?_⟩
  rcases drop_cases nm hm.right with ⟨hi, e⟩ | ⟨i0, hi, e⟩
  · rw [e]
    refine .inl ⟨rfl, ?_⟩
    have hno : ¬ ∃ x ∈ xs, x.nm = nm := fun ⟨x, hx, ex⟩ => by
      obtain ⟨j, hj, rfl⟩ := List.getElem_of_mem hx
      rw [nthE_eq xs j hj] at ex
      exact idxOf_none' hi j hj ex
    have := mt (hm.has nm).2 hno
    have := (atR_range (nthE Z) nm Z.length).1
    omega
  · rw [e] at hl ⊢
    rcases atR_cases (nthE Z) nm Z.length with ⟨h1, h2⟩ | ⟨i, h1, h2, h3⟩
    · have hno : ¬ ∃ x ∈ xs, x.nm = nm := fun hx => by have := (hm.has nm).1 hx; omega
      have : idxOf (nthE xs) nm xs.length = none := idxOf_none _ _ _ fun i hi e => hno ⟨nthE xs i, by rw [← nthE_eq xs i hi]; exact List.getElem_mem _, e⟩
      rw [this] at hi; cases hi
    · exact .inr ⟨rfl, i, h1, h2, _, rfl, hl, hm.drop h1 h3⟩
/-- What Find answers at a name that is there. -/
theorem MapOk.find {salt : Nat → Byte} {xs Z : List En} (h : MapOk salt xs Z) {k : Nat} (hk : k < Z.length) : findR salt (nthE xs) xs.length (nthE Z k).nm = ((nthE Z k).ino, 0) := by
  have hmem : nthE Z k ∈ xs := h.perm.mem_iff.1 (by rw [← nthE_eq Z k hk]; exact List.getElem_mem _)
  obtain ⟨i, hi, e⟩ := List.getElem_of_mem hmem
  rw [nthE_eq xs i hi] at e
  unfold findR
  rw [if_pos h.right, idxOf_there (okTo_sorted salt _ _ (rightB_ok h.right)) hi (by rw [e])]
  simp only [e]
/-- The cursor behind c names. -/
def lastOf (xs : List En) (c : Nat) : ByteArray := if c = 0 then ⟨#[]⟩ else (nthE xs (c - 1)).nm
theorem filter_last {salt : Nat → Byte} {xs : List En} (h : rightB salt (nthE xs) xs.length = true) {c : Nat} (hc : c ≤ xs.length) : xs.filter (aftB salt (lastOf xs c)) = xs.drop c := by
  unfold lastOf
  by_cases h0 : c = 0
  · rw [if_pos h0, h0]
    exact filter_empty (by decide +kernel)
  · rw [if_neg h0]
    have hs := okTo_sorted salt _ _ (rightB_ok h)
    have h1 := okTo_one salt _ _ (rightB_ok h) (c - 1) (by omega)
    have hne : (nthE xs (c - 1)).nm.toList.isEmpty = false := by
      have := (one_size h1).1
      cases e : (nthE xs (c - 1)).nm.toList with
      | nil =>
        have h3 : (nthE xs (c - 1)).nm = ⟨#[]⟩ := toList_inj (by rw [e]; decide +kernel)
        rw [h3] at this
        exact absurd this (by decide)
      | cons _ _ => rfl
    refine filter_drop _ xs c hc (fun m hm hlt => ?_) (fun m hm hge => ?_)
    · rw [nthE_eq xs m hm]
      unfold aftB
      rw [hne, Bool.false_or, decide_eq_false_iff_not]
      by_cases e : m = c - 1
      · subst e; rw [ord_self]; omega
      · have := hs m (c - 1) (by omega) (by omega); omega
    · rw [nthE_eq xs m hm]
      unfold aftB
      rw [hne, Bool.false_or, decide_eq_true_eq]
      have := hs (c - 1) m (by omega) hm
      have := ord_neg salt (nthE xs (c - 1)).nm (nthE xs m).nm
      omega
/-- The names behind the first c, n at most. -/
def nextOf (xs : List En) (c n : Nat) : List ByteArray := ((xs.drop c).map En.nm).take n
theorem after_last {salt : Nat → Byte} {xs : List En} (h : rightB salt (nthE xs) xs.length = true) {c n : Nat} (hc : c ≤ xs.length) : afterR salt xs (lastOf xs c) (n : Int) = (nextOf xs c n, 0) := by
  unfold afterR nextOf
  rw [if_pos h, if_neg (by omega), filter_last h hc, Int.toNat_natCast]
theorem nextOf_len (xs : List En) (c n : Nat) : (nextOf xs c n).length = min n (xs.length - c) := by unfold nextOf; simp
theorem names_next (xs : List En) (c n : Nat) : (xs.take c).map En.nm ++ nextOf xs c n = (xs.take (c + (nextOf xs c n).length)).map En.nm := by
  rw [nextOf_len]
  unfold nextOf
  rw [← List.map_take, ← List.map_append]
  congr 1
  rw [List.take_add]
  congr 1
  by_cases h : n ≤ xs.length - c
  · rw [Nat.min_eq_left h]
  · rw [Nat.min_eq_right (by omega), List.take_of_length_le (by simp; omega), List.take_of_length_le (by simp)]
theorem nextOf_last (xs : List En) (c n : Nat) (m : Nat) (hm : m = (nextOf xs c n).length) (h0 : 0 < m) : (nextOf xs c n).getD (m - 1) ⟨#[]⟩ = lastOf xs (c + m) := by
  rw [nextOf_len] at hm
  unfold lastOf
  rw [if_neg (by omega)]
  unfold nextOf nthE
  rw [List.getD_eq_getElem?_getD, List.getElem?_take, if_pos (by omega), List.getElem?_map, List.getElem?_drop, show c + (m - 1) = c + m - 1 by omega]
  rw [List.getD_eq_getElem?_getD]
  have hlt : c + m - 1 < xs.length := by omega
  rw [List.getElem?_eq_getElem hlt]
  rfl
end Go.Proofs.YtpekibadleghbaaDoor
namespace Go.Proofs.YtpekibadleghbaaDoor
open Go.RowKit
set_option linter.unusedVariables false
set_option linter.unusedSimpArgs false
theorem info3' : Tryd.prog.info? 3 = some ((Tryd.prog.info? 3).getD default) := by kernel_rfl
theorem zero3' : ((Tryd.prog.info? 3).getD default).zero = some (.int .i64 0) := by kernel_rfl
theorem size3' : ((Tryd.prog.info? 3).getD default).size = 1 := by kernel_rfl
theorem bytes3' : ((Tryd.prog.info? 3).getD default).bytes = 8 := by kernel_rfl
/-- Numbers of one's own. -/
def OwnI (w : World) (base : Nat) (v : Value) (n : Nat) (L : List Int) : Prop := w.ownsRow base 3 1 v n (L.map (Value.int .i64))
theorem OwnI.nil (w : World) (base : Nat) : OwnI w base (.slice none 0 0) 0 [] := World.ownsRow_nil w base 3 1
theorem OwnI.alloc {w : World} {base : Nat} {v : Value} {n : Nat} {L : List Int} (h : OwnI w base v n L) (o : Obj) : OwnI (w.alloc o) base v n L := World.ownsRow.alloc h o
theorem owns_ltI {w : World} {base : Nat} {v : Value} {n : Nat} {L : List Int} (ho : OwnI w base v n L) {k : Nat} (hk : v.ownBlock = some k) : base ≤ k ∧ k < w.heap.size := by
  rcases ho.2 with ⟨rfl, _⟩ | ⟨g, cap, cur, rfl, hg, hh, _⟩
  · simp [Value.ownBlock] at hk
  · have : g = k := by simpa [Value.ownBlock] using hk
    subst this
    exact ⟨hg, lt_of_at hh⟩
theorem owns_lowerI {w : World} {base base' : Nat} {v : Value} {n : Nat} {L : List Int} (ho : OwnI w base v n L) (hb : base' ≤ base) : OwnI w base' v n L := by
  refine ⟨ho.1, ?_⟩
  rcases ho.2 with h | ⟨g, cap, cur, hv, hg, r⟩
  · exact .inl h
  · exact .inr ⟨g, cap, cur, hv, by omega, r⟩
theorem owns_keptI {w w' : World} {base : Nat} {v : Value} {n : Nat} {L : List Int} {S : Nat → Prop} (ho : OwnI w base v n L) (hk : Kept S w w') (hn : ∀ k, v.ownBlock = some k → ¬ S k) : OwnI w' base v n L := by
  refine ⟨ho.1, ?_⟩
  rcases ho.2 with h | ⟨g, cap, cur, hv, hb, hh, r⟩
  · exact .inl h
  · exact .inr ⟨g, cap, cur, hv, hb, by rw [hk.block g (lt_of_at hh) (hn g (by rw [hv]; rfl))]; exact hh, r⟩
theorem kept_ownI {w0 w w' : World} {base : Nat} {v : Value} {n : Nat} {L : List Int} (hK : Kept (fun _ => False) w0 w) (hb : w0.heap.size ≤ base) (ho : OwnI w base v n L) (hk : Kept (fun k => v.ownBlock = some k) w w') : Kept (fun _ => False) w0 w' :=
  hK.trans hk (fun j hj h => by have := (owns_ltI ho h).1; omega)
/-- Names and numbers never lie in one block. -/
theorem apart_SI {w : World} {b b' : Nat} {v u : Value} {n m : Nat} {L : List ByteArray} {M : List Int} (hs : OwnS w b v n L) (hi : OwnI w b' u m M) {k : Nat} (h1 : v.ownBlock = some k) (h2 : u.ownBlock = some k) : False := by
  rcases hs.2 with ⟨rfl, _⟩ | ⟨g, cap, cur, rfl, _, hh, _⟩
  · simp [Value.ownBlock] at h1
  · rcases hi.2 with ⟨rfl, _⟩ | ⟨g', cap', cur', rfl, _, hh', _⟩
    · simp [Value.ownBlock] at h2
    · have e1 : g = k := by simpa [Value.ownBlock] using h1
      have e2 : g' = k := by simpa [Value.ownBlock] using h2
      subst e1; subst e2
      rw [hh] at hh'
      have := Option.some.inj hh'
      injection this with _ h3 _
      exact absurd h3 (by decide)
set_option maxRecDepth 100000 in
theorem wp_appS {o : Oper} {a : Act} {w : World} {K : Act → World → Prop} {Q : Exit → Act → World → Prop} (s x : Operand) (ho : o.op = .call { callee := .builtin .append, args := #[s, x], argTypes := #[31, 31] })
    (base : Nat) (v : Value) (n : Nat) (L : List ByteArray) (hs : a.eval s = v) (hown : OwnS w base v n L) (ad : Addr) (m c : Nat) (M : List ByteArray) (hx : a.eval x = .slice (some ad) m c) (hl : M.length = m) (hc : ∀ j b, M[j]? = some b → w.cell? (ad.add j) = some (Value.string b))
    (hn : n + m ≤ 1000000) (hbase : base ≤ w.heap.size)
    (h : ∀ v' w', OwnS w' base v' (n + m) (L ++ M) → Kept (fun k => v.ownBlock = some k) w w' → K (a.put o.dst v') w') : o.wp Tryd.prog a w K Q := by
  obtain ⟨v', w', hr, h1, h2, _, _⟩ := run_append_own_at (P := Tryd.prog) w base 31 o.type 9 _ _ 1 16 Tryd.underlying31 info9' zero9' size9' bytes9' rfl (by omega) v n (L.map (Value.string)) hown ad m c (M.map (Value.string)) (by simp [hl]) (fun j u hj => by
    rw [List.getElem?_map] at hj
    cases hb : M[j]? with
    | none => rw [hb] at hj; cases hj
    | some b => rw [hb] at hj; simp at hj; rw [← hj]; exact hc j b hb) (fun u hu => by
      simp only [List.mem_map] at hu
      obtain ⟨b, _, rfl⟩ := hu
      rfl) (by unfold maxLen; omega) (by omega) hbase
  unfold Oper.wp execOp
  simp only [ho, resolve, invoke, builtin, Sem.run_bind, Sem.run_pure, Result.andThen_ok, List.map_toArray, List.map_cons, List.map_nil, hs, hx, hr]
  refine h v' w' ?_ (Kept.grown h2)
  unfold OwnS
  rw [List.map_append]
  exact h1
theorem appSs {ops : Array Oper} {rest : List Oper} {o : Oper} {a : Act} {w : World} {Q : Exit → Act → World → Prop} (hgd : o.guard = none) (s x : Operand) (ho : o.op = .call { callee := .builtin .append, args := #[s, x], argTypes := #[31, 31] })
    (base : Nat) (v : Value) (n : Nat) (L : List ByteArray) (hs : a.eval s = v) (hown : OwnS w base v n L) (ad : Addr) (m c : Nat) (M : List ByteArray) (hx : a.eval x = .slice (some ad) m c) (hl : M.length = m) (hc : ∀ j b, M[j]? = some b → w.cell? (ad.add j) = some (Value.string b))
    (hn : n + m ≤ 1000000) (hbase : base ≤ w.heap.size)
    (h : ∀ v' w', OwnS w' base v' (n + m) (L ++ M) → Kept (fun k => v.ownBlock = some k) w w' → wpList Tryd.prog ops Q rest (a.put o.dst v') w') : wpList Tryd.prog ops Q (o :: rest) a w :=
  wpList_plain hgd fun _ hK => wp_appS s x ho base v n L hs hown ad m c M hx hl hc hn hbase fun v' w' h1 h2 => hK _ _ (h v' w' h1 h2)
theorem OwnS.len {w : World} {base : Nat} {v : Value} {n : Nat} {L : List ByteArray} (ho : OwnS w base v n L) : n = L.length := by have := ho.1; simp at this; omega
theorem OwnS.form {w : World} {base : Nat} {v : Value} {n : Nat} {L : List ByteArray} (ho : OwnS w base v n L) : ∃ a c, v = .slice a n c := by
  rcases ho.2 with ⟨rfl, rfl⟩ | ⟨g, cap, cur, rfl, _⟩
  · exact ⟨_, _, rfl⟩
  · exact ⟨_, _, rfl⟩
/-- What stands in such a row. -/
theorem OwnS.cells {w : World} {base : Nat} {v : Value} {n : Nat} {L : List ByteArray} (ho : OwnS w base v n L) (h0 : 0 < n) : ∃ g c, v = .slice (some ⟨g, 0, none⟩) n c ∧ n ≤ c ∧ ∀ i b, L[i]? = some b → w.cell? ⟨g, i, none⟩ = some (Value.string b) := by
  rcases ho.2 with ⟨rfl, h1⟩ | ⟨g, cap, cur, rfl, hb, hg, hn, hc, hs, ht⟩
  · omega
  · refine ⟨g, cap, rfl, hn, fun i b hi => ?_⟩
    have hl := ho.len
    have hlt : i < L.length := (List.getElem?_eq_some_iff.1 hi).1
    rw [cell_of_row w g i cur 9 _ hg]
    have h6 : cur.toList[i]? = some (Value.string b) := by
      have e : (cur.toList.take (n * 1))[i]? = cur.toList[i]? := by rw [List.getElem?_take, if_pos (by omega)]
      rw [← e, ht, List.getElem?_map, hi]
      rfl
    simpa using h6
theorem head_S (g n c k : Nat) (hk : k ≤ c) (W : World) : (Instr.sliceAt 31 (.slice (some ⟨g, 0, none⟩) n c) none (some (.int .i64 (k : Int))) none).run Tryd.prog W = .ok (.slice (some ⟨g, 0, none⟩) k c) W := by
  have hu : Tryd.prog.underlying 31 = some (.slice (Tryd.prog.elem 31)) := by kernel_rfl
  have he : Tryd.prog.elem 31 = 9 := by kernel_rfl
  have hz : (sizeOf 9).run Tryd.prog W = .ok 1 W := by kernel_rfl
  rw [run_sliceAt_slice (t := 31) (h := hu), run_slice_h (t := 31) (ht := hu) (h0 := by omega) (h2 := by omega), he, hz]
  simp only [Result.andThen_ok, sliced, Int.toNat_natCast, Nat.sub_zero, Nat.zero_mul]
  by_cases h : c = 0
  · rw [if_pos h]
  · rw [if_neg h]; simp [Addr.add]
theorem tail_S (g n c k : Nat) (hk : k + 1 ≤ n) (hc : n ≤ c) : ∃ o, (n = k + 1 ∨ o = k + 1) ∧ ∀ W, (Instr.sliceAt 31 (.slice (some ⟨g, 0, none⟩) n c) (some (.int .i64 ((k : Int) + 1))) none none).run Tryd.prog W = .ok (.slice (some ⟨g, o, none⟩) (n - (k + 1)) (c - (k + 1))) W := by
  have hu : Tryd.prog.underlying 31 = some (.slice (Tryd.prog.elem 31)) := by kernel_rfl
  have he : Tryd.prog.elem 31 = 9 := by kernel_rfl
  refine ⟨if c = k + 1 then 0 else k + 1, by split <;> omega, fun W => ?_⟩
  have hz : (sizeOf 9).run Tryd.prog W = .ok 1 W := by kernel_rfl
  rw [run_sliceAt_slice (t := 31) (h := hu), run_slice_l (t := 31) (ht := hu) (h0 := by omega) (h1 := by omega), he, hz]
  have e1 : ((k : Int) + 1).toNat = k + 1 := by omega
  simp only [Result.andThen_ok, sliced, e1]
  by_cases h : c = k + 1
  · rw [if_pos h, if_pos h]
  · rw [if_neg h, if_neg h]; simp [Addr.add]
/-- The two pieces of a row that is cut. -/
theorem OwnS.pieces {w : World} {g n c k o : Nat} {L : List ByteArray} (hc : ∀ i b, L[i]? = some b → w.cell? ⟨g, i, none⟩ = some (Value.string b)) (hn : n = L.length) (hk : k + 1 ≤ n) (ho : n = k + 1 ∨ o = k + 1) :
    (∀ j b, (L.take k)[j]? = some b → w.cell? ((⟨g, 0, none⟩ : Addr).add j) = some (Value.string b)) ∧ (∀ j b, (L.drop (k + 1))[j]? = some b → w.cell? ((⟨g, o, none⟩ : Addr).add j) = some (Value.string b)) ∧ (L.take k).length = k ∧ (L.drop (k + 1)).length = n - (k + 1) := by
  refine ⟨fun j b hj => ?_, fun j b hj => ?_, by simp; omega, by simp; omega⟩
  · have hlt : j < k := by have := (List.getElem?_eq_some_iff.1 hj).1; simp at this; omega
    rw [List.getElem?_take, if_pos hlt] at hj
    rw [Addr.add_lit, Nat.zero_add]
    exact hc j b hj
  · have hlt : j < n - (k + 1) := by have := (List.getElem?_eq_some_iff.1 hj).1; simp at this; omega
    obtain rfl : o = k + 1 := by omega
    rw [List.getElem?_drop] at hj
    rw [Addr.add_lit]
    exact hc (k + 1 + j) b hj
set_option maxRecDepth 100000 in
theorem wp_appI {o : Oper} {a : Act} {w : World} {K : Act → World → Prop} {Q : Exit → Act → World → Prop} (s x : Operand) (ho : o.op = .call { callee := .builtin .append, args := #[s, x], argTypes := #[63, 63] })
    (base : Nat) (v : Value) (n : Nat) (L : List Int) (hs : a.eval s = v) (hown : OwnI w base v n L) (ad : Addr) (m c : Nat) (M : List Int) (hx : a.eval x = .slice (some ad) m c) (hl : M.length = m) (hc : ∀ j b, M[j]? = some b → w.cell? (ad.add j) = some (Value.int .i64 b))
    (hn : n + m ≤ 1000000) (hbase : base ≤ w.heap.size)
    (h : ∀ v' w', OwnI w' base v' (n + m) (L ++ M) → Kept (fun k => v.ownBlock = some k) w w' → K (a.put o.dst v') w') : o.wp Tryd.prog a w K Q := by
  obtain ⟨v', w', hr, h1, h2, _, _⟩ := run_append_own_at (P := Tryd.prog) w base 63 o.type 3 _ _ 1 8 Tryd.underlying63 info3' zero3' size3' bytes3' rfl (by omega) v n (L.map (Value.int .i64)) hown ad m c (M.map (Value.int .i64)) (by simp [hl]) (fun j u hj => by
    rw [List.getElem?_map] at hj
    cases hb : M[j]? with
    | none => rw [hb] at hj; cases hj
    | some b => rw [hb] at hj; simp at hj; rw [← hj]; exact hc j b hb) (fun u hu => by
      simp only [List.mem_map] at hu
      obtain ⟨b, _, rfl⟩ := hu
      rfl) (by unfold maxLen; omega) (by omega) hbase
  unfold Oper.wp execOp
  simp only [ho, resolve, invoke, builtin, Sem.run_bind, Sem.run_pure, Result.andThen_ok, List.map_toArray, List.map_cons, List.map_nil, hs, hx, hr]
  refine h v' w' ?_ (Kept.grown h2)
  unfold OwnI
  rw [List.map_append]
  exact h1
theorem appIs {ops : Array Oper} {rest : List Oper} {o : Oper} {a : Act} {w : World} {Q : Exit → Act → World → Prop} (hgd : o.guard = none) (s x : Operand) (ho : o.op = .call { callee := .builtin .append, args := #[s, x], argTypes := #[63, 63] })
    (base : Nat) (v : Value) (n : Nat) (L : List Int) (hs : a.eval s = v) (hown : OwnI w base v n L) (ad : Addr) (m c : Nat) (M : List Int) (hx : a.eval x = .slice (some ad) m c) (hl : M.length = m) (hc : ∀ j b, M[j]? = some b → w.cell? (ad.add j) = some (Value.int .i64 b))
    (hn : n + m ≤ 1000000) (hbase : base ≤ w.heap.size)
    (h : ∀ v' w', OwnI w' base v' (n + m) (L ++ M) → Kept (fun k => v.ownBlock = some k) w w' → wpList Tryd.prog ops Q rest (a.put o.dst v') w') : wpList Tryd.prog ops Q (o :: rest) a w :=
  wpList_plain hgd fun _ hK => wp_appI s x ho base v n L hs hown ad m c M hx hl hc hn hbase fun v' w' h1 h2 => hK _ _ (h v' w' h1 h2)
theorem OwnI.len {w : World} {base : Nat} {v : Value} {n : Nat} {L : List Int} (ho : OwnI w base v n L) : n = L.length := by have := ho.1; simp at this; omega
theorem OwnI.form {w : World} {base : Nat} {v : Value} {n : Nat} {L : List Int} (ho : OwnI w base v n L) : ∃ a c, v = .slice a n c := by
  rcases ho.2 with ⟨rfl, rfl⟩ | ⟨g, cap, cur, rfl, _⟩
  · exact ⟨_, _, rfl⟩
  · exact ⟨_, _, rfl⟩
/-- What stands in such a row. -/
theorem OwnI.cells {w : World} {base : Nat} {v : Value} {n : Nat} {L : List Int} (ho : OwnI w base v n L) (h0 : 0 < n) : ∃ g c, v = .slice (some ⟨g, 0, none⟩) n c ∧ n ≤ c ∧ ∀ i b, L[i]? = some b → w.cell? ⟨g, i, none⟩ = some (Value.int .i64 b) := by
  rcases ho.2 with ⟨rfl, h1⟩ | ⟨g, cap, cur, rfl, hb, hg, hn, hc, hs, ht⟩
  · omega
  · refine ⟨g, cap, rfl, hn, fun i b hi => ?_⟩
    have hl := ho.len
    have hlt : i < L.length := (List.getElem?_eq_some_iff.1 hi).1
    rw [cell_of_row w g i cur 3 _ hg]
    have h6 : cur.toList[i]? = some (Value.int .i64 b) := by
      have e : (cur.toList.take (n * 1))[i]? = cur.toList[i]? := by rw [List.getElem?_take, if_pos (by omega)]
      rw [← e, ht, List.getElem?_map, hi]
      rfl
    simpa using h6
theorem head_I (g n c k : Nat) (hk : k ≤ c) (W : World) : (Instr.sliceAt 63 (.slice (some ⟨g, 0, none⟩) n c) none (some (.int .i64 (k : Int))) none).run Tryd.prog W = .ok (.slice (some ⟨g, 0, none⟩) k c) W := by
  have hu : Tryd.prog.underlying 63 = some (.slice (Tryd.prog.elem 63)) := by kernel_rfl
  have he : Tryd.prog.elem 63 = 3 := by kernel_rfl
  have hz : (sizeOf 3).run Tryd.prog W = .ok 1 W := by kernel_rfl
  rw [run_sliceAt_slice (t := 63) (h := hu), run_slice_h (t := 63) (ht := hu) (h0 := by omega) (h2 := by omega), he, hz]
  simp only [Result.andThen_ok, sliced, Int.toNat_natCast, Nat.sub_zero, Nat.zero_mul]
  by_cases h : c = 0
  · rw [if_pos h]
  · rw [if_neg h]; simp [Addr.add]
theorem tail_I (g n c k : Nat) (hk : k + 1 ≤ n) (hc : n ≤ c) : ∃ o, (n = k + 1 ∨ o = k + 1) ∧ ∀ W, (Instr.sliceAt 63 (.slice (some ⟨g, 0, none⟩) n c) (some (.int .i64 ((k : Int) + 1))) none none).run Tryd.prog W = .ok (.slice (some ⟨g, o, none⟩) (n - (k + 1)) (c - (k + 1))) W := by
  have hu : Tryd.prog.underlying 63 = some (.slice (Tryd.prog.elem 63)) := by kernel_rfl
  have he : Tryd.prog.elem 63 = 3 := by kernel_rfl
  refine ⟨if c = k + 1 then 0 else k + 1, by split <;> omega, fun W => ?_⟩
  have hz : (sizeOf 3).run Tryd.prog W = .ok 1 W := by kernel_rfl
  rw [run_sliceAt_slice (t := 63) (h := hu), run_slice_l (t := 63) (ht := hu) (h0 := by omega) (h1 := by omega), he, hz]
  have e1 : ((k : Int) + 1).toNat = k + 1 := by omega
  simp only [Result.andThen_ok, sliced, e1]
  by_cases h : c = k + 1
  · rw [if_pos h, if_pos h]
  · rw [if_neg h, if_neg h]; simp [Addr.add]
/-- The two pieces of a row that is cut. -/
theorem OwnI.pieces {w : World} {g n c k o : Nat} {L : List Int} (hc : ∀ i b, L[i]? = some b → w.cell? ⟨g, i, none⟩ = some (Value.int .i64 b)) (hn : n = L.length) (hk : k + 1 ≤ n) (ho : n = k + 1 ∨ o = k + 1) :
    (∀ j b, (L.take k)[j]? = some b → w.cell? ((⟨g, 0, none⟩ : Addr).add j) = some (Value.int .i64 b)) ∧ (∀ j b, (L.drop (k + 1))[j]? = some b → w.cell? ((⟨g, o, none⟩ : Addr).add j) = some (Value.int .i64 b)) ∧ (L.take k).length = k ∧ (L.drop (k + 1)).length = n - (k + 1) := by
  refine ⟨fun j b hj => ?_, fun j b hj => ?_, by simp; omega, by simp; omega⟩
  · have hlt : j < k := by have := (List.getElem?_eq_some_iff.1 hj).1; simp at this; omega
    rw [List.getElem?_take, if_pos hlt] at hj
    rw [Addr.add_lit, Nat.zero_add]
    exact hc j b hj
  · have hlt : j < n - (k + 1) := by have := (List.getElem?_eq_some_iff.1 hj).1; simp at this; omega
    obtain rfl : o = k + 1 := by omega
    rw [List.getElem?_drop] at hj
    rw [Addr.add_lit]
    exact hc (k + 1 + j) b hj
end Go.Proofs.YtpekibadleghbaaDoor
namespace Go.Proofs.YtpekibadleghbaaDoor
open Go.RowKit
set_option linter.unusedVariables false
set_option linter.unusedSimpArgs false
theorem put_comm (a : Act) (i j : Nat) (x y : Value) (h : i ≠ j) : (a.put (some i) x).put (some j) y = (a.put (some j) y).put (some i) x := by
  show ({ a with tmps := (a.tmps.setIfInBounds i x).setIfInBounds j y } : Act) = { a with tmps := (a.tmps.setIfInBounds j y).setIfInBounds i x }
  rw [Array.setIfInBounds_comm x y h]
theorem put_put (a : Act) (i : Nat) (x y : Value) : (a.put (some i) x).put (some i) y = a.put (some i) y := by
  show ({ a with tmps := (a.tmps.setIfInBounds i x).setIfInBounds i y } : Act) = { a with tmps := a.tmps.setIfInBounds i y }
  rw [Array.setIfInBounds_setIfInBounds]
theorem put_size (a : Act) (i : Nat) (x : Value) : (a.put (some i) x).tmps.size = a.tmps.size := by
  show (a.tmps.setIfInBounds i x).size = _
  simp
theorem put_eval (a : Act) (i j : Nat) (x : Value) (h : i ≠ j) : (a.put (some i) x).eval (.tmp j) = a.eval (.tmp j) := by
  show (a.tmps.setIfInBounds i x).getD j undef = a.tmps.getD j undef
  simp only [Array.getD_eq_getD_getElem?, Array.getElem?_setIfInBounds, if_neg h]
theorem put_same (a : Act) (i : Nat) (x : Value) (h : i < a.tmps.size) : (a.put (some i) x).eval (.tmp i) = x := by
  show (a.tmps.setIfInBounds i x).getD i undef = x
  simp [Array.getD_eq_getD_getElem?, Array.getElem?_setIfInBounds, h]
theorem put_self (a : Act) (i : Nat) (h : i < a.tmps.size) : a.put (some i) (a.eval (.tmp i)) = a := by
  show ({ a with tmps := a.tmps.setIfInBounds i (a.tmps.getD i undef) } : Act) = a
  have : a.tmps.setIfInBounds i (a.tmps.getD i undef) = a.tmps := by
    apply Array.ext_getElem?
    intro k
    rw [Array.getElem?_setIfInBounds]
    by_cases e : i = k
    · subst e
      simp [h, Array.getD_eq_getD_getElem?]
    · simp [e]
  rw [this]
theorem wpOp_run {P : Program} {ops : Array Oper} {Q : Exit → Act → World → Prop} {i : Nat} {o : Oper} {K : Act → World → Prop} {a : Act} {w : World} (ho : ops[i]? = some o) (hg : o.guard = none) (h : o.wp P a w K Q) : wpOp P ops Q i K a w := by
  unfold wpOp
  rw [ho]
  have : Region.wanted o (yielded ops a.tmps) = true := by unfold Region.wanted; rw [hg]
  simp only [this, if_true]
  exact .inl h
theorem wp_mkS {o : Oper} {a : Act} {w : World} {K : Act → World → Prop} {Q : Exit → Act → World → Prop} (ho : o.op = .buildSlice 31 0 #[])
    (h : K (a.put o.dst (.slice (some ⟨w.heap.size, 0, none⟩) 0 0)) (w.alloc (.cells #[] 9))) : o.wp Tryd.prog a w K Q := by
  unfold Oper.wp execOp
  simp only [ho]
  go_simp
  exact h
theorem madeS (w : World) : OwnS (w.alloc (.cells #[] 9)) w.heap.size (.slice (some ⟨w.heap.size, 0, none⟩) 0 0) 0 [] := World.ownsRow_made w #[] 0 (Nat.le_refl _) (by unfold maxLen; omega) rfl
theorem wp_oneS {o : Oper} {a : Act} {w : World} {K : Act → World → Prop} {Q : Exit → Act → World → Prop} (x : Nat) (v : ByteArray) (ho : o.op = .buildSlice 31 1 #[(0, .tmp x)]) (hx : a.eval (.tmp x) = Value.string v)
    (h : K (a.put o.dst (.slice (some ⟨w.heap.size, 0, none⟩) 1 1)) (w.alloc (.cells #[Value.string v] 9))) : o.wp Tryd.prog a w K Q := by
  have hx' : a.tmps[x]?.getD undef = Value.string v := by simpa [Act.eval] using hx
  clear hx
  unfold Oper.wp execOp
  simp only [ho]
  go_simp
  exact h
theorem wp_mkI {o : Oper} {a : Act} {w : World} {K : Act → World → Prop} {Q : Exit → Act → World → Prop} (ho : o.op = .buildSlice 63 0 #[])
    (h : K (a.put o.dst (.slice (some ⟨w.heap.size, 0, none⟩) 0 0)) (w.alloc (.cells #[] 3))) : o.wp Tryd.prog a w K Q := by
  unfold Oper.wp execOp
  simp only [ho]
  go_simp
  exact h
theorem madeI (w : World) : OwnI (w.alloc (.cells #[] 3)) w.heap.size (.slice (some ⟨w.heap.size, 0, none⟩) 0 0) 0 [] := World.ownsRow_made w #[] 0 (Nat.le_refl _) (by unfold maxLen; omega) rfl
theorem wp_oneI {o : Oper} {a : Act} {w : World} {K : Act → World → Prop} {Q : Exit → Act → World → Prop} (x : Nat) (v : Int) (ho : o.op = .buildSlice 63 1 #[(0, .tmp x)]) (hx : a.eval (.tmp x) = Value.int .i64 v)
    (h : K (a.put o.dst (.slice (some ⟨w.heap.size, 0, none⟩) 1 1)) (w.alloc (.cells #[Value.int .i64 v] 3))) : o.wp Tryd.prog a w K Q := by
  have hx' : a.tmps[x]?.getD undef = Value.int .i64 v := by simpa [Act.eval] using hx
  clear hx
  unfold Oper.wp execOp
  simp only [ho]
  go_simp
  exact h
def T6 (a : Act) (s t : Value × Value × Value) : Act := (((((a.put (some 71) s.1).put (some 75) s.2.1).put (some 80) s.2.2).put (some 81) t.1).put (some 85) t.2.1).put (some 90) t.2.2
theorem T6_put71 (a : Act) (s t : Value × Value × Value) (v : Value) : (T6 a s t).put (some 71) v = T6 a (v, s.2) t := by
  unfold T6
  rw [put_comm _ 90 71 _ _ (by decide), put_comm _ 85 71 _ _ (by decide), put_comm _ 81 71 _ _ (by decide), put_comm _ 80 71 _ _ (by decide), put_comm _ 75 71 _ _ (by decide), put_put]
theorem T6_put75 (a : Act) (s t : Value × Value × Value) (v : Value) : (T6 a s t).put (some 75) v = T6 a (s.1, v, s.2.2) t := by
  unfold T6
  rw [put_comm _ 90 75 _ _ (by decide), put_comm _ 85 75 _ _ (by decide), put_comm _ 81 75 _ _ (by decide), put_comm _ 80 75 _ _ (by decide), put_put]
theorem T6_put80 (a : Act) (s t : Value × Value × Value) (v : Value) : (T6 a s t).put (some 80) v = T6 a (s.1, s.2.1, v) t := by
  unfold T6
  rw [put_comm _ 90 80 _ _ (by decide), put_comm _ 85 80 _ _ (by decide), put_comm _ 81 80 _ _ (by decide), put_put]
theorem T6_put81 (a : Act) (s t : Value × Value × Value) (v : Value) : (T6 a s t).put (some 81) v = T6 a s (v, t.2) := by
  unfold T6
  rw [put_comm _ 90 81 _ _ (by decide), put_comm _ 85 81 _ _ (by decide), put_put]
theorem T6_put85 (a : Act) (s t : Value × Value × Value) (v : Value) : (T6 a s t).put (some 85) v = T6 a s (t.1, v, t.2.2) := by
  unfold T6
  rw [put_comm _ 90 85 _ _ (by decide), put_put]
theorem T6_put90 (a : Act) (s t : Value × Value × Value) (v : Value) : (T6 a s t).put (some 90) v = T6 a s (t.1, t.2.1, v) := by
  unfold T6
  rw [put_put]
theorem T6_eval71 (a : Act) (s t : Value × Value × Value) (hsz : 71 < a.tmps.size) : (T6 a s t).eval (.tmp 71) = s.1 := by
  unfold T6
  rw [put_eval _ 90 71 _ (by decide), put_eval _ 85 71 _ (by decide), put_eval _ 81 71 _ (by decide), put_eval _ 80 71 _ (by decide), put_eval _ 75 71 _ (by decide), put_same _ 71 _ (by first | exact hsz | (simp only [put_size]; exact hsz))]
theorem T6_eval75 (a : Act) (s t : Value × Value × Value) (hsz : 75 < a.tmps.size) : (T6 a s t).eval (.tmp 75) = s.2.1 := by
  unfold T6
  rw [put_eval _ 90 75 _ (by decide), put_eval _ 85 75 _ (by decide), put_eval _ 81 75 _ (by decide), put_eval _ 80 75 _ (by decide), put_same _ 75 _ (by first | exact hsz | (simp only [put_size]; exact hsz))]
theorem T6_eval81 (a : Act) (s t : Value × Value × Value) (hsz : 81 < a.tmps.size) : (T6 a s t).eval (.tmp 81) = t.1 := by
  unfold T6
  rw [put_eval _ 90 81 _ (by decide), put_eval _ 85 81 _ (by decide), put_same _ 81 _ (by first | exact hsz | (simp only [put_size]; exact hsz))]
theorem T6_eval85 (a : Act) (s t : Value × Value × Value) (hsz : 85 < a.tmps.size) : (T6 a s t).eval (.tmp 85) = t.2.1 := by
  unfold T6
  rw [put_eval _ 90 85 _ (by decide), put_same _ 85 _ (by first | exact hsz | (simp only [put_size]; exact hsz))]
theorem T6_eval74 (a : Act) (s t : Value × Value × Value) : (T6 a s t).eval (.tmp 74) = a.eval (.tmp 74) := by
  unfold T6
  rw [put_eval _ 90 74 _ (by decide), put_eval _ 85 74 _ (by decide), put_eval _ 81 74 _ (by decide), put_eval _ 80 74 _ (by decide), put_eval _ 75 74 _ (by decide), put_eval _ 71 74 _ (by decide)]
theorem T6_eval79 (a : Act) (s t : Value × Value × Value) : (T6 a s t).eval (.tmp 79) = a.eval (.tmp 79) := by
  unfold T6
  rw [put_eval _ 90 79 _ (by decide), put_eval _ 85 79 _ (by decide), put_eval _ 81 79 _ (by decide), put_eval _ 80 79 _ (by decide), put_eval _ 75 79 _ (by decide), put_eval _ 71 79 _ (by decide)]
theorem T6_eval84 (a : Act) (s t : Value × Value × Value) : (T6 a s t).eval (.tmp 84) = a.eval (.tmp 84) := by
  unfold T6
  rw [put_eval _ 90 84 _ (by decide), put_eval _ 85 84 _ (by decide), put_eval _ 81 84 _ (by decide), put_eval _ 80 84 _ (by decide), put_eval _ 75 84 _ (by decide), put_eval _ 71 84 _ (by decide)]
theorem T6_eval89 (a : Act) (s t : Value × Value × Value) : (T6 a s t).eval (.tmp 89) = a.eval (.tmp 89) := by
  unfold T6
  rw [put_eval _ 90 89 _ (by decide), put_eval _ 85 89 _ (by decide), put_eval _ 81 89 _ (by decide), put_eval _ 80 89 _ (by decide), put_eval _ 75 89 _ (by decide), put_eval _ 71 89 _ (by decide)]
theorem T6_self (a : Act) (h : 90 < a.tmps.size) : a = T6 a (a.eval (.tmp 71), a.eval (.tmp 75), a.eval (.tmp 80)) (a.eval (.tmp 81), a.eval (.tmp 85), a.eval (.tmp 90)) := by
  unfold T6
  rw [put_self a 71 (by omega), put_self a 75 (by omega), put_self a 80 (by omega), put_self a 81 (by omega), put_self a 85 (by omega), put_self a 90 h]
def ChS (w2 : World) (n1 n2 : Nat) (L1 L2 : List ByteArray) : Nat → Value × Value × Value → World → Prop
  | 0, _, _ => True
  | 1, s, w => OwnS w w2.heap.size s.1 0 []
  | 2, s, w => OwnS w w2.heap.size s.2.1 n1 L1
  | 3, s, w => OwnS w w2.heap.size s.2.2 (n1 + n2) (L1 ++ L2)
  | _, _, _ => True
theorem ChS.kept {w2 w w' : World} {n1 n2 : Nat} {L1 L2 : List ByteArray} {S : Nat → Prop} (hk : Kept S w w') (hn : ∀ b v n L k, OwnS w b v n L → v.ownBlock = some k → ¬ S k) : ∀ q s, ChS w2 n1 n2 L1 L2 q s w → ChS w2 n1 n2 L1 L2 q s w'
  | 0, _, _ => trivial
  | 1, s, h => owns_keptS (show OwnS w w2.heap.size s.1 0 [] from h) hk (fun k hk' => hn _ _ _ _ _ h hk')
  | 2, s, h => owns_keptS (show OwnS w w2.heap.size s.2.1 n1 L1 from h) hk (fun k hk' => hn _ _ _ _ _ h hk')
  | 3, s, h => owns_keptS (show OwnS w w2.heap.size s.2.2 (n1 + n2) (L1 ++ L2) from h) hk (fun k hk' => hn _ _ _ _ _ h hk')
  | _ + 4, _, _ => trivial
def ChI (w2 : World) (n1 n2 : Nat) (L1 L2 : List Int) : Nat → Value × Value × Value → World → Prop
  | 0, _, _ => True
  | 1, s, w => OwnI w w2.heap.size s.1 0 []
  | 2, s, w => OwnI w w2.heap.size s.2.1 n1 L1
  | 3, s, w => OwnI w w2.heap.size s.2.2 (n1 + n2) (L1 ++ L2)
  | _, _, _ => True
theorem ChI.kept {w2 w w' : World} {n1 n2 : Nat} {L1 L2 : List Int} {S : Nat → Prop} (hk : Kept S w w') (hn : ∀ b v n L k, OwnI w b v n L → v.ownBlock = some k → ¬ S k) : ∀ q s, ChI w2 n1 n2 L1 L2 q s w → ChI w2 n1 n2 L1 L2 q s w'
  | 0, _, _ => trivial
  | 1, s, h => owns_keptI (show OwnI w w2.heap.size s.1 0 [] from h) hk (fun k hk' => hn _ _ _ _ _ h hk')
  | 2, s, h => owns_keptI (show OwnI w w2.heap.size s.2.1 n1 L1 from h) hk (fun k hk' => hn _ _ _ _ _ h hk')
  | 3, s, h => owns_keptI (show OwnI w w2.heap.size s.2.2 (n1 + n2) (L1 ++ L2) from h) hk (fun k hk' => hn _ _ _ _ _ h hk')
  | _ + 4, _, _ => trivial
set_option maxRecDepth 100000 in
/-- names, inodes = append(append([]string{}, x..), y..), append(append([]int{}, u..), v..). -/
theorem two_cuts {ops : Array Oper} {Q : Exit → Act → World → Prop} {a : Act} {w2 w : World} (hsz : 90 < a.tmps.size) {o0 o4 o9 o10 o14 o19 : Oper}
    (h0 : ops[0]? = some o0) (h4 : ops[4]? = some o4) (h9 : ops[9]? = some o9) (h10 : ops[10]? = some o10) (h14 : ops[14]? = some o14) (h19 : ops[19]? = some o19)
    (p0 : o0.op = .buildSlice 31 0 #[] ∧ o0.dst = some 71 ∧ o0.guard = none) (p4 : o4.op = .call { callee := .builtin .append, args := #[.tmp 71, .tmp 74], argTypes := #[31, 31] } ∧ o4.dst = some 75 ∧ o4.guard = none)
    (p9 : o9.op = .call { callee := .builtin .append, args := #[.tmp 75, .tmp 79], argTypes := #[31, 31] } ∧ o9.dst = some 80 ∧ o9.guard = none)
    (p10 : o10.op = .buildSlice 63 0 #[] ∧ o10.dst = some 81 ∧ o10.guard = none) (p14 : o14.op = .call { callee := .builtin .append, args := #[.tmp 81, .tmp 84], argTypes := #[63, 63] } ∧ o14.dst = some 85 ∧ o14.guard = none)
    (p19 : o19.op = .call { callee := .builtin .append, args := #[.tmp 85, .tmp 89], argTypes := #[63, 63] } ∧ o19.dst = some 90 ∧ o19.guard = none)
    {x1 x2 u1 u2 : Addr} {n1 n2 c1 c2 d1 d2 : Nat} {L1 L2 : List ByteArray} {M1 M2 : List Int}
    (e74 : a.eval (.tmp 74) = .slice (some x1) n1 c1) (e79 : a.eval (.tmp 79) = .slice (some x2) n2 c2) (e84 : a.eval (.tmp 84) = .slice (some u1) n1 d1) (e89 : a.eval (.tmp 89) = .slice (some u2) n2 d2)
    (l1 : L1.length = n1) (l2 : L2.length = n2) (m1 : M1.length = n1) (m2 : M2.length = n2)
    (r1 : ∀ j b, L1[j]? = some b → w2.cell? (x1.add j) = some (.string b)) (r2 : ∀ j b, L2[j]? = some b → w2.cell? (x2.add j) = some (.string b))
    (s1 : ∀ j b, M1[j]? = some b → w2.cell? (u1.add j) = some (.int .i64 b)) (s2 : ∀ j b, M2[j]? = some b → w2.cell? (u2.add j) = some (.int .i64 b)) (hn : n1 + n2 ≤ 1000000)
    (hend : ∀ (s t : Value × Value × Value) (W : World), Kept (fun _ => False) w2 W → OwnS W w2.heap.size s.2.2 (n1 + n2) (L1 ++ L2) → OwnI W w2.heap.size t.2.2 (n1 + n2) (M1 ++ M2) → HeldSeq Tryd.prog ops (fun W => Kept (fun _ => False) w2 W) Q [(20, true), (21, true)] (T6 a s t) W) :
    Two Tryd.prog ops (fun W => Kept (fun _ => False) w2 W) Q [0, 4, 9] [10] [(14, false), (19, false), (20, true), (21, true)] a w := by
  obtain ⟨p0, t0, g0⟩ := p0
  obtain ⟨p4, t4, g4⟩ := p4
  obtain ⟨p9, t9, g9⟩ := p9
  obtain ⟨p10, t10, g10⟩ := p10
  obtain ⟨p14, t14, g14⟩ := p14
  obtain ⟨p19, t19, g19⟩ := p19
  refine ⟨_, _, T6 a, ChS w2 n1 n2 L1 L2, ChI w2 n1 n2 M1 M2, _, _, T6_self a hsz, trivial, trivial, ?_, ?_, ?_⟩
  · intro p i hp s t W hS hA
    rcases p with _ | _ | _ | p
    · obtain rfl : i = 0 := by simpa using hp.symm
      refine wpOp_run h0 g0 (wp_mkS p0 ?_)
      refine ⟨hS.alloc _, _, by rw [t0]; exact T6_put71 a s t _, owns_lowerS (madeS W) hS.size, ChI.kept ((Kept.refl (fun _ => False) W).alloc _) (fun _ _ _ _ _ _ _ h => h)⟩
    · obtain rfl : i = 4 := by simpa using hp.symm
      have hA' : OwnS W w2.heap.size s.1 0 [] := hA
      refine wpOp_run h4 g4 (wp_appS (.tmp 71) (.tmp 74) p4 w2.heap.size s.1 0 [] (T6_eval71 a s t (by omega)) hA' x1 n1 c1 L1 (by rw [T6_eval74]; exact e74) l1 (fun j b hj => hS.cell (r1 j b hj)) (by omega) hS.size ?_)
      intro v' w' ho hk
      rw [Nat.zero_add, List.nil_append] at ho
      refine ⟨kept_ownS hS (Nat.le_refl _) hA' hk, (s.1, v', s.2.2), by rw [t4]; exact T6_put75 a s t _, ho, ChI.kept hk (fun b v n L k hi hv h => apart_SI hA' hi h hv)⟩
    · obtain rfl : i = 9 := by simpa using hp.symm
      have hA' : OwnS W w2.heap.size s.2.1 n1 L1 := hA
      refine wpOp_run h9 g9 (wp_appS (.tmp 75) (.tmp 79) p9 w2.heap.size s.2.1 n1 L1 (T6_eval75 a s t (by omega)) hA' x2 n2 c2 L2 (by rw [T6_eval79]; exact e79) l2 (fun j b hj => hS.cell (r2 j b hj)) (by omega) hS.size ?_)
      intro v' w' ho hk
      refine ⟨kept_ownS hS (Nat.le_refl _) hA' hk, (s.1, s.2.1, v'), by rw [t9]; exact T6_put80 a s t _, ho, ChI.kept hk (fun b v n L k hi hv h => apart_SI hA' hi h hv)⟩
    · simp at hp
  · intro p i hp s t W hS hA
    rcases p with _ | p
    · obtain rfl : i = 10 := by simpa using hp.symm
      refine wpOp_run h10 g10 (wp_mkI p10 ?_)
      refine ⟨hS.alloc _, _, by rw [t10]; exact T6_put81 a s t _, owns_lowerI (madeI W) hS.size, ChS.kept ((Kept.refl (fun _ => False) W).alloc _) (fun _ _ _ _ _ _ _ h => h)⟩
    · simp at hp
  · intro s t W hS hA hB
    have hA' : OwnI W w2.heap.size t.1 0 [] := hB
    have hA3 : OwnS W w2.heap.size s.2.2 (n1 + n2) (L1 ++ L2) := hA
    show wpOp Tryd.prog ops Q 14 (fun a' w' => Kept (fun _ => False) w2 w' ∧ HeldSeq Tryd.prog ops (fun W => Kept (fun _ => False) w2 W) Q [(19, false), (20, true), (21, true)] a' w') (T6 a s t) W
    refine wpOp_run h14 g14 (wp_appI (.tmp 81) (.tmp 84) p14 w2.heap.size t.1 0 [] (T6_eval81 a s t (by omega)) hA' u1 n1 d1 M1 (by rw [T6_eval84]; exact e84) m1 (fun j b hj => hS.cell (s1 j b hj)) (by omega) hS.size ?_)
    intro v' w' ho hk
    rw [Nat.zero_add, List.nil_append] at ho
    have hS' := kept_ownI hS (Nat.le_refl _) hA' hk
    have hA3' : OwnS w' w2.heap.size s.2.2 (n1 + n2) (L1 ++ L2) := owns_keptS hA3 hk (fun k h1 h2 => apart_SI hA3 hA' h1 h2)
    refine ⟨hS', ?_⟩
    rw [t14, T6_put85]
    show wpOp Tryd.prog ops Q 19 (fun a' w' => Kept (fun _ => False) w2 w' ∧ HeldSeq Tryd.prog ops (fun W => Kept (fun _ => False) w2 W) Q [(20, true), (21, true)] a' w') (T6 a s (t.1, v', t.2.2)) w'
    refine wpOp_run h19 g19 (wp_appI (.tmp 85) (.tmp 89) p19 w2.heap.size v' n1 M1 (T6_eval85 a s _ (by omega)) ho u2 n2 d2 M2 (by rw [T6_eval89]; exact e89) m2 (fun j b hj => hS'.cell (s2 j b hj)) (by omega) hS'.size ?_)
    intro v2 w3 ho2 hk2
    refine ⟨kept_ownI hS' (Nat.le_refl _) ho hk2, ?_⟩
    rw [t19, T6_put90]
    exact hend s (t.1, v', v2) w3 (kept_ownI hS' (Nat.le_refl _) ho hk2) (owns_keptS hA3' hk2 (fun k h1 h2 => apart_SI hA3' ho h1 h2)) ho2
def T4 (a : Act) (s t : Value × Value) : Act := (((a.put (some 109) s.1).put (some 110) s.2).put (some 114) t.1).put (some 115) t.2
theorem T4_put109 (a : Act) (s t : Value × Value) (v : Value) : (T4 a s t).put (some 109) v = T4 a (v, s.2) t := by
  unfold T4
  rw [put_comm _ 115 109 _ _ (by decide), put_comm _ 114 109 _ _ (by decide), put_comm _ 110 109 _ _ (by decide), put_put]
theorem T4_put110 (a : Act) (s t : Value × Value) (v : Value) : (T4 a s t).put (some 110) v = T4 a (s.1, v) t := by
  unfold T4
  rw [put_comm _ 115 110 _ _ (by decide), put_comm _ 114 110 _ _ (by decide), put_put]
theorem T4_put114 (a : Act) (s t : Value × Value) (v : Value) : (T4 a s t).put (some 114) v = T4 a s (v, t.2) := by
  unfold T4
  rw [put_comm _ 115 114 _ _ (by decide), put_put]
theorem T4_put115 (a : Act) (s t : Value × Value) (v : Value) : (T4 a s t).put (some 115) v = T4 a s (t.1, v) := by
  unfold T4
  rw [put_put]
theorem T4_eval109 (a : Act) (s t : Value × Value) (hsz : 109 < a.tmps.size) : (T4 a s t).eval (.tmp 109) = s.1 := by
  unfold T4
  rw [put_eval _ 115 109 _ (by decide), put_eval _ 114 109 _ (by decide), put_eval _ 110 109 _ (by decide), put_same _ 109 _ (by first | exact hsz | (simp only [put_size]; exact hsz))]
theorem T4_eval114 (a : Act) (s t : Value × Value) (hsz : 114 < a.tmps.size) : (T4 a s t).eval (.tmp 114) = t.1 := by
  unfold T4
  rw [put_eval _ 115 114 _ (by decide), put_same _ 114 _ (by first | exact hsz | (simp only [put_size]; exact hsz))]
theorem T4_eval106 (a : Act) (s t : Value × Value) : (T4 a s t).eval (.tmp 106) = a.eval (.tmp 106) := by
  unfold T4
  rw [put_eval _ 115 106 _ (by decide), put_eval _ 114 106 _ (by decide), put_eval _ 110 106 _ (by decide), put_eval _ 109 106 _ (by decide)]
theorem T4_eval108 (a : Act) (s t : Value × Value) : (T4 a s t).eval (.tmp 108) = a.eval (.tmp 108) := by
  unfold T4
  rw [put_eval _ 115 108 _ (by decide), put_eval _ 114 108 _ (by decide), put_eval _ 110 108 _ (by decide), put_eval _ 109 108 _ (by decide)]
theorem T4_eval111 (a : Act) (s t : Value × Value) : (T4 a s t).eval (.tmp 111) = a.eval (.tmp 111) := by
  unfold T4
  rw [put_eval _ 115 111 _ (by decide), put_eval _ 114 111 _ (by decide), put_eval _ 110 111 _ (by decide), put_eval _ 109 111 _ (by decide)]
theorem T4_eval113 (a : Act) (s t : Value × Value) : (T4 a s t).eval (.tmp 113) = a.eval (.tmp 113) := by
  unfold T4
  rw [put_eval _ 115 113 _ (by decide), put_eval _ 114 113 _ (by decide), put_eval _ 110 113 _ (by decide), put_eval _ 109 113 _ (by decide)]
theorem T4_self (a : Act) (h : 115 < a.tmps.size) : a = T4 a (a.eval (.tmp 109), a.eval (.tmp 110)) (a.eval (.tmp 114), a.eval (.tmp 115)) := by
  unfold T4
  rw [put_self a 109 (by omega), put_self a 110 (by omega), put_self a 114 (by omega), put_self a 115 h]
/-- One more to be appended to S: what is there before, while and behind. -/
def PrS (base : Nat) (v0 : Value) (n : Nat) (L : List ByteArray) (e : ByteArray) : Nat → Value × Value → World → Prop
  | 0, _, w => OwnS w base v0 n L
  | 1, s, w => OwnS w base v0 n L ∧ ∃ g, s.1 = .slice (some ⟨g, 0, none⟩) 1 1 ∧ w.heap[g]? = some (.cells #[.string e] 9 (0, 0))
  | 2, s, w => OwnS w base s.2 (n + 1) (L ++ [e])
  | _, _, _ => True
theorem OwnS.blk {w : World} {b : Nat} {v : Value} {n : Nat} {L : List ByteArray} (h : OwnS w b v n L) {k : Nat} (hk : v.ownBlock = some k) : ∃ cur, w.heap[k]? = some (.cells cur 9 (0, 0)) := by
  rcases h.2 with ⟨rfl, _⟩ | ⟨g, cap, cur, rfl, _, hh, _⟩
  · simp [Value.ownBlock] at hk
  · have e1 : g = k := by simpa [Value.ownBlock] using hk
    subst e1
    exact ⟨cur, hh⟩
theorem PrS.kept {base n : Nat} {v0 : Value} {L : List ByteArray} {e : ByteArray} {S : Nat → Prop} {w w' : World} (hk : Kept S w w') (hn : ∀ k cur, w.heap[k]? = some (.cells cur 9 (0, 0)) → ¬ S k) : ∀ q s, PrS base v0 n L e q s w → PrS base v0 n L e q s w'
  | 0, s, h => owns_keptS (show OwnS w base v0 n L from h) hk (fun k hk' => by obtain ⟨cur, hc⟩ := OwnS.blk (show OwnS w base v0 n L from h) hk'; exact hn k cur hc)
  | 1, s, h => by
    obtain ⟨h1, g, h2, h3⟩ := h
    refine ⟨owns_keptS h1 hk (fun k hk' => by obtain ⟨cur, hc⟩ := h1.blk hk'; exact hn k cur hc), g, h2, ?_⟩
    rw [hk.block g (lt_of_at h3) (hn g _ h3)]; exact h3
  | 2, s, h => owns_keptS (show OwnS w base s.2 (n + 1) (L ++ [e]) from h) hk (fun k hk' => by obtain ⟨cur, hc⟩ := OwnS.blk (show OwnS w base s.2 (n + 1) (L ++ [e]) from h) hk'; exact hn k cur hc)
  | _ + 3, _, _ => trivial
/-- One more to be appended to I: what is there before, while and behind. -/
def PrI (base : Nat) (v0 : Value) (n : Nat) (L : List Int) (e : Int) : Nat → Value × Value → World → Prop
  | 0, _, w => OwnI w base v0 n L
  | 1, s, w => OwnI w base v0 n L ∧ ∃ g, s.1 = .slice (some ⟨g, 0, none⟩) 1 1 ∧ w.heap[g]? = some (.cells #[.int .i64 e] 3 (0, 0))
  | 2, s, w => OwnI w base s.2 (n + 1) (L ++ [e])
  | _, _, _ => True
theorem OwnI.blk {w : World} {b : Nat} {v : Value} {n : Nat} {L : List Int} (h : OwnI w b v n L) {k : Nat} (hk : v.ownBlock = some k) : ∃ cur, w.heap[k]? = some (.cells cur 3 (0, 0)) := by
  rcases h.2 with ⟨rfl, _⟩ | ⟨g, cap, cur, rfl, _, hh, _⟩
  · simp [Value.ownBlock] at hk
  · have e1 : g = k := by simpa [Value.ownBlock] using hk
    subst e1
    exact ⟨cur, hh⟩
theorem PrI.kept {base n : Nat} {v0 : Value} {L : List Int} {e : Int} {S : Nat → Prop} {w w' : World} (hk : Kept S w w') (hn : ∀ k cur, w.heap[k]? = some (.cells cur 3 (0, 0)) → ¬ S k) : ∀ q s, PrI base v0 n L e q s w → PrI base v0 n L e q s w'
  | 0, s, h => owns_keptI (show OwnI w base v0 n L from h) hk (fun k hk' => by obtain ⟨cur, hc⟩ := OwnI.blk (show OwnI w base v0 n L from h) hk'; exact hn k cur hc)
  | 1, s, h => by
    obtain ⟨h1, g, h2, h3⟩ := h
    refine ⟨owns_keptI h1 hk (fun k hk' => by obtain ⟨cur, hc⟩ := h1.blk hk'; exact hn k cur hc), g, h2, ?_⟩
    rw [hk.block g (lt_of_at h3) (hn g _ h3)]; exact h3
  | 2, s, h => owns_keptI (show OwnI w base s.2 (n + 1) (L ++ [e]) from h) hk (fun k hk' => by obtain ⟨cur, hc⟩ := OwnI.blk (show OwnI w base s.2 (n + 1) (L ++ [e]) from h) hk'; exact hn k cur hc)
  | _ + 3, _, _ => trivial
set_option maxRecDepth 100000 in
/-- names, inodes = append(names, x), append(inodes, y). -/
theorem two_apps {ops : Array Oper} {Q : Exit → Act → World → Prop} {a : Act} {w1 w2 w : World} (hsz : 115 < a.tmps.size) {o3 o4 o8 o9 : Oper}
    (h3 : ops[3]? = some o3) (h4 : ops[4]? = some o4) (h8 : ops[8]? = some o8) (h9 : ops[9]? = some o9)
    (p3 : o3.op = .buildSlice 31 1 #[(0, .tmp 108)] ∧ o3.dst = some 109 ∧ o3.guard = none) (p4 : o4.op = .call { callee := .builtin .append, args := #[.tmp 106, .tmp 109], argTypes := #[31, 31] } ∧ o4.dst = some 110 ∧ o4.guard = none)
    (p8 : o8.op = .buildSlice 63 1 #[(0, .tmp 113)] ∧ o8.dst = some 114 ∧ o8.guard = none) (p9 : o9.op = .call { callee := .builtin .append, args := #[.tmp 111, .tmp 114], argTypes := #[63, 63] } ∧ o9.dst = some 115 ∧ o9.guard = none)
    {v8 v9 : Value} {nm : ByteArray} {ino : Int} {base n : Nat} {L : List ByteArray} {M : List Int}
    (e106 : a.eval (.tmp 106) = v8) (e108 : a.eval (.tmp 108) = .string nm) (e111 : a.eval (.tmp 111) = v9) (e113 : a.eval (.tmp 113) = .int .i64 ino)
    (hb : w1.heap.size ≤ base) (hn : n + 1 ≤ 1000000) (hS8 : OwnS w base v8 n L) (hS9 : OwnI w base v9 n M) (hbw : ∀ W, Kept (fun _ => False) w1 W → Kept (fun k => v8.ownBlock = some k ∨ v9.ownBlock = some k) w2 W → base ≤ W.heap.size)
    (hend : ∀ (s t : Value × Value) (W : World), Kept (fun _ => False) w1 W → Kept (fun k => v8.ownBlock = some k ∨ v9.ownBlock = some k) w2 W → OwnS W base s.2 (n + 1) (L ++ [nm]) → OwnI W base t.2 (n + 1) (M ++ [ino]) → HeldSeq Tryd.prog ops (fun W => Kept (fun _ => False) w1 W ∧ Kept (fun k => v8.ownBlock = some k ∨ v9.ownBlock = some k) w2 W) Q [(10, true), (11, true)] (T4 a s t) W) :
    Two Tryd.prog ops (fun W => Kept (fun _ => False) w1 W ∧ Kept (fun k => v8.ownBlock = some k ∨ v9.ownBlock = some k) w2 W) Q [3, 4] [8] [(9, false), (10, true), (11, true)] a w := by
  obtain ⟨p3, t3, g3⟩ := p3
  obtain ⟨p4, t4, g4⟩ := p4
  obtain ⟨p8, t8, g8⟩ := p8
  obtain ⟨p9, t9, g9⟩ := p9
  refine ⟨_, _, T4 a, PrS base v8 n L nm, PrI base v9 n M ino, _, _, T4_self a hsz, hS8, hS9, ?_, ?_, ?_⟩
  · intro p i hp s t W hS hA
    rcases p with _ | _ | p
    · obtain rfl : i = 3 := by simpa using hp.symm
      have hA' : OwnS W base v8 n L := hA
      refine wpOp_run h3 g3 (wp_oneS 108 nm p3 (by rw [T4_eval108]; exact e108) ?_)
      exact ⟨⟨hS.1.alloc _, hS.2.alloc _⟩, (.slice (some ⟨W.heap.size, 0, none⟩) 1 1, s.2), by rw [t3]; exact T4_put109 a s t _, ⟨owns_keptS hA' ((Kept.refl (fun _ => False) W).alloc _) (fun _ _ h => h), W.heap.size, rfl, heap_alloc_new W _⟩, PrI.kept ((Kept.refl (fun _ => False) W).alloc _) (fun _ _ _ h => h)⟩
    · obtain rfl : i = 4 := by simpa using hp.symm
      obtain ⟨hA', g, hg, hc⟩ : OwnS W base v8 n L ∧ ∃ g, s.1 = .slice (some ⟨g, 0, none⟩) 1 1 ∧ W.heap[g]? = some (.cells #[.string nm] 9 (0, 0)) := hA
      refine wpOp_run h4 g4 (wp_appS (.tmp 106) (.tmp 109) p4 base v8 n L (by rw [T4_eval106]; exact e106) hA' ⟨g, 0, none⟩ 1 1 [nm] (by rw [T4_eval109 a s t (by omega)]; exact hg) rfl (fun j b hj => by
        have hl : j < 1 := (List.getElem?_eq_some_iff.1 hj).1
        obtain rfl : j = 0 := by omega
        simp at hj
        rw [Addr.add_lit, ← hj, cell_of_row W g _ _ 9 _ hc]
        rfl) (by omega) (hbw W hS.1 hS.2) ?_)
      intro v' w' ho hk
      exact ⟨⟨kept_ownS hS.1 hb hA' hk, hS.2.trans hk (fun _ _ h => .inl h)⟩, (s.1, v'), by rw [t4]; exact T4_put110 a s t _, ho, PrI.kept hk (fun k cur hk3 h => by obtain ⟨cur', hc'⟩ := hA'.blk h; rw [hc'] at hk3; have := Option.some.inj hk3; injection this with _ h3 _; exact absurd h3 (by decide))⟩
    · simp at hp
  · intro p i hp s t W hS hA
    rcases p with _ | p
    · obtain rfl : i = 8 := by simpa using hp.symm
      have hA' : OwnI W base v9 n M := hA
      refine wpOp_run h8 g8 (wp_oneI 113 ino p8 (by rw [T4_eval113]; exact e113) ?_)
      exact ⟨⟨hS.1.alloc _, hS.2.alloc _⟩, (.slice (some ⟨W.heap.size, 0, none⟩) 1 1, t.2), by rw [t8]; exact T4_put114 a s t _, ⟨owns_keptI hA' ((Kept.refl (fun _ => False) W).alloc _) (fun _ _ h => h), W.heap.size, rfl, heap_alloc_new W _⟩, PrS.kept ((Kept.refl (fun _ => False) W).alloc _) (fun _ _ _ h => h)⟩
    · simp at hp
  · intro s t W hS hA hB
    obtain ⟨hA', g, hg, hc⟩ : OwnI W base v9 n M ∧ ∃ g, t.1 = .slice (some ⟨g, 0, none⟩) 1 1 ∧ W.heap[g]? = some (.cells #[.int .i64 ino] 3 (0, 0)) := hB
    have hA3 : OwnS W base s.2 (n + 1) (L ++ [nm]) := hA
    show wpOp Tryd.prog ops Q 9 (fun a' w' => (Kept (fun _ => False) w1 w' ∧ Kept (fun k => v8.ownBlock = some k ∨ v9.ownBlock = some k) w2 w') ∧ HeldSeq Tryd.prog ops (fun W => Kept (fun _ => False) w1 W ∧ Kept (fun k => v8.ownBlock = some k ∨ v9.ownBlock = some k) w2 W) Q [(10, true), (11, true)] a' w') (T4 a s t) W
    refine wpOp_run h9 g9 (wp_appI (.tmp 111) (.tmp 114) p9 base v9 n M (by rw [T4_eval111]; exact e111) hA' ⟨g, 0, none⟩ 1 1 [ino] (by rw [T4_eval114 a s t (by omega)]; exact hg) rfl (fun j b hj => by
      have hl : j < 1 := (List.getElem?_eq_some_iff.1 hj).1
      obtain rfl : j = 0 := by omega
      simp at hj
      rw [Addr.add_lit, ← hj, cell_of_row W g _ _ 3 _ hc]
      rfl) (by omega) (hbw W hS.1 hS.2) ?_)
    intro v' w' ho hk
    have k1 := kept_ownI hS.1 hb hA' hk
    have k2 := hS.2.trans hk (fun _ _ h => .inr h)
    refine ⟨⟨k1, k2⟩, ?_⟩
    rw [t9, T4_put115]
    exact hend s (t.1, v') w' k1 k2 (owns_keptS hA3 hk (fun k h1 h2 => apart_SI hA3 hA' h1 h2)) ho
end Go.Proofs.YtpekibadleghbaaDoor
