/-
  Drop by its answers; bytes read as entries, and their bytes.
-/
import Derived.Test.YtpekibadleghbaaDoorD17
namespace Go.Proofs.YtpekibadleghbaaDoor
open Go.RowKit
set_option linter.unusedVariables false
set_option linter.unusedSimpArgs false
theorem drop_cases {salt : Nat → Byte} {xs : List En} (nm : ByteArray) (h : rightB salt (nthE xs) xs.length = true) :
    (idxOf (nthE xs) nm xs.length = none ∧ dropR salt xs nm = ([], 4)) ∨ (∃ i, idxOf (nthE xs) nm xs.length = some i ∧ dropR salt xs nm = (xs.filter (notNm nm), 0)) := by
  unfold dropR
  rw [if_pos h]
  cases hi : idxOf (nthE xs) nm xs.length with
  | none => exact .inl ⟨rfl, rfl⟩
  | some i => exact .inr ⟨i, rfl, rfl⟩
/-- Drop, by its two answers. -/
theorem drop_two (salt : Nat → Byte) (a : Option Addr) (cap : Nat) (xs : List En) (nm : ByteArray) (w : World) (hk : KeysAt w) (h : ListE w a xs.length (nthE xs)) (hn : xs.length ≤ 140737488351232) (hr : rightB salt (nthE xs) xs.length = true) (h2 : nm.size ≤ 140737488351232) :
    Calls Tryd.prog 29 #[.agg (Fs 16 salt), .slice a xs.length cap, .string nm] w fun r w' => ∃ (ad : Option Addr) (n c : Nat) (e : Int), r = .returned (.tuple #[.slice ad n c, .int .i64 e]) ∧ Kept (fun _ => False) w w' ∧
      ((e = 4 ∧ n = 0 ∧ ∀ x ∈ xs, x.nm ≠ nm) ∨
        (e = 0 ∧ (∃ x ∈ xs, x.nm = nm) ∧ n = (xs.filter (notNm nm)).length ∧ ListE w' ad (xs.filter (notNm nm)).length (nthE (xs.filter (notNm nm))) ∧ rightB salt (nthE (xs.filter (notNm nm))) (xs.filter (notNm nm)).length = true)) := by
  refine (drop_any salt a cap xs nm w hk h hn (right_szs hr) h2).mono fun r w' hp => ?_
  obtain ⟨ad, c, rfl, hl, k⟩ := hp.out
  refine ⟨ad, _, c, _, rfl, k, ?_⟩
  rcases drop_cases nm hr with ⟨hi, e⟩ | ⟨i, hi, e⟩
  · rw [e]
    refine .inl ⟨rfl, rfl, fun x hx e2 => ?_⟩
    obtain ⟨j, hj, rfl⟩ := List.getElem_of_mem hx
    rw [nthE_eq xs j hj] at e2
    exact idxOf_none' hi j hj e2
  · rw [e] at hl ⊢
    refine .inr ⟨rfl, ?_, rfl, hl, filter_right _ hn hr⟩
    have key : ∀ n, n ≤ xs.length → ∀ i, idxOf (nthE xs) nm n = some i → ∃ x ∈ xs, x.nm = nm := by
      intro n
      induction n with
      | zero => intro _ i hi; cases hi
      | succ n ih =>
        intro hn i hi
        unfold idxOf at hi
        cases k2 : idxOf (nthE xs) nm n with
        | some j => exact ih (by omega) j k2
        | none =>
          rw [k2] at hi
          cases k3 : (nthE xs n).nm.toList == nm.toList
          · rw [k3] at hi; simp at hi
          · exact ⟨nthE xs n, by rw [← nthE_eq xs n (by omega)]; exact List.getElem_mem _, toList_inj (by simpa using k3)⟩
    exact key _ (Nat.le_refl _) i hi
end Go.Proofs.YtpekibadleghbaaDoor
namespace Go.Proofs.YtpekibadleghbaaDoor
open Go.RowKit
set_option linter.unusedVariables false
set_option linter.unusedSimpArgs false
/-- The length byte of the entry at p. -/
def lenAt (f : Nat → Byte) (p : Nat) : Nat := (f (p + 1)).toNat
/-- The entry at p. -/
def entAt (f : Nat → Byte) (p : Nat) : En := ⟨strOf (lenAt f p) (fun i => f (p + 2 + i)), iB (f p)⟩
/-- The first p of n bytes read as the entries L. -/
inductive Par (f : Nat → Byte) (n : Nat) : List En → Nat → Prop
  | nil : Par f n [] 0
  | snoc {L : List En} {p : Nat} : Par f n L p → p + 2 + lenAt f p ≤ n → Par f n (L ++ [entAt f p]) (p + 2 + lenAt f p)
theorem Par.le {f : Nat → Byte} {n : Nat} {L : List En} {p : Nat} (h : Par f n L p) : p ≤ n := by
  cases h with
  | nil => omega
  | snoc _ h => exact h
theorem Par.len {f : Nat → Byte} {n : Nat} {L : List En} {p : Nat} (h : Par f n L p) : 2 * L.length ≤ p := by
  induction h with
  | nil => simp
  | snoc _ _ ih => simp; omega
/-- There is no further entry at p. -/
def Stuck (f : Nat → Byte) (n p : Nat) : Prop := n < p + 2 + lenAt f p
/-- The entries that stand behind one another from 0 on, by fuel. -/
def parse (f : Nat → Byte) (n : Nat) : Nat → List En × Nat
  | 0 => ([], 0)
  | k + 1 => if (parse f n k).2 + 2 + lenAt f (parse f n k).2 ≤ n then ((parse f n k).1 ++ [entAt f (parse f n k).2], (parse f n k).2 + 2 + lenAt f (parse f n k).2) else parse f n k
theorem Par.is {f : Nat → Byte} {n : Nat} {L : List En} {p : Nat} (h : Par f n L p) : parse f n L.length = (L, p) := by
  induction h with
  | nil => rfl
  | snoc _ h ih =>
    rw [List.length_append]
    show parse f n (_ + 1) = _
    unfold parse
    rw [ih]
    simp only [if_pos h]
theorem parse_stuck {f : Nat → Byte} {n k : Nat} (h : Stuck f n (parse f n k).2) : ∀ j, k ≤ j → parse f n j = parse f n k := by
  intro j hj
  induction j with
  | zero =>
    obtain rfl : k = 0 := by omega
    rfl
  | succ j ih =>
    by_cases e : k = j + 1
    · rw [e]
    · have ih := ih (by omega)
      show (if (parse f n j).2 + 2 + lenAt f (parse f n j).2 ≤ n then _ else parse f n j) = _
      rw [ih, if_neg (by unfold Stuck at h; omega)]
/-- Two readings that are both at their end are one. -/
theorem Par.unique {f : Nat → Byte} {n : Nat} {L M : List En} {p q : Nat} (h : Par f n L p) (k : Par f n M q) (sp : Stuck f n p) (sq : Stuck f n q) : L = M ∧ p = q := by
  have h1 := h.is
  have h2 := k.is
  have s1 : Stuck f n (parse f n L.length).2 := by rw [h1]; exact sp
  have s2 : Stuck f n (parse f n M.length).2 := by rw [h2]; exact sq
  have e : parse f n L.length = parse f n M.length := by
    rcases Nat.le_total L.length M.length with hl | hl
    · exact (parse_stuck s1 _ hl).symm
    · exact parse_stuck s2 _ hl
  rw [h1, h2] at e
  exact ⟨congrArg Prod.fst e, congrArg Prod.snd e⟩
end Go.Proofs.YtpekibadleghbaaDoor
namespace Go.Proofs.YtpekibadleghbaaDoor
open Go.RowKit
set_option linter.unusedVariables false
set_option linter.unusedSimpArgs false
theorem strOf_size (m : Nat) (g : Nat → Byte) : (strOf m g).size = m := by
  show ((List.range m).map fun i => UInt8.ofNat (g i).toNat).toArray.size = m
  simp
theorem sBytes_strOf (m : Nat) (g : Nat → Byte) : sBytes (strOf m g) = (List.range m).map g := by
  unfold sBytes strOf
  simp only [List.map_map]
  apply List.map_congr_left
  intro i _
  show BitVec.ofNat 8 (UInt8.ofNat (g i).toNat).toNat = g i
  apply BitVec.eq_of_toNat_eq
  have := (g i).isLt
  simp
theorem encE_entAt (f : Nat → Byte) (p : Nat) : encE (entAt f p) = (List.range (2 + lenAt f p)).map fun i => f (p + i) := by
  unfold encE entAt
  simp only [ofInt_iB8, strOf_size, sBytes_strOf]
  have h1 : BitVec.ofInt 8 (lenAt f p : Int) = f (p + 1) := by
    unfold lenAt
    apply BitVec.eq_of_toNat_eq
    have := (f (p + 1)).isLt
    simp
  rw [h1, Nat.add_comm 2, List.range_succ_eq_map, List.range_succ_eq_map]
  simp only [List.map_cons, List.map_map, Nat.add_zero]
  have e : (fun i => f (p + 2 + i)) = ((fun i => f (p + i)) ∘ Nat.succ) ∘ Nat.succ := by
    funext i
    show f (p + 2 + i) = f (p + (i + 1 + 1))
    congr 1
    omega
  rw [e]
  rfl
theorem Par.bytes {f : Nat → Byte} {n : Nat} {L : List En} {p : Nat} (h : Par f n L p) : encL L L.length = (List.range p).map f := by
  unfold encL
  rw [List.take_length]
  induction h with
  | nil => rfl
  | @snoc L p _ _ ih =>
    rw [List.flatMap_append, ih, show p + 2 + lenAt f p = p + (2 + lenAt f p) by omega, List.range_add, List.map_append]
    simp only [List.flatMap_cons, List.flatMap_nil, List.append_nil, encE_entAt, List.map_map]
    rfl
end Go.Proofs.YtpekibadleghbaaDoor
