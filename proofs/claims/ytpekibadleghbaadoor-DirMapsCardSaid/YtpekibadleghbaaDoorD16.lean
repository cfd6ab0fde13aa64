/-
  What Put and Drop keep of a list that is right.
-/
import Derived.Test.YtpekibadleghbaaDoorD15
namespace Go.Proofs.YtpekibadleghbaaDoor
open Go.RowKit
set_option linter.unusedVariables false
set_option linter.unusedSimpArgs false
/-- The entries' bytes, unwrapped. -/
def sumE : List En → Int
  | [] => 0
  | x :: xs => 2 + (x.nm.size : Int) + sumE xs
def OkL (salt : Nat → Byte) (xs : List En) : Prop := xs.Pairwise (fun a b => orderOf salt a.nm b.nm < 0) ∧ ∀ x ∈ xs, oneB x.nm x.ino = true
theorem sumE_append (xs ys : List En) : sumE (xs ++ ys) = sumE xs + sumE ys := by
  induction xs with
  | nil => simp [sumE]
  | cons x xs ih => simp only [List.cons_append, sumE, ih]; omega
theorem okTo_of (salt : Nat → Byte) (f : Nat → En) : ∀ n, (∀ i, i < n → oneB (f i).nm (f i).ino = true) → (∀ i j, i < j → j < n → orderOf salt (f i).nm (f j).nm < 0) → okTo salt f n = true
  | 0, _, _ => rfl
  | n + 1, h1, h2 => by
    unfold okTo
    rw [okTo_of salt f n (fun i hi => h1 i (by omega)) (fun i j hij hj => h2 i j hij (by omega)), h1 n (by omega)]
    by_cases e : n = 0
    · simp [e]
    · simp [h2 (n - 1) n (by omega) (by omega)]
theorem okTo_list {salt : Nat → Byte} {xs : List En} : okTo salt (nthE xs) xs.length = true ↔ OkL salt xs := by
  constructor
  · intro h
    refine ⟨List.pairwise_iff_getElem.2 fun i j hi hj hij => ?_, fun x hx => ?_⟩
    · rw [nthE_eq xs i hi, nthE_eq xs j hj]
      exact okTo_sorted salt _ _ h i j hij hj
    · obtain ⟨i, hi, rfl⟩ := List.getElem_of_mem hx
      rw [nthE_eq xs i hi]
      exact okTo_one salt _ _ h i hi
  · rintro ⟨h1, h2⟩
    refine okTo_of salt _ _ (fun i hi => ?_) (fun i j hij hj => ?_)
    · rw [← nthE_eq xs i hi]
      exact h2 _ (List.getElem_mem hi)
    · have := List.pairwise_iff_getElem.1 h1 i j (by omega) hj hij
      rw [nthE_eq xs i (by omega), nthE_eq xs j hj] at this
      exact this
theorem szE_sum {salt : Nat → Byte} {xs : List En} (h : OkL salt xs) (hn : xs.length ≤ 140737488351232) : szE (nthE xs) xs.length = sumE xs := by
  have hk := okTo_list.2 h
  have key : ∀ j, j ≤ xs.length → szE (nthE xs) j = sumE (xs.take j) := by
    intro j
    induction j with
    | zero => intro _; simp [szE, sumE]
    | succ j ih =>
      intro hj
      have h1 := okTo_one salt _ _ hk j (by omega)
      have h2 := one_size h1
      have hko : okTo salt (nthE xs) j = true := okTo_of salt _ _ (fun i hi => okTo_one salt _ _ hk i (by omega)) (fun i k hik hk2 => okTo_sorted salt _ _ hk i k hik (by omega))
      have h3 := szE_exact salt (nthE xs) j (by omega) hko
      unfold szE
      rw [take_snocE xs j (by omega), sumE_append, ← ih (by omega)]
      simp only [sumE]
      unfold wrap64
      omega
  rw [key _ (Nat.le_refl _), List.take_length]
theorem right_of {salt : Nat → Byte} {xs : List En} (h : OkL salt xs) (hn : xs.length ≤ 140737488351232) (hs : sumE xs ≤ 1320) : rightB salt (nthE xs) xs.length = true := by
  unfold rightB
  rw [szE_sum h hn, okTo_list.2 h]
  simp [hs]
theorem right_ok {salt : Nat → Byte} {xs : List En} (h : rightB salt (nthE xs) xs.length = true) : OkL salt xs := okTo_list.1 (rightB_ok h)
theorem right_sum {salt : Nat → Byte} {xs : List En} (hn : xs.length ≤ 140737488351232) (h : rightB salt (nthE xs) xs.length = true) : szE (nthE xs) xs.length = sumE xs ∧ sumE xs ≤ 1320 := by
  have h1 := szE_sum (right_ok h) hn
  have h2 := (right_len hn h).2.2
  exact ⟨h1, by omega⟩
theorem insE_mem {salt : Nat → Byte} {e x : En} : ∀ {xs : List En}, x ∈ insE salt e xs ↔ x = e ∨ x ∈ xs
  | [] => by simp [insE]
  | y :: xs => by
    unfold insE
    split
    · simp
    · simp only [List.mem_cons, insE_mem (xs := xs)]
      constructor
      · rintro (h | h | h)
        · exact .inr (.inl h)
        · exact .inl h
        · exact .inr (.inr h)
      · rintro (h | h | h)
        · exact .inr (.inl h)
        · exact .inl h
        · exact .inr (.inr h)
theorem insE_sum {salt : Nat → Byte} {e : En} : ∀ {xs : List En}, sumE (insE salt e xs) = sumE xs + 2 + (e.nm.size : Int)
  | [] => by simp [insE, sumE]
  | y :: xs => by
    unfold insE
    split
    · simp only [sumE]; omega
    · simp only [sumE, insE_sum (xs := xs)]; omega
theorem insE_ok {salt : Nat → Byte} {e : En} (he : oneB e.nm e.ino = true) : ∀ {xs : List En}, OkL salt xs → (∀ x ∈ xs, x.nm ≠ e.nm) → OkL salt (insE salt e xs)
  | [], _, _ => ⟨by simp [insE], by simp [insE, he]⟩
  | y :: xs, h, hne => by
    obtain ⟨h1, h2⟩ := h
    obtain ⟨p1, p2⟩ := List.pairwise_cons.1 h1
    unfold insE
    split
    · rename_i hlt
      refine ⟨List.pairwise_cons.2 ⟨fun x hx => ?_, h1⟩, fun x hx => ?_⟩
      · rcases List.mem_cons.1 hx with rfl | hx
        · exact hlt
        · exact ord_lt_le salt hlt (by have := p1 x hx; omega)
      · rcases List.mem_cons.1 hx with rfl | hx
        · exact he
        · exact h2 x hx
    · rename_i hlt
      have ih := insE_ok (salt := salt) he (xs := xs) ⟨p2, fun x hx => h2 x (List.mem_cons_of_mem _ hx)⟩ (fun x hx => hne x (List.mem_cons_of_mem _ hx))
      have hy : orderOf salt y.nm e.nm < 0 := by
        have q1 := ord_neg salt y.nm e.nm
        have q2 : orderOf salt y.nm e.nm ≠ 0 := fun q => hne y (List.mem_cons_self ..) (ord_eq salt q)
        omega
      refine ⟨List.pairwise_cons.2 ⟨fun x hx => ?_, ih.1⟩, fun x hx => ?_⟩
      · rcases insE_mem.1 hx with rfl | hx
        · exact hy
        · exact p1 x hx
      · rcases List.mem_cons.1 hx with rfl | hx
        · exact h2 _ (List.mem_cons_self ..)
        · exact ih.2 x hx
theorem idxOf_none' {f : Nat → En} {nm : ByteArray} : ∀ {n}, idxOf f nm n = none → ∀ i, i < n → (f i).nm ≠ nm
  | 0, _, i, hi => by omega
  | n + 1, h, i, hi => by
    intro e
    unfold idxOf at h
    cases k : idxOf f nm n with
    | some j => rw [k] at h; cases h
    | none =>
      rw [k] at h
      by_cases e2 : i = n
      · subst e2
        simp [e] at h
      · exact idxOf_none' k i (by omega) e
theorem put_cases {salt : Nat → Byte} {xs : List En} (nm : ByteArray) (ino : Int) (h : rightB salt (nthE xs) xs.length = true) :
    (oneB nm ino = false ∧ putR salt xs nm ino = ([], 2)) ∨ (oneB nm ino = true ∧ ∃ i, idxOf (nthE xs) nm xs.length = some i ∧ putR salt xs nm ino = ([], 17)) ∨
    (oneB nm ino = true ∧ 1320 < szE (nthE xs) xs.length + 2 + (nm.size : Int) ∧ putR salt xs nm ino = ([], 5)) ∨
    (oneB nm ino = true ∧ idxOf (nthE xs) nm xs.length = none ∧ ¬ 1320 < szE (nthE xs) xs.length + 2 + (nm.size : Int) ∧ putR salt xs nm ino = (insE salt ⟨nm, ino⟩ xs, 0)) := by
  cases ho : oneB nm ino
  · refine .inl ⟨rfl, ?_⟩
    unfold putR
    rw [if_pos h, ho]; rfl
  · right
    cases hi : idxOf (nthE xs) nm xs.length with
    | some i =>
      refine .inl ⟨rfl, i, rfl, ?_⟩
      unfold putR
      rw [if_pos h, if_pos ho, hi]
    | none =>
      right
      by_cases hf : 1320 < szE (nthE xs) xs.length + 2 + (nm.size : Int)
      · refine .inl ⟨rfl, hf, ?_⟩
        unfold putR
        rw [if_pos h, if_pos ho, hi]
        simp only [if_pos hf]
      · refine .inr ⟨rfl, rfl, hf, ?_⟩
        unfold putR
        rw [if_pos h, if_pos ho, hi]
        simp only [if_neg hf]
theorem put_good {salt : Nat → Byte} {xs : List En} {nm : ByteArray} {ino : Int} (hn : xs.length ≤ 140737488351232) (h : rightB salt (nthE xs) xs.length = true) (ho : oneB nm ino = true) (hi : idxOf (nthE xs) nm xs.length = none) (hf : ¬ 1320 < szE (nthE xs) xs.length + 2 + (nm.size : Int)) :
    rightB salt (nthE (insE salt ⟨nm, ino⟩ xs)) (insE salt ⟨nm, ino⟩ xs).length = true ∧ szE (nthE (insE salt ⟨nm, ino⟩ xs)) (insE salt ⟨nm, ino⟩ xs).length = szE (nthE xs) xs.length + 2 + (nm.size : Int) := by
  obtain ⟨s1, s2⟩ := right_sum hn h
  have hl := (right_len hn h).1
  have hne : ∀ x ∈ xs, x.nm ≠ nm := fun x hx e => by
    obtain ⟨i, hi2, rfl⟩ := List.getElem_of_mem hx
    rw [nthE_eq xs i hi2] at e
    exact idxOf_none' hi i hi2 e
  have hk := insE_ok (salt := salt) (e := ⟨nm, ino⟩) ho (right_ok h) hne
  have hs : sumE (insE salt ⟨nm, ino⟩ xs) = sumE xs + 2 + (nm.size : Int) := insE_sum
  have hlen : (insE salt ⟨nm, ino⟩ xs).length ≤ 140737488351232 := by rw [insE_len]; omega
  refine ⟨right_of hk hlen (by omega), ?_⟩
  rw [szE_sum hk hlen, hs, s1]
theorem sumE_filter (p : En → Bool) : ∀ xs : List En, sumE (xs.filter p) ≤ sumE xs
  | [] => by simp
  | x :: xs => by
    have ih := sumE_filter p xs
    rw [List.filter_cons]
    split
    · simp only [sumE]; omega
    · simp only [sumE]; omega
theorem filter_right {salt : Nat → Byte} {xs : List En} (p : En → Bool) (hn : xs.length ≤ 140737488351232) (h : rightB salt (nthE xs) xs.length = true) : rightB salt (nthE (xs.filter p)) (xs.filter p).length = true := by
  obtain ⟨k1, k2⟩ := right_ok h
  have hl := List.length_filter_le p xs
  exact right_of ⟨k1.filter p, fun x hx => k2 x (List.mem_filter.1 hx).1⟩ (by omega) (by have := sumE_filter p xs; have := (right_sum hn h).2; omega)
theorem encL_sum (xs : List En) : ((encL xs xs.length).length : Int) = sumE xs := by
  unfold encL
  rw [List.take_length]
  induction xs with
  | nil => rfl
  | cons x xs ih =>
    simp only [List.flatMap_cons, List.length_append, encE_len, sumE]
    omega
/-- Put, by its four answers. -/
theorem put_four (salt : Nat → Byte) (a : Option Addr) (cap : Nat) (xs : List En) (nm : ByteArray) (ino : Int) (w : World) (hk : KeysAt w) (h : ListE w a xs.length (nthE xs)) (hn : xs.length ≤ 140737488351232) (hr : rightB salt (nthE xs) xs.length = true) (h2 : nm.size ≤ 140737488351232) :
    Calls Tryd.prog 19 #[.agg (Fs 16 salt), .slice a xs.length cap, .string nm, .int .i64 ino] w fun r w' => ∃ (ad : Option Addr) (n c : Nat) (e : Int), r = .returned (.tuple #[.slice ad n c, .int .i64 e]) ∧ Kept (fun _ => False) w w' ∧
      ((e = 2 ∧ n = 0) ∨ (e = 17 ∧ n = 0) ∨ (e = 5 ∧ n = 0 ∧ 1320 < szE (nthE xs) xs.length + 2 + (nm.size : Int)) ∨
        (e = 0 ∧ ∃ ys : List En, n = ys.length ∧ ListE w' ad ys.length (nthE ys) ∧ rightB salt (nthE ys) ys.length = true ∧ ys.length ≤ 140737488351232 ∧ szE (nthE ys) ys.length = szE (nthE xs) xs.length + 2 + (nm.size : Int))) := by
  have hsz : ∀ i, i < xs.length → (nthE xs i).nm.size ≤ 140737488351232 := fun i hi => by have := (one_size (okTo_one salt (nthE xs) xs.length (rightB_ok hr) i hi)).2.1; omega
  refine (put_any salt a cap xs nm ino w hk h hn hsz h2).mono fun r w' hp => ?_
  obtain ⟨ad, c, rfl, hl, k⟩ := hp.out
  refine ⟨ad, _, c, _, rfl, k, ?_⟩
  rcases put_cases nm ino hr with ⟨_, e⟩ | ⟨_, i, _, e⟩ | ⟨_, hf, e⟩ | ⟨ho, hi, hf, e⟩
  · rw [e]; exact .inl ⟨rfl, rfl⟩
  · rw [e]; exact .inr (.inl ⟨rfl, rfl⟩)
  · rw [e]; exact .inr (.inr (.inl ⟨rfl, rfl, hf⟩))
  · rw [e] at hl ⊢
    obtain ⟨g1, g2⟩ := put_good hn hr ho hi hf
    exact .inr (.inr (.inr ⟨rfl, _, rfl, hl, g1, by rw [insE_len]; have := (right_len hn hr).1; omega, g2⟩))
end Go.Proofs.YtpekibadleghbaaDoor
