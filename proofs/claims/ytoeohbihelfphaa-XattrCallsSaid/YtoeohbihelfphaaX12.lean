/-
  What Set and Drop keep of a right list of attributes; the fixed answers.
-/
import Derived.Test.YtoeohbihelfphaaX11
namespace Go.Proofs.Ytoeohbihelfphaa
open Go.RowKit
set_option linter.unusedVariables false
set_option linter.unusedSimpArgs false
def OkX (xs : List Xa) : Prop := xs.Pairwise (fun a b => ltN a.nm b.nm = true) ∧ ∀ x ∈ xs, xoneB x.nm x.val.length = true
theorem xokTo_of (f : Nat → Xa) : ∀ n, (∀ i, i < n → xoneB (f i).nm (f i).val.length = true) → (∀ i j, i < j → j < n → ltN (f i).nm (f j).nm = true) → xokTo f n = true
  | 0, _, _ => rfl
  | n + 1, h1, h2 => by
    unfold xokTo
    rw [xokTo_of f n (fun i hi => h1 i (by omega)) (fun i j hij hj => h2 i j hij (by omega)), h1 n (by omega)]
    by_cases e : n = 0
    · simp [e]
    · simp [h2 (n - 1) n (by omega) (by omega)]
theorem xok_list {xs : List Xa} : xokTo (nthA xs) xs.length = true ↔ OkX xs := by
  constructor
  · intro h
    refine ⟨List.pairwise_iff_getElem.2 fun i j hi hj hij => ?_, fun x hx => ?_⟩
    · rw [nthA_eq xs i hi, nthA_eq xs j hj]
      exact xokTo_sorted _ _ h i j hij hj
    · obtain ⟨i, hi, rfl⟩ := List.getElem_of_mem hx
      rw [nthA_eq xs i hi]
      exact xokTo_one _ _ h i hi
  · rintro ⟨h1, h2⟩
    refine xokTo_of _ _ (fun i hi => ?_) (fun i j hij hj => ?_)
    · rw [← nthA_eq xs i hi]
      exact h2 _ (List.getElem_mem hi)
    · have := List.pairwise_iff_getElem.1 h1 i j (by omega) hj hij
      rw [nthA_eq xs i (by omega), nthA_eq xs j hj] at this
      exact this
def RightX (xs : List Xa) : Prop := rightX (nthA xs) xs.length = true
theorem RightX.of {xs : List Xa} (h1 : xs.length ≤ 4) (h2 : OkX xs) : RightX xs := by
  unfold RightX rightX
  rw [decide_eq_true h1, xok_list.2 h2]; rfl
theorem RightX.len {xs : List Xa} (h : RightX xs) : xs.length ≤ 4 := (rightX_ok h).1
theorem RightX.ok {xs : List Xa} (h : RightX xs) : OkX xs := xok_list.1 (rightX_ok h).2
theorem RightX.sorted {xs : List Xa} (h : RightX xs) : SortedX (nthA xs) xs.length := xokTo_sorted _ _ (rightX_ok h).2
theorem RightX.sizes {xs : List Xa} (h : RightX xs) : ∀ i, i < xs.length → (nthA xs i).nm.size ≤ 140737488351232 := fun i hi => by have := (xone_size (xokTo_one _ _ (rightX_ok h).2 i hi)).2.1; omega
theorem RightX.vals {xs : List Xa} (h : RightX xs) : ∀ i, i < xs.length → (nthA xs i).val.length ≤ 140737488351232 := fun i hi => by have := (xone_size (xokTo_one _ _ (rightX_ok h).2 i hi)).2.2; omega
theorem RightX.filter {xs : List Xa} (h : RightX xs) (p : Xa → Bool) : RightX (xs.filter p) := by
  obtain ⟨h1, h2⟩ := h.ok
  exact RightX.of (by have := List.length_filter_le p xs; have := h.len; omega) ⟨h1.filter p, fun x hx => h2 x (List.mem_filter.1 hx).1⟩
theorem insX_mem {e : Xa} : ∀ {xs : List Xa} {y : Xa}, y ∈ insX e xs → y = e ∨ y ∈ xs
  | [], y, h => by simpa [insX] using h
  | x :: xs, y, h => by
    unfold insX at h
    split at h
    · rcases List.mem_cons.1 h with h | h
      · exact .inl h
      · exact .inr h
    · split at h
      · rcases List.mem_cons.1 h with h | h
        · exact .inl h
        · exact .inr (List.mem_cons_of_mem _ h)
      · rcases List.mem_cons.1 h with h | h
        · exact .inr (by rw [h]; exact List.mem_cons_self ..)
        · rcases insX_mem h with h | h
          · exact .inl h
          · exact .inr (List.mem_cons_of_mem _ h)
theorem insX_has (e : Xa) : ∀ xs : List Xa, e ∈ insX e xs
  | [] => by simp [insX]
  | x :: xs => by
    unfold insX
    split
    · exact List.mem_cons_self ..
    · split
      · exact List.mem_cons_self ..
      · exact List.mem_cons_of_mem _ (insX_has e xs)
theorem insX_keeps {e : Xa} : ∀ {xs : List Xa} {y : Xa}, y ∈ xs → y.nm ≠ e.nm → y ∈ insX e xs
  | x :: xs, y, h, hne => by
    unfold insX
    split
    · exact List.mem_cons_of_mem _ h
    · split
      · rename_i hq
        rcases List.mem_cons.1 h with rfl | h
        · exact absurd (toListX (by simpa using hq)).symm hne
        · exact List.mem_cons_of_mem _ h
      · rcases List.mem_cons.1 h with rfl | h
        · exact List.mem_cons_self ..
        · exact List.mem_cons_of_mem _ (insX_keeps h hne)
theorem insX_ok {e : Xa} (he : xoneB e.nm e.val.length = true) : ∀ {xs : List Xa}, OkX xs → OkX (insX e xs)
  | [], _ => ⟨by simp [insX], by simp [insX, he]⟩
  | x :: xs, h => by
    obtain ⟨h1, h2⟩ := h
    obtain ⟨p1, p2⟩ := List.pairwise_cons.1 h1
    have ih := insX_ok he (xs := xs) ⟨p2, fun y hy => h2 y (List.mem_cons_of_mem _ hy)⟩
    refine ⟨?_, fun y hy => ?_⟩
    · unfold insX
      split
      · rename_i hlt
        refine List.pairwise_cons.2 ⟨fun y hy => ?_, h1⟩
        rcases List.mem_cons.1 hy with rfl | hy
        · exact hlt
        · exact ltN_trans hlt (p1 y hy)
      · split
        · rename_i hq
          have hq' : e.nm = x.nm := toListX (by simpa using hq)
          exact List.pairwise_cons.2 ⟨fun y hy => by rw [hq']; exact p1 y hy, p2⟩
        · rename_i hlt hq
          refine List.pairwise_cons.2 ⟨fun y hy => ?_, ih.1⟩
          rcases insX_mem hy with rfl | hy
          · rcases ltN_tri x.nm y.nm with e | e | e
            · rw [e] at hq; simp at hq
            · exact e
            · exact absurd e hlt
          · exact p1 y hy
    · rcases insX_mem hy with rfl | hy
      · exact he
      · exact h2 y hy
theorem insX_len {e : Xa} : ∀ {xs : List Xa}, (insX e xs).length ≤ xs.length + 1
  | [] => by simp [insX]
  | x :: xs => by
    unfold insX
    split
    · simp
    · split
      · simp
      · have := insX_len (e := e) (xs := xs); simp; omega
theorem insX_same {e : Xa} {xs : List Xa} {i : Nat} (hs : SortedX (nthA xs) xs.length) (hi : i < xs.length) (h : (nthA xs i).nm = e.nm) : (insX e xs).length = xs.length := by
  rw [insX_set e xs i hi (fun m hm => by rw [← h]; exact hs m i hm hi) h]
  simp
/-- Set, by its answers. -/
theorem set_cases {xs : List Xa} (h : RightX xs) (nm : ByteArray) (v : List Byte) : (∃ e, setX xs nm v = ([], e) ∧ e ≠ 0) ∨ (setX xs nm v = (insX ⟨nm, v⟩ xs, 0) ∧ RightX (insX ⟨nm, v⟩ xs)) := by
  have h' : rightX (nthA xs) xs.length = true := h
  unfold setX
  rw [if_pos h']
  by_cases ho : xoneB nm v.length = true
  · rw [if_pos ho]
    by_cases hf : idxX (nthA xs) nm xs.length = none ∧ xs.length = 4
    · rw [if_pos hf]; exact .inl ⟨5, rfl, by omega⟩
    · rw [if_neg hf]
      refine .inr ⟨rfl, RightX.of ?_ (insX_ok ho h.ok)⟩
      have hl := h.len
      rcases idxX_cases (nthA xs) nm xs.length with ⟨h1, _⟩ | ⟨i, h1, h2, h3, _⟩
      · have : xs.length ≠ 4 := fun e => hf ⟨h1, e⟩
        have := insX_len (e := ⟨nm, v⟩) (xs := xs); omega
      · rw [insX_same (e := ⟨nm, v⟩) h.sorted h2 h3]; omega
  · rw [if_neg ho]; exact .inl ⟨2, rfl, by omega⟩
theorem get_mem {xs : List Xa} (h : RightX xs) {x : Xa} (hx : x ∈ xs) : getX xs x.nm = (x.val, 0) := by
  obtain ⟨i, hi, e⟩ := List.getElem_of_mem hx
  rw [nthA_eq xs i hi] at e
  have h' : rightX (nthA xs) xs.length = true := h
  unfold getX
  rw [if_pos h', idxX_yes h.sorted hi (by rw [e])]
  simp only [e]
theorem drop_casesX {xs : List Xa} (h : RightX xs) (nm : ByteArray) : (idxX (nthA xs) nm xs.length = none ∧ dropX xs nm = ([], 4)) ∨ (∃ i, idxX (nthA xs) nm xs.length = some i ∧ dropX xs nm = (xs.filter (notA nm), 0)) := by
  have h' : rightX (nthA xs) xs.length = true := h
  unfold dropX
  rw [if_pos h']
  cases idxX (nthA xs) nm xs.length with
  | none => exact .inl ⟨rfl, rfl⟩
  | some i => exact .inr ⟨i, rfl, rfl⟩
theorem CopyOk.reads {w : World} {base : Nat} {v : Value} {L : List Xc} {xs : List Xa} (h : CopyOk w base v L xs) : ∃ a c, v = .slice a xs.length c ∧ XsAt w a L xs := by
  obtain ⟨hl, a, c, rfl, _, _, hlist⟩ := h.own.form
  refine ⟨a, c, rfl, h.len, hlist, h.nm, fun i hi => ?_⟩
  have ho := h.val i hi
  obtain ⟨a2, c2, e, hb, h0, hc1, hc2⟩ := ho.reads
  injection e with e1 _ e3
  exact ⟨ho.len.symm, by rw [e3]; exact hc1, by rw [e3]; exact hc2, by rw [e1]; exact h0, by rw [e1]; exact hb⟩
def xk : Xa := ⟨⟨#[107]⟩, [1#8, 2#8]⟩
theorem set_k : setX [] ⟨#[107]⟩ [1#8, 2#8] = ([xk], 0) := by kernel_rfl
theorem get_k : getX [xk] ⟨#[107]⟩ = ([1#8, 2#8], 0) := by kernel_rfl
theorem str_k : (strOf 2 (fun i => ([1#8, 2#8] : List Byte).getD i 0#8)).toList = [1, 2] := by decide +kernel
set_option maxRecDepth 100000 in
set_option maxHeartbeats 4000000 in
theorem xfixed_any (w : World) : Calls Try.prog 5 #[] w fun e w' => e = .returned (.bool true) ∧ Kept (fun _ => False) w w' := by
  go_enter Try.func5, Try.ntmps5
  have hK0 : Kept (fun _ => False) w (w.alloc (.cells #[.int .u8 1, .int .u8 2] 5)) := (Kept.refl _ w).alloc _
  have hB0 : BytesAt (w.alloc (.cells #[.int .u8 1, .int .u8 2] 5)) (some ⟨w.heap.size, 0, none⟩) 2 (fun i => ([1#8, 2#8] : List Byte).getD i 0#8) := .inr ⟨w.heap.size, 0, rfl, fun i hi => by
    rw [cell_of_row _ _ _ _ 5 _ (heap_alloc_new w _)]
    have : i = 0 ∨ i = 1 := by omega
    rcases this with rfl | rfl <;> rfl⟩
  have HS := Lib.hid (show Calls Try.prog 9 #[.slice none 0 0, .string ⟨#[107]⟩, .slice (some ⟨w.heap.size, 0, none⟩) 2 2] (w.alloc (.cells #[.int .u8 1, .int .u8 2] 5)) (XListPost ([xk], 0) (w.alloc (.cells #[.int .u8 1, .int .u8 2] 5))) by
    rw [← set_k]
    exact xset_any none 0 [] [] ⟨#[107]⟩ (some ⟨w.heap.size, 0, none⟩) 2 2 [1#8, 2#8] _ (XsAt.nil _ _) (by simp) (fun i hi => by simp at hi) (fun i hi => by simp at hi) (by decide) rfl (fun h => by cases h) hB0 (by omega))
  clear hB0
  go_wp2_with (first | ((with_reducible refine HS.out.mono ?_); rintro r w1 ⟨v, L, rfl, hc, k1⟩))
  obtain ⟨a1, c1, rfl, hx⟩ := hc.reads
  have HG := Lib.hid (show Calls Try.prog 10 #[.slice a1 1 c1, .string ⟨#[107]⟩] w1 (XBytesPost ([1#8, 2#8], 0) w1) by
    rw [← get_k]
    exact xget_any a1 c1 L [xk] ⟨#[107]⟩ w1 hx (by simp) (fun i hi => by
      have : i = 0 := by simp at hi; omega
      subst this; decide) (fun i hi => by
      have : i = 0 := by simp at hi; omega
      subst this; decide))
  have hK1 := hK0.trans k1 (fun _ _ h => h)
  clear hc hx k1 HS hK0
  go_wp2_with fail
  refine HG.out.mono ?_
  rintro r w2 ⟨u, rfl, hu, k2⟩
  obtain ⟨ua, uc, rfl, hb, h0, _⟩ := hu.reads
  have hcv := conv_str w2 24 9 5 ua 2 uc _ Try.underlying24 Try.underlying5 Try.underlying9 hb h0
  have hs2 := str_k
  have hK2 := hK1.trans k2 (fun _ _ h => h)
  obtain ⟨st, hst⟩ : ∃ st, st = strOf 2 (fun i => ([1#8, 2#8] : List Byte).getD i 0#8) := ⟨_, rfl⟩
  rw [← hst] at hs2
  have hcv2 : (convert 24 9 (.slice ua 2 uc)).run Try.prog w2 = .ok (.string st) w2 := by rw [hst]; exact hcv
  have hq : (st.toList == (⟨#[1, 2]⟩ : ByteArray).toList) = true := by rw [hs2]; decide +kernel
  have HS2 := Lib.hid hs2
  clear hcv hs2 hst hb h0 hu k2 hK1 HG
  go_wp2_with fail
  go_ret
  exact ⟨by first | rfl | (simp; exact HS2.out), hK2⟩
end Go.Proofs.Ytoeohbihelfphaa
