/-
  Put, Drop and the texts, in the code and in the reference.
-/
import Derived.Test.YtpekibadleghbaaDoorE0
import Derived.ArgAppend
import Derived.Laws.StructEq
namespace Go.Proofs.YtpekibadleghbaaDoor
open Go.RowKit
set_option linter.unusedVariables false
set_option linter.unusedSimpArgs false
theorem setCells_row {w : World} {g : Nat} {t : TypeId} {cur : List Value} (h : Blk w g t cur) (o : Nat) (vs : List Value) (hf : o + vs.length ≤ cur.length) (h1 : ∀ v ∈ vs, v.oneCell' = true) :
    w.setCells g o vs = w.setRow g (spl cur o vs).toArray := by
  have a := run_storeCells_at Tryd.prog g o t vs 0 cur.toArray w h (by simpa using hf) h1
  have b := run_storeCells_cells (P := Tryd.prog) g o vs 0 w (fun j hj => by rw [h.cell, List.getElem?_eq_getElem (by omega)]; rfl) (fun j _ => h.free _) h1
  rw [b] at a
  simp only [Nat.add_zero, Result.ok.injEq, true_and] at a
  exact a
theorem del_row {α : Type} {cells : α → List Value} {k : Nat} (hk : ∀ x, (cells x).length = k) (xs : List α) (rest z : List Value) (i : Nat) (hi : i < xs.length) (hz : z.length = k) :
    spl (spl (flat cells xs ++ rest) (i * k) (flat cells (xs.drop (i + 1)))) ((xs.length - 1) * k) z = flat cells (xs.take i ++ xs.drop (i + 1)) ++ (z ++ rest) := by
  have hA : (flat cells (xs.take i)).length = i * k := by rw [flat_length hk, List.length_take, Nat.min_eq_left (by omega)]
  have hD : (flat cells (xs.drop (i + 1))).length = (xs.length - (i + 1)) * k := by rw [flat_length hk, List.length_drop]
  have hn : i * k + (xs.length - (i + 1)) * k = (xs.length - 1) * k := by rw [← Nat.add_mul]; congr 1; omega
  have hT : (flat cells (xs.drop (xs.length - 1))).length = k := by rw [flat_length hk, List.length_drop, show xs.length - (xs.length - 1) = 1 by omega, Nat.one_mul]
  have hle : i * k ≤ (flat cells xs).length := by rw [flat_length hk]; exact Nat.mul_le_mul_right k (by omega)
  have hle2 : (xs.length - 1) * k ≤ (flat cells xs).length := by rw [flat_length hk]; exact Nat.mul_le_mul_right k (by omega)
  have h1 : spl (flat cells xs ++ rest) (i * k) (flat cells (xs.drop (i + 1))) = (flat cells (xs.take i) ++ flat cells (xs.drop (i + 1))) ++ (flat cells (xs.drop (xs.length - 1)) ++ rest) := by
    unfold spl
    rw [List.take_append_of_le_length hle, flat_take hk, hD, hn, List.drop_append_of_le_length hle2, flat_drop hk]
  rw [h1]
  unfold spl
  have hAD : (flat cells (xs.take i) ++ flat cells (xs.drop (i + 1))).length = (xs.length - 1) * k := by rw [List.length_append, hA, hD, hn]
  rw [hz, flat_append, List.take_append_of_le_length (by omega), List.take_of_length_le (by omega), List.drop_append, List.drop_eq_nil_of_le (by omega : (flat cells (xs.take i) ++ flat cells (xs.drop (i + 1))).length ≤ (xs.length - 1) * k + k), hAD, Nat.add_sub_cancel_left, List.nil_append, List.drop_append_of_le_length (by omega), List.drop_eq_nil_of_le (by omega : (flat cells (xs.drop (xs.length - 1))).length ≤ k), List.nil_append, List.append_assoc]
def DelPost (xs : List En) (i base : Nat) (v : Value) (w : World) (r : Ending) (w' : World) : Prop :=
  ∃ v', r = .returned v' ∧ w'.ownsRow base 68 2 v' (xs.length - 1) (flat ecl (xs.take i ++ xs.drop (i + 1))) ∧ Kept (fun k => v.ownBlock = some k) w w'
theorem zc68 : (Builtin.zeroCells #[Value.string ⟨#[]⟩, Value.int .i64 0] 1).toList = [Value.string ⟨#[]⟩, Value.int .i64 0] := by kernel_rfl
theorem zero68 (w : World) : (zeroValue 68).run Tryd.prog w = .ok (.agg #[.string ⟨#[]⟩, .int .i64 0]) w := by kernel_rfl
set_option maxRecDepth 100000 in
set_option maxHeartbeats 4000000 in
theorem delete_own (v : Value) (xs : List En) (i base : Nat) (w : World) (ho : w.ownsRow base 68 2 v xs.length (flat ecl xs)) (hi : i < xs.length) (hsm : xs.length ≤ 1000) :
    Calls Tryd.prog 47 #[v, .int .i64 (i : Int), .int .i64 ((i : Int) + 1)] w (DelPost xs i base v w) := by
  rcases ho.2 with ⟨rfl, h0⟩ | ⟨g, cap, cur, rfl, _⟩
  · omega
  obtain ⟨rest, hB, h2, h3, h4, h5, h6⟩ := owns_blk ho
  have hmx : cap ≤ 9223372036854775807 := by unfold maxLen at h5; omega
  have L2 := flat_length (cells := ecl) ecl_len xs
  have LD : (flat ecl (xs.drop (i + 1))).length = (xs.length - (i + 1)) * 2 := by rw [flat_length ecl_len, List.length_drop]
  obtain ⟨i0, hi0, hz0, hz1, hz2⟩ := info_parts (show (Tryd.prog.info? 68).map (fun i => (i.zero, i.size, i.bytes)) = some (some (.agg #[.string ⟨#[]⟩, .int .i64 0]), 2, 24) by kernel_rfl)
  have hap := fun (W : World) (hBW : Blk W g 68 (flat ecl xs ++ rest)) (a : Addr) (sc : Nat) (ha : xs.length - (i + 1) = 0 ∨ a = ⟨g, (i + 1) * 2, none⟩) ty => run_append_room_cells (P := Tryd.prog) W 32 ty 68 i0 Tryd.underlying32 hi0 g 0 i cap a (xs.length - (i + 1)) sc (flat ecl (xs.drop (i + 1))) (by rw [LD, hz1])
    (fun j u hj => by
      have hjl := (List.getElem?_eq_some_iff.1 hj).1
      rcases ha with ha | ha
      · rw [LD, ha] at hjl; omega
      · subst ha
        rw [Addr.add_lit, hBW.cell, ← List.getElem?_drop, List.drop_append_of_le_length (by omega), flat_drop ecl_len, List.getElem?_append_left hjl]
        exact hj) (flat_one ecl_one _) (by omega)
    (fun j hj => by rw [hBW.cell, List.getElem?_eq_getElem (by rw [LD] at hj; rw [hz1, h2]; omega)]; rfl) (fun j _ => hBW.free _)
  obtain ⟨R1, hR1⟩ : ∃ R, R = spl (flat ecl xs ++ rest) (i * 2) (flat ecl (xs.drop (i + 1))) := ⟨_, rfl⟩
  have hset := fun (W : World) (hBW : Blk W g 68 (flat ecl xs ++ rest)) => setCells_row hBW (i * 2) (flat ecl (xs.drop (i + 1))) (by rw [LD, h2]; omega) (flat_one ecl_one _)
  have LR : R1.length = cap * 2 := by rw [hR1, spl_length _ _ _ (by rw [LD, h2]; omega), h2]
  have hap2 : ∀ (W : World) (hBW : Blk W g 68 (flat ecl xs ++ rest)) (a : Addr) (sc : Nat) (ha : xs.length - (i + 1) = 0 ∨ a = ⟨g, (i + 1) * 2, none⟩) ty,
      (Builtin.append_ #[32, 32] ty #[.slice (some ⟨g, 0, none⟩) i cap, .slice (some a) (xs.length - (i + 1)) sc]).run Tryd.prog W = .ok (.slice (some ⟨g, 0, none⟩) (xs.length - 1) cap) (W.setRow g R1.toArray) := fun W hBW a sc ha ty => by
    have := hap W hBW a sc ha ty
    rw [hz1, Nat.zero_add, hset W hBW, ← hR1, show i + (xs.length - (i + 1)) = xs.length - 1 by omega] at this
    exact this
  have hcl := fun (W : World) (hBW : Blk W g 68 R1) ty => run_clearK W 32 ty 68 #[.string ⟨#[]⟩, .int .i64 0] 2 g ((xs.length - 1) * 2) 1 (cap - (xs.length - 1)) R1 68 Tryd.underlying32 (zero68 W) rfl hBW (by omega) (by rw [LR]; omega) (by
    intro v hv
    rw [zc68] at hv
    simp only [List.mem_cons, List.not_mem_nil, or_false] at hv
    rcases hv with rfl | rfl <;> rfl)
  have hrow := del_row ecl_len xs rest (Builtin.zeroCells #[.string ⟨#[]⟩, .int .i64 0] 1).toList i hi (by rw [zc68]; rfl)
  rw [← hR1] at hrow
  have hfin : ∀ W : World, Blk W g 68 R1 → DelPost xs i base (.slice (some ⟨g, 0, none⟩) xs.length cap) w (.returned (.slice (some ⟨g, 0, none⟩) (xs.length - 1) cap)) W → True := fun _ _ _ => trivial
  clear hfin
  have HAP := Lib.hid hap2
  have HCL := Lib.hid hcl
  have HROW := Lib.hid hrow
  have HB := Lib.hid hB
  have HLR := Lib.hid LR
  have HL2 := Lib.hid L2
  have H2 := Lib.hid h2
  have q1 : (0 : Int) ≤ i := by omega
  have q2 : (i : Int) < xs.length := by omega
  have q3 : (xs.length : Int) ≤ cap := by omega
  have q4 : (cap : Int) ≤ 9223372036854775807 := by omega
  have q5 : (xs.length : Int) ≤ 1000 := by omega
  have q6 : ((i : Int) == (i : Int) + 1) = false := by simp; omega
  have q7 : (i : Int) + 1 ≤ xs.length := by omega
  have q8 : ((i : Int) + 1).toNat = i + 1 := by omega
  have q9 : (0 : Int) ≤ (i : Int) + 1 := by omega
  have q10 : (i : Int) ≤ (i : Int) + 1 := by omega
  have HR1 := Lib.hid hR1
  clear hap hap2 hcl hrow hB LR L2 h2 h3 hset LD hz0 hz1 hz2 hi0 ho hR1
  obtain ⟨m, hm⟩ : ∃ m, xs.length = m + 1 := ⟨xs.length - 1, by omega⟩
  have HM := Lib.hid hm
  simp only [hm, Nat.add_sub_cancel, Nat.add_sub_add_right] at HAP HCL HROW q2 q3 q5 q7
  rw [hm]
  have q11 : i < m + 1 := by omega
  have q12 : m < cap := by omega
  have q13 : (m : Int) < cap := by omega
  have q14 : ((m + 1 : Nat) : Int) = (m : Int) + 1 := by omega
  have q15 : (m : Int) + 1 ≤ cap := by omega
  have n1 : i ≤ cap := by omega
  have n2 : i ≤ m := by omega
  have n3 : (i : Int) ≤ m := by omega
  have n4 : m + 1 ≤ cap := by omega
  have n5 : i + 1 ≤ cap := by omega
  have hH : (m + 1) * 2 + rest.length = cap * 2 := by have := H2.out; rw [List.length_append, HL2.out] at this; omega
  have HH := Lib.hid hH
  clear hH hm hi hsm h4 h5 hmx HL2 HLR
  go_enter Tryd.func47, Tryd.ntmps47
  go_upto_region 5 with fail
  have hB2 : Blk (w.drew.setRow g R1.toArray) g 68 R1 := HB.out.drew.row R1
  have hB3 := hB2.row (spl R1 (m * 2) (Builtin.zeroCells #[Value.string ⟨#[]⟩, Value.int .i64 0] 1).toList)
  have HB2 := Lib.hid hB2
  have HB3 := Lib.hid hB3
  clear hB2 hB3
  by_cases hc : cap = i + 1
  · subst hc
    obtain rfl : m = i := by omega
    have hR : R1 = flat ecl xs ++ rest := by
      rw [HR1.out, List.drop_eq_nil_of_le (by rw [HM.out]; omega)]
      simp [spl, flat]
    have hB0 : Blk w.drew g 68 R1 := by rw [hR]; exact HB.out.drew
    have hB4 := hB0.row (spl R1 (m * 2) (Builtin.zeroCells #[Value.string ⟨#[]⟩, Value.int .i64 0] 1).toList)
    have hc1 := fun ty => HCL.out _ hB0 ty
    rw [Nat.add_sub_cancel_left] at hc1
    have HC1 := Lib.hid hc1
    have HB4 := Lib.hid hB4
    clear hR hB0 hB4 hc1 HAP HB2 HB3
    refine region_tail 6 (by kernel_rfl) (by kernel_rfl) ?_
    simp only [List.take_succ_cons, List.take_zero, List.drop_succ_cons, List.drop_zero]
    iterate 6 (refine wpStill_step (fun K hK => ?_); go_simp; (try go_bits); refine hK _ ?_; clear hK K)
    refine wpStill_nil ?_
    go_wp2_with (first | (refine wpList_clearK rfl (.tmp 31) 32 rfl (by rfl) (HC1.out _) ?_))
    go_ret
    refine ⟨_, rfl, ?_, ((Kept.refl (fun k => k = g) w).drew.setRow (fun _ => rfl) _).mono (fun k _ h => by subst h; rfl)⟩
    have h3 := HB4.out
    rw [HROW.out] at h3 ⊢
    have hm := HM.out
    have hL : (flat ecl (xs.take m ++ xs.drop (m + 1))).length = m * 2 := by rw [flat_length ecl_len]; simp; omega
    rw [hm, Nat.add_sub_cancel]
    exact h3.owns (base := base) hL (by rw [List.length_append, hL, List.length_append, zc68]; have := HH.out; simp only [List.length_cons, List.length_nil]; omega) h6 (by omega) (by unfold maxLen; omega)
  · skip
    refine region_tail 6 (by kernel_rfl) (by kernel_rfl) ?_
    simp only [List.take_succ_cons, List.take_zero, List.drop_succ_cons, List.drop_zero]
    iterate 6 (refine wpStill_step (fun K hK => ?_); go_simp; (try go_bits); refine hK _ ?_; clear hK K)
    refine wpStill_nil ?_
    go_wp2_with (first | (at_builtin; go_loud (refine Lib.wpList_append_run _ rfl (.tmp 22) (.tmp 25) 32 32 rfl _ _ (by rfl) (by rfl) _ _ (HAP.out _ HB.out.drew ⟨g, (i + 1) * 2, none⟩ _ (.inr rfl) _) ?_)) | (refine wpList_clearK rfl (.tmp 31) 32 rfl (by rfl) (HCL.out _ HB2.out _) ?_))
    go_ret
    refine ⟨_, rfl, ?_, ((((Kept.refl (fun k => k = g) w).drew.setRow (fun _ => rfl) _).setRow (fun _ => rfl) _).mono (fun k _ h => by subst h; rfl))⟩
    have h3 := HB3.out
    rw [HROW.out] at h3 ⊢
    have hm := HM.out
    have hL : (flat ecl (xs.take i ++ xs.drop (i + 1))).length = m * 2 := by rw [flat_length ecl_len]; simp; omega
    rw [hm, Nat.add_sub_cancel]
    exact h3.owns (base := base) hL (by rw [List.length_append, hL, List.length_append, zc68]; have := HH.out; simp only [List.length_cons, List.length_nil]; omega) h6 (by omega) (by unfold maxLen; omega)
end Go.Proofs.YtpekibadleghbaaDoor
namespace Go.Proofs.YtpekibadleghbaaDoor
open Go.RowKit
set_option linter.unusedVariables false
set_option linter.unusedSimpArgs false
theorem szE_exact (salt : Nat → Byte) (f : Nat → En) : ∀ n, n ≤ 140737488351232 → okTo salt f n = true → 3 * (n : Int) ≤ szE f n ∧ szE f n ≤ 26 * (n : Int)
  | 0, _, _ => by simp [szE]
  | n + 1, hn, h => by
    have h1 := okTo_one salt f (n + 1) h n (by omega)
    have h2 := one_size h1
    unfold okTo at h
    simp only [Bool.and_eq_true] at h
    have ih := szE_exact salt f n (by omega) h.1
    unfold szE
    have e : wrap64 (szE f n + (2 + ((f n).nm.size : Int))) = szE f n + (2 + ((f n).nm.size : Int)) := by unfold wrap64; omega
    rw [e]
    omega
theorem right_len {salt : Nat → Byte} {f : Nat → En} {n : Nat} (hn : n ≤ 140737488351232) (h : rightB salt f n = true) : n ≤ 440 ∧ 0 ≤ szE f n ∧ szE f n ≤ 1320 := by
  have h1 := szE_exact salt f n hn (rightB_ok h)
  unfold rightB at h
  simp only [Bool.and_eq_true, decide_eq_true_eq] at h
  omega
/-- An entry set in its place. -/
def insE (salt : Nat → Byte) (e : En) : List En → List En
  | [] => [e]
  | x :: xs => if orderOf salt e.nm x.nm < 0 then e :: x :: xs else x :: insE salt e xs
theorem insE_at (salt : Nat → Byte) (e : En) : ∀ (xs : List En) (i : Nat), i ≤ xs.length → (∀ m, m < i → ¬ orderOf salt e.nm (nthE xs m).nm < 0) → (i < xs.length → orderOf salt e.nm (nthE xs i).nm < 0) → insE salt e xs = xs.take i ++ e :: xs.drop i
  | [], i, hi, _, _ => by
    obtain rfl : i = 0 := by simpa using hi
    rfl
  | x :: xs, 0, _, _, h => by
    unfold insE
    rw [if_pos (show orderOf salt e.nm x.nm < 0 from h (by simp))]
    rfl
  | x :: xs, i + 1, hi, hl, h => by
    unfold insE
    rw [if_neg (show ¬ orderOf salt e.nm x.nm < 0 from hl 0 (by omega)), insE_at salt e xs i (by simpa using hi) (fun m hm => hl (m + 1) (by omega)) (fun hm => h (by simpa using hm))]
    rfl
theorem insE_split {salt : Nat → Byte} {xs : List En} {e : En} {i : Nat} (sp : Split salt (nthE xs) xs.length e.nm i i) (hno : ∀ m, m < xs.length → (nthE xs m).nm ≠ e.nm) : insE salt e xs = xs.take i ++ e :: xs.drop i := by
  refine insE_at salt e xs i sp.len (fun m hm => ?_) (fun hi => ?_)
  · have h1 := sp.low m hm
    have h2 := ord_neg salt (nthE xs m).nm e.nm
    omega
  · have h1 := sp.high i (Nat.le_refl _) hi
    have h2 := ord_neg salt (nthE xs i).nm e.nm
    have h3 : orderOf salt (nthE xs i).nm e.nm ≠ 0 := fun h => hno i hi (ord_eq salt h)
    omega
def putR (salt : Nat → Byte) (xs : List En) (nm : ByteArray) (ino : Int) : List En × Int :=
  if rightB salt (nthE xs) xs.length = true then
    if oneB nm ino = true then
      match idxOf (nthE xs) nm xs.length with
      | some _ => ([], 17)
      | none => if 1320 < szE (nthE xs) xs.length + 2 + (nm.size : Int) then ([], 5) else (insE salt ⟨nm, ino⟩ xs, 0)
    else ([], 2)
  else ([], 3)
def dropR (salt : Nat → Byte) (xs : List En) (nm : ByteArray) : List En × Int :=
  if rightB salt (nthE xs) xs.length = true then
    match idxOf (nthE xs) nm xs.length with
    | some _ => (xs.filter fun e => !(e.nm.toList == nm.toList), 0)
    | none => ([], 4)
  else ([], 3)
theorem owns_lowerE {w : World} {base base' : Nat} {v : Value} {n : Nat} {cs : List Value} (ho : w.ownsRow base 68 2 v n cs) (hb : base' ≤ base) : w.ownsRow base' 68 2 v n cs := by
  refine ⟨ho.1, ?_⟩
  rcases ho.2 with h | ⟨g, cap, cur, hv, hg, r⟩
  · exact .inl h
  · exact .inr ⟨g, cap, cur, hv, by omega, r⟩
theorem owns_ltE {w : World} {base : Nat} {v : Value} {n : Nat} {cs : List Value} (ho : w.ownsRow base 68 2 v n cs) {k : Nat} (hk : v.ownBlock = some k) : base ≤ k ∧ k < w.heap.size := by
  rcases ho.2 with ⟨rfl, _⟩ | ⟨g, cap, cur, rfl, hg, hh, _⟩
  · simp [Value.ownBlock] at hk
  · have : g = k := by simpa [Value.ownBlock] using hk
    subst this
    exact ⟨hg, lt_of_at hh⟩
/-- A list of entries and an error's number. -/
def ListPost (R : List En × Int) (w : World) (r : Ending) (w' : World) : Prop :=
  ∃ v, r = .returned (.tuple #[v, .int .i64 R.2]) ∧ w'.ownsRow w.heap.size 68 2 v R.1.length (flat ecl R.1) ∧ Kept (fun _ => False) w w'
theorem ListPost.nil {e : Int} {w w' : World} (h : Kept (fun _ => False) w w') : ListPost ([], e) w (.returned (.tuple #[.slice none 0 0, .int .i64 e])) w' :=
  ⟨_, rfl, World.ownsRow_nil _ _ _ _, h⟩
theorem filter_at {xs : List En} {nm : ByteArray} {i : Nat} (hi : i < xs.length) (h : (nthE xs i).nm = nm) (hu : ∀ j, j < xs.length → (nthE xs j).nm = nm → j = i) : (xs.filter fun e => !(e.nm.toList == nm.toList)) = xs.take i ++ xs.drop (i + 1) := by
  have key : ∀ (ys : List En), (∀ y ∈ ys, y.nm ≠ nm) → (ys.filter fun e => !(e.nm.toList == nm.toList)) = ys := fun ys hy => by
    rw [List.filter_eq_self]
    intro y hm
    have := hy y hm
    cases e : y.nm.toList == nm.toList
    · rfl
    · exact absurd (toList_inj (by simpa using e)) this
  have e1 : xs = xs.take i ++ xs[i] :: xs.drop (i + 1) := by
    rw [← List.drop_eq_getElem_cons hi, List.take_append_drop]
  have hne : ∀ j (hj : j < xs.length), j ≠ i → xs[j].nm ≠ nm := fun j hj hji he => hji (hu j hj (by rw [← nthE_eq xs j hj]; exact he))
  have h1 := key (xs.take i) (fun y hy => by
    obtain ⟨j, hj, rfl⟩ := List.mem_iff_getElem.1 hy
    have hji : j < i := by simp at hj; omega
    rw [List.getElem_take]
    exact hne j (by omega) (by omega))
  have h2 := key (xs.drop (i + 1)) (fun y hy => by
    obtain ⟨j, hj, rfl⟩ := List.mem_iff_getElem.1 hy
    rw [List.getElem_drop]
    simp at hj
    exact hne (i + 1 + j) (by omega) (by omega))
  conv => lhs; rw [e1]
  rw [List.filter_append, List.filter_cons, h1, h2, nthE_eq xs i hi, h]
  simp
set_option maxRecDepth 100000 in
set_option maxHeartbeats 8000000 in
theorem put_any (salt : Nat → Byte) (a : Option Addr) (cap : Nat) (xs : List En) (nm : ByteArray) (ino : Int) (w : World) (hk : KeysAt w) (h : ListE w a xs.length (nthE xs)) (hn : xs.length ≤ 140737488351232) (hs : ∀ i, i < xs.length → (nthE xs i).nm.size ≤ 140737488351232) (h2 : nm.size ≤ 140737488351232) :
    Calls Tryd.prog 19 #[.agg (Fs 16 salt), .slice a xs.length cap, .string nm, .int .i64 ino] w (ListPost (putR salt xs nm ino) w) := by
  obtain ⟨z, hz⟩ : ∃ z, z = putR salt xs nm ino := ⟨_, rfl⟩
  rw [← hz]
  have HZ := Lib.hid hz
  clear hz
  have qa : (xs.length : Int) ≤ 140737488351232 := by omega
  go_enter Tryd.func19, Tryd.ntmps19
  go_upto_region 1 with fail
  have hS0 : Row (w.alloc (.cells (Fs 16 salt) 22)) w.heap.size 22 16 salt := Row.new w 22 16 salt
  have hK0 : Kept (fun _ => False) w (w.alloc (.cells (Fs 16 salt) 22)) := (Kept.refl _ w).alloc _
  generalize hw0 : w.alloc (.cells (Fs 16 salt) 22) = w0 at *
  obtain ⟨gs, hgs⟩ : ∃ gs, gs = w.heap.size := ⟨_, rfl⟩
  rw [← hgs] at hS0 ⊢
  have HGS := Lib.hid hgs
  clear hw0 hgs
  have hcon := check_any salt a xs.length cap (nthE xs) w0 (hk.kept hK0) (h.kept hK0) hn hs
  cases hr : rightB salt (nthE xs) xs.length
  · rw [hr] at hcon
    simp only [Bool.false_eq_true, if_false] at hcon
    have HC := Lib.hid hcon
    obtain rfl : z = ([], 3) := by rw [HZ.out]; unfold putR; rw [hr]; rfl
    clear hcon hr
    go_wp2_with (first | (refine wpList_load_row rfl 22 (.tmp 4) rfl gs rfl 22 (Fs 16 salt) (0, 0) _ hS0 Tryd.underlying22 rfl (info22F _) ?_) | ((with_reducible refine (HC.out).mono ?_); rintro r w1 ⟨rfl, k1⟩))
    go_ret2
    exact ListPost.nil (hK0.trans k1 (fun _ _ h => h))
  · rw [hr] at hcon
    simp only [if_true] at hcon
    have HC := Lib.hid hcon
    have HR := Lib.hid hr
    have hso := okTo_sorted salt _ _ (rightB_ok hr)
    have HSO := Lib.hid hso
    obtain ⟨l1, l2, l3⟩ := right_len hn hr
    clear hcon hr hso
    go_upto_region 4 with (first | (refine wpList_load_row rfl 22 (.tmp 4) rfl gs rfl 22 (Fs 16 salt) (0, 0) _ hS0 Tryd.underlying22 rfl (info22F _) ?_) | ((with_reducible refine (HC.out).mono ?_); rintro r w1 ⟨rfl, k1⟩; clear HC))
    have hS1 : Row w1 gs 22 16 salt := k1.at hS0 (fun h => h)
    have hK1 : Kept (fun _ => False) w w1 := hK0.trans k1 (fun _ _ h => h)
    clear k1 hS0 hK0
    go_upto_region 5 with (first | (refine wpList_load_row rfl 22 (.tmp 4) rfl gs rfl 22 (Fs 16 salt) (0, 0) _ hS1 Tryd.underlying22 rfl (info22F _) ?_) | ((with_reducible refine (at_any salt a xs.length cap (nthE xs) nm w1 (hk.kept hK1) (h.kept hK1) hn hs HSO.out h2).mono ?_); rintro r w2 ⟨i, hsp, rfl, k2⟩; have HSP := Lib.hid hsp; clear hsp))
    have hK2 : Kept (fun _ => False) w w2 := hK1.trans k2 (fun _ _ h => h)
    clear k2 hS1 hK1
    obtain ⟨b, hb⟩ : ∃ b, b = (decide (i < xs.length) && decide (orderOf salt (nthE xs i).nm nm = 0)) := ⟨_, rfl⟩
    rw [← hb]
    have HBB := Lib.hid hb
    clear hb
    obtain ⟨o, ho⟩ : ∃ o, o = oneB nm ino := ⟨_, rfl⟩
    have hone := fun W => one_any nm ino W
    rw [← ho] at hone
    have HO := Lib.hid ho
    have HONE := Lib.hid hone
    clear ho hone
    go_upto_region 5 with fail
    cases o
    · obtain rfl : z = ([], 2) := by rw [HZ.out]; unfold putR; rw [if_pos HR.out, if_neg (by rw [← HO.out]; decide)]
      go_wp2_with (first | ((with_reducible refine (HONE.out _).mono ?_); rintro r w3 ⟨rfl, k3⟩))
      go_ret2
      exact ListPost.nil (hK2.trans k3 (fun _ _ h => h))
    · have hns := (one_size HO.out.symm).2.1
      cases b
      · have hno := there_no HSO.out HSP.out HBB.out.symm
        have HNO := Lib.hid hno
        have hix := idxOf_none (nthE xs) nm xs.length hno
        have HIX := Lib.hid hix
        clear hno hix
        obtain ⟨sz, hsz⟩ : ∃ sz, sz = szE (nthE xs) xs.length := ⟨_, rfl⟩
        rw [← hsz] at l2 l3
        have hcs := fun W h => size_any a xs.length cap (nthE xs) W h hn hs
        rw [← hsz] at hcs
        have HSZ := Lib.hid hsz
        have HCS := Lib.hid hcs
        clear hsz hcs
        have qn : (nm.size : Int) ≤ 24 := by omega
        by_cases hbig : 1320 < sz + 2 + (nm.size : Int)
        · obtain rfl : z = ([], 5) := by rw [HZ.out]; unfold putR; rw [if_pos HR.out, if_pos HO.out.symm, HIX.out]; simp only []; rw [← HSZ.out, if_pos hbig]
          go_upto_region 9 with (first | ((with_reducible refine (HONE.out _).mono ?_); rintro r w3 ⟨rfl, k3⟩))
          have hK3 : Kept (fun _ => False) w w3 := hK2.trans k3 (fun _ _ h => h)
          clear k3 hK2
          go_wp2_with (first | ((with_reducible refine (HCS.out _ (h.kept hK3)).mono ?_); rintro r w4 ⟨rfl, k4⟩))
          go_ret2
          exact ListPost.nil (hK3.trans k4 (fun _ _ h => h))
        · have hL := insE_split (e := ⟨nm, ino⟩) HSP.out HNO.out
          obtain rfl : z = (xs.take i ++ ⟨nm, ino⟩ :: xs.drop i, 0) := by rw [HZ.out]; unfold putR; rw [if_pos HR.out, if_pos HO.out.symm, HIX.out]; simp only []; rw [← HSZ.out, if_neg hbig, hL]
          clear hL
          have hile := HSP.out.len
          go_upto_region 9 with (first | ((with_reducible refine (HONE.out _).mono ?_); rintro r w3 ⟨rfl, k3⟩))
          have hK3 : Kept (fun _ => False) w w3 := hK2.trans k3 (fun _ _ h => h)
          clear k3 hK2
          go_upto_region 11 with (first | ((with_reducible refine (HCS.out _ (h.kept hK3)).mono ?_); rintro r w4 ⟨rfl, k4⟩))
          have hK4 : Kept (fun _ => False) w w4 := hK3.trans k4 (fun _ _ h => h)
          clear k4 hK3
          have hcl := clone_any a cap xs w4 (h.kept hK4) (by omega)
          have HCL := Lib.hid hcl
          clear hcl
          go_wp2_with (first | ((with_reducible refine (HCL.out).mono ?_); rintro r w5 ⟨v, rfl, ho5, k5⟩))
          have hins := insert_own v xs ⟨nm, ino⟩ i w4.heap.size w5.heap.size 1 (w5.alloc (.cells #[.string nm, .int .i64 ino] 68)) (World.ownsRow.alloc ho5 _) (by have := k5.size; rw [size_alloc]; omega) (by omega) hile (Blk.new w5 68 [.string nm, .int .i64 ino]) (fun e => by have := (owns_ltE ho5 e).2; omega)
          refine hins.mono ?_
          rintro r w6 ⟨v', rfl, ho6, k6⟩
          have hK6 : Kept (fun _ => False) w w6 := ((hK4.trans k5 (fun _ _ h => h)).alloc _).trans k6 (fun j hj h => by have := (owns_ltE ho5 h).1; have := hK4.size; omega)
          have hle : w.heap.size ≤ w4.heap.size := hK4.size
          have ho7 := owns_lowerE ho6 hle
          have HO7 := Lib.hid ho7
          clear hins ho5 ho6 ho7 k5 k6 HCL
          go_wp2_with fail
          go_ret2
          refine ⟨_, rfl, ?_, hK6⟩
          have : (xs.take i ++ ⟨nm, ino⟩ :: xs.drop i).length = xs.length + 1 := by simp; omega
          rw [this]
          exact HO7.out
      · obtain ⟨hin, hnm⟩ := there_yes HBB.out.symm
        have hix := idxOf_there HSO.out hin hnm
        obtain rfl : z = ([], 17) := by rw [HZ.out]; unfold putR; rw [if_pos HR.out, if_pos HO.out.symm, hix]
        clear hix hin hnm
        go_wp2_with (first | ((with_reducible refine (HONE.out _).mono ?_); rintro r w3 ⟨rfl, k3⟩))
        go_ret2
        exact ListPost.nil (hK2.trans k3 (fun _ _ h => h))
set_option maxRecDepth 100000 in
set_option maxHeartbeats 8000000 in
theorem drop_any (salt : Nat → Byte) (a : Option Addr) (cap : Nat) (xs : List En) (nm : ByteArray) (w : World) (hk : KeysAt w) (h : ListE w a xs.length (nthE xs)) (hn : xs.length ≤ 140737488351232) (hs : ∀ i, i < xs.length → (nthE xs i).nm.size ≤ 140737488351232) (h2 : nm.size ≤ 140737488351232) :
    Calls Tryd.prog 29 #[.agg (Fs 16 salt), .slice a xs.length cap, .string nm] w (ListPost (dropR salt xs nm) w) := by
  obtain ⟨z, hz⟩ : ∃ z, z = dropR salt xs nm := ⟨_, rfl⟩
  rw [← hz]
  have HZ := Lib.hid hz
  clear hz
  have qa : (xs.length : Int) ≤ 140737488351232 := by omega
  go_enter Tryd.func29, Tryd.ntmps29
  go_upto_region 1 with fail
  have hS0 : Row (w.alloc (.cells (Fs 16 salt) 22)) w.heap.size 22 16 salt := Row.new w 22 16 salt
  have hK0 : Kept (fun _ => False) w (w.alloc (.cells (Fs 16 salt) 22)) := (Kept.refl _ w).alloc _
  generalize hw0 : w.alloc (.cells (Fs 16 salt) 22) = w0 at *
  obtain ⟨gs, hgs⟩ : ∃ gs, gs = w.heap.size := ⟨_, rfl⟩
  rw [← hgs] at hS0 ⊢
  clear hw0 hgs
  have hcon := check_any salt a xs.length cap (nthE xs) w0 (hk.kept hK0) (h.kept hK0) hn hs
  cases hr : rightB salt (nthE xs) xs.length
  · rw [hr] at hcon
    simp only [Bool.false_eq_true, if_false] at hcon
    have HC := Lib.hid hcon
    obtain rfl : z = ([], 3) := by rw [HZ.out]; unfold dropR; rw [hr]; rfl
    clear hcon hr
    go_wp2_with (first | (refine wpList_load_row rfl 22 (.tmp 3) rfl gs rfl 22 (Fs 16 salt) (0, 0) _ hS0 Tryd.underlying22 rfl (info22F _) ?_) | ((with_reducible refine (HC.out).mono ?_); rintro r w1 ⟨rfl, k1⟩))
    go_ret2
    exact ListPost.nil (hK0.trans k1 (fun _ _ h => h))
  · rw [hr] at hcon
    simp only [if_true] at hcon
    have HC := Lib.hid hcon
    have HR := Lib.hid hr
    have hso := okTo_sorted salt _ _ (rightB_ok hr)
    have HSO := Lib.hid hso
    obtain ⟨l1, l2, l3⟩ := right_len hn hr
    clear hcon hr hso
    go_upto_region 4 with (first | (refine wpList_load_row rfl 22 (.tmp 3) rfl gs rfl 22 (Fs 16 salt) (0, 0) _ hS0 Tryd.underlying22 rfl (info22F _) ?_) | ((with_reducible refine (HC.out).mono ?_); rintro r w1 ⟨rfl, k1⟩; clear HC))
    have hS1 : Row w1 gs 22 16 salt := k1.at hS0 (fun h => h)
    have hK1 : Kept (fun _ => False) w w1 := hK0.trans k1 (fun _ _ h => h)
    clear k1 hS0 hK0
    go_upto_region 5 with (first | (refine wpList_load_row rfl 22 (.tmp 3) rfl gs rfl 22 (Fs 16 salt) (0, 0) _ hS1 Tryd.underlying22 rfl (info22F _) ?_) | ((with_reducible refine (at_any salt a xs.length cap (nthE xs) nm w1 (hk.kept hK1) (h.kept hK1) hn hs HSO.out h2).mono ?_); rintro r w2 ⟨i, hsp, rfl, k2⟩; have HSP := Lib.hid hsp; clear hsp))
    have hK2 : Kept (fun _ => False) w w2 := hK1.trans k2 (fun _ _ h => h)
    clear k2 hS1 hK1
    obtain ⟨b, hb⟩ : ∃ b, b = (decide (i < xs.length) && decide (orderOf salt (nthE xs i).nm nm = 0)) := ⟨_, rfl⟩
    rw [← hb]
    have HBB := Lib.hid hb
    clear hb
    cases b
    · have hno := there_no HSO.out HSP.out HBB.out.symm
      have hix := idxOf_none (nthE xs) nm xs.length hno
      obtain rfl : z = ([], 4) := by rw [HZ.out]; unfold dropR; rw [if_pos HR.out, hix]
      clear hno hix
      go_wp2_with fail
      go_ret2
      exact ListPost.nil hK2
    · obtain ⟨hin, hnm⟩ := there_yes HBB.out.symm
      have hix := idxOf_there HSO.out hin hnm
      have hL := filter_at hin hnm (fun j hj he => sorted_uniq HSO.out hj hin (he.trans hnm.symm))
      obtain rfl : z = (xs.take i ++ xs.drop (i + 1), 0) := by rw [HZ.out]; unfold dropR; rw [if_pos HR.out, hix]; simp only []; rw [hL]
      have hcl := clone_any a cap xs w2 (h.kept hK2) (by omega)
      have HCL := Lib.hid hcl
      have q1 : (i : Int) + 1 ≤ 440 := by omega
      clear hcl hix hnm hL
      go_wp2_with (first | ((with_reducible refine (HCL.out).mono ?_); rintro r w5 ⟨v, rfl, ho5, k5⟩))
      have hdel := delete_own v xs i w2.heap.size w5 ho5 hin (by omega)
      refine hdel.mono ?_
      rintro r w6 ⟨v', rfl, ho6, k6⟩
      have hK6 : Kept (fun _ => False) w w6 := (hK2.trans k5 (fun _ _ h => h)).trans k6 (fun j hj h => by have := (owns_ltE ho5 h).1; have := hK2.size; omega)
      have ho7 := owns_lowerE ho6 hK2.size
      have HO7 := Lib.hid ho7
      clear hdel ho5 ho6 ho7 k5 k6 HCL
      go_wp2_with fail
      go_ret2
      refine ⟨_, rfl, ?_, hK6⟩
      have : (xs.take i ++ xs.drop (i + 1)).length = xs.length - 1 := by simp; omega
      rw [this]
      exact HO7.out
end Go.Proofs.YtpekibadleghbaaDoor
namespace Go.Proofs.YtpekibadleghbaaDoor
open Go.RowKit
set_option linter.unusedVariables false
set_option linter.unusedSimpArgs false
theorem ecells {w : World} {g : Nat} {e : En} (h : EAt w g 0 e) : ∀ j u, (ecl e)[j]? = some u → w.cell? ((⟨g, 0, none⟩ : Addr).add j) = some u := fun j u hj => by
  rw [Addr.add_lit, Nat.zero_add]
  have hl : j < 2 := (List.getElem?_eq_some_iff.1 hj).1
  obtain rfl | rfl : j = 0 ∨ j = 1 := by omega
  · simp [ecl] at hj; rw [← hj]; exact h.1
  · simp [ecl] at hj; rw [← hj]; exact h.2
set_option maxRecDepth 100000 in
/-- An entry appended to a list of one's own. -/
theorem appE {ops : Array Oper} {rest : List Oper} {o : Oper} {a : Act} {w : World} {Q : Exit → Act → World → Prop} (hgd : o.guard = none) (s x : Operand) (ho : o.op = .call { callee := .builtin .append, args := #[s, x], argTypes := #[32, 32] })
    (base : Nat) (v : Value) (n : Nat) (L : List En) (hs : a.eval s = v) (hown : w.ownsRow base 68 2 v n (flat ecl L)) (g c : Nat) (e : En) (hx : a.eval x = .slice (some ⟨g, 0, none⟩) 1 c) (hc : EAt w g 0 e)
    (hn : n + 1 ≤ 1000000) (hbase : base ≤ w.heap.size)
    (h : ∀ v' w', w'.ownsRow base 68 2 v' (n + 1) (flat ecl (L ++ [e])) → Kept (fun k => v.ownBlock = some k) w w' → wpList Tryd.prog ops Q rest (a.put o.dst v') w') : wpList Tryd.prog ops Q (o :: rest) a w := by
  refine wpList_append_own_at _ hgd s x 32 ho base 68 _ _ 2 24 Tryd.underlying32 info29i zero29 size29 bytes29 rfl (by omega) v n (flat ecl L) hs hown ⟨g, 0, none⟩ 1 c (ecl e) hx rfl (ecells hc) (ecl_one e) (by unfold maxLen; omega) (by omega) hbase ?_
  intro v' w2 h1 h2 _ _
  refine h v' w2 ?_ (Kept.grown h2)
  rw [flat_append, flat_cons, flat_nil, List.append_nil]
  exact h1
theorem kept_own {w0 w w' : World} {base : Nat} {v : Value} {n : Nat} {cs : List Value} (hK : Kept (fun _ => False) w0 w) (hb : w0.heap.size ≤ base) (ho : w.ownsRow base 68 2 v n cs) (hk : Kept (fun k => v.ownBlock = some k) w w') : Kept (fun _ => False) w0 w' :=
  hK.trans hk (fun j hj h => by have := (owns_ltE ho h).1; omega)
theorem newE' (w : World) (e : En) : EAt (w.alloc (.cells #[.string e.nm, .int .i64 e.ino] 68)) w.heap.size 0 e := newE w e.nm e.ino
/-- The reference's loop. -/
def stE (salt : Nat → Byte) (e : En) (xs : List En) : Nat → List En × Bool
  | 0 => ([], false)
  | j + 1 => if (!(stE salt e xs j).2 && decide (orderOf salt e.nm (nthE xs j).nm < 0)) = true then ((stE salt e xs j).1 ++ [e] ++ [nthE xs j], true) else ((stE salt e xs j).1 ++ [nthE xs j], (stE salt e xs j).2)
theorem take_snocE (xs : List En) (j : Nat) (h : j < xs.length) : xs.take (j + 1) = xs.take j ++ [nthE xs j] := by
  rw [List.take_succ_eq_append_getElem h, nthE_eq xs j h]
theorem stE_is (salt : Nat → Byte) (e : En) (xs : List En) : ∀ j, j ≤ xs.length →
    ((stE salt e xs j).2 = false ∧ (stE salt e xs j).1 = xs.take j ∧ ∀ m, m < j → ¬ orderOf salt e.nm (nthE xs m).nm < 0) ∨
    ((stE salt e xs j).2 = true ∧ ∃ i, i < j ∧ orderOf salt e.nm (nthE xs i).nm < 0 ∧ (∀ m, m < i → ¬ orderOf salt e.nm (nthE xs m).nm < 0) ∧ (stE salt e xs j).1 = xs.take i ++ e :: (xs.take j).drop i)
  | 0, _ => .inl ⟨rfl, rfl, fun m hm => by omega⟩
  | j + 1, hj => by
    rcases stE_is salt e xs j (by omega) with ⟨h1, h2, h3⟩ | ⟨h1, i, hi, ho, hl, h2⟩
    · by_cases hlt : orderOf salt e.nm (nthE xs j).nm < 0
      · right
        unfold stE
        rw [h1, decide_eq_true hlt]
        refine ⟨rfl, j, by omega, hlt, h3, ?_⟩
        simp only [Bool.not_false, Bool.and_self, if_true]
        rw [h2, take_snocE xs j (by omega), List.drop_append, List.drop_of_length_le (by simp; omega)]
        simp [Nat.min_eq_left (by omega : j ≤ xs.length)]
      · left
        unfold stE
        rw [h1, decide_eq_false hlt]
        refine ⟨rfl, ?_, fun m hm => ?_⟩
        · simp only [Bool.not_false, Bool.and_false, Bool.false_eq_true, if_false]
          rw [h2, take_snocE xs j (by omega)]
        · by_cases e2 : m = j
          · subst e2; exact hlt
          · exact h3 m (by omega)
    · right
      unfold stE
      rw [h1]
      refine ⟨rfl, i, by omega, ho, hl, ?_⟩
      simp only [Bool.not_true, Bool.false_and, Bool.false_eq_true, if_false]
      rw [h2, take_snocE xs j (by omega), List.drop_append_of_le_length (by simp; omega)]
      simp
theorem stE_end (salt : Nat → Byte) (e : En) (xs : List En) : (if (stE salt e xs xs.length).2 = true then (stE salt e xs xs.length).1 else (stE salt e xs xs.length).1 ++ [e]) = insE salt e xs := by
  rcases stE_is salt e xs xs.length (Nat.le_refl _) with ⟨h1, h2, h3⟩ | ⟨h1, i, hi, ho, hl, h2⟩
  · rw [h1, h2, insE_at salt e xs xs.length (Nat.le_refl _) h3 (fun h => by omega)]
    simp
  · rw [h1, h2, insE_at salt e xs i (by omega) hl (fun _ => ho)]
    simp
theorem stE_len (salt : Nat → Byte) (e : En) (xs : List En) : ∀ j, (stE salt e xs j).1.length ≤ j + 1 ∧ ((stE salt e xs j).2 = false → (stE salt e xs j).1.length ≤ j)
  | 0 => by simp [stE]
  | j + 1 => by
    obtain ⟨h1, h2⟩ := stE_len salt e xs j
    unfold stE
    cases hd : (stE salt e xs j).2
    · have := h2 hd
      split <;> simp <;> omega
    · simp; omega
set_option maxRecDepth 100000 in
set_option maxHeartbeats 16000000 in
theorem refPut_any (salt : Nat → Byte) (a : Option Addr) (cap : Nat) (xs : List En) (nm : ByteArray) (ino : Int) (w : World) (hk : KeysRef w) (h : ListE w a xs.length (nthE xs)) (hn : xs.length ≤ 140737488351232) (hs : ∀ i, i < xs.length → (nthE xs i).nm.size ≤ 140737488351232) :
    Calls Tryd.prog 28 #[.agg (Fs 16 salt), .slice a xs.length cap, .string nm, .int .i64 ino] w (ListPost (putR salt xs nm ino) w) := by
  obtain ⟨z, hz⟩ : ∃ z, z = putR salt xs nm ino := ⟨_, rfl⟩
  rw [← hz]
  have HZ := Lib.hid hz
  clear hz
  have qa : (xs.length : Int) ≤ 140737488351232 := by omega
  go_enter Tryd.func28, Tryd.ntmps28
  go_upto_region 1 with fail
  have hS0 : Row (w.alloc (.cells (Fs 16 salt) 22)) w.heap.size 22 16 salt := Row.new w 22 16 salt
  have hK0 : Kept (fun _ => False) w (w.alloc (.cells (Fs 16 salt) 22)) := (Kept.refl _ w).alloc _
  generalize hw0 : w.alloc (.cells (Fs 16 salt) 22) = w0 at *
  obtain ⟨gs, hgs⟩ : ∃ gs, gs = w.heap.size := ⟨_, rfl⟩
  rw [← hgs] at hS0 ⊢
  have HGS := Lib.hid hgs
  clear hw0 hgs
  have hcon := refRight_any salt a xs.length cap (nthE xs) w0 (hk.kept hK0) (h.kept hK0) hn hs
  cases hr : rightB salt (nthE xs) xs.length
  · rw [hr] at hcon
    have HC := Lib.hid hcon
    obtain rfl : z = ([], 3) := by rw [HZ.out]; unfold putR; rw [hr]; rfl
    clear hcon hr
    go_wp2_with (first | (refine wpList_load_row rfl 22 (.tmp 4) rfl gs rfl 22 (Fs 16 salt) (0, 0) _ hS0 Tryd.underlying22 rfl (info22F _) ?_) | ((with_reducible refine (HC.out).mono ?_); rintro r w1 ⟨rfl, k1⟩))
    go_ret2
    exact ListPost.nil (hK0.trans k1 (fun _ _ h => h))
  rw [hr] at hcon
  have HC := Lib.hid hcon
  have HR := Lib.hid hr
  obtain ⟨l1, l2, l3⟩ := right_len hn hr
  clear hcon hr
  go_upto_region 3 with (first | (refine wpList_load_row rfl 22 (.tmp 4) rfl gs rfl 22 (Fs 16 salt) (0, 0) _ hS0 Tryd.underlying22 rfl (info22F _) ?_) | ((with_reducible refine (HC.out).mono ?_); rintro r w1 ⟨rfl, k1⟩; clear HC))
  have hS1 : Row w1 gs 22 16 salt := k1.at hS0 (fun h => h)
  have hK1 : Kept (fun _ => False) w w1 := hK0.trans k1 (fun _ _ h => h)
  clear k1 hS0 hK0
  obtain ⟨v, hv⟩ : ∃ v, v = validB nm := ⟨_, rfl⟩
  have hval := fun W => refValid_any nm W
  rw [← hv] at hval
  have HV := Lib.hid hv
  have HVAL := Lib.hid hval
  clear hv hval
  go_wp2_with fail
  refine (HVAL.out _).mono ?_
  rintro r w2 ⟨rfl, k2⟩
  have hS2 : Row w2 gs 22 16 salt := k2.at hS1 (fun h => h)
  have hK2 : Kept (fun _ => False) w w2 := hK1.trans k2 (fun _ _ h => h)
  clear k2 hS1 hK1 HVAL
  cases v
  · obtain rfl : z = ([], 2) := by rw [HZ.out]; unfold putR oneB; rw [if_pos HR.out, ← HV.out]; rfl
    go_wp2_with fail
    go_ret2
    exact ListPost.nil hK2
  by_cases h1 : ino < 1
  · obtain rfl : z = ([], 2) := by rw [HZ.out]; unfold putR oneB; rw [if_pos HR.out, ← HV.out, decide_eq_false (by omega : ¬ 1 ≤ ino)]; rfl
    go_wp2_with fail
    go_ret2
    exact ListPost.nil hK2
  by_cases h3 : 24 < ino
  · obtain rfl : z = ([], 2) := by rw [HZ.out]; unfold putR oneB; rw [if_pos HR.out, ← HV.out, decide_eq_false (by omega : ¬ ino ≤ 24)]; simp
    go_wp2_with fail
    go_ret2
    exact ListPost.nil hK2
  have hone : oneB nm ino = true := by unfold oneB; rw [← HV.out, decide_eq_true (by omega : 1 ≤ ino), decide_eq_true (by omega : ino ≤ 24)]; rfl
  have hns := (one_size hone).2.1
  have HONE := Lib.hid hone
  clear hone
  go_upto_region 5 with fail
  go_wp2_with fail
  refine (refIndex_any a xs.length cap (nthE xs) nm w2 (h.kept hK2) hn).mono ?_
  rintro r w3 ⟨q, rfl, hq, hw⟩
  replace hw := hw.symm
  subst hw
  rcases hq with ⟨hq, hno⟩ | ⟨i, hq, hin, hnm, hlt⟩
  · subst hq
    have hix := idxOf_none (nthE xs) nm xs.length hno
    have HIX := Lib.hid hix
    have HNO := Lib.hid hno
    clear hix hno
    obtain ⟨sz, hsz⟩ : ∃ sz, sz = szE (nthE xs) xs.length := ⟨_, rfl⟩
    rw [← hsz] at l2 l3
    have hcs := fun W h => refSize_any a xs.length cap (nthE xs) W h hn hs
    rw [← hsz] at hcs
    have HSZ := Lib.hid hsz
    have HCS := Lib.hid hcs
    clear hsz hcs
    have qn : (nm.size : Int) ≤ 24 := by omega
    go_upto_region 7 with fail
    go_wp2_with fail
    refine (HCS.out _ (h.kept hK2)).mono ?_
    rintro r w3 ⟨rfl, k3⟩
    have hS3 : Row w3 gs 22 16 salt := k3.at hS2 (fun h => h)
    have hK3 : Kept (fun _ => False) w w3 := hK2.trans k3 (fun _ _ h => h)
    clear k3 hS2 hK2
    by_cases hbig : 1320 < sz + 2 + (nm.size : Int)
    · obtain rfl : z = ([], 5) := by rw [HZ.out]; unfold putR; rw [if_pos HR.out, if_pos HONE.out, HIX.out]; simp only []; rw [← HSZ.out, if_pos hbig]
      go_wp2_with fail
      go_ret2
      exact ListPost.nil hK3
    · obtain rfl : z = (insE salt ⟨nm, ino⟩ xs, 0) := by rw [HZ.out]; unfold putR; rw [if_pos HR.out, if_pos HONE.out, HIX.out]; simp only []; rw [← HSZ.out, if_neg hbig]
      go_upto_region 12 with fail
      clear hbig
      have hz0 : w.heap.size + 1 ≤ w3.heap.size := by have := hS3.lt; have := HGS.out; omega
      go_loopg [10, 11, 12] xs.length (fun k so sd si wr => ∃ (j : Nat) (v : Value), j + k = xs.length ∧ si = .int .i64 (j : Int) ∧ sd = .bool (stE salt ⟨nm, ino⟩ xs j).2 ∧ v = so ∧ wr.ownsRow (w.heap.size + 1) 68 2 v (stE salt ⟨nm, ino⟩ xs j).1.length (flat ecl (stE salt ⟨nm, ino⟩ xs j).1) ∧ Row wr gs 22 16 salt ∧ Kept (fun _ => False) w wr)
      case atStart => exact ⟨0, _, by omega, rfl, rfl, rfl, World.ownsRow_nil _ _ _ _, hS3, hK3⟩
      case round =>
        clear hS3 hK3 hz0
        obtain ⟨j, v, hj, rfl, rfl, rfl, hO0, hS0, hK0⟩ := hrel
        have Hj := Lib.hid hj
        have hjn : j ≤ xs.length := by omega
        have hz0 : w.heap.size + 1 ≤ wr.heap.size := by have := hS0.lt; have := HGS.out; omega
        have hlen := stE_len salt ⟨nm, ino⟩ xs j
        have LEN := Lib.hid hlen
        clear hj hlen
        by_cases hlt : j < xs.length
        · have q1 : (j : Int) < xs.length := by omega
          have q2 : (0 : Int) ≤ j := by omega
          obtain ⟨g, o, rfl, hc⟩ := h.resolve_left (by omega)
          have hxs := (one_size (okTo_one salt (nthE xs) xs.length (rightB_ok HR.out) j hlt)).2.1
          have hcj := hc j hlt
          have hF : stE salt ⟨nm, ino⟩ xs (j + 1) = if (!(stE salt ⟨nm, ino⟩ xs j).2 && decide (orderOf salt nm (nthE xs j).nm < 0)) = true then ((stE salt ⟨nm, ino⟩ xs j).1 ++ [⟨nm, ino⟩] ++ [nthE xs j], true) else ((stE salt ⟨nm, ino⟩ xs j).1 ++ [nthE xs j], (stE salt ⟨nm, ino⟩ xs j).2) := rfl
          obtain ⟨x, hx⟩ : ∃ x, x = nthE xs j := ⟨_, rfl⟩
          rw [← hx] at hxs hcj hF
          obtain ⟨L, hL⟩ : ∃ L, L = (stE salt ⟨nm, ino⟩ xs j).1 := ⟨_, rfl⟩
          obtain ⟨d, hd⟩ : ∃ d, d = (stE salt ⟨nm, ino⟩ xs j).2 := ⟨_, rfl⟩
          rw [← hL] at hO0 LEN hF
          rw [← hd] at LEN hF
          rw [← hd]
          have HF := Lib.hid hF
          have HCJ := Lib.hid hcj
          clear hc hx hL hd hF hcj
          obtain ⟨c0, c1⟩ := HCJ.out.kept hK0
          cases d
          · obtain ⟨q, hq⟩ : ∃ q, q = orderOf salt nm x.nm := ⟨_, rfl⟩
            have hord := fun W hk => refOrder_any salt nm x.nm W hk (by omega) (by omega)
            rw [← hq] at hord HF
            have HORD := Lib.hid hord
            clear hord hq
            go_upto_region 14 with fail
            refine region_perm (fun W => W.cell? ⟨g, o + j * 2, none⟩ = some (.string x.nm) ∧ Row W gs 22 16 salt) [(0, true), (1, true), (2, true), (3, true), (4, true), (5, true), (6, true), (7, true), (8, true), (9, true), (10, false), (11, true), (12, true)] (by kernel_rfl) (by kernel_rfl) (by intro c a d v w h; cases d <;> exact h) ⟨c0, hS0⟩ ?_
            repeat (first | (apply HeldSeq.take; (focus rfl); (focus rfl); (focus (intro W hS; obtain ⟨e0, _⟩ := hS; go_simp; (try go_bits); rfl)); simp only [List.getElem_toArray]; (try simp only [List.getElem_cons_succ]); (try simp only [List.getElem_cons_zero]); simp only [Act.put, List.setIfInBounds_toArray]; (try simp only [List.set_cons_succ]); (try simp only [List.set_cons_zero])) | (apply HeldSeq.skip; (focus rfl); (focus rfl); simp only [List.getElem_toArray]; (try simp only [List.getElem_cons_succ]); (try simp only [List.getElem_cons_zero]); simp only [Act.put, List.setIfInBounds_toArray]; (try simp only [List.set_cons_succ]); (try simp only [List.set_cons_zero])))
            refine HeldSeq.take rfl rfl (fun W hS => yields_row 22 (.tmp 4) rfl gs rfl 22 (Fs 16 salt) (0, 0) _ hS.2 Tryd.underlying22 rfl (info22F _)) ?_
            simp only [List.getElem_toArray]; (try simp only [List.getElem_cons_succ]); (try simp only [List.getElem_cons_zero]); simp only [Act.put, List.setIfInBounds_toArray]; (try simp only [List.set_cons_succ]); (try simp only [List.set_cons_zero])
            repeat (first | (apply HeldSeq.take; (focus rfl); (focus rfl); (focus (intro W hS; obtain ⟨e0, _⟩ := hS; go_simp; (try go_bits); rfl)); simp only [List.getElem_toArray]; (try simp only [List.getElem_cons_succ]); (try simp only [List.getElem_cons_zero]); simp only [Act.put, List.setIfInBounds_toArray]; (try simp only [List.set_cons_succ]); (try simp only [List.set_cons_zero])) | (apply HeldSeq.skip; (focus rfl); (focus rfl); simp only [List.getElem_toArray]; (try simp only [List.getElem_cons_succ]); (try simp only [List.getElem_cons_zero]); simp only [Act.put, List.setIfInBounds_toArray]; (try simp only [List.set_cons_succ]); (try simp only [List.set_cons_zero])))
            refine HeldSeq.run rfl rfl (fun K hK => ?_)
            go_simp
            refine (HORD.out wr.drew (hk.kept hK0.drew)).mono ?_
            rintro r w4 ⟨rfl, k4⟩
            have hS4 : Row w4 gs 22 16 salt := k4.at hS0 (fun h => h)
            have hO4 : w4.ownsRow (w.heap.size + 1) 68 2 v L.length (flat ecl L) := owns_kept (w := wr.drew) hO0 k4 (fun _ _ h => h)
            have hK4 : Kept (fun _ => False) w w4 := hK0.drew.trans k4 (fun _ _ h => h)
            have c4 : w4.cell? ⟨g, o + j * 2, none⟩ = some (.string x.nm) := k4.cell c0
            have hz4 : w.heap.size + 1 ≤ w4.heap.size := by have := hS4.lt; have := HGS.out; omega
            refine hK _ _ ⟨c4, hS4⟩ ?_
            clear hK K k4 hK0 hS0 hO0 c0 c1 hz0
            by_cases hq0 : q < 0
            · have hF : stE salt ⟨nm, ino⟩ xs (j + 1) = (L ++ [⟨nm, ino⟩] ++ [x], true) := by rw [HF.out, decide_eq_true hq0]; rfl
              have HF2 := Lib.hid hF
              clear hF
              repeat (first | (apply HeldSeq.take; (focus rfl); (focus rfl); (focus (intro W hS; obtain ⟨e0, _⟩ := hS; go_simp; (try go_bits); rfl)); simp only [List.getElem_toArray]; (try simp only [List.getElem_cons_succ]); (try simp only [List.getElem_cons_zero]); simp only [Act.put, List.setIfInBounds_toArray]; (try simp only [List.set_cons_succ]); (try simp only [List.set_cons_zero])) | (apply HeldSeq.skip; (focus rfl); (focus rfl); simp only [List.getElem_toArray]; (try simp only [List.getElem_cons_succ]); (try simp only [List.getElem_cons_zero]); simp only [Act.put, List.setIfInBounds_toArray]; (try simp only [List.set_cons_succ]); (try simp only [List.set_cons_zero])))
              refine HeldSeq.done ?_
              go_upto_region 16 with (first | (refine appE rfl (.tmp 58) (.tmp 62) rfl (w.heap.size + 1) v L.length L (by rfl) (World.ownsRow.alloc hO4 _) w4.heap.size 1 ⟨nm, ino⟩ (by rfl) (newE' w4 ⟨nm, ino⟩) (by have := LEN.out.1; omega) (by rw [size_alloc]; omega) ?_))
              intro v5 w5 hO5 k5
              have hK5 : Kept (fun _ => False) w w5 := kept_own (hK4.alloc _) (Nat.le_succ _) (World.ownsRow.alloc hO4 _) k5
              have hS5 : Row w5 gs 22 16 salt := k5.at (hS4.alloc _) (fun h => by have := (owns_ltE hO4 h).1; have := HGS.out; omega)
              have hz5 : w.heap.size + 1 ≤ w5.heap.size := by have := hS5.lt; have := HGS.out; omega
              obtain ⟨c0, c1⟩ := HCJ.out.kept hK5
              clear k5 hO4 hK4 hS4 c4 hz4
              go_upto_region 16 with fail
              go_upto_region 13 with (first | (refine appE rfl (.tmp 64) (.tmp 69) rfl (w.heap.size + 1) v5 (L.length + 1) (L ++ [⟨nm, ino⟩]) (by rfl) (World.ownsRow.alloc hO5 _) w5.heap.size 1 x (by rfl) (newE' w5 x) (by have := LEN.out.1; omega) (by rw [size_alloc]; omega) ?_))
              intro v6 w6 hO6 k6
              have hK6 : Kept (fun _ => False) w w6 := kept_own (hK5.alloc _) (Nat.le_succ _) (World.ownsRow.alloc hO5 _) k6
              have hS6 : Row w6 gs 22 16 salt := k6.at (hS5.alloc _) (fun h => by have := (owns_ltE hO5 h).1; have := HGS.out; omega)
              clear k6 hO5 hK5 hS5
              go_wp2_with fail
              go_roundg (gk - 1)
              case measure => have := Hj.out; omega
              case rel =>
                have := Hj.out
                exact ⟨j + 1, v6, by omega, by go_num, by rw [HF2.out], rfl, by rw [HF2.out]; simpa using hO6, hS6, hK6⟩
            · have hF : stE salt ⟨nm, ino⟩ xs (j + 1) = (L ++ [x], false) := by rw [HF.out, decide_eq_false hq0]; rfl
              have HF2 := Lib.hid hF
              clear hF
              repeat (first | (apply HeldSeq.take; (focus rfl); (focus rfl); (focus (intro W hS; obtain ⟨e0, _⟩ := hS; go_simp; (try go_bits); rfl)); simp only [List.getElem_toArray]; (try simp only [List.getElem_cons_succ]); (try simp only [List.getElem_cons_zero]); simp only [Act.put, List.setIfInBounds_toArray]; (try simp only [List.set_cons_succ]); (try simp only [List.set_cons_zero])) | (apply HeldSeq.skip; (focus rfl); (focus rfl); simp only [List.getElem_toArray]; (try simp only [List.getElem_cons_succ]); (try simp only [List.getElem_cons_zero]); simp only [Act.put, List.setIfInBounds_toArray]; (try simp only [List.set_cons_succ]); (try simp only [List.set_cons_zero])))
              refine HeldSeq.done ?_
              obtain ⟨c0, c1⟩ := HCJ.out.kept hK4
              go_upto_region 13 with (first | (refine appE rfl (.tmp 64) (.tmp 69) rfl (w.heap.size + 1) v L.length L (by rfl) (World.ownsRow.alloc hO4 _) w4.heap.size 1 x (by rfl) (newE' w4 x) (by have := LEN.out.1; omega) (by rw [size_alloc]; omega) ?_))
              intro v6 w6 hO6 k6
              have hK6 : Kept (fun _ => False) w w6 := kept_own (hK4.alloc _) (Nat.le_succ _) (World.ownsRow.alloc hO4 _) k6
              have hS6 : Row w6 gs 22 16 salt := k6.at (hS4.alloc _) (fun h => by have := (owns_ltE hO4 h).1; have := HGS.out; omega)
              clear k6 hO4 hK4 hS4
              go_wp2_with fail
              go_roundg (gk - 1)
              case measure => have := Hj.out; omega
              case rel =>
                have := Hj.out
                exact ⟨j + 1, v6, by omega, by go_num, by rw [HF2.out], rfl, by rw [HF2.out]; simpa using hO6, hS6, hK6⟩
          · have hF : stE salt ⟨nm, ino⟩ xs (j + 1) = (L ++ [x], true) := by rw [HF.out]; rfl
            have HF2 := Lib.hid hF
            clear hF
            go_upto_region 14 with fail
            refine region_perm (fun W => W.cell? ⟨g, o + j * 2, none⟩ = some (.string x.nm)) [(0, true), (1, true), (2, true), (3, true), (4, true), (5, true), (6, true), (7, true), (8, true), (9, true), (10, false), (11, true), (12, true)] (by kernel_rfl) (by kernel_rfl) (by intro c a d v w h; cases d <;> exact h) c0 ?_
            repeat (first | (apply HeldSeq.take; (focus rfl); (focus rfl); (focus (intro W hS; obtain e0 := hS; go_simp; (try go_bits); rfl)); simp only [List.getElem_toArray]; (try simp only [List.getElem_cons_succ]); (try simp only [List.getElem_cons_zero]); simp only [Act.put, List.setIfInBounds_toArray]; (try simp only [List.set_cons_succ]); (try simp only [List.set_cons_zero])) | (apply HeldSeq.skip; (focus rfl); (focus rfl); simp only [List.getElem_toArray]; (try simp only [List.getElem_cons_succ]); (try simp only [List.getElem_cons_zero]); simp only [Act.put, List.setIfInBounds_toArray]; (try simp only [List.set_cons_succ]); (try simp only [List.set_cons_zero])))
            refine HeldSeq.pass rfl rfl c0 ?_
            repeat (first | (apply HeldSeq.take; (focus rfl); (focus rfl); (focus (intro W hS; obtain e0 := hS; go_simp; (try go_bits); rfl)); simp only [List.getElem_toArray]; (try simp only [List.getElem_cons_succ]); (try simp only [List.getElem_cons_zero]); simp only [Act.put, List.setIfInBounds_toArray]; (try simp only [List.set_cons_succ]); (try simp only [List.set_cons_zero])) | (apply HeldSeq.skip; (focus rfl); (focus rfl); simp only [List.getElem_toArray]; (try simp only [List.getElem_cons_succ]); (try simp only [List.getElem_cons_zero]); simp only [Act.put, List.setIfInBounds_toArray]; (try simp only [List.set_cons_succ]); (try simp only [List.set_cons_zero])))
            refine HeldSeq.done ?_
            have hO4 : wr.drew.ownsRow (w.heap.size + 1) 68 2 v L.length (flat ecl L) := hO0
            have hS4 : Row wr.drew gs 22 16 salt := hS0
            have hK4 : Kept (fun _ => False) w wr.drew := hK0.drew
            have hz4 : w.heap.size + 1 ≤ wr.drew.heap.size := hz0
            obtain ⟨w4, hw4⟩ : ∃ w4, w4 = wr.drew := ⟨_, rfl⟩
            rw [← hw4] at hO4 hS4 hK4 hz4 ⊢
            clear hw4 hO0 hS0 hK0 hz0 c0 c1
            obtain ⟨c0, c1⟩ := HCJ.out.kept hK4
            go_upto_region 13 with (first | (refine appE rfl (.tmp 64) (.tmp 69) rfl (w.heap.size + 1) v L.length L (by rfl) (World.ownsRow.alloc hO4 _) w4.heap.size 1 x (by rfl) (newE' w4 x) (by have := LEN.out.1; omega) (by rw [size_alloc]; omega) ?_))
            intro v6 w6 hO6 k6
            have hK6 : Kept (fun _ => False) w w6 := kept_own (hK4.alloc _) (Nat.le_succ _) (World.ownsRow.alloc hO4 _) k6
            have hS6 : Row w6 gs 22 16 salt := k6.at (hS4.alloc _) (fun h => by have := (owns_ltE hO4 h).1; have := HGS.out; omega)
            clear k6 hO4 hK4 hS4
            go_wp2_with fail
            go_roundg (gk - 1)
            case measure => have := Hj.out; omega
            case rel =>
              have := Hj.out
              exact ⟨j + 1, v6, by omega, by go_num, by rw [HF2.out], rfl, by rw [HF2.out]; simpa using hO6, hS6, hK6⟩
        · obtain rfl : j = xs.length := by omega
          have q1 : ¬ (xs.length : Int) < xs.length := by omega
          have hend := stE_end salt ⟨nm, ino⟩ xs
          obtain ⟨L, hL⟩ : ∃ L, L = (stE salt ⟨nm, ino⟩ xs xs.length).1 := ⟨_, rfl⟩
          obtain ⟨d, hd⟩ : ∃ d, d = (stE salt ⟨nm, ino⟩ xs xs.length).2 := ⟨_, rfl⟩
          rw [← hL] at hO0 LEN hend
          rw [← hd] at LEN hend
          rw [← hd]
          have HE := Lib.hid hend
          clear hL hd hend
          cases d
          · go_wp2_with (first | (refine appE rfl (.tmp 73) (.tmp 77) rfl (w.heap.size + 1) v L.length L (by rfl) (World.ownsRow.alloc hO0 _) wr.heap.size 1 ⟨nm, ino⟩ (by rfl) (newE' wr ⟨nm, ino⟩) (by have := LEN.out.1; omega) (by rw [size_alloc]; omega) ?_))
            intro v6 w6 hO6 k6
            have hK6 : Kept (fun _ => False) w w6 := kept_own (hK0.alloc _) (Nat.le_succ _) (World.ownsRow.alloc hO0 _) k6
            have ho7 := owns_lowerE hO6 (Nat.le_succ w.heap.size)
            have HO7 := Lib.hid ho7
            clear ho7 hO6 hO0 k6
            go_wp2_with fail
            go_ret2
            exact ⟨_, rfl, by rw [← HE.out]; simpa using HO7.out, hK6⟩
          · have ho7 := owns_lowerE hO0 (Nat.le_succ w.heap.size)
            have HO7 := Lib.hid ho7
            clear ho7 hO0
            go_wp2_with fail
            go_ret2
            exact ⟨_, rfl, by rw [← HE.out]; exact HO7.out, hK0⟩
  · have hix := idxOf_some (nthE xs) nm i hnm hlt xs.length hin
    obtain rfl : z = ([], 17) := by rw [HZ.out]; unfold putR; rw [if_pos HR.out, if_pos HONE.out, hix]
    subst hq
    clear hix hin hnm hlt
    go_wp2_with fail
    go_ret2
    exact ListPost.nil hK2
end Go.Proofs.YtpekibadleghbaaDoor
namespace Go.Proofs.YtpekibadleghbaaDoor
open Go.RowKit
set_option linter.unusedVariables false
set_option linter.unusedSimpArgs false
def notNm (nm : ByteArray) (e : En) : Bool := !(e.nm.toList == nm.toList)
set_option maxRecDepth 100000 in
set_option maxHeartbeats 16000000 in
theorem refDrop_any (salt : Nat → Byte) (a : Option Addr) (cap : Nat) (xs : List En) (nm : ByteArray) (w : World) (hk : KeysRef w) (h : ListE w a xs.length (nthE xs)) (hn : xs.length ≤ 140737488351232) (hs : ∀ i, i < xs.length → (nthE xs i).nm.size ≤ 140737488351232) :
    Calls Tryd.prog 30 #[.agg (Fs 16 salt), .slice a xs.length cap, .string nm] w (ListPost (dropR salt xs nm) w) := by
  obtain ⟨z, hz⟩ : ∃ z, z = dropR salt xs nm := ⟨_, rfl⟩
  rw [← hz]
  have HZ := Lib.hid hz
  clear hz
  have qa : (xs.length : Int) ≤ 140737488351232 := by omega
  go_enter Tryd.func30, Tryd.ntmps30
  go_upto_region 1 with fail
  have hS0 : Row (w.alloc (.cells (Fs 16 salt) 22)) w.heap.size 22 16 salt := Row.new w 22 16 salt
  have hK0 : Kept (fun _ => False) w (w.alloc (.cells (Fs 16 salt) 22)) := (Kept.refl _ w).alloc _
  generalize hw0 : w.alloc (.cells (Fs 16 salt) 22) = w0 at *
  obtain ⟨gs, hgs⟩ : ∃ gs, gs = w.heap.size := ⟨_, rfl⟩
  rw [← hgs] at hS0 ⊢
  have HGS := Lib.hid hgs
  clear hw0 hgs
  have hcon := refRight_any salt a xs.length cap (nthE xs) w0 (hk.kept hK0) (h.kept hK0) hn hs
  cases hr : rightB salt (nthE xs) xs.length
  · rw [hr] at hcon
    have HC := Lib.hid hcon
    obtain rfl : z = ([], 3) := by rw [HZ.out]; unfold dropR; rw [hr]; rfl
    clear hcon hr
    go_wp2_with (first | (refine wpList_load_row rfl 22 (.tmp 3) rfl gs rfl 22 (Fs 16 salt) (0, 0) _ hS0 Tryd.underlying22 rfl (info22F _) ?_) | ((with_reducible refine (HC.out).mono ?_); rintro r w1 ⟨rfl, k1⟩))
    go_ret2
    exact ListPost.nil (hK0.trans k1 (fun _ _ h => h))
  rw [hr] at hcon
  have HC := Lib.hid hcon
  have HR := Lib.hid hr
  obtain ⟨l1, l2, l3⟩ := right_len hn hr
  clear hcon hr
  go_upto_region 3 with (first | (refine wpList_load_row rfl 22 (.tmp 3) rfl gs rfl 22 (Fs 16 salt) (0, 0) _ hS0 Tryd.underlying22 rfl (info22F _) ?_) | ((with_reducible refine (HC.out).mono ?_); rintro r w1 ⟨rfl, k1⟩; clear HC))
  have hK1 : Kept (fun _ => False) w w1 := hK0.trans k1 (fun _ _ h => h)
  clear k1 hS0 hK0
  go_wp2_with fail
  refine (refIndex_any a xs.length cap (nthE xs) nm w1 (h.kept hK1) hn).mono ?_
  rintro r w3 ⟨q, rfl, hq, hw⟩
  replace hw := hw.symm
  subst hw
  rcases hq with ⟨hq, hno⟩ | ⟨i, hq, hin, hnm, hlt⟩
  · subst hq
    have hix := idxOf_none (nthE xs) nm xs.length hno
    obtain rfl : z = ([], 4) := by rw [HZ.out]; unfold dropR; rw [if_pos HR.out, hix]
    clear hix hno
    go_wp2_with fail
    go_ret2
    exact ListPost.nil hK1
  · have hix := idxOf_some (nthE xs) nm i hnm hlt xs.length hin
    obtain rfl : z = (xs.filter (notNm nm), 0) := by rw [HZ.out]; unfold dropR; rw [if_pos HR.out, hix]; rfl
    subst hq
    clear hix hnm hlt HZ
    go_upto_region 7 with fail
    go_loopg [8, 9] xs.length (fun k so si wr => ∃ (j : Nat) (v : Value), j + k = xs.length ∧ si = .int .i64 (j : Int) ∧ v = so ∧ wr.ownsRow w.heap.size 68 2 v ((xs.take j).filter (notNm nm)).length (flat ecl ((xs.take j).filter (notNm nm))) ∧ Kept (fun _ => False) w wr)
    case atStart => exact ⟨0, _, by omega, rfl, rfl, World.ownsRow_nil _ _ _ _, hK1⟩
    case round =>
      clear hK1
      obtain ⟨j, v, hj, rfl, rfl, hO0, hK0⟩ := hrel
      have Hj := Lib.hid hj
      have hjn : j ≤ xs.length := by omega
      have hz0 : w.heap.size ≤ wr.heap.size := hK0.size
      clear hj
      by_cases hlt : j < xs.length
      · have q1 : (j : Int) < xs.length := by omega
        have q2 : (0 : Int) ≤ j := by omega
        obtain ⟨g, o, rfl, hc⟩ := h.resolve_left (by omega)
        have hcj := hc j hlt
        have hF : (xs.take (j + 1)).filter (notNm nm) = (xs.take j).filter (notNm nm) ++ (if notNm nm (nthE xs j) = true then [nthE xs j] else []) := by
          rw [take_snocE xs j hlt, List.filter_append, List.filter_cons, List.filter_nil]
        have hlen : ((xs.take j).filter (notNm nm)).length ≤ j := by
          have := List.length_filter_le (notNm nm) (xs.take j)
          simp at this
          omega
        obtain ⟨x, hx⟩ : ∃ x, x = nthE xs j := ⟨_, rfl⟩
        rw [← hx] at hcj hF
        obtain ⟨L, hL⟩ : ∃ L, L = (xs.take j).filter (notNm nm) := ⟨_, rfl⟩
        rw [← hL] at hO0 hF hlen
        have HF := Lib.hid hF
        clear hc hx hL hF
        obtain ⟨c0, c1⟩ := hcj.kept hK0
        cases he : x.nm.toList == nm.toList
        · have hF : (xs.take (j + 1)).filter (notNm nm) = L ++ [x] := by rw [HF.out]; unfold notNm; rw [he]; rfl
          have HF2 := Lib.hid hF
          clear hF HF hcj
          go_wp2_with (first | (refine appE rfl (.tmp 31) (.tmp 36) rfl w.heap.size v L.length L (by rfl) (World.ownsRow.alloc hO0 _) wr.heap.size 1 x (by rfl) (newE' wr x) (by omega) (by rw [size_alloc]; omega) ?_))
          intro v6 w6 hO6 k6
          have hK6 : Kept (fun _ => False) w w6 := kept_own (hK0.alloc _) (Nat.le_refl _) (World.ownsRow.alloc hO0 _) k6
          clear k6 hO0 hK0
          go_wp2_with fail
          go_roundg (gk - 1)
          case measure => have := Hj.out; omega
          case rel =>
            have := Hj.out
            exact ⟨j + 1, v6, by omega, by go_num, rfl, by rw [HF2.out]; simpa using hO6, hK6⟩
        · have hF : (xs.take (j + 1)).filter (notNm nm) = L := by rw [HF.out]; unfold notNm; rw [he]; simp
          have HF2 := Lib.hid hF
          clear hF HF hcj
          go_wp2_with fail
          go_roundg (gk - 1)
          case measure => have := Hj.out; omega
          case rel =>
            have := Hj.out
            exact ⟨j + 1, v, by omega, by go_num, rfl, by rw [HF2.out]; exact hO0, hK0⟩
      · obtain rfl : j = xs.length := by omega
        have q1 : ¬ (xs.length : Int) < xs.length := by omega
        rw [List.take_length] at hO0
        have HO := Lib.hid hO0
        clear hO0
        go_wp2_with fail
        go_ret2
        exact ⟨_, rfl, HO.out, hK0⟩
end Go.Proofs.YtpekibadleghbaaDoor
namespace Go.Proofs.YtpekibadleghbaaDoor
open Go.RowKit
set_option linter.unusedVariables false
set_option linter.unusedSimpArgs false
theorem eq68 (a c : ByteArray) (b d : Int) (w : World) : (Op.equalIn 10000 68 (.agg #[.string a, .int .i64 b]) (.agg #[.string c, .int .i64 d])).run Tryd.prog w = .ok (a.toList == c.toList && b == d) w := by
  have u3 := Tryd.underlying3
  have a3 := Tryd.isAgg3
  have z3 := Tryd.sizeOf3
  have u9 := Tryd.underlying9
  have a9 := Tryd.isAgg9
  have z9 := Tryd.sizeOf9
  have hS : Tryd.prog.underlying 68 = some (.struct (Tryd.prog.fieldsOf 68)) := by kernel_rfl
  rw [show (10000 : Nat) = 9999 + 1 from rfl, run_equalIn_agg w 9999 68 _ _ hS (by kernel_rfl)]
  simp only [Program.fieldsOf, Tryd.underlying68]
  go_simp
  by_cases h1 : a.toList = c.toList <;> by_cases h2 : b = d <;> simp [h1, h2]
theorem eq68_same (a : ByteArray) (b : Int) (w : World) : (Op.equalIn 10000 68 (.agg #[.string a, .int .i64 b]) (.agg #[.string a, .int .i64 b])).run Tryd.prog w = .ok true w := by
  rw [eq68]; simp
set_option maxRecDepth 100000 in
set_option maxHeartbeats 8000000 in
/-- Two lists that read alike are the same. -/
theorem same_any (a b : Option Addr) (n ca cb : Nat) (f : Nat → En) (w : World) (ha : ListE w a n f) (hb : ListE w b n f) (hn : n ≤ 140737488351232) :
    Calls Tryd.prog 24 #[.slice a n ca, .slice b n cb] w fun r w' => r = .returned (.bool true) ∧ Kept (fun _ => False) w w' := by
  have qn : (n : Int) ≤ 140737488351232 := by omega
  go_enter Tryd.func24, Tryd.ntmps24
  go_wp2_with fail
  go_loopg [13] n (fun k i wr => ∃ j : Nat, j + k = n ∧ i = .int .i64 (j : Int) ∧ Kept (fun _ => False) w wr)
  case atStart => exact ⟨0, by omega, rfl, Kept.refl _ w⟩
  case round =>
    obtain ⟨j, hj, rfl, hK⟩ := hrel
    have Hj := Lib.hid hj
    have hj2 : j ≤ n := by omega
    clear hj
    by_cases hlt : j < n
    · have q1 : (j : Int) < n := by omega
      have q2 : (0 : Int) ≤ j := by omega
      obtain ⟨ga, oa, rfl, hca⟩ := ha.resolve_left (by omega)
      obtain ⟨gb, ob, rfl, hcb⟩ := hb.resolve_left (by omega)
      obtain ⟨c0, c1⟩ := (hca j hlt).kept hK
      obtain ⟨d0, d1⟩ := (hcb j hlt).kept hK
      generalize (f j).nm = nm at *
      generalize (f j).ino = ino at *
      have heq := fun W => eq68_same nm ino W
      clear hca hcb
      go_upto_region 6 with fail
      refine region_still (by kernel_rfl) (by kernel_rfl) ?_
      iterate 9 (refine wpStill_step (fun K hK => ?_); go_simp; (try go_bits); refine hK _ ?_; clear hK K)
      refine wpStill_nil ?_
      go_wp2_with fail
      go_roundg (gk - 1)
      case measure => have := Hj.out; omega
      case rel =>
        have := Hj.out
        exact ⟨j + 1, by omega, by go_num, hK.drew⟩
    · obtain rfl : j = n := by omega
      have q1 : ¬ (j : Int) < j := by omega
      go_wp2_with fail
      go_ret
      exact ⟨rfl, hK⟩
/-- n texts that a slice leads to. -/
def ListS (w : World) (a : Option Addr) (n : Nat) (f : Nat → ByteArray) : Prop := n = 0 ∨ ∃ g o, a = some ⟨g, o, none⟩ ∧ ∀ i, i < n → w.cell? ⟨g, o + i, none⟩ = some (.string (f i))
set_option maxRecDepth 100000 in
set_option maxHeartbeats 8000000 in
theorem texts_any (a b : Option Addr) (n ca cb : Nat) (f : Nat → ByteArray) (w : World) (ha : ListS w a n f) (hb : ListS w b n f) (hn : n ≤ 140737488351232) :
    Calls Tryd.prog 35 #[.slice a n ca, .slice b n cb] w fun r w' => r = .returned (.bool true) ∧ Kept (fun _ => False) w w' := by
  have qn : (n : Int) ≤ 140737488351232 := by omega
  go_enter Tryd.func35, Tryd.ntmps35
  go_wp2_with fail
  go_loopg [13] n (fun k i wr => ∃ j : Nat, j + k = n ∧ i = .int .i64 (j : Int) ∧ Kept (fun _ => False) w wr)
  case atStart => exact ⟨0, by omega, rfl, Kept.refl _ w⟩
  case round =>
    obtain ⟨j, hj, rfl, hK⟩ := hrel
    have Hj := Lib.hid hj
    have hj2 : j ≤ n := by omega
    clear hj
    by_cases hlt : j < n
    · have q1 : (j : Int) < n := by omega
      have q2 : (0 : Int) ≤ j := by omega
      obtain ⟨ga, oa, rfl, hca⟩ := ha.resolve_left (by omega)
      obtain ⟨gb, ob, rfl, hcb⟩ := hb.resolve_left (by omega)
      have c0 := hK.cell (hca j hlt)
      have d0 := hK.cell (hcb j hlt)
      generalize f j = nm at *
      clear hca hcb
      go_upto_region 6 with fail
      refine region_still (by kernel_rfl) (by kernel_rfl) ?_
      iterate 9 (refine wpStill_step (fun K hK => ?_); go_simp; (try go_bits); refine hK _ ?_; clear hK K)
      refine wpStill_nil ?_
      go_wp2_with fail
      go_roundg (gk - 1)
      case measure => have := Hj.out; omega
      case rel =>
        have := Hj.out
        exact ⟨j + 1, by omega, by go_num, hK.drew⟩
    · obtain rfl : j = n := by omega
      have q1 : ¬ (j : Int) < j := by omega
      go_wp2_with fail
      go_ret
      exact ⟨rfl, hK⟩
theorem info9' : Tryd.prog.info? 9 = some ((Tryd.prog.info? 9).getD default) := by kernel_rfl
theorem zero9' : ((Tryd.prog.info? 9).getD default).zero = some (.string ⟨#[]⟩) := by kernel_rfl
theorem size9' : ((Tryd.prog.info? 9).getD default).size = 1 := by kernel_rfl
theorem bytes9' : ((Tryd.prog.info? 9).getD default).bytes = 16 := by kernel_rfl
/-- Texts of one's own. -/
def OwnS (w : World) (base : Nat) (v : Value) (n : Nat) (L : List ByteArray) : Prop := w.ownsRow base 9 1 v n (L.map Value.string)
theorem OwnS.nil (w : World) (base : Nat) : OwnS w base (.slice none 0 0) 0 [] := World.ownsRow_nil w base 9 1
theorem OwnS.alloc {w : World} {base : Nat} {v : Value} {n : Nat} {L : List ByteArray} (h : OwnS w base v n L) (o : Obj) : OwnS (w.alloc o) base v n L := World.ownsRow.alloc h o
set_option maxRecDepth 100000 in
/-- A text appended to texts of one's own. -/
theorem appS {ops : Array Oper} {rest : List Oper} {o : Oper} {a : Act} {w : World} {Q : Exit → Act → World → Prop} (hgd : o.guard = none) (s x : Operand) (ho : o.op = .call { callee := .builtin .append, args := #[s, x], argTypes := #[31, 31] })
    (base : Nat) (v : Value) (n : Nat) (L : List ByteArray) (hs : a.eval s = v) (hown : OwnS w base v n L) (g c : Nat) (e : ByteArray) (hx : a.eval x = .slice (some ⟨g, 0, none⟩) 1 c) (hc : w.cell? ⟨g, 0, none⟩ = some (.string e))
    (hn : n + 1 ≤ 1000000) (hbase : base ≤ w.heap.size)
    (h : ∀ v' w', OwnS w' base v' (n + 1) (L ++ [e]) → Kept (fun k => v.ownBlock = some k) w w' → wpList Tryd.prog ops Q rest (a.put o.dst v') w') : wpList Tryd.prog ops Q (o :: rest) a w := by
  refine wpList_append_own_at _ hgd s x 31 ho base 9 _ _ 1 16 Tryd.underlying31 info9' zero9' size9' bytes9' rfl (by omega) v n (L.map Value.string) hs hown ⟨g, 0, none⟩ 1 c [.string e] hx rfl ?_ ?_ (by unfold maxLen; omega) (by omega) hbase ?_
  · intro j u hj
    have hl : j < 1 := (List.getElem?_eq_some_iff.1 hj).1
    obtain rfl : j = 0 := by omega
    simp at hj
    rw [Addr.add_lit, ← hj]
    exact hc
  · intro u hu
    simp at hu
    subst hu
    rfl
  intro v' w2 h1 h2 _ _
  refine h v' w2 ?_ (Kept.grown h2)
  unfold OwnS
  rw [List.map_append]
  exact h1
theorem owns_ltS {w : World} {base : Nat} {v : Value} {n : Nat} {L : List ByteArray} (ho : OwnS w base v n L) {k : Nat} (hk : v.ownBlock = some k) : base ≤ k ∧ k < w.heap.size := by
  rcases ho.2 with ⟨rfl, _⟩ | ⟨g, cap, cur, rfl, hg, hh, _⟩
  · simp [Value.ownBlock] at hk
  · have : g = k := by simpa [Value.ownBlock] using hk
    subst this
    exact ⟨hg, lt_of_at hh⟩
theorem owns_lowerS {w : World} {base base' : Nat} {v : Value} {n : Nat} {L : List ByteArray} (ho : OwnS w base v n L) (hb : base' ≤ base) : OwnS w base' v n L := by
  refine ⟨ho.1, ?_⟩
  rcases ho.2 with h | ⟨g, cap, cur, hv, hg, r⟩
  · exact .inl h
  · exact .inr ⟨g, cap, cur, hv, by omega, r⟩
theorem owns_keptS {w w' : World} {base : Nat} {v : Value} {n : Nat} {L : List ByteArray} {S : Nat → Prop} (ho : OwnS w base v n L) (hk : Kept S w w') (hn : ∀ k, v.ownBlock = some k → ¬ S k) : OwnS w' base v n L := by
  refine ⟨ho.1, ?_⟩
  rcases ho.2 with h | ⟨g, cap, cur, hv, hb, hh, r⟩
  · exact .inl h
  · exact .inr ⟨g, cap, cur, hv, hb, by rw [hk.block g (lt_of_at hh) (hn g (by rw [hv]; rfl))]; exact hh, r⟩
theorem kept_ownS {w0 w w' : World} {base : Nat} {v : Value} {n : Nat} {L : List ByteArray} (hK : Kept (fun _ => False) w0 w) (hb : w0.heap.size ≤ base) (ho : OwnS w base v n L) (hk : Kept (fun k => v.ownBlock = some k) w w') : Kept (fun _ => False) w0 w' :=
  hK.trans hk (fun j hj h => by have := (owns_ltS ho h).1; omega)
theorem owns_readsS {w : World} {base : Nat} {v : Value} {n : Nat} {L : List ByteArray} (ho : OwnS w base v n L) : n = L.length ∧ ∃ a c, v = .slice a n c ∧ ListS w a n (fun i => L.getD i ⟨#[]⟩) := by
  have hl : n = L.length := by have := ho.1; simp at this; omega
  refine ⟨hl, ?_⟩
  rcases ho.2 with ⟨rfl, h0⟩ | ⟨g, cap, cur, rfl, hb, hg, hn, hc, hs, ht⟩
  · exact ⟨none, 0, by rw [h0], .inl h0⟩
  · refine ⟨_, _, rfl, .inr ⟨g, 0, rfl, fun i hi => ?_⟩⟩
    rw [Nat.zero_add, cell_of_row w g i cur 9 _ hg]
    have h6 : cur.toList[i]? = some (.string (L.getD i ⟨#[]⟩)) := by
      have e : (cur.toList.take (n * 1))[i]? = cur.toList[i]? := by rw [List.getElem?_take, if_pos (by omega)]
      rw [← e, ht]
      simp [show i < L.length by omega]
    simpa using h6
end Go.Proofs.YtpekibadleghbaaDoor
