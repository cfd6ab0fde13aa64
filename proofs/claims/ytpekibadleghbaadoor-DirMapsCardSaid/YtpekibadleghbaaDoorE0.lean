/-
  slices.Clone and slices.Insert of structs of 2 cells.
-/
import Derived.Test.YtpekibadleghbaaDoorD5
import Derived.Test.YtpekibadleghbaaDoorS0
import Derived.Lib.SliceRun
import Derived.Lib.AppendZeros
import Derived.Lib.Overlaps
import Derived.Lib.AppendZerosOnto
namespace Go.Proofs.YtpekibadleghbaaDoor
open Go.RowKit
set_option linter.unusedVariables false
set_option linter.unusedSimpArgs false
theorem spl_cut {α : Type} {cells : α → List Value} {k : Nat} (hk : ∀ x, (cells x).length = k) (ys : List α) (r zs : List Value) (i : Nat) (hi : i ≤ ys.length) (hz : zs.length = (ys.length - i) * k) :
    spl (flat cells ys ++ r) (i * k) zs = flat cells (ys.take i) ++ (zs ++ r) := by
  have h1 : i * k ≤ ys.length * k := Nat.mul_le_mul_right k hi
  have h2 : i * k + zs.length = (flat cells ys).length := by rw [hz, flat_length hk, Nat.sub_mul]; omega
  unfold spl
  rw [List.take_append_of_le_length (by rw [flat_length hk]; omega), flat_take hk, h2, List.drop_append_of_le_length (Nat.le_refl _), List.drop_length]
  simp
theorem Kept.grown {w w' : World} {row : Option Nat} (h : w.grownBy w' row) : Kept (fun k => row = some k) w w' :=
  ⟨h.os, h.tape, h.output, h.size, fun k hk hn => h.block k hk (fun e => hn e.symm)⟩
theorem eql_nil (w : World) (a : Option Addr) (n c : Nat) : (binOp .eql 32 (.slice a n c) (.slice none 0 0)).run Tryd.prog w = .ok (.bool a.isNone) w := by
  simpa using Lib.run_eql_slice_nil (P := Tryd.prog) w 32 68 a n c 0 0 Tryd.underlying32
theorem info29i : Tryd.prog.info? 68 = some ((Tryd.prog.info? 68).getD default) := by kernel_rfl
theorem zero29 : ((Tryd.prog.info? 68).getD default).zero = some (.agg #[.string ⟨#[]⟩, .int .i64 0]) := by kernel_rfl
theorem size29 : ((Tryd.prog.info? 68).getD default).size = 2 := by kernel_rfl
theorem bytes29 : ((Tryd.prog.info? 68).getD default).bytes = 24 := by kernel_rfl
set_option maxRecDepth 100000 in
set_option maxHeartbeats 1000000 in
theorem clone_any (a : Option Addr) (ca : Nat) (xs : List En) (w : World) (ha : ListE w a xs.length (nthE xs)) (hla : xs.length * 24 ≤ 140737488351232) :
    Calls Tryd.prog 45 #[.slice a xs.length ca] w fun r w' => ∃ v, r = .returned v ∧ w'.ownsRow w.heap.size 68 2 v xs.length (flat ecl xs) ∧ Kept (fun _ => False) w w' := by
  have hnil := eql_nil
  cases a with
  | none =>
    have h0 : xs.length = 0 := ha.resolve_right (fun ⟨_, _, h, _⟩ => by simp at h)
    go_enter Tryd.func45, Tryd.ntmps45
    go_wp2_with fail
    go_ret
    exact ⟨_, rfl, by rw [h0, List.eq_nil_of_length_eq_zero h0]; exact World.ownsRow_nil _ _ _ _, Kept.refl _ w⟩
  | some p =>
    have hsrc : ∀ j u, (flat ecl xs)[j]? = some u → w.cell? (p.add j) = some u := by
      intro j u hj
      rcases ha with h0 | ⟨g, o, hp, hc⟩
      · rw [List.eq_nil_of_length_eq_zero h0] at hj; simp at hj
      · injection hp with hp
        subst hp
        exact ListE.cells hc rfl j u hj
    have hlen : (flat ecl xs).length = xs.length * 2 := flat_length ecl_len xs
    generalize hf : flat ecl xs = cs at *
    have h1 : ∀ u ∈ cs, u.oneCell' = true := by rw [← hf]; exact flat_one ecl_one xs
    clear hf ha
    go_enter Tryd.func45, Tryd.ntmps45
    go_wp2_with (at_builtin; go_loud (refine wpList_append_own_at _ rfl (.tmp 5) (.tmp 6) 32 rfl w.heap.size 68 _ _ 2 24 Tryd.underlying32 info29i zero29 size29 bytes29 rfl (by omega) (.slice (some ⟨w.heap.size, 0, none⟩) 0 0) 0 [] (by rfl) (World.ownsRow_made w #[] 0 (Nat.le_refl _) (by unfold maxLen; omega) rfl) p xs.length ca cs (by rfl) hlen (fun j u hj => (((Kept.refl (fun _ => False) w).alloc _).cell (hsrc j u hj))) h1 (by unfold maxLen; omega) (by omega) (by simp) ?_); intro v' w2 hown hgrow hnil hat)
    go_ret
    refine ⟨_, rfl, by simpa using hown, ((Kept.refl _ w).alloc _).trans (Kept.grown hgrow) ?_⟩
    intro i hi h
    simp [Value.ownBlock] at h
    omega
theorem Blk.shape {w : World} {g : Nat} {t : TypeId} {cs : List Value} (h : Blk w g t cs) : w.shape? g = some (t, cs.length) := by
  unfold Blk at h; simp [World.shape?, h]
theorem apart_any (W : World) (vb g o vc la lb cb : Nat) (cv cg : List Value) (hv : Blk W vb 68 cv) (hg : Blk W g 68 cg) (hne : vb ≠ g) (hcg : cg.length ≠ 0) :
    (callFunc 59 #[.slice (some ⟨vb, 0, none⟩) la vc, .slice (some ⟨g, o, none⟩) lb cb]).run Tryd.prog W = .ok (.value (.bool false)) W := by
  rw [run_callFunc_extern (P := Tryd.prog) Tryd.func59 (by kernel_rfl) (by kernel_rfl) (by kernel_rfl) (e := Extern.SlicesOverlaps.overlaps #[32, 32] #[4]) (by kernel_rfl),
    Lib.run_overlaps_apart W 32 4 68 Tryd.underlying32 2 (fun w => by kernel_rfl) ⟨vb, 0, none⟩ ⟨g, o, none⟩ la vc lb cb hne 68 68 _ _ hv.shape hg.shape hcg (hv.free 0) (hv.free _)]
  rfl
def InsPost (xs : List En) (u : En) (i : Nat) (base : Nat) (v : Value) (w : World) (r : Ending) (w' : World) : Prop :=
  ∃ v', r = .returned v' ∧ w'.ownsRow base 68 2 v' (xs.length + 1) (flat ecl (xs.take i ++ u :: xs.drop i)) ∧ Kept (fun k => v.ownBlock = some k) w w'
set_option maxRecDepth 100000 in
set_option maxHeartbeats 2000000 in
/-- At the end. -/
theorem insert_end (v : Value) (xs : List En) (u : En) (base vb vc : Nat) (w : World) (ho : w.ownsRow base 68 2 v xs.length (flat ecl xs)) (hb : base ≤ w.heap.size) (hn : (xs.length + 1) * 24 ≤ 140737488355328) (hv : Blk w vb 68 (ecl u)) :
    Calls Tryd.prog 44 #[v, .int .i64 xs.length, .slice (some ⟨vb, 0, none⟩) 1 vc] w (InsPost xs u xs.length base v w) := by
  have hnew : ∀ j x, (ecl u)[j]? = some x → w.cell? ((⟨vb, 0, none⟩ : Addr).add j) = some x := fun j x hj => by
    rw [Addr.add_lit, Nat.zero_add, hv.cell]; exact hj
  have HO := Lib.hid ho
  have HNEW := Lib.hid hnew
  have key : ∀ v' w', w'.ownsRow base 68 2 v' (xs.length + 1) (flat ecl xs ++ ecl u) → w.grownBy w' v.ownBlock → InsPost xs u xs.length base v w (.returned v') w' := fun v' w' h1 h2 =>
    ⟨v', rfl, by rw [List.take_length, List.drop_length, flat_append, flat_cons, flat_nil, List.append_nil]; exact h1, Kept.grown h2⟩
  have KEY := Lib.hid key
  have q1 : (xs.length : Int) ≤ 140737488355328 := by omega
  clear key hnew hv
  rcases ho.2 with ⟨rfl, h0⟩ | ⟨g, cap, cur, rfl, hg, hh, hle, hm, hs, ht⟩
  · have H0 := Lib.hid h0
    have e : (xs.length : Int) = 0 := by omega
    rw [e]
    clear h0 e ho
    go_enter Tryd.func44, Tryd.ntmps44
    go_wp2_with (at_builtin; go_loud (refine wpList_append_own_at _ rfl (.tmp 23) (.tmp 24) 32 rfl base 68 _ _ 2 24 Tryd.underlying32 info29i zero29 size29 bytes29 rfl (by omega) (.slice none 0 0) xs.length (flat ecl xs) (by rfl) HO.out ⟨vb, 0, none⟩ 1 vc (ecl u) (by rfl) rfl HNEW.out (ecl_one u) (by unfold maxLen; omega) (by omega) hb ?_); intro v' w2 hown hgrow hnil hat)
    go_ret
    exact KEY.out _ _ hown hgrow
  · have q2 : (xs.length : Int) ≤ cap := by omega
    have q3 : (cap : Int) ≤ 9223372036854775807 := by unfold maxLen at hm; omega
    clear ho hh hs ht hm hg
    by_cases hc : cap = xs.length
    · have HC := Lib.hid hc
      go_enter Tryd.func44, Tryd.ntmps44
      go_wp2_with (at_builtin; go_loud (refine wpList_append_own_at _ rfl (.tmp 23) (.tmp 24) 32 rfl base 68 _ _ 2 24 Tryd.underlying32 info29i zero29 size29 bytes29 rfl (by omega) (.slice (some ⟨g, 0, none⟩) xs.length cap) xs.length (flat ecl xs) (by first | rfl | (rw [HC.out]; rfl)) HO.out ⟨vb, 0, none⟩ 1 vc (ecl u) (by rfl) rfl HNEW.out (ecl_one u) (by unfold maxLen; omega) (by omega) hb ?_); intro v' w2 hown hgrow hnil hat)
      go_ret
      exact KEY.out _ _ hown hgrow
    · go_enter Tryd.func44, Tryd.ntmps44
      go_wp2_with (at_builtin; go_loud (refine wpList_append_own_at _ rfl (.tmp 23) (.tmp 24) 32 rfl base 68 _ _ 2 24 Tryd.underlying32 info29i zero29 size29 bytes29 rfl (by omega) (.slice (some ⟨g, 0, none⟩) xs.length cap) xs.length (flat ecl xs) (by rfl) HO.out ⟨vb, 0, none⟩ 1 vc (ecl u) (by rfl) rfl HNEW.out (ecl_one u) (by unfold maxLen; omega) (by omega) hb ?_); intro v' w2 hown hgrow hnil hat)
      go_ret
      exact KEY.out _ _ hown hgrow
theorem shift_row {α : Type} {cells : α → List Value} {k : Nat} (hk : ∀ x, (cells x).length = k) (xs : List α) (u : α) (rest : List Value) (i : Nat) (hi : i < xs.length) :
    spl (spl (flat cells xs ++ rest) ((i + 1) * k) (flat cells (xs.drop i))) (i * k) (cells u) = flat cells (xs.take i ++ u :: xs.drop i) ++ rest.drop k := by
  have h1 : spl (flat cells xs ++ rest) ((i + 1) * k) (flat cells (xs.drop i)) = flat cells (xs.take (i + 1)) ++ (flat cells (xs.drop i) ++ rest.drop k) := by
    have hle : (i + 1) * k ≤ xs.length * k := Nat.mul_le_mul_right k hi
    have e : (i + 1) * k + (flat cells (xs.drop i)).length = (flat cells xs).length + k := by
      rw [flat_length hk, flat_length hk, List.length_drop, Nat.sub_mul, Nat.add_mul]
      have : i * k ≤ xs.length * k := Nat.mul_le_mul_right k (by omega)
      omega
    unfold spl
    rw [List.take_append_of_le_length (by rw [flat_length hk]; exact hle), flat_take hk, e, List.drop_append]
    have hd1 : (flat cells xs).drop ((flat cells xs).length + k) = [] := List.drop_eq_nil_of_le (by omega)
    rw [hd1, show (flat cells xs).length + k - (flat cells xs).length = k by omega]
    simp
  rw [h1]
  unfold spl
  have h2 : (flat cells (xs.take (i + 1))).length = (i + 1) * k := by rw [flat_length hk, List.length_take, Nat.min_eq_left (by omega)]
  have h3 : i * k ≤ (i + 1) * k := Nat.mul_le_mul_right k (by omega)
  rw [List.take_append_of_le_length (by omega), flat_take hk, List.take_take, Nat.min_eq_left (by omega), hk, show i * k + k = (i + 1) * k by rw [Nat.add_mul]; omega, ← h2, List.drop_append_of_le_length (Nat.le_refl _), List.drop_length, flat_append, flat_cons]
  simp
theorem Blk.owns {w : World} {g : Nat} {e : TypeId} {k n cap base : Nat} {L r : List Value} (h : Blk w g e (L ++ r)) (hL : L.length = n * k) (hl : (L ++ r).length = cap * k) (hb : base ≤ g) (hn : n ≤ cap) (hc : cap ≤ maxLen) :
    w.ownsRow base e k (.slice (some ⟨g, 0, none⟩) n cap) n L :=
  ⟨hL, .inr ⟨g, cap, _, rfl, hb, h, hn, hc, by simpa using hl, by simp [← hL]⟩⟩
theorem owns_blk {w : World} {g : Nat} {e : TypeId} {k n cap base : Nat} {L : List Value} (h : w.ownsRow base e k (.slice (some ⟨g, 0, none⟩) n cap) n L) : ∃ r, Blk w g e (L ++ r) ∧ (L ++ r).length = cap * k ∧ L.length = n * k ∧ n ≤ cap ∧ cap ≤ maxLen ∧ base ≤ g := by
  obtain ⟨hL, h | ⟨g', cap', cur, hv, hb, hg, hn, hc, hs, ht⟩⟩ := h
  · simp at h
  · injection hv with h1 h2 h3
    injection h1 with h1
    injection h1 with h1
    subst h1 h3
    refine ⟨cur.toList.drop (n * k), ?_, ?_, hL, hn, hc, hb⟩
    · unfold Blk; rw [← ht, List.take_append_drop]; simpa using hg
    · rw [← ht, List.take_append_drop]; simpa using hs
set_option maxRecDepth 100000 in
set_option maxHeartbeats 2000000 in
theorem insert_shift (g cap : Nat) (xs : List En) (rest : List Value) (u : En) (i base vb vc : Nat) (w : World) (hB : Blk w g 68 (flat ecl xs ++ rest)) (hl : (flat ecl xs ++ rest).length = cap * 2) (hcap : cap ≤ 9223372036854775807) (hsm : xs.length ≤ 1000) (hi : i < xs.length) (hroom : xs.length + 1 ≤ cap)
    (hbg : base ≤ g) (hv : Blk w vb 68 (ecl u)) (hne : vb ≠ g) :
    Calls Tryd.prog 44 #[.slice (some ⟨g, 0, none⟩) xs.length cap, .int .i64 i, .slice (some ⟨vb, 0, none⟩) 1 vc] w (InsPost xs u i base (.slice (some ⟨g, 0, none⟩) xs.length cap) w) := by
  have hov := fun lb cb => apart_any w vb g ((i + 1) * 2) vc 1 lb cb _ _ hv hB hne (by rw [hl]; omega)
  have q1 : (0 : Int) ≤ i := by omega
  have q2 : (i : Int) < xs.length := by omega
  have q3 : (xs.length : Int) + 1 ≤ cap := by omega
  have q4 : (cap : Int) ≤ 9223372036854775807 := by omega
  have q4c : (xs.length : Int) ≤ 1000 := by omega
  have q5 : ¬ (i : Int) = xs.length := by omega
  have q6 : ¬ cap = i := by omega
  have q7 : ¬ cap = i + 1 := by omega
  have q8 : (i : Int) + 1 ≤ xs.length + 1 := by omega
  have HB := Lib.hid hB
  have HV := Lib.hid hv
  clear hB hv
  go_enter Tryd.func44, Tryd.ntmps44
  have hs : (Tryd.prog.info? 68).map (·.size) = some 2 := by kernel_rfl
  have L1 : (flat ecl (xs.drop i)).length = (xs.length - i) * 2 := by rw [flat_length ecl_len, List.length_drop]
  have L2 := flat_length (cells := ecl) ecl_len xs
  have hlr : xs.length * 2 + rest.length = cap * 2 := by rw [← hl, List.length_append, L2]
  have hc1 := fun ty dc sc => run_copyK (P := Tryd.prog) w.drew 32 32 ty 68 2 g ((i + 1) * 2) (xs.length - i) dc ⟨g, i * 2, none⟩ (xs.length + 1 - i) sc _ 68 (flat ecl (xs.drop i)) Tryd.underlying32 hs HB.out.drew
    (by rw [L1]; simp only [Nat.min_def]; split <;> omega)
    (fun j v hj => by
      rw [Addr.add_lit, HB.out.drew.cell, ← List.getElem?_drop, List.drop_append_of_le_length (by omega), flat_drop ecl_len, List.getElem?_append_left (List.getElem?_eq_some_iff.1 hj).1]
      exact hj)
    (by rw [L1, List.length_append, L2]; omega) (flat_one ecl_one _)
  have hn1 : Nat.min (xs.length + 1 - i) (xs.length - i) = xs.length - i := by simp only [Nat.min_def]; split <;> omega
  rw [hn1] at hc1
  obtain ⟨R1, hR1⟩ : ∃ R, R = spl (flat ecl xs ++ rest) ((i + 1) * 2) (flat ecl (xs.drop i)) := ⟨_, rfl⟩
  rw [← hR1] at hc1
  have hB2 : Blk (w.drew.setRow g R1.toArray) g 68 R1 := HB.out.drew.row R1
  have hV2 : Blk (w.drew.setRow g R1.toArray) vb 68 (ecl u) := HV.out.drew.rowOther hne _
  have LR : R1.length = cap * 2 := by rw [hR1, spl_length _ _ _ (by rw [L1, List.length_append, L2]; omega), hl]
  have hc2 := fun ty dc => run_copyK (P := Tryd.prog) (w.drew.setRow g R1.toArray) 32 32 ty 68 2 g (i * 2) (xs.length + 1 - i) dc ⟨vb, 0, none⟩ 1 vc _ 68 (ecl u) Tryd.underlying32 hs hB2
    (by rw [ecl_len]; simp only [Nat.min_def]; split <;> omega)
    (fun j v hj => by rw [Addr.add_lit, Nat.zero_add, hV2.cell]; exact hj)
    (by rw [ecl_len, LR]; omega) (ecl_one _)
  have hB3 := hB2.row (spl R1 (i * 2) (ecl u))
  have HB3 := Lib.hid hB3
  have HR : Hid (spl R1 (i * 2) (ecl u) = flat ecl (xs.take i ++ u :: xs.drop i) ++ rest.drop 2) := Lib.hid (by rw [hR1]; exact shift_row ecl_len xs u rest i hi)
  have HC1 := Lib.hid hc1
  have HC2 := Lib.hid hc2
  have HLR := Lib.hid hlr
  have q9 : ((xs.length - i : Nat) : Int) = xs.length - i := by omega
  clear hc1 hc2 hB2 hV2 hB3 hR1 LR L1 L2 hn1 hs hl hlr q9
  go_wp2_with (simp only [hov])
  have q10 : (i : Int) ≤ xs.length + 1 := by omega
  have w2 : (0 : Int) ≤ i + 1 := by omega
  have w3 : ((i : Int) + 1).toNat = i + 1 := by omega
  have w1 : IntKind.i64.wrap ((i : Int) + 1) = (i : Int) + 1 := by rw [IntKind.wrap_i64]; omega
  refine region_tail 8 (by kernel_rfl) (by kernel_rfl) ?_
  simp only [List.take_succ_cons, List.take_zero, List.drop_succ_cons, List.drop_zero]
  repeat (refine wpStill_step (fun K hK => ?_); go_simp; (try go_bits); refine hK _ ?_; clear hK K)
  clear w1 w2 w3
  refine wpStill_nil ?_
  refine wpList_copyK rfl (.tmp 73) (.tmp 76) 32 32 rfl (by rfl) (by rfl) (HC1.out _ _ _) ?_
  go_wp2_with (refine wpList_copyK rfl (.tmp 80) (.tmp 81) 32 32 rfl (by rfl) (by rfl) (HC2.out _ _) ?_)
  go_ret
  refine ⟨_, rfl, ?_, ((((Kept.refl (fun k => k = g) w).drew.setRow (fun _ => rfl) _).setRow (fun _ => rfl) _).mono (fun k _ h => by subst h; rfl))⟩
  have h3 := HB3.out
  rw [HR.out] at h3
  have hL : (flat ecl (xs.take i ++ u :: xs.drop i)).length = (xs.length + 1) * 2 := by rw [flat_length ecl_len]; simp; omega
  have := h3.owns (base := base) hL (by rw [List.length_append, hL, List.length_drop]; have := HLR.out; omega) hbg hroom (by unfold maxLen; omega)
  rw [HR.out]
  exact this
theorem grow_row {α : Type} {cells : α → List Value} {k : Nat} (hk : ∀ x, (cells x).length = k) (xs : List α) (u : α) (z r : List Value) (i : Nat) (hi : i < xs.length) (hz : z.length = (xs.length + 1 - i) * k) :
    spl (spl (flat cells (xs.take i) ++ z ++ r) (i * k) (cells u)) ((i + 1) * k) (flat cells (xs.drop i)) = flat cells (xs.take i ++ u :: xs.drop i) ++ r := by
  have hl0 : (flat cells (xs.take i)).length = i * k := by rw [flat_length hk, List.length_take, Nat.min_eq_left (by omega)]
  have hik : (xs.length + 1 - i) * k = k + (xs.length - i) * k := by rw [show xs.length + 1 - i = (xs.length - i) + 1 by omega, Nat.add_mul]; omega
  have h1 : spl (flat cells (xs.take i) ++ z ++ r) (i * k) (cells u) = flat cells (xs.take i) ++ cells u ++ (z ++ r).drop k := by
    unfold spl
    rw [List.append_assoc (flat cells (xs.take i)) z r, ← hl0, List.take_append_of_le_length (Nat.le_refl _), List.take_length, hk, List.drop_append]
    have hd1 : (flat cells (xs.take i)).drop ((flat cells (xs.take i)).length + k) = [] := List.drop_eq_nil_of_le (by omega)
    rw [hd1, show (flat cells (xs.take i)).length + k - (flat cells (xs.take i)).length = k by omega]
    simp
  have hl1 : (flat cells (xs.take i) ++ cells u).length = (i + 1) * k := by rw [List.length_append, hl0, hk, Nat.add_mul]; omega
  rw [h1]
  unfold spl
  rw [← hl1, List.take_append_of_le_length (Nat.le_refl _), List.take_length, List.drop_append]
  have hd1 : (flat cells (xs.take i) ++ cells u).drop ((flat cells (xs.take i) ++ cells u).length + (flat cells (xs.drop i)).length) = [] := List.drop_eq_nil_of_le (by omega)
  have hl2 : (flat cells (xs.drop i)).length = (xs.length - i) * k := by rw [flat_length hk, List.length_drop]
  rw [hd1, Nat.add_sub_cancel_left, List.drop_drop, List.drop_append, hl2]
  have hd2 : z.drop (k + (xs.length - i) * k) = [] := List.drop_eq_nil_of_le (by omega)
  rw [hd2, hz, hik, Nat.sub_self, flat_append, flat_cons]
  simp
set_option maxRecDepth 100000 in
set_option maxHeartbeats 2000000 in
theorem insert_grow (g cap : Nat) (xs : List En) (rest : List Value) (u : En) (i base vb vc : Nat) (w : World) (hB : Blk w g 68 (flat ecl xs ++ rest)) (hle : xs.length ≤ cap) (hcap : cap ≤ 140737488355328) (hi : i < xs.length) (hroom : cap < xs.length + 1) (hbig : (xs.length + 1) * 24 ≤ 140737488355328)
    (hbw : base ≤ w.heap.size) (hv : Blk w vb 68 (ecl u)) :
    Calls Tryd.prog 44 #[.slice (some ⟨g, 0, none⟩) xs.length cap, .int .i64 i, .slice (some ⟨vb, 0, none⟩) 1 vc] w (InsPost xs u i base (.slice (some ⟨g, 0, none⟩) xs.length cap) w) := by
  have q1 : (0 : Int) ≤ i := by omega
  have q2 : (i : Int) < xs.length := by omega
  have q3 : (cap : Int) < xs.length + 1 := by omega
  have q4 : (xs.length : Int) ≤ cap := by omega
  have q4b : (cap : Int) ≤ 140737488355328 := by omega
  have q5 : ¬ (i : Int) = xs.length := by omega
  have q6 : ¬ cap = i := by omega
  have q7 : (i : Int) ≤ cap := by omega
  have L2 := flat_length (cells := ecl) ecl_len xs
  have hold : (Builtin.firstCells ((Tryd.prog.info? 68).getD default).size i (.slice (some ⟨g, 0, none⟩) i cap)).run Tryd.prog w.drew = .ok (flat ecl (xs.take i)).toArray w.drew := by
    rw [size29]
    refine run_firstCells_some w.drew 2 i ⟨g, 0, none⟩ i cap (flat ecl (xs.take i)) (by rw [flat_length ecl_len, List.length_take, Nat.min_eq_left (by omega)]) (fun j v hj => ?_)
    rw [Addr.add_lit, Nat.zero_add, hB.drew.cell, ← flat_take ecl_len] at *
    have hlt := (List.getElem?_eq_some_iff.1 hj).1
    rw [List.length_take] at hlt
    rw [List.getElem?_take, if_pos (by omega)] at hj
    rw [List.getElem?_append_left (by omega)]
    exact hj
  have hrz := fun ty => Lib.run_append_grow_zeros (P := Tryd.prog) w 32 3 ty 68 _ _ .i64 .i64 Tryd.underlying32 (by kernel_rfl) info29i zero29 (some ⟨g, 0, none⟩) i cap (flat ecl (xs.take i)) hold (xs.length + 1 - i) (by omega) (by rw [size29]; omega) (by omega) (by omega) (by rw [bytes29]; omega) (by rw [bytes29, show i + (xs.length + 1 - i) = xs.length + 1 by omega]; exact growslice_fits hroom hbig)
  rw [show i + (xs.length + 1 - i) = xs.length + 1 by omega] at hrz
  obtain ⟨G, hG⟩ : ∃ G, G = grownCap w (xs.length + 1) cap 68 := ⟨_, rfl⟩
  have hG1' : xs.length + 1 ≤ G := by rw [hG]; exact grownCap_ge w _ _ _
  have hG2 : G ≤ 9223372036854775807 := by
    have := grownCap_le_maxLen w (xs.length + 1) cap 68 (by unfold maxLen; omega)
    rw [← hG] at this; unfold maxLen at this; omega
  rw [← hG] at hrz
  obtain ⟨z, hz⟩ : ∃ z, z = (Builtin.zeroCells (Value.agg #[.string ⟨#[]⟩, .int .i64 0]).cells (xs.length + 1 - i)).toList := ⟨_, rfl⟩
  obtain ⟨r, hr⟩ : ∃ r, r = (Builtin.zeroCells (Value.agg #[.string ⟨#[]⟩, .int .i64 0]).cells (G - (xs.length + 1))).toList := ⟨_, rfl⟩
  have lz : z.length = (xs.length + 1 - i) * 2 := by rw [hz, Array.length_toList, size_zeroCells]; rfl
  have lr : r.length = (G - (xs.length + 1)) * 2 := by rw [hr, Array.length_toList, size_zeroCells]; rfl
  have lt : (flat ecl (xs.take i)).length = i * 2 := by rw [flat_length ecl_len, List.length_take, Nat.min_eq_left (by omega)]
  have ld : (flat ecl (xs.drop i)).length = (xs.length - i) * 2 := by rw [flat_length ecl_len, List.length_drop]
  have hrow : (flat ecl (xs.take i)).toArray ++ Builtin.zeroCells (Value.agg #[.string ⟨#[]⟩, .int .i64 0]).cells (xs.length + 1 - i) ++ Builtin.zeroCells (Value.agg #[.string ⟨#[]⟩, .int .i64 0]).cells (G - (xs.length + 1)) = (flat ecl (xs.take i) ++ z ++ r).toArray := by
    rw [hz, hr]; simp
  rw [hrow] at hrz
  clear hrow hz hr hG hold
  obtain ⟨R0, hR0⟩ : ∃ R, R = flat ecl (xs.take i) ++ z ++ r := ⟨_, rfl⟩
  have lR0 : R0.length = G * 2 := by rw [hR0, List.length_append, List.length_append, lt, lz, lr]; omega
  obtain ⟨R1, hR1⟩ : ∃ R, R = spl R0 (i * 2) (ecl u) := ⟨_, rfl⟩
  have lR1 : R1.length = G * 2 := by rw [hR1, spl_length _ _ _ (by rw [lR0, ecl_len]; omega), lR0]
  have HR : Hid (spl R1 ((i + 1) * 2) (flat ecl (xs.drop i)) = flat ecl (xs.take i ++ u :: xs.drop i) ++ r) := Lib.hid (by rw [hR1, hR0]; exact grow_row ecl_len xs u z r i hi lz)
  rw [← hR0] at hrz
  have hs : (Tryd.prog.info? 68).map (·.size) = some 2 := by kernel_rfl
  have hcA := fun (W : World) (h1 : Blk W w.heap.size 68 R0) (h2 : Blk W vb 68 (ecl u)) ty dc => run_copyK (P := Tryd.prog) W 32 32 ty 68 2 w.heap.size (i * 2) (xs.length + 1 - i) dc ⟨vb, 0, none⟩ 1 vc _ 68 (ecl u) Tryd.underlying32 hs h1
    (by rw [ecl_len]; simp only [Nat.min_def]; split <;> omega)
    (fun j v hj => by rw [Addr.add_lit, Nat.zero_add, h2.cell]; exact hj)
    (by rw [ecl_len, lR0]; omega) (ecl_one _)
  rw [← hR1] at hcA
  have hcB := fun (W : World) (h1 : Blk W w.heap.size 68 R1) (h2 : Blk W g 68 (flat ecl xs ++ rest)) ty dc sc => run_copyK (P := Tryd.prog) W 32 32 ty 68 2 w.heap.size ((i + 1) * 2) (xs.length - i) dc ⟨g, i * 2, none⟩ (xs.length - i) sc _ 68 (flat ecl (xs.drop i)) Tryd.underlying32 hs h1
    (by rw [ld]; simp only [Nat.min_def]; split <;> omega)
    (fun j v hj => by
      rw [Addr.add_lit, h2.cell, ← List.getElem?_drop, List.drop_append_of_le_length (by rw [L2]; omega), flat_drop ecl_len, List.getElem?_append_left (List.getElem?_eq_some_iff.1 hj).1]
      exact hj)
    (by rw [ld, lR1]; omega) (flat_one ecl_one _)
  have HRZ := Lib.hid hrz
  have HCA := Lib.hid hcA
  have HCB := Lib.hid hcB
  have HB := Lib.hid hB
  have HV := Lib.hid hv
  have hgl := hB.lt
  have hvl := hv.lt
  have HL := Lib.hid lR0
  have HL1 := Lib.hid lR1
  have HLr := Lib.hid lr
  have q8 : ¬ G = i := by omega
  have q9 : ¬ G = i + 1 := by omega
  have q10 : (xs.length : Int) + 1 ≤ G := by omega
  have q11 : (G : Int) ≤ 9223372036854775807 := by omega
  have q12 : (xs.length : Int) + 1 - i = ((xs.length + 1 - i : Nat) : Int) := by omega
  have q13 : (i : Int) ≤ G := by omega
  clear hrz hcA hcB hB hv lR0 lR1 lr lz lt ld L2 hR0 hR1 hs
  go_enter Tryd.func44, Tryd.ntmps44
  go_upto_region 11 with (first
    | (at_builtin; go_loud (refine Lib.wpList_append_run _ rfl (.tmp 34) (.tmp 39) 32 3 rfl _ _ (by rfl) (by rfl) _ _ (HRZ.out _) ?_); generalize hW : World.alloc w.drew _ = W1; have hB1 : Blk W1 w.heap.size 68 R0 := by { rw [← hW]; exact Blk.new w.drew 68 R0 }; have hV1 : Blk W1 vb 68 (ecl u) := by { rw [← hW]; exact HV.out.drew.alloc _ }; have hG1 : Blk W1 g 68 (flat ecl xs ++ rest) := by { rw [← hW]; exact HB.out.drew.alloc _ }; have hK1 : Kept (fun _ => False) w W1 := by { rw [← hW]; exact (Kept.refl _ w).drew.alloc _ }; clear hW)
    | (refine wpList_copyK rfl (.tmp 43) (.tmp 44) 32 32 rfl (by rfl) (by rfl) (HCA.out W1 hB1 hV1 _ _) ?_))
  generalize hW : World.setRow W1 _ _ = W2
  have hB2 : Blk W2 w.heap.size 68 R1 := by rw [← hW]; exact hB1.row R1
  have hG2 : Blk W2 g 68 (flat ecl xs ++ rest) := by rw [← hW]; exact hG1.rowOther (by omega) _
  have hK2 : Kept (fun _ => False) w W2 := by rw [← hW]; exact hK1.setRowNew (Nat.le_refl _) _
  clear hW hB1 hV1 hG1 hK1
  have q14 : (i : Int) ≤ xs.length + 1 := by omega
  have q15 : (i : Int) + 1 ≤ xs.length + 1 := by omega
  have q16 : (i : Int) + 1 ≤ G := by omega
  have q17 : (i : Int) ≤ xs.length := by omega
  have w2 : (0 : Int) ≤ i + 1 := by omega
  have w3 : ((i : Int) + 1).toNat = i + 1 := by omega
  have w1 : IntKind.i64.wrap ((i : Int) + 1) = (i : Int) + 1 := by rw [IntKind.wrap_i64]; omega
  refine region_tail 8 (by kernel_rfl) (by kernel_rfl) ?_
  simp only [List.take_succ_cons, List.take_zero, List.drop_succ_cons, List.drop_zero]
  repeat (refine wpStill_step (fun K hK => ?_); go_simp; (try go_bits); refine hK _ ?_; clear hK K)
  clear w1 w2 w3
  refine wpStill_nil ?_
  refine wpList_copyK rfl (.tmp 50) (.tmp 53) 32 32 rfl (by rfl) (by rfl) (HCB.out _ hB2.drew hG2.drew _ _ _) ?_
  go_wp2_with fail
  go_ret
  refine ⟨_, rfl, ?_, ((hK2.drew.setRowNew (Nat.le_refl _) _).mono (fun _ _ h => h.elim))⟩
  have h3 := hB2.drew.row (spl R1 ((i + 1) * 2) (flat ecl (xs.drop i)))
  rw [HR.out] at h3
  have hL : (flat ecl (xs.take i ++ u :: xs.drop i)).length = (xs.length + 1) * 2 := by rw [flat_length ecl_len]; simp; omega
  have := h3.owns (base := base) hL (by rw [List.length_append, hL, HLr.out]; omega) hbw hG1' (by unfold maxLen; omega)
  rw [HR.out]
  exact this
theorem insert_own (v : Value) (xs : List En) (u : En) (i base vb vc : Nat) (w : World) (ho : w.ownsRow base 68 2 v xs.length (flat ecl xs)) (hb : base ≤ w.heap.size) (hsm : xs.length ≤ 1000) (hi : i ≤ xs.length) (hv : Blk w vb 68 (ecl u)) (hne : v.ownBlock ≠ some vb) :
    Calls Tryd.prog 44 #[v, .int .i64 i, .slice (some ⟨vb, 0, none⟩) 1 vc] w (InsPost xs u i base v w) := by
  by_cases he : i = xs.length
  · subst he
    exact insert_end v xs u base vb vc w ho hb (by omega) hv
  · rcases ho.2 with ⟨rfl, h0⟩ | ⟨g, cap, cur, rfl, _⟩
    · omega
    · obtain ⟨rest, h1, h2, h3, h4, h5, h6⟩ := owns_blk ho
      have hmx : cap ≤ 9223372036854775807 := by unfold maxLen at h5; omega
      have hvg : vb ≠ g := fun h => hne (by subst h; rfl)
      by_cases hroom : xs.length + 1 ≤ cap
      · exact insert_shift g cap xs rest u i base vb vc w h1 h2 hmx hsm (by omega) hroom h6 hv hvg
      · exact insert_grow g cap xs rest u i base vb vc w h1 h4 (by omega) (by omega) (by omega) (by omega) hb hv
theorem owns_reads {w : World} {base : Nat} {v : Value} {xs : List En} (ho : w.ownsRow base 68 2 v xs.length (flat ecl xs)) : ∃ a c, v = .slice a xs.length c ∧ ListE w a xs.length (nthE xs) := by
  rcases ho.2 with ⟨rfl, h0⟩ | ⟨g, cap, cur, rfl, _⟩
  · exact ⟨none, 0, by rw [h0], .inl h0⟩
  · obtain ⟨rest, h1, _⟩ := owns_blk ho
    exact ⟨_, _, rfl, .inr ⟨g, 0, rfl, fun i hi => by rw [Nat.zero_add]; exact h1.at hi⟩⟩
theorem owns_kept {w w' : World} {base : Nat} {v : Value} {n : Nat} {xs : List Value} {S : Nat → Prop} (ho : w.ownsRow base 68 2 v n xs) (hk : Kept S w w') (hn : ∀ k, v.ownBlock = some k → ¬ S k) : w'.ownsRow base 68 2 v n xs := by
  refine ⟨ho.1, ?_⟩
  rcases ho.2 with h | ⟨g, cap, cur, hv, hb, hh, r⟩
  · exact .inl h
  · exact .inr ⟨g, cap, cur, hv, hb, by rw [hk.block g (lt_of_at hh) (hn g (by rw [hv]; rfl))]; exact hh, r⟩
end Go.Proofs.YtpekibadleghbaaDoor
