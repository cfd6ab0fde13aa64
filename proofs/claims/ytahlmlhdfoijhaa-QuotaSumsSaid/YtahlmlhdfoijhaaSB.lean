/-
  slices.Insert of a usage, and the walk of with.
-/
import Derived.Test.YtahlmlhdfoijhaaSA
import Derived.Lib.AppendZeros
import Derived.Lib.Overlaps
import Derived.Lib.AppendZerosOnto
namespace Go.Proofs.Ytahlmlhdfoijhaa
open Go.RowKit
theorem Blk.shape {w : World} {g : Nat} {t : TypeId} {cs : List Value} (h : Blk w g t cs) : w.shape? g = some (t, cs.length) := by
  unfold Blk at h; simp [World.shape?, h]
theorem apart_any (W : World) (vb g o vc la lb cb : Nat) (cv cg : List Value) (hv : Blk W vb 29 cv) (hg : Blk W g 29 cg) (hne : vb ≠ g) (hcg : cg.length ≠ 0) :
    (callFunc 29 #[.slice (some ⟨vb, 0, none⟩) la vc, .slice (some ⟨g, o, none⟩) lb cb]).run Try.prog W = .ok (.value (.bool false)) W := by
  rw [run_callFunc_extern (P := Try.prog) Try.func29 (by kernel_rfl) (by kernel_rfl) (by kernel_rfl) (e := Extern.SlicesOverlaps.overlaps #[22, 22] #[4]) (by kernel_rfl),
    Lib.run_overlaps_apart W 22 4 29 Try.underlying22 5 (fun w => by kernel_rfl) ⟨vb, 0, none⟩ ⟨g, o, none⟩ la vc lb cb hne 29 29 _ _ hv.shape hg.shape hcg (hv.free 0) (hv.free _)]
  rfl
def InsPost (xs : List U) (u : U) (i : Nat) (base : Nat) (v : Value) (w : World) (r : Ending) (w' : World) : Prop :=
  ∃ v', r = .returned v' ∧ w'.ownsRow base 29 5 v' (xs.length + 1) (flat ucl (xs.take i ++ u :: xs.drop i)) ∧ Kept (fun k => v.ownBlock = some k) w w'
set_option maxHeartbeats 2000000 in
/-- At the end. -/
theorem insert_end (v : Value) (xs : List U) (u : U) (base vb vc : Nat) (w : World) (ho : w.ownsRow base 29 5 v xs.length (flat ucl xs)) (hb : base ≤ w.heap.size) (hn : (xs.length + 1) * 40 ≤ 140737488355328) (hv : Blk w vb 29 (ucl u)) :
    Calls Try.prog 27 #[v, .int .i64 xs.length, .slice (some ⟨vb, 0, none⟩) 1 vc] w (InsPost xs u xs.length base v w) := by
  have hnew : ∀ j x, (ucl u)[j]? = some x → w.cell? ((⟨vb, 0, none⟩ : Addr).add j) = some x := fun j x hj => by
    rw [Addr.add_lit, Nat.zero_add, hv.cell]; exact hj
  have HO := Lib.hid ho
  have HNEW := Lib.hid hnew
  have key : ∀ v' w', w'.ownsRow base 29 5 v' (xs.length + 1) (flat ucl xs ++ ucl u) → w.grownBy w' v.ownBlock → InsPost xs u xs.length base v w (.returned v') w' := fun v' w' h1 h2 =>
    ⟨v', rfl, by rw [List.take_length, List.drop_length, flat_append, flat_cons, flat_nil, List.append_nil]; exact h1, Kept.grown h2⟩
  have KEY := Lib.hid key
  have q1 : (xs.length : Int) ≤ 140737488355328 := by omega
  clear key hnew hv
  rcases ho.2 with ⟨rfl, h0⟩ | ⟨g, cap, cur, rfl, hg, hh, hle, hm, hs, ht⟩
  · have H0 := Lib.hid h0
    have e : (xs.length : Int) = 0 := by omega
    rw [e]
    clear h0 e ho
    go_enter Try.func27, Try.ntmps27
    go_wp2_with (at_builtin; go_loud (refine wpList_append_own_at _ rfl (.tmp 23) (.tmp 24) 22 rfl base 29 _ _ 5 40 Try.underlying22 info29i zero29 size29 bytes29 rfl (by omega) (.slice none 0 0) xs.length (flat ucl xs) (by rfl) HO.out ⟨vb, 0, none⟩ 1 vc (ucl u) (by rfl) rfl HNEW.out (ucl_one u) (by unfold maxLen; omega) (by omega) hb ?_); intro v' w2 hown hgrow hnil hat)
    go_ret
    exact KEY.out _ _ hown hgrow
  · have q2 : (xs.length : Int) ≤ cap := by omega
    have q3 : (cap : Int) ≤ 9223372036854775807 := by unfold maxLen at hm; omega
    clear ho hh hs ht hm hg
    by_cases hc : cap = xs.length
    · have HC := Lib.hid hc
      go_enter Try.func27, Try.ntmps27
      go_wp2_with (at_builtin; go_loud (refine wpList_append_own_at _ rfl (.tmp 23) (.tmp 24) 22 rfl base 29 _ _ 5 40 Try.underlying22 info29i zero29 size29 bytes29 rfl (by omega) (.slice (some ⟨g, 0, none⟩) xs.length cap) xs.length (flat ucl xs) (by first | rfl | (rw [HC.out]; rfl)) HO.out ⟨vb, 0, none⟩ 1 vc (ucl u) (by rfl) rfl HNEW.out (ucl_one u) (by unfold maxLen; omega) (by omega) hb ?_); intro v' w2 hown hgrow hnil hat)
      go_ret
      exact KEY.out _ _ hown hgrow
    · go_enter Try.func27, Try.ntmps27
      go_wp2_with (at_builtin; go_loud (refine wpList_append_own_at _ rfl (.tmp 23) (.tmp 24) 22 rfl base 29 _ _ 5 40 Try.underlying22 info29i zero29 size29 bytes29 rfl (by omega) (.slice (some ⟨g, 0, none⟩) xs.length cap) xs.length (flat ucl xs) (by rfl) HO.out ⟨vb, 0, none⟩ 1 vc (ucl u) (by rfl) rfl HNEW.out (ucl_one u) (by unfold maxLen; omega) (by omega) hb ?_); intro v' w2 hown hgrow hnil hat)
      go_ret
      exact KEY.out _ _ hown hgrow
end Go.Proofs.Ytahlmlhdfoijhaa
namespace Go.Proofs.Ytahlmlhdfoijhaa
open Go.RowKit
theorem shift_row {α : Type} {cells : α → List Value} {k : Nat} (hk : ∀ x, (cells x).length = k) (xs : List α) (u : α) (rest : List Value) (i : Nat) (hi : i < xs.length) :
    spl (spl (flat cells xs ++ rest) ((i + 1) * k) (flat cells (xs.drop i))) (i * k) (cells u) = flat cells (xs.take i ++ u :: xs.drop i) ++ rest.drop k := by
  have h1 : spl (flat cells xs ++ rest) ((i + 1) * k) (flat cells (xs.drop i)) = flat cells (xs.take (i + 1)) ++ (flat cells (xs.drop i) ++ rest.drop k) := by
    have hle : (i + 1) * k ≤ xs.length * k := Nat.mul_le_mul_right k hi
    have e : (i + 1) * k + (flat cells (xs.drop i)).length = (flat cells xs).length + k := by
      rw [flat_length hk, flat_length hk, List.length_drop, Nat.sub_mul, Nat.add_mul]
      have : i * k ≤ xs.length * k := Nat.mul_le_mul_right k (by omega)
      omega
    unfold spl
    rw [List.take_append_of_le_length (by rw [flat_length hk]; exact hle), flat_take hk, e, List.drop_append]
    have hd1 : (flat cells xs).drop ((flat cells xs).length + k) = [] := List.drop_eq_nil_of_le (by omega)
    rw [hd1, show (flat cells xs).length + k - (flat cells xs).length = k by omega]
    simp
  rw [h1]
  unfold spl
  have h2 : (flat cells (xs.take (i + 1))).length = (i + 1) * k := by rw [flat_length hk, List.length_take, Nat.min_eq_left (by omega)]
  have h3 : i * k ≤ (i + 1) * k := Nat.mul_le_mul_right k (by omega)
  rw [List.take_append_of_le_length (by omega), flat_take hk, List.take_take, Nat.min_eq_left (by omega), hk, show i * k + k = (i + 1) * k by rw [Nat.add_mul]; omega, ← h2, List.drop_append_of_le_length (Nat.le_refl _), List.drop_length, flat_append, flat_cons]
  simp
theorem Blk.owns {w : World} {g : Nat} {e : TypeId} {k n cap base : Nat} {L r : List Value} (h : Blk w g e (L ++ r)) (hL : L.length = n * k) (hl : (L ++ r).length = cap * k) (hb : base ≤ g) (hn : n ≤ cap) (hc : cap ≤ maxLen) :
    w.ownsRow base e k (.slice (some ⟨g, 0, none⟩) n cap) n L :=
  ⟨hL, .inr ⟨g, cap, _, rfl, hb, h, hn, hc, by simpa using hl, by simp [← hL]⟩⟩
theorem owns_blk {w : World} {g : Nat} {e : TypeId} {k n cap base : Nat} {L : List Value} (h : w.ownsRow base e k (.slice (some ⟨g, 0, none⟩) n cap) n L) : ∃ r, Blk w g e (L ++ r) ∧ (L ++ r).length = cap * k ∧ L.length = n * k ∧ n ≤ cap ∧ cap ≤ maxLen ∧ base ≤ g := by
  obtain ⟨hL, h | ⟨g', cap', cur, hv, hb, hg, hn, hc, hs, ht⟩⟩ := h
  · simp at h
  · injection hv with h1 h2 h3
    injection h1 with h1
    injection h1 with h1
    subst h1 h3
    refine ⟨cur.toList.drop (n * k), ?_, ?_, hL, hn, hc, hb⟩
    · unfold Blk; rw [← ht, List.take_append_drop]; simpa using hg
    · rw [← ht, List.take_append_drop]; simpa using hs
set_option maxHeartbeats 2000000 in
theorem insert_shift (g cap : Nat) (xs : List U) (rest : List Value) (u : U) (i base vb vc : Nat) (w : World) (hB : Blk w g 29 (flat ucl xs ++ rest)) (hl : (flat ucl xs ++ rest).length = cap * 5) (hcap : cap ≤ 9223372036854775807) (hsm : xs.length ≤ 1000) (hi : i < xs.length) (hroom : xs.length + 1 ≤ cap)
    (hbg : base ≤ g) (hv : Blk w vb 29 (ucl u)) (hne : vb ≠ g) :
    Calls Try.prog 27 #[.slice (some ⟨g, 0, none⟩) xs.length cap, .int .i64 i, .slice (some ⟨vb, 0, none⟩) 1 vc] w (InsPost xs u i base (.slice (some ⟨g, 0, none⟩) xs.length cap) w) := by
  have hov := fun lb cb => apart_any w vb g ((i + 1) * 5) vc 1 lb cb _ _ hv hB hne (by rw [hl]; omega)
  have q1 : (0 : Int) ≤ i := by omega
  have q2 : (i : Int) < xs.length := by omega
  have q3 : (xs.length : Int) + 1 ≤ cap := by omega
  have q4 : (cap : Int) ≤ 9223372036854775807 := by omega
  have q4c : (xs.length : Int) ≤ 1000 := by omega
  have q5 : ¬ (i : Int) = xs.length := by omega
  have q6 : ¬ cap = i := by omega
  have q7 : ¬ cap = i + 1 := by omega
  have q8 : (i : Int) + 1 ≤ xs.length + 1 := by omega
  have HB := Lib.hid hB
  have HV := Lib.hid hv
  clear hB hv
  go_enter Try.func27, Try.ntmps27
  have hs : (Try.prog.info? 29).map (·.size) = some 5 := by kernel_rfl
  have L1 : (flat ucl (xs.drop i)).length = (xs.length - i) * 5 := by rw [flat_length ucl_len, List.length_drop]
  have L2 := flat_length (cells := ucl) ucl_len xs
  have hlr : xs.length * 5 + rest.length = cap * 5 := by rw [← hl, List.length_append, L2]
  have hc1 := fun ty dc sc => run_copyK (P := Try.prog) w.drew 22 22 ty 29 5 g ((i + 1) * 5) (xs.length - i) dc ⟨g, i * 5, none⟩ (xs.length + 1 - i) sc _ 29 (flat ucl (xs.drop i)) Try.underlying22 hs HB.out.drew
    (by rw [L1]; simp only [Nat.min_def]; split <;> omega)
    (fun j v hj => by
      rw [Addr.add_lit, HB.out.drew.cell, ← List.getElem?_drop, List.drop_append_of_le_length (by omega), flat_drop ucl_len, List.getElem?_append_left (List.getElem?_eq_some_iff.1 hj).1]
      exact hj)
    (by rw [L1, List.length_append, L2]; omega) (flat_one ucl_one _)
  have hn1 : Nat.min (xs.length + 1 - i) (xs.length - i) = xs.length - i := by simp only [Nat.min_def]; split <;> omega
  rw [hn1] at hc1
  obtain ⟨R1, hR1⟩ : ∃ R, R = spl (flat ucl xs ++ rest) ((i + 1) * 5) (flat ucl (xs.drop i)) := ⟨_, rfl⟩
  rw [← hR1] at hc1
  have hB2 : Blk (w.drew.setRow g R1.toArray) g 29 R1 := HB.out.drew.row R1
  have hV2 : Blk (w.drew.setRow g R1.toArray) vb 29 (ucl u) := HV.out.drew.rowOther hne _
  have LR : R1.length = cap * 5 := by rw [hR1, spl_length _ _ _ (by rw [L1, List.length_append, L2]; omega), hl]
  have hc2 := fun ty dc => run_copyK (P := Try.prog) (w.drew.setRow g R1.toArray) 22 22 ty 29 5 g (i * 5) (xs.length + 1 - i) dc ⟨vb, 0, none⟩ 1 vc _ 29 (ucl u) Try.underlying22 hs hB2
    (by rw [ucl_len]; simp only [Nat.min_def]; split <;> omega)
    (fun j v hj => by rw [Addr.add_lit, Nat.zero_add, hV2.cell]; exact hj)
    (by rw [ucl_len, LR]; omega) (ucl_one _)
  have hB3 := hB2.row (spl R1 (i * 5) (ucl u))
  have HB3 := Lib.hid hB3
  have HR : Hid (spl R1 (i * 5) (ucl u) = flat ucl (xs.take i ++ u :: xs.drop i) ++ rest.drop 5) := Lib.hid (by rw [hR1]; exact shift_row ucl_len xs u rest i hi)
  have HC1 := Lib.hid hc1
  have HC2 := Lib.hid hc2
  have HLR := Lib.hid hlr
  have q9 : ((xs.length - i : Nat) : Int) = xs.length - i := by omega
  clear hc1 hc2 hB2 hV2 hB3 hR1 LR L1 L2 hn1 hs hl hlr q9
  go_wp2_with (simp only [hov])
  have q10 : (i : Int) ≤ xs.length + 1 := by omega
  have w2 : (0 : Int) ≤ i + 1 := by omega
  have w3 : ((i : Int) + 1).toNat = i + 1 := by omega
  have w1 : IntKind.i64.wrap ((i : Int) + 1) = (i : Int) + 1 := by rw [IntKind.wrap_i64]; omega
  refine region_tail 8 (by kernel_rfl) (by kernel_rfl) ?_
  simp only [List.take_succ_cons, List.take_zero, List.drop_succ_cons, List.drop_zero]
  repeat (refine wpStill_step (fun K hK => ?_); go_simp; (try go_bits); refine hK _ ?_; clear hK K)
  clear w1 w2 w3
  refine wpStill_nil ?_
  refine wpList_copyK rfl (.tmp 73) (.tmp 76) 22 22 rfl (by rfl) (by rfl) (HC1.out _ _ _) ?_
  go_wp2_with (refine wpList_copyK rfl (.tmp 80) (.tmp 81) 22 22 rfl (by rfl) (by rfl) (HC2.out _ _) ?_)
  go_ret
  refine ⟨_, rfl, ?_, ((((Kept.refl (fun k => k = g) w).drew.setRow (fun _ => rfl) _).setRow (fun _ => rfl) _).mono (fun k _ h => by subst h; rfl))⟩
  have h3 := HB3.out
  rw [HR.out] at h3
  have hL : (flat ucl (xs.take i ++ u :: xs.drop i)).length = (xs.length + 1) * 5 := by rw [flat_length ucl_len]; simp; omega
  have := h3.owns (base := base) hL (by rw [List.length_append, hL, List.length_drop]; have := HLR.out; omega) hbg hroom (by unfold maxLen; omega)
  rw [HR.out]
  exact this
theorem grow_row {α : Type} {cells : α → List Value} {k : Nat} (hk : ∀ x, (cells x).length = k) (xs : List α) (u : α) (z r : List Value) (i : Nat) (hi : i < xs.length) (hz : z.length = (xs.length + 1 - i) * k) :
    spl (spl (flat cells (xs.take i) ++ z ++ r) (i * k) (cells u)) ((i + 1) * k) (flat cells (xs.drop i)) = flat cells (xs.take i ++ u :: xs.drop i) ++ r := by
  have hl0 : (flat cells (xs.take i)).length = i * k := by rw [flat_length hk, List.length_take, Nat.min_eq_left (by omega)]
  have hik : (xs.length + 1 - i) * k = k + (xs.length - i) * k := by rw [show xs.length + 1 - i = (xs.length - i) + 1 by omega, Nat.add_mul]; omega
  have h1 : spl (flat cells (xs.take i) ++ z ++ r) (i * k) (cells u) = flat cells (xs.take i) ++ cells u ++ (z ++ r).drop k := by
    unfold spl
    rw [List.append_assoc (flat cells (xs.take i)) z r, ← hl0, List.take_append_of_le_length (Nat.le_refl _), List.take_length, hk, List.drop_append]
    have hd1 : (flat cells (xs.take i)).drop ((flat cells (xs.take i)).length + k) = [] := List.drop_eq_nil_of_le (by omega)
    rw [hd1, show (flat cells (xs.take i)).length + k - (flat cells (xs.take i)).length = k by omega]
    simp
  have hl1 : (flat cells (xs.take i) ++ cells u).length = (i + 1) * k := by rw [List.length_append, hl0, hk, Nat.add_mul]; omega
  rw [h1]
  unfold spl
  rw [← hl1, List.take_append_of_le_length (Nat.le_refl _), List.take_length, List.drop_append]
  have hd1 : (flat cells (xs.take i) ++ cells u).drop ((flat cells (xs.take i) ++ cells u).length + (flat cells (xs.drop i)).length) = [] := List.drop_eq_nil_of_le (by omega)
  have hl2 : (flat cells (xs.drop i)).length = (xs.length - i) * k := by rw [flat_length hk, List.length_drop]
  rw [hd1, Nat.add_sub_cancel_left, List.drop_drop, List.drop_append, hl2]
  have hd2 : z.drop (k + (xs.length - i) * k) = [] := List.drop_eq_nil_of_le (by omega)
  rw [hd2, hz, hik, Nat.sub_self, flat_append, flat_cons]
  simp
set_option maxHeartbeats 2000000 in
theorem insert_grow (g cap : Nat) (xs : List U) (rest : List Value) (u : U) (i base vb vc : Nat) (w : World) (hB : Blk w g 29 (flat ucl xs ++ rest)) (hle : xs.length ≤ cap) (hcap : cap ≤ 140737488355328) (hi : i < xs.length) (hroom : cap < xs.length + 1) (hbig : (xs.length + 1) * 40 ≤ 140737488355328)
    (hbw : base ≤ w.heap.size) (hv : Blk w vb 29 (ucl u)) :
    Calls Try.prog 27 #[.slice (some ⟨g, 0, none⟩) xs.length cap, .int .i64 i, .slice (some ⟨vb, 0, none⟩) 1 vc] w (InsPost xs u i base (.slice (some ⟨g, 0, none⟩) xs.length cap) w) := by
  have q1 : (0 : Int) ≤ i := by omega
  have q2 : (i : Int) < xs.length := by omega
  have q3 : (cap : Int) < xs.length + 1 := by omega
  have q4 : (xs.length : Int) ≤ cap := by omega
  have q4b : (cap : Int) ≤ 140737488355328 := by omega
  have q5 : ¬ (i : Int) = xs.length := by omega
  have q6 : ¬ cap = i := by omega
  have q7 : (i : Int) ≤ cap := by omega
  have L2 := flat_length (cells := ucl) ucl_len xs
  have hold : (Builtin.firstCells ((Try.prog.info? 29).getD default).size i (.slice (some ⟨g, 0, none⟩) i cap)).run Try.prog w.drew = .ok (flat ucl (xs.take i)).toArray w.drew := by
    rw [size29]
    refine run_firstCells_some w.drew 5 i ⟨g, 0, none⟩ i cap (flat ucl (xs.take i)) (by rw [flat_length ucl_len, List.length_take, Nat.min_eq_left (by omega)]) (fun j v hj => ?_)
    rw [Addr.add_lit, Nat.zero_add, hB.drew.cell, ← flat_take ucl_len] at *
    have hlt := (List.getElem?_eq_some_iff.1 hj).1
    rw [List.length_take] at hlt
    rw [List.getElem?_take, if_pos (by omega)] at hj
    rw [List.getElem?_append_left (by omega)]
    exact hj
  have hrz := fun ty => Lib.run_append_grow_zeros (P := Try.prog) w 22 3 ty 29 _ _ .i64 .i64 Try.underlying22 (by kernel_rfl) info29i zero29 (some ⟨g, 0, none⟩) i cap (flat ucl (xs.take i)) hold (xs.length + 1 - i) (by omega) (by rw [size29]; omega) (by omega) (by omega) (by rw [bytes29]; omega) (by rw [bytes29, show i + (xs.length + 1 - i) = xs.length + 1 by omega]; exact growslice_fits hroom hbig)
  rw [show i + (xs.length + 1 - i) = xs.length + 1 by omega] at hrz
  obtain ⟨G, hG⟩ : ∃ G, G = grownCap w (xs.length + 1) cap 29 := ⟨_, rfl⟩
  have hG1' : xs.length + 1 ≤ G := by rw [hG]; exact grownCap_ge w _ _ _
  have hG2 : G ≤ 9223372036854775807 := by
    have := grownCap_le_maxLen w (xs.length + 1) cap 29 (by unfold maxLen; omega)
    rw [← hG] at this; unfold maxLen at this; omega
  rw [← hG] at hrz
  obtain ⟨z, hz⟩ : ∃ z, z = (Builtin.zeroCells (Value.agg #[.int .i64 0, .int .i64 0, .int .i64 0, .int .i64 0, .int .i64 0]).cells (xs.length + 1 - i)).toList := ⟨_, rfl⟩
  obtain ⟨r, hr⟩ : ∃ r, r = (Builtin.zeroCells (Value.agg #[.int .i64 0, .int .i64 0, .int .i64 0, .int .i64 0, .int .i64 0]).cells (G - (xs.length + 1))).toList := ⟨_, rfl⟩
  have lz : z.length = (xs.length + 1 - i) * 5 := by rw [hz, Array.length_toList, size_zeroCells]; rfl
  have lr : r.length = (G - (xs.length + 1)) * 5 := by rw [hr, Array.length_toList, size_zeroCells]; rfl
  have lt : (flat ucl (xs.take i)).length = i * 5 := by rw [flat_length ucl_len, List.length_take, Nat.min_eq_left (by omega)]
  have ld : (flat ucl (xs.drop i)).length = (xs.length - i) * 5 := by rw [flat_length ucl_len, List.length_drop]
  have hrow : (flat ucl (xs.take i)).toArray ++ Builtin.zeroCells (Value.agg #[.int .i64 0, .int .i64 0, .int .i64 0, .int .i64 0, .int .i64 0]).cells (xs.length + 1 - i) ++ Builtin.zeroCells (Value.agg #[.int .i64 0, .int .i64 0, .int .i64 0, .int .i64 0, .int .i64 0]).cells (G - (xs.length + 1)) = (flat ucl (xs.take i) ++ z ++ r).toArray := by
    rw [hz, hr]; simp
  rw [hrow] at hrz
  clear hrow hz hr hG hold
  obtain ⟨R0, hR0⟩ : ∃ R, R = flat ucl (xs.take i) ++ z ++ r := ⟨_, rfl⟩
  have lR0 : R0.length = G * 5 := by rw [hR0, List.length_append, List.length_append, lt, lz, lr]; omega
  obtain ⟨R1, hR1⟩ : ∃ R, R = spl R0 (i * 5) (ucl u) := ⟨_, rfl⟩
  have lR1 : R1.length = G * 5 := by rw [hR1, spl_length _ _ _ (by rw [lR0, ucl_len]; omega), lR0]
  have HR : Hid (spl R1 ((i + 1) * 5) (flat ucl (xs.drop i)) = flat ucl (xs.take i ++ u :: xs.drop i) ++ r) := Lib.hid (by rw [hR1, hR0]; exact grow_row ucl_len xs u z r i hi lz)
  rw [← hR0] at hrz
  have hs : (Try.prog.info? 29).map (·.size) = some 5 := by kernel_rfl
  have hcA := fun (W : World) (h1 : Blk W w.heap.size 29 R0) (h2 : Blk W vb 29 (ucl u)) ty dc => run_copyK (P := Try.prog) W 22 22 ty 29 5 w.heap.size (i * 5) (xs.length + 1 - i) dc ⟨vb, 0, none⟩ 1 vc _ 29 (ucl u) Try.underlying22 hs h1
    (by rw [ucl_len]; simp only [Nat.min_def]; split <;> omega)
    (fun j v hj => by rw [Addr.add_lit, Nat.zero_add, h2.cell]; exact hj)
    (by rw [ucl_len, lR0]; omega) (ucl_one _)
  rw [← hR1] at hcA
  have hcB := fun (W : World) (h1 : Blk W w.heap.size 29 R1) (h2 : Blk W g 29 (flat ucl xs ++ rest)) ty dc sc => run_copyK (P := Try.prog) W 22 22 ty 29 5 w.heap.size ((i + 1) * 5) (xs.length - i) dc ⟨g, i * 5, none⟩ (xs.length - i) sc _ 29 (flat ucl (xs.drop i)) Try.underlying22 hs h1
    (by rw [ld]; simp only [Nat.min_def]; split <;> omega)
    (fun j v hj => by
      rw [Addr.add_lit, h2.cell, ← List.getElem?_drop, List.drop_append_of_le_length (by rw [L2]; omega), flat_drop ucl_len, List.getElem?_append_left (List.getElem?_eq_some_iff.1 hj).1]
      exact hj)
    (by rw [ld, lR1]; omega) (flat_one ucl_one _)
  have HRZ := Lib.hid hrz
  have HCA := Lib.hid hcA
  have HCB := Lib.hid hcB
  have HB := Lib.hid hB
  have HV := Lib.hid hv
  have hgl := hB.lt
  have hvl := hv.lt
  have HL := Lib.hid lR0
  have HL1 := Lib.hid lR1
  have HLr := Lib.hid lr
  have q8 : ¬ G = i := by omega
  have q9 : ¬ G = i + 1 := by omega
  have q10 : (xs.length : Int) + 1 ≤ G := by omega
  have q11 : (G : Int) ≤ 9223372036854775807 := by omega
  have q12 : (xs.length : Int) + 1 - i = ((xs.length + 1 - i : Nat) : Int) := by omega
  have q13 : (i : Int) ≤ G := by omega
  clear hrz hcA hcB hB hv lR0 lR1 lr lz lt ld L2 hR0 hR1 hs
  go_enter Try.func27, Try.ntmps27
  go_upto_region 11 with (first
    | (at_builtin; go_loud (refine Lib.wpList_append_run _ rfl (.tmp 34) (.tmp 39) 22 3 rfl _ _ (by rfl) (by rfl) _ _ (HRZ.out _) ?_); generalize hW : World.alloc w.drew _ = W1; have hB1 : Blk W1 w.heap.size 29 R0 := by { rw [← hW]; exact Blk.new w.drew 29 R0 }; have hV1 : Blk W1 vb 29 (ucl u) := by { rw [← hW]; exact HV.out.drew.alloc _ }; have hG1 : Blk W1 g 29 (flat ucl xs ++ rest) := by { rw [← hW]; exact HB.out.drew.alloc _ }; have hK1 : Kept (fun _ => False) w W1 := by { rw [← hW]; exact (Kept.refl _ w).drew.alloc _ }; clear hW)
    | (refine wpList_copyK rfl (.tmp 43) (.tmp 44) 22 22 rfl (by rfl) (by rfl) (HCA.out W1 hB1 hV1 _ _) ?_))
  generalize hW : World.setRow W1 _ _ = W2
  have hB2 : Blk W2 w.heap.size 29 R1 := by rw [← hW]; exact hB1.row R1
  have hG2 : Blk W2 g 29 (flat ucl xs ++ rest) := by rw [← hW]; exact hG1.rowOther (by omega) _
  have hK2 : Kept (fun _ => False) w W2 := by rw [← hW]; exact hK1.setRowNew (Nat.le_refl _) _
  clear hW hB1 hV1 hG1 hK1
  have q14 : (i : Int) ≤ xs.length + 1 := by omega
  have q15 : (i : Int) + 1 ≤ xs.length + 1 := by omega
  have q16 : (i : Int) + 1 ≤ G := by omega
  have q17 : (i : Int) ≤ xs.length := by omega
  have w2 : (0 : Int) ≤ i + 1 := by omega
  have w3 : ((i : Int) + 1).toNat = i + 1 := by omega
  have w1 : IntKind.i64.wrap ((i : Int) + 1) = (i : Int) + 1 := by rw [IntKind.wrap_i64]; omega
  refine region_tail 8 (by kernel_rfl) (by kernel_rfl) ?_
  simp only [List.take_succ_cons, List.take_zero, List.drop_succ_cons, List.drop_zero]
  repeat (refine wpStill_step (fun K hK => ?_); go_simp; (try go_bits); refine hK _ ?_; clear hK K)
  clear w1 w2 w3
  refine wpStill_nil ?_
  refine wpList_copyK rfl (.tmp 50) (.tmp 53) 22 22 rfl (by rfl) (by rfl) (HCB.out _ hB2.drew hG2.drew _ _ _) ?_
  go_wp2_with fail
  go_ret
  refine ⟨_, rfl, ?_, ((hK2.drew.setRowNew (Nat.le_refl _) _).mono (fun _ _ h => h.elim))⟩
  have h3 := hB2.drew.row (spl R1 ((i + 1) * 5) (flat ucl (xs.drop i)))
  rw [HR.out] at h3
  have hL : (flat ucl (xs.take i ++ u :: xs.drop i)).length = (xs.length + 1) * 5 := by rw [flat_length ucl_len]; simp; omega
  have := h3.owns (base := base) hL (by rw [List.length_append, hL, HLr.out]; omega) hbw hG1' (by unfold maxLen; omega)
  rw [HR.out]
  exact this
end Go.Proofs.Ytahlmlhdfoijhaa
namespace Go.Proofs.Ytahlmlhdfoijhaa
open Go.RowKit
def DelPost (xs : List U) (uid : Int) (base : Nat) (v : Value) (w : World) (r : Ending) (w' : World) : Prop :=
  ∃ v', r = .returned v' ∧ w'.ownsRow base 29 5 v' (others xs uid).length (flat ucl (others xs uid)) ∧ Kept (fun k => v.ownBlock = some k) w w' ∧ v'.ownBlock = v.ownBlock
theorem delete_own (v : Value) (xs : List U) (u : U) (base gb : Nat) (w : World) (ho : w.ownsRow base 29 5 v xs.length (flat ucl xs)) (hgb : gb < base) (hb : RowV w gb 29 u.cs) (hsm : xs.length ≤ 1000) :
    Calls Try.prog 22 #[v, .func (.func 24) #[] #[.pointer (some ⟨gb, 0, none⟩)]] w (DelPost xs u.uid base v w) := by
  rcases ho.2 with ⟨rfl, h0⟩ | ⟨g, cap, cur, rfl, _⟩
  · have he : xs = [] := List.eq_nil_of_length_eq_zero h0
    subst he
    have HB := Lib.hid hb
    clear ho h0 hb hsm
    have key : ∀ w', Kept (fun _ => False) w w' → DelPost [] u.uid base (.slice none 0 0) w (.returned (.slice none 0 0)) w' := fun w' hk =>
      ⟨_, rfl, World.ownsRow_nil _ _ _ _, hk.mono (fun _ _ h => h.elim), rfl⟩
    have KEY := Lib.hid key
    clear key
    go_enter Try.func22, Try.ntmps22
    go_wp2_with (go_at_call 28; refine (index_any none 0 0 (nth []) u gb _ (.inl rfl) (by omega) HB.out).mono ?_; rintro r w2 ⟨⟨i, hi, hu, hf, rfl⟩ | ⟨hf, rfl⟩, hk2⟩)
    · go_ret
      exact KEY.out _ hk2
  · obtain ⟨rest, h1, h2, h3, h4, h5, h6⟩ := owns_blk ho
    have hmx : cap ≤ 9223372036854775807 := by unfold maxLen at h5; omega
    refine (delete_any g cap xs rest u gb w h1 h2 h4 hmx (by omega) (by omega) hb).mono ?_
    rintro r w' ⟨rest', rfl, h7, h8, h9⟩
    have hlen : (others xs u.uid).length ≤ xs.length := by unfold others; exact List.length_filter_le _ _
    exact ⟨_, rfl, h7.owns (flat_length ucl_len _) h8 h6 (by omega) h5, h9.mono (fun k _ e => by subst e; rfl), rfl⟩
theorem insert_own (v : Value) (xs : List U) (u : U) (i base vb vc : Nat) (w : World) (ho : w.ownsRow base 29 5 v xs.length (flat ucl xs)) (hb : base ≤ w.heap.size) (hsm : xs.length ≤ 1000) (hi : i ≤ xs.length) (hv : Blk w vb 29 (ucl u)) (hne : v.ownBlock ≠ some vb) :
    Calls Try.prog 27 #[v, .int .i64 i, .slice (some ⟨vb, 0, none⟩) 1 vc] w (InsPost xs u i base v w) := by
  by_cases he : i = xs.length
  · subst he
    exact insert_end v xs u base vb vc w ho hb (by omega) hv
  · rcases ho.2 with ⟨rfl, h0⟩ | ⟨g, cap, cur, rfl, _⟩
    · omega
    · obtain ⟨rest, h1, h2, h3, h4, h5, h6⟩ := owns_blk ho
      have hmx : cap ≤ 9223372036854775807 := by unfold maxLen at h5; omega
      have hvg : vb ≠ g := fun h => hne (by subst h; rfl)
      by_cases hroom : xs.length + 1 ≤ cap
      · exact insert_shift g cap xs rest u i base vb vc w h1 h2 hmx hsm (by omega) hroom h6 hv hvg
      · exact insert_grow g cap xs rest u i base vb vc w h1 h4 (by omega) (by omega) (by omega) (by omega) hb hv
def insU (u : U) : List U → List U
  | [] => [u]
  | y :: r => if u.uid ≤ y.uid then u :: y :: r else y :: insU u r
theorem insU_split (u : U) : ∀ (ys : List U) (i : Nat), Split ys u.uid i i → insU u ys = ys.take i ++ u :: ys.drop i
  | [], i, h => by have := h.len; simp [insU]
  | y :: r, 0, h => by
    have := h.high 0 (Nat.le_refl _) (by simp)
    simp [nth] at this
    simp [insU, this]
  | y :: r, i + 1, h => by
    have h0 := h.low 0 (by omega)
    simp [nth] at h0
    have ih := insU_split u r i ⟨Nat.le_refl _, by have := h.len; simp at this; omega, fun m hm => by have := h.low (m + 1) (by omega); simpa [nth] using this, fun m hm hl => by have := h.high (m + 1) (by omega) (by simp; omega); simpa [nth] using this⟩
    simp only [insU, if_neg (show ¬ u.uid ≤ y.uid by omega), ih, List.take_succ_cons, List.drop_succ_cons, List.cons_append]
def withL (xs : List U) (u : U) : List U := if idleB u then others xs u.uid else insU u (others xs u.uid)
/-- A list in order, of owners that can be. -/
structure Ordered (xs : List U) : Prop where
  mono : ∀ i j, i ≤ j → j < xs.length → (nth xs i).uid ≤ (nth xs j).uid
  range : ∀ i, i < xs.length → 0 ≤ (nth xs i).uid ∧ (nth xs i).uid ≤ 65535
def WithPost (xs : List U) (u : U) (w : World) (r : Ending) (w' : World) : Prop :=
  ∃ v e, r = .returned (.tuple #[v, .int .i64 e]) ∧ ((withL xs u).length ≤ 8 ∧ e = 0 ∧ w'.ownsRow w.heap.size 29 5 v (withL xs u).length (flat ucl (withL xs u)) ∨ 8 < (withL xs u).length ∧ e = 5 ∧ v = .slice none 0 0) ∧ Kept (fun _ => False) w w'
theorem owns_reads {w : World} {base : Nat} {v : Value} {xs : List U} (ho : w.ownsRow base 29 5 v xs.length (flat ucl xs)) : ∃ a c, v = .slice a xs.length c ∧ ListAt w a xs.length (nth xs) := by
  rcases ho.2 with ⟨rfl, h0⟩ | ⟨g, cap, cur, rfl, _⟩
  · exact ⟨none, 0, by rw [h0], .inl h0⟩
  · obtain ⟨rest, h1, _⟩ := owns_blk ho
    exact ⟨_, _, rfl, .inr ⟨g, 0, rfl, fun i hi => by rw [Nat.zero_add]; exact h1.uat hi⟩⟩
theorem owns_kept {w w' : World} {base : Nat} {v : Value} {n : Nat} {xs : List Value} {S : Nat → Prop} (ho : w.ownsRow base 29 5 v n xs) (hk : Kept S w w') (hn : ∀ k, v.ownBlock = some k → ¬ S k) : w'.ownsRow base 29 5 v n xs := by
  refine ⟨ho.1, ?_⟩
  rcases ho.2 with h | ⟨g, cap, cur, hv, hb, hh, r⟩
  · exact .inl h
  · exact .inr ⟨g, cap, cur, hv, hb, by rw [hk.block g (lt_of_at hh) (hn g (by rw [hv]; rfl))]; exact hh, r⟩
theorem others_mem {xs : List U} {uid : Int} {i : Nat} (h : i < (others xs uid).length) : nth (others xs uid) i ∈ xs := by
  rw [← nth_eq _ i h]; exact (List.mem_filter.1 (List.getElem_mem h)).1
theorem Ordered.others {xs : List U} (h : Ordered xs) (uid : Int) : Ordered (others xs uid) := by
  have hp : xs.Pairwise (fun a b => a.uid ≤ b.uid) := by
    rw [List.pairwise_iff_getElem]
    intro i j hi hj hij
    rw [nth_eq xs i hi, nth_eq xs j hj]
    exact h.mono i j (by omega) hj
  have hp2 : (Go.Proofs.Ytahlmlhdfoijhaa.others xs uid).Pairwise (fun a b => a.uid ≤ b.uid) := hp.filter _
  rw [List.pairwise_iff_getElem] at hp2
  refine ⟨fun i j hij hj => ?_, fun i hi => ?_⟩
  · by_cases e : i = j
    · subst e; exact Int.le_refl _
    · have := hp2 i j (by omega) hj (by omega)
      rwa [nth_eq _ i (by omega), nth_eq _ j hj] at this
  · have hm := others_mem hi
    obtain ⟨j, hj, e⟩ := List.getElem_of_mem hm
    rw [← e, nth_eq xs j hj]
    exact h.range j hj
theorem owns_lower {w : World} {base base' : Nat} {v : Value} {n : Nat} {xs : List Value} (ho : w.ownsRow base 29 5 v n xs) (hb : base' ≤ base) : w.ownsRow base' 29 5 v n xs := by
  refine ⟨ho.1, ?_⟩
  rcases ho.2 with h | ⟨g, cap, cur, hv, hg, r⟩
  · exact .inl h
  · exact .inr ⟨g, cap, cur, hv, by omega, r⟩
theorem insU_length (u : U) (ys : List U) : (insU u ys).length = ys.length + 1 := by
  induction ys with
  | nil => rfl
  | cons y r ih => unfold insU; split <;> simp [ih]
set_option maxHeartbeats 2000000 in
theorem with_any (a : Option Addr) (ca : Nat) (xs : List U) (u : U) (w : World) (ha : ListAt w a xs.length (nth xs)) (hsm : xs.length ≤ 8) (hs : Ordered xs) (h0 : 0 ≤ u.uid) (h1 : u.uid ≤ 65535) :
    Calls Try.prog 19 #[.slice a xs.length ca, u.v] w (WithPost xs u w) := by
  go_enter Try.func19, Try.ntmps19
  go_upto_region 1 with fail
  generalize hw0 : World.alloc w _ = w1
  have hb1 : RowV w1 w.heap.size 29 u.cs := by rw [← hw0]; exact RowV.new w _ _
  have hk1 : Kept (fun _ => False) w w1 := by rw [← hw0]; exact (Kept.refl _ w).alloc _
  have hz1 : w1.heap.size = w.heap.size + 1 := by rw [← hw0]; exact size_alloc _ _
  have ha1 := ha.kept hk1
  have HB1 := Lib.hid hb1
  have HZ1 := Lib.hid hz1
  have HS := Lib.hid hs
  have q1 : xs.length * 40 ≤ 140737488351232 := by omega
  have q2 : xs.length ≤ 1000 := by omega
  have q3 : w.heap.size < w1.heap.size := by omega
  clear hw0 ha hb1 hz1 hs
  go_upto_region 2 with (first
    | (go_at_call 23; go_loud (refine (clone_any a ca xs w1 ha1 q1).mono ?_); rintro r w2 ⟨v1, rfl, ho1, hk2⟩)
    | (go_at_call 22; go_loud (refine (delete_own v1 xs u w1.heap.size w.heap.size w2 ho1 q3 (HB1.out.kept hk2 (fun h => h)) q2).mono ?_); rintro r w3 ⟨v2, rfl, ho2, hk3, hv2⟩))
  have hk4 : Kept (fun _ => False) w1 w3 := hk2.trans hk3 (fun k hk e => by
    have := ho1.lt k e
    omega)
  obtain ⟨ys, hys⟩ : ∃ ys, ys = others xs u.uid := ⟨_, rfl⟩
  rw [← hys] at ho2
  have HO : Ordered ys := by rw [hys]; exact HS.out.others u.uid
  have hly : ys.length ≤ 8 := by rw [hys]; have : (others xs u.uid).length ≤ xs.length := List.length_filter_le _ _; omega
  have hb3 : RowV w3 w.heap.size 29 u.cs := HB1.out.kept hk4 (fun h => h)
  have hk5 : Kept (fun _ => False) w w3 := hk1.trans hk4 (fun _ _ h => h)
  obtain ⟨a2, c2, rfl, hL2⟩ := owns_reads ho2
  have HW : Hid (withL xs u = if idleB u then ys else insU u ys) := Lib.hid (by rw [hys]; rfl)
  have HB3 := Lib.hid hb3
  have hsz : w1.heap.size ≤ w3.heap.size := hk4.size
  have HSZ := Lib.hid hsz
  clear ha1 q1 q2 q3 ho1 hk2 hk3 hk4 hv2 hys HB1 HS hk1 hsm
  obtain ⟨c0, c1, c2', c3, c4⟩ := hb3.u
  clear hb3
  cases hid : idleB u with
  | true =>
    rw [hid] at HW
    go_upto_region 5 with (go_at_call 17; refine (idle_any u _).mono ?_; rw [hid]; rintro r w4 ⟨rfl, hk6⟩)
    have q1 : (ys.length : Int) ≤ 8 := by omega
    go_wp2_with fail
    go_ret2
    refine ⟨_, _, rfl, .inl ⟨?_, rfl, ?_⟩, hk5.trans hk6 (fun _ _ h => h)⟩
    · rw [HW.out]; exact hly
    · rw [HW.out]; exact owns_lower (owns_kept ho2 hk6 (fun _ _ h => h)) (by rw [HZ1.out]; omega)
  | false =>
    rw [hid] at HW
    have hrn : ∀ i, i < ys.length → 0 ≤ (nth ys i).uid ∧ (nth ys i).uid ≤ 65535 := HO.range
    have hmo := HO.mono
    have HRN := Lib.hid hrn
    have HMO := Lib.hid hmo
    have hq : ys.length ≤ 1000 := by omega
    clear hrn hmo
    go_upto_region 3 with (go_at_call 17; refine (idle_any u _).mono ?_; rw [hid]; rintro r w4 ⟨rfl, hk6⟩)
    obtain ⟨c0, c1, c2', c3, c4⟩ := (HB3.out.kept hk6 (fun h => h)).u
    have ho4 := owns_kept ho2 hk6 (fun _ _ h => h)
    have hL4 := hL2.kept hk6
    have hb4 : RowV w4 w.heap.size 29 u.cs := HB3.out.kept hk6 (fun h => h)
    have hk7 : Kept (fun _ => False) w w4 := hk5.trans hk6 (fun _ _ h => h)
    have hsz4 : w1.heap.size ≤ w4.heap.size := Nat.le_trans HSZ.out hk6.size
    have HB4 := Lib.hid hb4
    have HSZ4 := Lib.hid hsz4
    clear ho2 hL2 hk5 hk6 hb4 hsz4 HB3 HSZ
    go_upto_region 4 with (go_at_call 25; go_loud (refine (search_any a2 ys c2 u.uid w4 hL4 hq h0 h1 HMO.out HRN.out).mono ?_); rintro r w5 ⟨i, fb, hS, rfl, hk8⟩)
    obtain ⟨c0, c1, c2', c3, c4⟩ := (HB4.out.kept hk8 (fun h => h)).u
    have ho5 := owns_kept ho4 hk8 (fun _ _ h => h)
    have hk9 : Kept (fun _ => False) w w5 := hk7.trans hk8 (fun _ _ h => h)
    have hsz5 : w1.heap.size ≤ w5.heap.size := Nat.le_trans HSZ4.out hk8.size
    have HS5 := Lib.hid hS
    have hi5 := hS.len
    clear ho4 hL4 hk7 hk8 hS HB4 HSZ4
    have hob : (Value.slice a2 ys.length c2).ownBlock ≠ some w5.heap.size := fun e => by
      have := ho5.lt _ e
      omega
    have hq2 : w1.heap.size ≤ (w5.alloc (.cells (ucl u).toArray 29)).heap.size := by rw [size_alloc]; omega
    have hoA := ho5.alloc (.cells (ucl u).toArray 29)
    have hkA : Kept (fun _ => False) w (w5.alloc (.cells (ucl u).toArray 29)) := hk9.alloc _
    have HK := Lib.hid hkA
    have HOB := Lib.hid ho5
    clear ho5 hk9 hsz5
    go_upto_region 5 with (go_at_call 27; go_loud (refine (insert_own (.slice a2 ys.length c2) ys u i w1.heap.size w5.heap.size 1 (w5.alloc (.cells (ucl u).toArray 29)) hoA hq2 hq hi5 (Blk.new w5 29 (ucl u)) hob).mono ?_); rintro r w6 ⟨v6, rfl, ho6, hk6⟩)
    rw [← insU_split u ys i HS5.out] at ho6
    have hkB : Kept (fun _ => False) w w6 := HK.out.trans hk6 (fun k hk e => by
      have := hoA.lt k e
      have := HZ1.out
      omega)
    have hil := insU_length u ys
    obtain ⟨zs, hzs⟩ : ∃ zs, zs = insU u ys := ⟨_, rfl⟩
    rw [← hzs] at ho6 hil
    rw [← hil] at ho6
    obtain ⟨a6, c6, rfl, hL6⟩ := owns_reads ho6
    have HO6 := Lib.hid (owns_lower ho6 (show w.heap.size ≤ w1.heap.size by rw [HZ1.out]; omega))
    have HW2 : Hid (withL xs u = zs) := Lib.hid (by rw [HW.out, hzs]; rfl)
    have q6 : (zs.length : Int) ≤ 9 := by omega
    clear c0 c1 c2' c3 c4 hob hq2 hoA HK HOB hk6 hil hzs hL6 ho6 HW hq hi5 HS5 HRN HMO hly HO
    by_cases h8 : zs.length ≤ 8
    · have q7 : (zs.length : Int) ≤ 8 := by omega
      go_wp2_with fail
      go_ret2
      exact ⟨_, _, rfl, .inl ⟨by rw [HW2.out]; exact h8, rfl, by rw [HW2.out]; exact HO6.out⟩, hkB⟩
    · have q7 : 8 < (zs.length : Int) := by omega
      go_wp2_with fail
      go_ret2
      exact ⟨_, _, rfl, .inr ⟨by rw [HW2.out]; omega, rfl, rfl⟩, hkB⟩
end Go.Proofs.Ytahlmlhdfoijhaa
