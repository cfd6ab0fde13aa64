/-
  slices.Insert of one usage into the midst: in place, and in a new row.
-/
import Derived.Test.YtahlmlhdfoijhaaS5
import Derived.Lib.AppendZerosOnto
namespace Go.Proofs.Ytahlmlhdfoijhaa
open Go.RowKit
theorem shift_row {α : Type} {cells : α → List Value} {k : Nat} (hk : ∀ x, (cells x).length = k) (xs : List α) (u : α) (rest : List Value) (i : Nat) (hi : i < xs.length) :
    spl (spl (flat cells xs ++ rest) ((i + 1) * k) (flat cells (xs.drop i))) (i * k) (cells u) = flat cells (xs.take i ++ u :: xs.drop i) ++ rest.drop k := by
  have h1 : spl (flat cells xs ++ rest) ((i + 1) * k) (flat cells (xs.drop i)) = flat cells (xs.take (i + 1)) ++ (flat cells (xs.drop i) ++ rest.drop k) := by
    have hle : (i + 1) * k ≤ xs.length * k := Nat.mul_le_mul_right k hi
    have e : (i + 1) * k + (flat cells (xs.drop i)).length = (flat cells xs).length + k := by
      rw [flat_length hk, flat_length hk, List.length_drop, Nat.sub_mul, Nat.add_mul]
      have : i * k ≤ xs.length * k := Nat.mul_le_mul_right k (by omega)
      omega
    unfold spl
    rw [List.take_append_of_le_length (by rw [flat_length hk]; exact hle), flat_take hk, e, List.drop_append]
    have hd1 : (flat cells xs).drop ((flat cells xs).length + k) = [] := List.drop_eq_nil_of_le (by omega)
    rw [hd1, show (flat cells xs).length + k - (flat cells xs).length = k by omega]
    simp
  rw [h1]
  unfold spl
  have h2 : (flat cells (xs.take (i + 1))).length = (i + 1) * k := by rw [flat_length hk, List.length_take, Nat.min_eq_left (by omega)]
  have h3 : i * k ≤ (i + 1) * k := Nat.mul_le_mul_right k (by omega)
  rw [List.take_append_of_le_length (by omega), flat_take hk, List.take_take, Nat.min_eq_left (by omega), hk, show i * k + k = (i + 1) * k by rw [Nat.add_mul]; omega, ← h2, List.drop_append_of_le_length (Nat.le_refl _), List.drop_length, flat_append, flat_cons]
  simp
theorem Blk.owns {w : World} {g : Nat} {e : TypeId} {k n cap base : Nat} {L r : List Value} (h : Blk w g e (L ++ r)) (hL : L.length = n * k) (hl : (L ++ r).length = cap * k) (hb : base ≤ g) (hn : n ≤ cap) (hc : cap ≤ maxLen) :
    w.ownsRow base e k (.slice (some ⟨g, 0, none⟩) n cap) n L :=
  ⟨hL, .inr ⟨g, cap, _, rfl, hb, h, hn, hc, by simpa using hl, by simp [← hL]⟩⟩
theorem owns_blk {w : World} {g : Nat} {e : TypeId} {k n cap base : Nat} {L : List Value} (h : w.ownsRow base e k (.slice (some ⟨g, 0, none⟩) n cap) n L) : ∃ r, Blk w g e (L ++ r) ∧ (L ++ r).length = cap * k ∧ L.length = n * k ∧ n ≤ cap ∧ cap ≤ maxLen ∧ base ≤ g := by
  obtain ⟨hL, h | ⟨g', cap', cur, hv, hb, hg, hn, hc, hs, ht⟩⟩ := h
  · simp at h
  · injection hv with h1 h2 h3
    injection h1 with h1
    injection h1 with h1
    subst h1 h3
    refine ⟨cur.toList.drop (n * k), ?_, ?_, hL, hn, hc, hb⟩
    · unfold Blk; rw [← ht, List.take_append_drop]; simpa using hg
    · rw [← ht, List.take_append_drop]; simpa using hs
set_option maxHeartbeats 2000000 in
theorem insert_shift (g cap : Nat) (xs : List U) (rest : List Value) (u : U) (i base vb vc : Nat) (w : World) (hB : Blk w g 29 (flat ucl xs ++ rest)) (hl : (flat ucl xs ++ rest).length = cap * 5) (hcap : cap ≤ 9223372036854775807) (hsm : xs.length ≤ 1000) (hi : i < xs.length) (hroom : xs.length + 1 ≤ cap)
    (hbg : base ≤ g) (hv : Blk w vb 29 (ucl u)) (hne : vb ≠ g) :
    Calls Try.prog 27 #[.slice (some ⟨g, 0, none⟩) xs.length cap, .int .i64 i, .slice (some ⟨vb, 0, none⟩) 1 vc] w (InsPost xs u i base (.slice (some ⟨g, 0, none⟩) xs.length cap) w) := by
  have hov := fun lb cb => apart_any w vb g ((i + 1) * 5) vc 1 lb cb _ _ hv hB hne (by rw [hl]; omega)
  have q1 : (0 : Int) ≤ i := by omega
  have q2 : (i : Int) < xs.length := by omega
  have q3 : (xs.length : Int) + 1 ≤ cap := by omega
  have q4 : (cap : Int) ≤ 9223372036854775807 := by omega
  have q4c : (xs.length : Int) ≤ 1000 := by omega
  have q5 : ¬ (i : Int) = xs.length := by omega
  have q6 : ¬ cap = i := by omega
  have q7 : ¬ cap = i + 1 := by omega
  have q8 : (i : Int) + 1 ≤ xs.length + 1 := by omega
  have HB := Lib.hid hB
  have HV := Lib.hid hv
  clear hB hv
  go_enter Try.func27, Try.ntmps27
  have hs : (Try.prog.info? 29).map (·.size) = some 5 := by kernel_rfl
  have L1 : (flat ucl (xs.drop i)).length = (xs.length - i) * 5 := by rw [flat_length ucl_len, List.length_drop]
  have L2 := flat_length (cells := ucl) ucl_len xs
  have hlr : xs.length * 5 + rest.length = cap * 5 := by rw [← hl, List.length_append, L2]
  have hc1 := fun ty dc sc => run_copyK (P := Try.prog) w.drew 22 22 ty 29 5 g ((i + 1) * 5) (xs.length - i) dc ⟨g, i * 5, none⟩ (xs.length + 1 - i) sc _ 29 (flat ucl (xs.drop i)) Try.underlying22 hs HB.out.drew
    (by rw [L1]; simp only [Nat.min_def]; split <;> omega)
    (fun j v hj => by
      rw [Addr.add_lit, HB.out.drew.cell, ← List.getElem?_drop, List.drop_append_of_le_length (by omega), flat_drop ucl_len, List.getElem?_append_left (List.getElem?_eq_some_iff.1 hj).1]
      exact hj)
    (by rw [L1, List.length_append, L2]; omega) (flat_one ucl_one _)
  have hn1 : Nat.min (xs.length + 1 - i) (xs.length - i) = xs.length - i := by simp only [Nat.min_def]; split <;> omega
  rw [hn1] at hc1
  obtain ⟨R1, hR1⟩ : ∃ R, R = spl (flat ucl xs ++ rest) ((i + 1) * 5) (flat ucl (xs.drop i)) := ⟨_, rfl⟩
  rw [← hR1] at hc1
  have hB2 : Blk (w.drew.setRow g R1.toArray) g 29 R1 := HB.out.drew.row R1
  have hV2 : Blk (w.drew.setRow g R1.toArray) vb 29 (ucl u) := HV.out.drew.rowOther hne _
  have LR : R1.length = cap * 5 := by rw [hR1, spl_length _ _ _ (by rw [L1, List.length_append, L2]; omega), hl]
  have hc2 := fun ty dc => run_copyK (P := Try.prog) (w.drew.setRow g R1.toArray) 22 22 ty 29 5 g (i * 5) (xs.length + 1 - i) dc ⟨vb, 0, none⟩ 1 vc _ 29 (ucl u) Try.underlying22 hs hB2
    (by rw [ucl_len]; simp only [Nat.min_def]; split <;> omega)
    (fun j v hj => by rw [Addr.add_lit, Nat.zero_add, hV2.cell]; exact hj)
    (by rw [ucl_len, LR]; omega) (ucl_one _)
  have hB3 := hB2.row (spl R1 (i * 5) (ucl u))
  have HB3 := Lib.hid hB3
  have HR : Hid (spl R1 (i * 5) (ucl u) = flat ucl (xs.take i ++ u :: xs.drop i) ++ rest.drop 5) := Lib.hid (by rw [hR1]; exact shift_row ucl_len xs u rest i hi)
  have HC1 := Lib.hid hc1
  have HC2 := Lib.hid hc2
  have HLR := Lib.hid hlr
  have q9 : ((xs.length - i : Nat) : Int) = xs.length - i := by omega
  clear hc1 hc2 hB2 hV2 hB3 hR1 LR L1 L2 hn1 hs hl hlr q9
  go_wp2_with (simp only [hov])
  have q10 : (i : Int) ≤ xs.length + 1 := by omega
  have w2 : (0 : Int) ≤ i + 1 := by omega
  have w3 : ((i : Int) + 1).toNat = i + 1 := by omega
  have w1 : IntKind.i64.wrap ((i : Int) + 1) = (i : Int) + 1 := by rw [IntKind.wrap_i64]; omega
  refine region_tail 8 (by kernel_rfl) (by kernel_rfl) ?_
  simp only [List.take_succ_cons, List.take_zero, List.drop_succ_cons, List.drop_zero]
  repeat (refine wpStill_step (fun K hK => ?_); go_simp; (try go_bits); refine hK _ ?_; clear hK K)
  clear w1 w2 w3
  refine wpStill_nil ?_
  refine wpList_copyK rfl (.tmp 73) (.tmp 76) 22 22 rfl (by rfl) (by rfl) (HC1.out _ _ _) ?_
  go_wp2_with (refine wpList_copyK rfl (.tmp 80) (.tmp 81) 22 22 rfl (by rfl) (by rfl) (HC2.out _ _) ?_)
  go_ret
  refine ⟨_, rfl, ?_, ((((Kept.refl (fun k => k = g) w).drew.setRow (fun _ => rfl) _).setRow (fun _ => rfl) _).mono (fun k _ h => by subst h; rfl))⟩
  have h3 := HB3.out
  rw [HR.out] at h3
  have hL : (flat ucl (xs.take i ++ u :: xs.drop i)).length = (xs.length + 1) * 5 := by rw [flat_length ucl_len]; simp; omega
  have := h3.owns (base := base) hL (by rw [List.length_append, hL, List.length_drop]; have := HLR.out; omega) hbg hroom (by unfold maxLen; omega)
  rw [HR.out]
  exact this
theorem grow_row {α : Type} {cells : α → List Value} {k : Nat} (hk : ∀ x, (cells x).length = k) (xs : List α) (u : α) (z r : List Value) (i : Nat) (hi : i < xs.length) (hz : z.length = (xs.length + 1 - i) * k) :
    spl (spl (flat cells (xs.take i) ++ z ++ r) (i * k) (cells u)) ((i + 1) * k) (flat cells (xs.drop i)) = flat cells (xs.take i ++ u :: xs.drop i) ++ r := by
  have hl0 : (flat cells (xs.take i)).length = i * k := by rw [flat_length hk, List.length_take, Nat.min_eq_left (by omega)]
  have hik : (xs.length + 1 - i) * k = k + (xs.length - i) * k := by rw [show xs.length + 1 - i = (xs.length - i) + 1 by omega, Nat.add_mul]; omega
  have h1 : spl (flat cells (xs.take i) ++ z ++ r) (i * k) (cells u) = flat cells (xs.take i) ++ cells u ++ (z ++ r).drop k := by
    unfold spl
    rw [List.append_assoc (flat cells (xs.take i)) z r, ← hl0, List.take_append_of_le_length (Nat.le_refl _), List.take_length, hk, List.drop_append]
    have hd1 : (flat cells (xs.take i)).drop ((flat cells (xs.take i)).length + k) = [] := List.drop_eq_nil_of_le (by omega)
    rw [hd1, show (flat cells (xs.take i)).length + k - (flat cells (xs.take i)).length = k by omega]
    simp
  have hl1 : (flat cells (xs.take i) ++ cells u).length = (i + 1) * k := by rw [List.length_append, hl0, hk, Nat.add_mul]; omega
  rw [h1]
  unfold spl
  rw [← hl1, List.take_append_of_le_length (Nat.le_refl _), List.take_length, List.drop_append]
  have hd1 : (flat cells (xs.take i) ++ cells u).drop ((flat cells (xs.take i) ++ cells u).length + (flat cells (xs.drop i)).length) = [] := List.drop_eq_nil_of_le (by omega)
  have hl2 : (flat cells (xs.drop i)).length = (xs.length - i) * k := by rw [flat_length hk, List.length_drop]
  rw [hd1, Nat.add_sub_cancel_left, List.drop_drop, List.drop_append, hl2]
  have hd2 : z.drop (k + (xs.length - i) * k) = [] := List.drop_eq_nil_of_le (by omega)
  rw [hd2, hz, hik, Nat.sub_self, flat_append, flat_cons]
  simp
set_option maxHeartbeats 2000000 in
theorem insert_grow (g cap : Nat) (xs : List U) (rest : List Value) (u : U) (i base vb vc : Nat) (w : World) (hB : Blk w g 29 (flat ucl xs ++ rest)) (hle : xs.length ≤ cap) (hcap : cap ≤ 140737488355328) (hi : i < xs.length) (hroom : cap < xs.length + 1) (hbig : (xs.length + 1) * 40 ≤ 140737488355328)
    (hbw : base ≤ w.heap.size) (hv : Blk w vb 29 (ucl u)) :
    Calls Try.prog 27 #[.slice (some ⟨g, 0, none⟩) xs.length cap, .int .i64 i, .slice (some ⟨vb, 0, none⟩) 1 vc] w (InsPost xs u i base (.slice (some ⟨g, 0, none⟩) xs.length cap) w) := by
  have q1 : (0 : Int) ≤ i := by omega
  have q2 : (i : Int) < xs.length := by omega
  have q3 : (cap : Int) < xs.length + 1 := by omega
  have q4 : (xs.length : Int) ≤ cap := by omega
  have q4b : (cap : Int) ≤ 140737488355328 := by omega
  have q5 : ¬ (i : Int) = xs.length := by omega
  have q6 : ¬ cap = i := by omega
  have q7 : (i : Int) ≤ cap := by omega
  have L2 := flat_length (cells := ucl) ucl_len xs
  have hold : (Builtin.firstCells ((Try.prog.info? 29).getD default).size i (.slice (some ⟨g, 0, none⟩) i cap)).run Try.prog w.drew = .ok (flat ucl (xs.take i)).toArray w.drew := by
    rw [size29]
    refine run_firstCells_some w.drew 5 i ⟨g, 0, none⟩ i cap (flat ucl (xs.take i)) (by rw [flat_length ucl_len, List.length_take, Nat.min_eq_left (by omega)]) (fun j v hj => ?_)
    rw [Addr.add_lit, Nat.zero_add, hB.drew.cell, ← flat_take ucl_len] at *
    have hlt := (List.getElem?_eq_some_iff.1 hj).1
    rw [List.length_take] at hlt
    rw [List.getElem?_take, if_pos (by omega)] at hj
    rw [List.getElem?_append_left (by omega)]
    exact hj
  have hrz := fun ty => Lib.run_append_grow_zeros (P := Try.prog) w 22 3 ty 29 _ _ .i64 .i64 Try.underlying22 (by kernel_rfl) info29i zero29 (some ⟨g, 0, none⟩) i cap (flat ucl (xs.take i)) hold (xs.length + 1 - i) (by omega) (by rw [size29]; omega) (by omega) (by omega) (by rw [bytes29]; omega) (by rw [bytes29, show i + (xs.length + 1 - i) = xs.length + 1 by omega]; exact growslice_fits hroom hbig)
  rw [show i + (xs.length + 1 - i) = xs.length + 1 by omega] at hrz
  obtain ⟨G, hG⟩ : ∃ G, G = grownCap w (xs.length + 1) cap 29 := ⟨_, rfl⟩
  have hG1' : xs.length + 1 ≤ G := by rw [hG]; exact grownCap_ge w _ _ _
  have hG2 : G ≤ 9223372036854775807 := by
    have := grownCap_le_maxLen w (xs.length + 1) cap 29 (by unfold maxLen; omega)
    rw [← hG] at this; unfold maxLen at this; omega
  rw [← hG] at hrz
  obtain ⟨z, hz⟩ : ∃ z, z = (Builtin.zeroCells (Value.agg #[.int .i64 0, .int .i64 0, .int .i64 0, .int .i64 0, .int .i64 0]).cells (xs.length + 1 - i)).toList := ⟨_, rfl⟩
  obtain ⟨r, hr⟩ : ∃ r, r = (Builtin.zeroCells (Value.agg #[.int .i64 0, .int .i64 0, .int .i64 0, .int .i64 0, .int .i64 0]).cells (G - (xs.length + 1))).toList := ⟨_, rfl⟩
  have lz : z.length = (xs.length + 1 - i) * 5 := by rw [hz, Array.length_toList, size_zeroCells]; rfl
  have lr : r.length = (G - (xs.length + 1)) * 5 := by rw [hr, Array.length_toList, size_zeroCells]; rfl
  have lt : (flat ucl (xs.take i)).length = i * 5 := by rw [flat_length ucl_len, List.length_take, Nat.min_eq_left (by omega)]
  have ld : (flat ucl (xs.drop i)).length = (xs.length - i) * 5 := by rw [flat_length ucl_len, List.length_drop]
  have hrow : (flat ucl (xs.take i)).toArray ++ Builtin.zeroCells (Value.agg #[.int .i64 0, .int .i64 0, .int .i64 0, .int .i64 0, .int .i64 0]).cells (xs.length + 1 - i) ++ Builtin.zeroCells (Value.agg #[.int .i64 0, .int .i64 0, .int .i64 0, .int .i64 0, .int .i64 0]).cells (G - (xs.length + 1)) = (flat ucl (xs.take i) ++ z ++ r).toArray := by
    rw [hz, hr]; simp
  rw [hrow] at hrz
  clear hrow hz hr hG hold
  obtain ⟨R0, hR0⟩ : ∃ R, R = flat ucl (xs.take i) ++ z ++ r := ⟨_, rfl⟩
  have lR0 : R0.length = G * 5 := by rw [hR0, List.length_append, List.length_append, lt, lz, lr]; omega
  obtain ⟨R1, hR1⟩ : ∃ R, R = spl R0 (i * 5) (ucl u) := ⟨_, rfl⟩
  have lR1 : R1.length = G * 5 := by rw [hR1, spl_length _ _ _ (by rw [lR0, ucl_len]; omega), lR0]
  have HR : Hid (spl R1 ((i + 1) * 5) (flat ucl (xs.drop i)) = flat ucl (xs.take i ++ u :: xs.drop i) ++ r) := Lib.hid (by rw [hR1, hR0]; exact grow_row ucl_len xs u z r i hi lz)
  rw [← hR0] at hrz
  have hs : (Try.prog.info? 29).map (·.size) = some 5 := by kernel_rfl
  have hcA := fun (W : World) (h1 : Blk W w.heap.size 29 R0) (h2 : Blk W vb 29 (ucl u)) ty dc => run_copyK (P := Try.prog) W 22 22 ty 29 5 w.heap.size (i * 5) (xs.length + 1 - i) dc ⟨vb, 0, none⟩ 1 vc _ 29 (ucl u) Try.underlying22 hs h1
    (by rw [ucl_len]; simp only [Nat.min_def]; split <;> omega)
    (fun j v hj => by rw [Addr.add_lit, Nat.zero_add, h2.cell]; exact hj)
    (by rw [ucl_len, lR0]; omega) (ucl_one _)
  rw [← hR1] at hcA
  have hcB := fun (W : World) (h1 : Blk W w.heap.size 29 R1) (h2 : Blk W g 29 (flat ucl xs ++ rest)) ty dc sc => run_copyK (P := Try.prog) W 22 22 ty 29 5 w.heap.size ((i + 1) * 5) (xs.length - i) dc ⟨g, i * 5, none⟩ (xs.length - i) sc _ 29 (flat ucl (xs.drop i)) Try.underlying22 hs h1
    (by rw [ld]; simp only [Nat.min_def]; split <;> omega)
    (fun j v hj => by
      rw [Addr.add_lit, h2.cell, ← List.getElem?_drop, List.drop_append_of_le_length (by rw [L2]; omega), flat_drop ucl_len, List.getElem?_append_left (List.getElem?_eq_some_iff.1 hj).1]
      exact hj)
    (by rw [ld, lR1]; omega) (flat_one ucl_one _)
  have HRZ := Lib.hid hrz
  have HCA := Lib.hid hcA
  have HCB := Lib.hid hcB
  have HB := Lib.hid hB
  have HV := Lib.hid hv
  have hgl := hB.lt
  have hvl := hv.lt
  have HL := Lib.hid lR0
  have HL1 := Lib.hid lR1
  have HLr := Lib.hid lr
  have q8 : ¬ G = i := by omega
  have q9 : ¬ G = i + 1 := by omega
  have q10 : (xs.length : Int) + 1 ≤ G := by omega
  have q11 : (G : Int) ≤ 9223372036854775807 := by omega
  have q12 : (xs.length : Int) + 1 - i = ((xs.length + 1 - i : Nat) : Int) := by omega
  have q13 : (i : Int) ≤ G := by omega
  clear hrz hcA hcB hB hv lR0 lR1 lr lz lt ld L2 hR0 hR1 hs
  go_enter Try.func27, Try.ntmps27
  go_upto_region 11 with (first
    | (at_builtin; go_loud (refine Lib.wpList_append_run _ rfl (.tmp 34) (.tmp 39) 22 3 rfl _ _ (by rfl) (by rfl) _ _ (HRZ.out _) ?_); generalize hW : World.alloc w.drew _ = W1; have hB1 : Blk W1 w.heap.size 29 R0 := by { rw [← hW]; exact Blk.new w.drew 29 R0 }; have hV1 : Blk W1 vb 29 (ucl u) := by { rw [← hW]; exact HV.out.drew.alloc _ }; have hG1 : Blk W1 g 29 (flat ucl xs ++ rest) := by { rw [← hW]; exact HB.out.drew.alloc _ }; have hK1 : Kept (fun _ => False) w W1 := by { rw [← hW]; exact (Kept.refl _ w).drew.alloc _ }; clear hW)
    | (refine wpList_copyK rfl (.tmp 43) (.tmp 44) 22 22 rfl (by rfl) (by rfl) (HCA.out W1 hB1 hV1 _ _) ?_))
  generalize hW : World.setRow W1 _ _ = W2
  have hB2 : Blk W2 w.heap.size 29 R1 := by rw [← hW]; exact hB1.row R1
  have hG2 : Blk W2 g 29 (flat ucl xs ++ rest) := by rw [← hW]; exact hG1.rowOther (by omega) _
  have hK2 : Kept (fun _ => False) w W2 := by rw [← hW]; exact hK1.setRowNew (Nat.le_refl _) _
  clear hW hB1 hV1 hG1 hK1
  have q14 : (i : Int) ≤ xs.length + 1 := by omega
  have q15 : (i : Int) + 1 ≤ xs.length + 1 := by omega
  have q16 : (i : Int) + 1 ≤ G := by omega
  have q17 : (i : Int) ≤ xs.length := by omega
  have w2 : (0 : Int) ≤ i + 1 := by omega
  have w3 : ((i : Int) + 1).toNat = i + 1 := by omega
  have w1 : IntKind.i64.wrap ((i : Int) + 1) = (i : Int) + 1 := by rw [IntKind.wrap_i64]; omega
  refine region_tail 8 (by kernel_rfl) (by kernel_rfl) ?_
  simp only [List.take_succ_cons, List.take_zero, List.drop_succ_cons, List.drop_zero]
  repeat (refine wpStill_step (fun K hK => ?_); go_simp; (try go_bits); refine hK _ ?_; clear hK K)
  clear w1 w2 w3
  refine wpStill_nil ?_
  refine wpList_copyK rfl (.tmp 50) (.tmp 53) 22 22 rfl (by rfl) (by rfl) (HCB.out _ hB2.drew hG2.drew _ _ _) ?_
  go_wp2_with fail
  go_ret
  refine ⟨_, rfl, ?_, ((hK2.drew.setRowNew (Nat.le_refl _) _).mono (fun _ _ h => h.elim))⟩
  have h3 := hB2.drew.row (spl R1 ((i + 1) * 5) (flat ucl (xs.drop i)))
  rw [HR.out] at h3
  have hL : (flat ucl (xs.take i ++ u :: xs.drop i)).length = (xs.length + 1) * 5 := by rw [flat_length ucl_len]; simp; omega
  have := h3.owns (base := base) hL (by rw [List.length_append, hL, HLr.out]; omega) hbw hG1' (by unfold maxLen; omega)
  rw [HR.out]
  exact this
end Go.Proofs.Ytahlmlhdfoijhaa
