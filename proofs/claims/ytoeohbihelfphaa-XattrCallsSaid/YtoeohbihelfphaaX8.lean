/-
  slices.Clone, Insert and Delete of structs of 2 cells.
-/
import Derived.Test.YtoeohbihelfphaaX7
import Derived.Test.YtoeohbihelfphaaG0
import Derived.Test.YtoeohbihelfphaaS0
import Derived.Lib.SliceRun
import Derived.Lib.AppendZeros
import Derived.Lib.Overlaps
import Derived.Lib.AppendZerosOnto
namespace Go.Proofs.Ytoeohbihelfphaa
open Go.RowKit
set_option linter.unusedVariables false
set_option linter.unusedSimpArgs false
theorem eql_nilX (w : World) (a : Option Addr) (n c : Nat) : (binOp .eql 22 (.slice a n c) (.slice none 0 0)).run Try.prog w = .ok (.bool a.isNone) w := by
  simpa using Lib.run_eql_slice_nil (P := Try.prog) w 22 26 a n c 0 0 Try.underlying22
theorem info29iX : Try.prog.info? 26 = some ((Try.prog.info? 26).getD default) := by kernel_rfl
theorem zero29X : ((Try.prog.info? 26).getD default).zero = some (.agg #[.string ⟨#[]⟩, .slice none 0 0]) := by kernel_rfl
theorem size29X : ((Try.prog.info? 26).getD default).size = 2 := by kernel_rfl
theorem bytes29X : ((Try.prog.info? 26).getD default).bytes = 40 := by kernel_rfl
theorem apart_anyX (W : World) (vb g o vc la lb cb : Nat) (cv cg : List Value) (hv : Blk W vb 26 cv) (hg : Blk W g 26 cg) (hne : vb ≠ g) (hcg : cg.length ≠ 0) :
    (callFunc 28 #[.slice (some ⟨vb, 0, none⟩) la vc, .slice (some ⟨g, o, none⟩) lb cb]).run Try.prog W = .ok (.value (.bool false)) W := by
  rw [run_callFunc_extern (P := Try.prog) Try.func28 (by kernel_rfl) (by kernel_rfl) (by kernel_rfl) (e := Extern.SlicesOverlaps.overlaps #[22, 22] #[4]) (by kernel_rfl),
    Lib.run_overlaps_apart W 22 4 26 Try.underlying22 2 (fun w => by kernel_rfl) ⟨vb, 0, none⟩ ⟨g, o, none⟩ la vc lb cb hne 26 26 _ _ hv.shape hg.shape hcg (hv.free 0) (hv.free _)]
  rfl
def InsPostX (xs : List Xc) (u : Xc) (i : Nat) (base : Nat) (v : Value) (w : World) (r : Ending) (w' : World) : Prop :=
  ∃ v', r = .returned v' ∧ w'.ownsRow base 26 2 v' (xs.length + 1) (flat xcl (xs.take i ++ u :: xs.drop i)) ∧ Kept (fun k => v.ownBlock = some k) w w'
set_option maxRecDepth 100000 in
set_option maxHeartbeats 2000000 in
/-- At the end. -/
theorem insert_endX (v : Value) (xs : List Xc) (u : Xc) (base vb vc : Nat) (w : World) (ho : w.ownsRow base 26 2 v xs.length (flat xcl xs)) (hb : base ≤ w.heap.size) (hn : (xs.length + 1) * 40 ≤ 140737488355328) (hv : Blk w vb 26 (xcl u)) :
    Calls Try.prog 22 #[v, .int .i64 xs.length, .slice (some ⟨vb, 0, none⟩) 1 vc] w (InsPostX xs u xs.length base v w) := by
  have hnew : ∀ j x, (xcl u)[j]? = some x → w.cell? ((⟨vb, 0, none⟩ : Addr).add j) = some x := fun j x hj => by
    rw [Addr.add_lit, Nat.zero_add, hv.cell]; exact hj
  have HO := Lib.hid ho
  have HNEW := Lib.hid hnew
  have key : ∀ v' w', w'.ownsRow base 26 2 v' (xs.length + 1) (flat xcl xs ++ xcl u) → w.grownBy w' v.ownBlock → InsPostX xs u xs.length base v w (.returned v') w' := fun v' w' h1 h2 =>
    ⟨v', rfl, by rw [List.take_length, List.drop_length, flat_append, flat_cons, flat_nil, List.append_nil]; exact h1, Kept.grown h2⟩
  have KEY := Lib.hid key
  have q1 : (xs.length : Int) ≤ 140737488355328 := by omega
  clear key hnew hv
  rcases ho.2 with ⟨rfl, h0⟩ | ⟨g, cap, cur, rfl, hg, hh, hle, hm, hs, ht⟩
  · have H0 := Lib.hid h0
    have e : (xs.length : Int) = 0 := by omega
    rw [e]
    clear h0 e ho
    go_enter Try.func22, Try.ntmps22
    go_wp2_with (at_builtin; go_loud (refine wpList_append_own_at _ rfl (.tmp 23) (.tmp 24) 22 rfl base 26 _ _ 2 40 Try.underlying22 info29iX zero29X size29X bytes29X rfl (by omega) (.slice none 0 0) xs.length (flat xcl xs) (by rfl) HO.out ⟨vb, 0, none⟩ 1 vc (xcl u) (by rfl) rfl HNEW.out (xcl_one u) (by unfold maxLen; omega) (by omega) hb ?_); intro v' w2 hown hgrow hnil hat)
    go_ret
    exact KEY.out _ _ hown hgrow
  · have q2 : (xs.length : Int) ≤ cap := by omega
    have q3 : (cap : Int) ≤ 9223372036854775807 := by unfold maxLen at hm; omega
    clear ho hh hs ht hm hg
    by_cases hc : cap = xs.length
    · have HC := Lib.hid hc
      go_enter Try.func22, Try.ntmps22
      go_wp2_with (at_builtin; go_loud (refine wpList_append_own_at _ rfl (.tmp 23) (.tmp 24) 22 rfl base 26 _ _ 2 40 Try.underlying22 info29iX zero29X size29X bytes29X rfl (by omega) (.slice (some ⟨g, 0, none⟩) xs.length cap) xs.length (flat xcl xs) (by first | rfl | (rw [HC.out]; rfl)) HO.out ⟨vb, 0, none⟩ 1 vc (xcl u) (by rfl) rfl HNEW.out (xcl_one u) (by unfold maxLen; omega) (by omega) hb ?_); intro v' w2 hown hgrow hnil hat)
      go_ret
      exact KEY.out _ _ hown hgrow
    · go_enter Try.func22, Try.ntmps22
      go_wp2_with (at_builtin; go_loud (refine wpList_append_own_at _ rfl (.tmp 23) (.tmp 24) 22 rfl base 26 _ _ 2 40 Try.underlying22 info29iX zero29X size29X bytes29X rfl (by omega) (.slice (some ⟨g, 0, none⟩) xs.length cap) xs.length (flat xcl xs) (by rfl) HO.out ⟨vb, 0, none⟩ 1 vc (xcl u) (by rfl) rfl HNEW.out (xcl_one u) (by unfold maxLen; omega) (by omega) hb ?_); intro v' w2 hown hgrow hnil hat)
      go_ret
      exact KEY.out _ _ hown hgrow
set_option maxRecDepth 100000 in
set_option maxHeartbeats 2000000 in
theorem insert_shiftX (g cap : Nat) (xs : List Xc) (rest : List Value) (u : Xc) (i base vb vc : Nat) (w : World) (hB : Blk w g 26 (flat xcl xs ++ rest)) (hl : (flat xcl xs ++ rest).length = cap * 2) (hcap : cap ≤ 9223372036854775807) (hsm : xs.length ≤ 1000) (hi : i < xs.length) (hroom : xs.length + 1 ≤ cap)
    (hbg : base ≤ g) (hv : Blk w vb 26 (xcl u)) (hne : vb ≠ g) :
    Calls Try.prog 22 #[.slice (some ⟨g, 0, none⟩) xs.length cap, .int .i64 i, .slice (some ⟨vb, 0, none⟩) 1 vc] w (InsPostX xs u i base (.slice (some ⟨g, 0, none⟩) xs.length cap) w) := by
  have hov := fun lb cb => apart_anyX w vb g ((i + 1) * 2) vc 1 lb cb _ _ hv hB hne (by rw [hl]; omega)
  have q1 : (0 : Int) ≤ i := by omega
  have q2 : (i : Int) < xs.length := by omega
  have q3 : (xs.length : Int) + 1 ≤ cap := by omega
  have q4 : (cap : Int) ≤ 9223372036854775807 := by omega
  have q4c : (xs.length : Int) ≤ 1000 := by omega
  have q5 : ¬ (i : Int) = xs.length := by omega
  have q6 : ¬ cap = i := by omega
  have q7 : ¬ cap = i + 1 := by omega
  have q8 : (i : Int) + 1 ≤ xs.length + 1 := by omega
  have HB := Lib.hid hB
  have HV := Lib.hid hv
  clear hB hv
  go_enter Try.func22, Try.ntmps22
  have hs : (Try.prog.info? 26).map (·.size) = some 2 := by kernel_rfl
  have L1 : (flat xcl (xs.drop i)).length = (xs.length - i) * 2 := by rw [flat_length xcl_len, List.length_drop]
  have L2 := flat_length (cells := xcl) xcl_len xs
  have hlr : xs.length * 2 + rest.length = cap * 2 := by rw [← hl, List.length_append, L2]
  have hc1 := fun ty dc sc => run_copyK (P := Try.prog) w.drew 22 22 ty 26 2 g ((i + 1) * 2) (xs.length - i) dc ⟨g, i * 2, none⟩ (xs.length + 1 - i) sc _ 26 (flat xcl (xs.drop i)) Try.underlying22 hs HB.out.drew
    (by rw [L1]; simp only [Nat.min_def]; split <;> omega)
    (fun j v hj => by
      rw [Addr.add_lit, HB.out.drew.cell, ← List.getElem?_drop, List.drop_append_of_le_length (by omega), flat_drop xcl_len, List.getElem?_append_left (List.getElem?_eq_some_iff.1 hj).1]
      exact hj)
    (by rw [L1, List.length_append, L2]; omega) (flat_one xcl_one _)
  have hn1 : Nat.min (xs.length + 1 - i) (xs.length - i) = xs.length - i := by simp only [Nat.min_def]; split <;> omega
  rw [hn1] at hc1
  obtain ⟨R1, hR1⟩ : ∃ R, R = spl (flat xcl xs ++ rest) ((i + 1) * 2) (flat xcl (xs.drop i)) := ⟨_, rfl⟩
  rw [← hR1] at hc1
  have hB2 : Blk (w.drew.setRow g R1.toArray) g 26 R1 := HB.out.drew.row R1
  have hV2 : Blk (w.drew.setRow g R1.toArray) vb 26 (xcl u) := HV.out.drew.rowOther hne _
  have LR : R1.length = cap * 2 := by rw [hR1, spl_length _ _ _ (by rw [L1, List.length_append, L2]; omega), hl]
  have hc2 := fun ty dc => run_copyK (P := Try.prog) (w.drew.setRow g R1.toArray) 22 22 ty 26 2 g (i * 2) (xs.length + 1 - i) dc ⟨vb, 0, none⟩ 1 vc _ 26 (xcl u) Try.underlying22 hs hB2
    (by rw [xcl_len]; simp only [Nat.min_def]; split <;> omega)
    (fun j v hj => by rw [Addr.add_lit, Nat.zero_add, hV2.cell]; exact hj)
    (by rw [xcl_len, LR]; omega) (xcl_one _)
  have hB3 := hB2.row (spl R1 (i * 2) (xcl u))
  have HB3 := Lib.hid hB3
  have HR : Hid (spl R1 (i * 2) (xcl u) = flat xcl (xs.take i ++ u :: xs.drop i) ++ rest.drop 2) := Lib.hid (by rw [hR1]; exact shift_row xcl_len xs u rest i hi)
  have HC1 := Lib.hid hc1
  have HC2 := Lib.hid hc2
  have HLR := Lib.hid hlr
  have q9 : ((xs.length - i : Nat) : Int) = xs.length - i := by omega
  clear hc1 hc2 hB2 hV2 hB3 hR1 LR L1 L2 hn1 hs hl hlr q9
  go_wp2_with (simp only [hov])
  have q10 : (i : Int) ≤ xs.length + 1 := by omega
  have w2 : (0 : Int) ≤ i + 1 := by omega
  have w3 : ((i : Int) + 1).toNat = i + 1 := by omega
  have w1 : IntKind.i64.wrap ((i : Int) + 1) = (i : Int) + 1 := by rw [IntKind.wrap_i64]; omega
  refine region_tail 8 (by kernel_rfl) (by kernel_rfl) ?_
  simp only [List.take_succ_cons, List.take_zero, List.drop_succ_cons, List.drop_zero]
  repeat (refine wpStill_step (fun K hK => ?_); go_simp; (try go_bits); refine hK _ ?_; clear hK K)
  clear w1 w2 w3
  refine wpStill_nil ?_
  refine wpList_copyK rfl (.tmp 73) (.tmp 76) 22 22 rfl (by rfl) (by rfl) (HC1.out _ _ _) ?_
  go_wp2_with (refine wpList_copyK rfl (.tmp 80) (.tmp 81) 22 22 rfl (by rfl) (by rfl) (HC2.out _ _) ?_)
  go_ret
  refine ⟨_, rfl, ?_, ((((Kept.refl (fun k => k = g) w).drew.setRow (fun _ => rfl) _).setRow (fun _ => rfl) _).mono (fun k _ h => by subst h; rfl))⟩
  have h3 := HB3.out
  rw [HR.out] at h3
  have hL : (flat xcl (xs.take i ++ u :: xs.drop i)).length = (xs.length + 1) * 2 := by rw [flat_length xcl_len]; simp; omega
  have := h3.owns (base := base) hL (by rw [List.length_append, hL, List.length_drop]; have := HLR.out; omega) hbg hroom (by unfold maxLen; omega)
  rw [HR.out]
  exact this
set_option maxRecDepth 100000 in
set_option maxHeartbeats 2000000 in
theorem insert_growX (g cap : Nat) (xs : List Xc) (rest : List Value) (u : Xc) (i base vb vc : Nat) (w : World) (hB : Blk w g 26 (flat xcl xs ++ rest)) (hle : xs.length ≤ cap) (hcap : cap ≤ 140737488355328) (hi : i < xs.length) (hroom : cap < xs.length + 1) (hbig : (xs.length + 1) * 40 ≤ 140737488355328)
    (hbw : base ≤ w.heap.size) (hv : Blk w vb 26 (xcl u)) :
    Calls Try.prog 22 #[.slice (some ⟨g, 0, none⟩) xs.length cap, .int .i64 i, .slice (some ⟨vb, 0, none⟩) 1 vc] w (InsPostX xs u i base (.slice (some ⟨g, 0, none⟩) xs.length cap) w) := by
  have q1 : (0 : Int) ≤ i := by omega
  have q2 : (i : Int) < xs.length := by omega
  have q3 : (cap : Int) < xs.length + 1 := by omega
  have q4 : (xs.length : Int) ≤ cap := by omega
  have q4b : (cap : Int) ≤ 140737488355328 := by omega
  have q5 : ¬ (i : Int) = xs.length := by omega
  have q6 : ¬ cap = i := by omega
  have q7 : (i : Int) ≤ cap := by omega
  have L2 := flat_length (cells := xcl) xcl_len xs
  have hold : (Builtin.firstCells ((Try.prog.info? 26).getD default).size i (.slice (some ⟨g, 0, none⟩) i cap)).run Try.prog w.drew = .ok (flat xcl (xs.take i)).toArray w.drew := by
    rw [size29X]
    refine run_firstCells_some w.drew 2 i ⟨g, 0, none⟩ i cap (flat xcl (xs.take i)) (by rw [flat_length xcl_len, List.length_take, Nat.min_eq_left (by omega)]) (fun j v hj => ?_)
    rw [Addr.add_lit, Nat.zero_add, hB.drew.cell, ← flat_take xcl_len] at *
    have hlt := (List.getElem?_eq_some_iff.1 hj).1
    rw [List.length_take] at hlt
    rw [List.getElem?_take, if_pos (by omega)] at hj
    rw [List.getElem?_append_left (by omega)]
    exact hj
  have hrz := fun ty => Lib.run_append_grow_zeros (P := Try.prog) w 22 3 ty 26 _ _ .i64 .i64 Try.underlying22 (by kernel_rfl) info29iX zero29X (some ⟨g, 0, none⟩) i cap (flat xcl (xs.take i)) hold (xs.length + 1 - i) (by omega) (by rw [size29X]; omega) (by omega) (by omega) (by rw [bytes29X]; omega) (by rw [bytes29X, show i + (xs.length + 1 - i) = xs.length + 1 by omega]; exact growslice_fits hroom hbig)
  rw [show i + (xs.length + 1 - i) = xs.length + 1 by omega] at hrz
  obtain ⟨G, hG⟩ : ∃ G, G = grownCap w (xs.length + 1) cap 26 := ⟨_, rfl⟩
  have hG1' : xs.length + 1 ≤ G := by rw [hG]; exact grownCap_ge w _ _ _
  have hG2 : G ≤ 9223372036854775807 := by
    have := grownCap_le_maxLen w (xs.length + 1) cap 26 (by unfold maxLen; omega)
    rw [← hG] at this; unfold maxLen at this; omega
  rw [← hG] at hrz
  obtain ⟨z, hz⟩ : ∃ z, z = (Builtin.zeroCells (Value.agg #[.string ⟨#[]⟩, .slice none 0 0]).cells (xs.length + 1 - i)).toList := ⟨_, rfl⟩
  obtain ⟨r, hr⟩ : ∃ r, r = (Builtin.zeroCells (Value.agg #[.string ⟨#[]⟩, .slice none 0 0]).cells (G - (xs.length + 1))).toList := ⟨_, rfl⟩
  have lz : z.length = (xs.length + 1 - i) * 2 := by rw [hz, Array.length_toList, size_zeroCells]; rfl
  have lr : r.length = (G - (xs.length + 1)) * 2 := by rw [hr, Array.length_toList, size_zeroCells]; rfl
  have lt : (flat xcl (xs.take i)).length = i * 2 := by rw [flat_length xcl_len, List.length_take, Nat.min_eq_left (by omega)]
  have ld : (flat xcl (xs.drop i)).length = (xs.length - i) * 2 := by rw [flat_length xcl_len, List.length_drop]
  have hrow : (flat xcl (xs.take i)).toArray ++ Builtin.zeroCells (Value.agg #[.string ⟨#[]⟩, .slice none 0 0]).cells (xs.length + 1 - i) ++ Builtin.zeroCells (Value.agg #[.string ⟨#[]⟩, .slice none 0 0]).cells (G - (xs.length + 1)) = (flat xcl (xs.take i) ++ z ++ r).toArray := by
    rw [hz, hr]; simp
  rw [hrow] at hrz
  clear hrow hz hr hG hold
  obtain ⟨R0, hR0⟩ : ∃ R, R = flat xcl (xs.take i) ++ z ++ r := ⟨_, rfl⟩
  have lR0 : R0.length = G * 2 := by rw [hR0, List.length_append, List.length_append, lt, lz, lr]; omega
  obtain ⟨R1, hR1⟩ : ∃ R, R = spl R0 (i * 2) (xcl u) := ⟨_, rfl⟩
  have lR1 : R1.length = G * 2 := by rw [hR1, spl_length _ _ _ (by rw [lR0, xcl_len]; omega), lR0]
  have HR : Hid (spl R1 ((i + 1) * 2) (flat xcl (xs.drop i)) = flat xcl (xs.take i ++ u :: xs.drop i) ++ r) := Lib.hid (by rw [hR1, hR0]; exact grow_row xcl_len xs u z r i hi lz)
  rw [← hR0] at hrz
  have hs : (Try.prog.info? 26).map (·.size) = some 2 := by kernel_rfl
  have hcA := fun (W : World) (h1 : Blk W w.heap.size 26 R0) (h2 : Blk W vb 26 (xcl u)) ty dc => run_copyK (P := Try.prog) W 22 22 ty 26 2 w.heap.size (i * 2) (xs.length + 1 - i) dc ⟨vb, 0, none⟩ 1 vc _ 26 (xcl u) Try.underlying22 hs h1
    (by rw [xcl_len]; simp only [Nat.min_def]; split <;> omega)
    (fun j v hj => by rw [Addr.add_lit, Nat.zero_add, h2.cell]; exact hj)
    (by rw [xcl_len, lR0]; omega) (xcl_one _)
  rw [← hR1] at hcA
  have hcB := fun (W : World) (h1 : Blk W w.heap.size 26 R1) (h2 : Blk W g 26 (flat xcl xs ++ rest)) ty dc sc => run_copyK (P := Try.prog) W 22 22 ty 26 2 w.heap.size ((i + 1) * 2) (xs.length - i) dc ⟨g, i * 2, none⟩ (xs.length - i) sc _ 26 (flat xcl (xs.drop i)) Try.underlying22 hs h1
    (by rw [ld]; simp only [Nat.min_def]; split <;> omega)
    (fun j v hj => by
      rw [Addr.add_lit, h2.cell, ← List.getElem?_drop, List.drop_append_of_le_length (by rw [L2]; omega), flat_drop xcl_len, List.getElem?_append_left (List.getElem?_eq_some_iff.1 hj).1]
      exact hj)
    (by rw [ld, lR1]; omega) (flat_one xcl_one _)
  have HRZ := Lib.hid hrz
  have HCA := Lib.hid hcA
  have HCB := Lib.hid hcB
  have HB := Lib.hid hB
  have HV := Lib.hid hv
  have hgl := hB.lt
  have hvl := hv.lt
  have HL := Lib.hid lR0
  have HL1 := Lib.hid lR1
  have HLr := Lib.hid lr
  have q8 : ¬ G = i := by omega
  have q9 : ¬ G = i + 1 := by omega
  have q10 : (xs.length : Int) + 1 ≤ G := by omega
  have q11 : (G : Int) ≤ 9223372036854775807 := by omega
  have q12 : (xs.length : Int) + 1 - i = ((xs.length + 1 - i : Nat) : Int) := by omega
  have q13 : (i : Int) ≤ G := by omega
  clear hrz hcA hcB hB hv lR0 lR1 lr lz lt ld L2 hR0 hR1 hs
  go_enter Try.func22, Try.ntmps22
  go_upto_region 11 with (first
    | (at_builtin; go_loud (refine Lib.wpList_append_run _ rfl (.tmp 34) (.tmp 39) 22 3 rfl _ _ (by rfl) (by rfl) _ _ (HRZ.out _) ?_); generalize hW : World.alloc w.drew _ = W1; have hB1 : Blk W1 w.heap.size 26 R0 := by { rw [← hW]; exact Blk.new w.drew 26 R0 }; have hV1 : Blk W1 vb 26 (xcl u) := by { rw [← hW]; exact HV.out.drew.alloc _ }; have hG1 : Blk W1 g 26 (flat xcl xs ++ rest) := by { rw [← hW]; exact HB.out.drew.alloc _ }; have hK1 : Kept (fun _ => False) w W1 := by { rw [← hW]; exact (Kept.refl _ w).drew.alloc _ }; clear hW)
    | (refine wpList_copyK rfl (.tmp 43) (.tmp 44) 22 22 rfl (by rfl) (by rfl) (HCA.out W1 hB1 hV1 _ _) ?_))
  generalize hW : World.setRow W1 _ _ = W2
  have hB2 : Blk W2 w.heap.size 26 R1 := by rw [← hW]; exact hB1.row R1
  have hG2 : Blk W2 g 26 (flat xcl xs ++ rest) := by rw [← hW]; exact hG1.rowOther (by omega) _
  have hK2 : Kept (fun _ => False) w W2 := by rw [← hW]; exact hK1.setRowNew (Nat.le_refl _) _
  clear hW hB1 hV1 hG1 hK1
  have q14 : (i : Int) ≤ xs.length + 1 := by omega
  have q15 : (i : Int) + 1 ≤ xs.length + 1 := by omega
  have q16 : (i : Int) + 1 ≤ G := by omega
  have q17 : (i : Int) ≤ xs.length := by omega
  have w2 : (0 : Int) ≤ i + 1 := by omega
  have w3 : ((i : Int) + 1).toNat = i + 1 := by omega
  have w1 : IntKind.i64.wrap ((i : Int) + 1) = (i : Int) + 1 := by rw [IntKind.wrap_i64]; omega
  refine region_tail 8 (by kernel_rfl) (by kernel_rfl) ?_
  simp only [List.take_succ_cons, List.take_zero, List.drop_succ_cons, List.drop_zero]
  repeat (refine wpStill_step (fun K hK => ?_); go_simp; (try go_bits); refine hK _ ?_; clear hK K)
  clear w1 w2 w3
  refine wpStill_nil ?_
  refine wpList_copyK rfl (.tmp 50) (.tmp 53) 22 22 rfl (by rfl) (by rfl) (HCB.out _ hB2.drew hG2.drew _ _ _) ?_
  go_wp2_with fail
  go_ret
  refine ⟨_, rfl, ?_, ((hK2.drew.setRowNew (Nat.le_refl _) _).mono (fun _ _ h => h.elim))⟩
  have h3 := hB2.drew.row (spl R1 ((i + 1) * 2) (flat xcl (xs.drop i)))
  rw [HR.out] at h3
  have hL : (flat xcl (xs.take i ++ u :: xs.drop i)).length = (xs.length + 1) * 2 := by rw [flat_length xcl_len]; simp; omega
  have := h3.owns (base := base) hL (by rw [List.length_append, hL, HLr.out]; omega) hbw hG1' (by unfold maxLen; omega)
  rw [HR.out]
  exact this
theorem insert_ownX (v : Value) (xs : List Xc) (u : Xc) (i base vb vc : Nat) (w : World) (ho : w.ownsRow base 26 2 v xs.length (flat xcl xs)) (hb : base ≤ w.heap.size) (hsm : xs.length ≤ 1000) (hi : i ≤ xs.length) (hv : Blk w vb 26 (xcl u)) (hne : v.ownBlock ≠ some vb) :
    Calls Try.prog 22 #[v, .int .i64 i, .slice (some ⟨vb, 0, none⟩) 1 vc] w (InsPostX xs u i base v w) := by
  by_cases he : i = xs.length
  · subst he
    exact insert_endX v xs u base vb vc w ho hb (by omega) hv
  · rcases ho.2 with ⟨rfl, h0⟩ | ⟨g, cap, cur, rfl, _⟩
    · omega
    · obtain ⟨rest, h1, h2, h3, h4, h5, h6⟩ := owns_blk ho
      have hmx : cap ≤ 9223372036854775807 := by unfold maxLen at h5; omega
      have hvg : vb ≠ g := fun h => hne (by subst h; rfl)
      by_cases hroom : xs.length + 1 ≤ cap
      · exact insert_shiftX g cap xs rest u i base vb vc w h1 h2 hmx hsm (by omega) hroom h6 hv hvg
      · exact insert_growX g cap xs rest u i base vb vc w h1 h4 (by omega) (by omega) (by omega) (by omega) hb hv
theorem owns_readsX {w : World} {base : Nat} {v : Value} {xs : List Xc} (ho : w.ownsRow base 26 2 v xs.length (flat xcl xs)) : ∃ a c, v = .slice a xs.length c ∧ ListC w a xs.length (nthC xs) := by
  rcases ho.2 with ⟨rfl, h0⟩ | ⟨g, cap, cur, rfl, _⟩
  · exact ⟨none, 0, by rw [h0], .inl h0⟩
  · obtain ⟨rest, h1, _⟩ := owns_blk ho
    exact ⟨_, _, rfl, .inr ⟨g, 0, rfl, fun i hi => by rw [Nat.zero_add]; exact h1.at hi⟩⟩
theorem owns_keptX {w w' : World} {base : Nat} {v : Value} {n : Nat} {xs : List Value} {S : Nat → Prop} (ho : w.ownsRow base 26 2 v n xs) (hk : Kept S w w') (hn : ∀ k, v.ownBlock = some k → ¬ S k) : w'.ownsRow base 26 2 v n xs := by
  refine ⟨ho.1, ?_⟩
  rcases ho.2 with h | ⟨g, cap, cur, hv, hb, hh, r⟩
  · exact .inl h
  · exact .inr ⟨g, cap, cur, hv, hb, by rw [hk.block g (lt_of_at hh) (hn g (by rw [hv]; rfl))]; exact hh, r⟩
def DelPostX (xs : List Xc) (i base : Nat) (v : Value) (w : World) (r : Ending) (w' : World) : Prop :=
  ∃ v', r = .returned v' ∧ w'.ownsRow base 26 2 v' (xs.length - 1) (flat xcl (xs.take i ++ xs.drop (i + 1))) ∧ Kept (fun k => v.ownBlock = some k) w w'
theorem zcEX : (Builtin.zeroCells #[Value.string ⟨#[]⟩, Value.slice none 0 0] 1).toList = [Value.string ⟨#[]⟩, Value.slice none 0 0] := by kernel_rfl
theorem zeroEX (w : World) : (zeroValue 26).run Try.prog w = .ok (.agg #[.string ⟨#[]⟩, .slice none 0 0]) w := by kernel_rfl
set_option maxRecDepth 100000 in
set_option maxHeartbeats 4000000 in
theorem delete_ownX (v : Value) (xs : List Xc) (i base : Nat) (w : World) (ho : w.ownsRow base 26 2 v xs.length (flat xcl xs)) (hi : i < xs.length) (hsm : xs.length ≤ 1000) :
    Calls Try.prog 18 #[v, .int .i64 (i : Int), .int .i64 ((i : Int) + 1)] w (DelPostX xs i base v w) := by
  rcases ho.2 with ⟨rfl, h0⟩ | ⟨g, cap, cur, rfl, _⟩
  · omega
  obtain ⟨rest, hB, h2, h3, h4, h5, h6⟩ := owns_blk ho
  have hmx : cap ≤ 9223372036854775807 := by unfold maxLen at h5; omega
  have L2 := flat_length (cells := xcl) xcl_len xs
  have LD : (flat xcl (xs.drop (i + 1))).length = (xs.length - (i + 1)) * 2 := by rw [flat_length xcl_len, List.length_drop]
  obtain ⟨i0, hi0, hz0, hz1, hz2⟩ := info_parts (show (Try.prog.info? 26).map (fun i => (i.zero, i.size, i.bytes)) = some (some (.agg #[.string ⟨#[]⟩, .slice none 0 0]), 2, 40) by kernel_rfl)
  have hap := fun (W : World) (hBW : Blk W g 26 (flat xcl xs ++ rest)) (a : Addr) (sc : Nat) (ha : xs.length - (i + 1) = 0 ∨ a = ⟨g, (i + 1) * 2, none⟩) ty => run_append_room_cells (P := Try.prog) W 22 ty 26 i0 Try.underlying22 hi0 g 0 i cap a (xs.length - (i + 1)) sc (flat xcl (xs.drop (i + 1))) (by rw [LD, hz1])
    (fun j u hj => by
      have hjl := (List.getElem?_eq_some_iff.1 hj).1
      rcases ha with ha | ha
      · rw [LD, ha] at hjl; omega
      · subst ha
        rw [Addr.add_lit, hBW.cell, ← List.getElem?_drop, List.drop_append_of_le_length (by omega), flat_drop xcl_len, List.getElem?_append_left hjl]
        exact hj) (flat_one xcl_one _) (by omega)
    (fun j hj => by rw [hBW.cell, List.getElem?_eq_getElem (by rw [LD] at hj; rw [hz1, h2]; omega)]; rfl) (fun j _ => hBW.free _)
  obtain ⟨R1, hR1⟩ : ∃ R, R = spl (flat xcl xs ++ rest) (i * 2) (flat xcl (xs.drop (i + 1))) := ⟨_, rfl⟩
  have hset := fun (W : World) (hBW : Blk W g 26 (flat xcl xs ++ rest)) => setCells_row hBW (i * 2) (flat xcl (xs.drop (i + 1))) (by rw [LD, h2]; omega) (flat_one xcl_one _)
  have LR : R1.length = cap * 2 := by rw [hR1, spl_length _ _ _ (by rw [LD, h2]; omega), h2]
  have hap2 : ∀ (W : World) (hBW : Blk W g 26 (flat xcl xs ++ rest)) (a : Addr) (sc : Nat) (ha : xs.length - (i + 1) = 0 ∨ a = ⟨g, (i + 1) * 2, none⟩) ty,
      (Builtin.append_ #[22, 22] ty #[.slice (some ⟨g, 0, none⟩) i cap, .slice (some a) (xs.length - (i + 1)) sc]).run Try.prog W = .ok (.slice (some ⟨g, 0, none⟩) (xs.length - 1) cap) (W.setRow g R1.toArray) := fun W hBW a sc ha ty => by
    have := hap W hBW a sc ha ty
    rw [hz1, Nat.zero_add, hset W hBW, ← hR1, show i + (xs.length - (i + 1)) = xs.length - 1 by omega] at this
    exact this
  have hcl := fun (W : World) (hBW : Blk W g 26 R1) ty => run_clearK W 22 ty 26 #[Value.string ⟨#[]⟩, Value.slice none 0 0] 2 g ((xs.length - 1) * 2) 1 (cap - (xs.length - 1)) R1 26 Try.underlying22 (zeroEX W) rfl hBW (by omega) (by rw [LR]; omega) (by
    intro v hv
    rw [zcEX] at hv
    simp only [List.mem_cons, List.not_mem_nil, or_false] at hv
    rcases hv with rfl | rfl <;> rfl)
  have hrow := del_row xcl_len xs rest (Builtin.zeroCells #[Value.string ⟨#[]⟩, Value.slice none 0 0] 1).toList i hi (by rw [zcEX]; rfl)
  rw [← hR1] at hrow
  have hfin : ∀ W : World, Blk W g 26 R1 → DelPostX xs i base (.slice (some ⟨g, 0, none⟩) xs.length cap) w (.returned (.slice (some ⟨g, 0, none⟩) (xs.length - 1) cap)) W → True := fun _ _ _ => trivial
  clear hfin
  have HAP := Lib.hid hap2
  have HCL := Lib.hid hcl
  have HROW := Lib.hid hrow
  have HB := Lib.hid hB
  have HLR := Lib.hid LR
  have HL2 := Lib.hid L2
  have H2 := Lib.hid h2
  have q1 : (0 : Int) ≤ i := by omega
  have q2 : (i : Int) < xs.length := by omega
  have q3 : (xs.length : Int) ≤ cap := by omega
  have q4 : (cap : Int) ≤ 9223372036854775807 := by omega
  have q5 : (xs.length : Int) ≤ 1000 := by omega
  have q6 : ((i : Int) == (i : Int) + 1) = false := by simp; omega
  have q7 : (i : Int) + 1 ≤ xs.length := by omega
  have q8 : ((i : Int) + 1).toNat = i + 1 := by omega
  have q9 : (0 : Int) ≤ (i : Int) + 1 := by omega
  have q10 : (i : Int) ≤ (i : Int) + 1 := by omega
  have HR1 := Lib.hid hR1
  clear hap hap2 hcl hrow hB LR L2 h2 h3 hset LD hz0 hz1 hz2 hi0 ho hR1
  obtain ⟨m, hm⟩ : ∃ m, xs.length = m + 1 := ⟨xs.length - 1, by omega⟩
  have HM := Lib.hid hm
  simp only [hm, Nat.add_sub_cancel, Nat.add_sub_add_right] at HAP HCL HROW q2 q3 q5 q7
  rw [hm]
  have q11 : i < m + 1 := by omega
  have q12 : m < cap := by omega
  have q13 : (m : Int) < cap := by omega
  have q14 : ((m + 1 : Nat) : Int) = (m : Int) + 1 := by omega
  have q15 : (m : Int) + 1 ≤ cap := by omega
  have n1 : i ≤ cap := by omega
  have n2 : i ≤ m := by omega
  have n3 : (i : Int) ≤ m := by omega
  have n4 : m + 1 ≤ cap := by omega
  have n5 : i + 1 ≤ cap := by omega
  have hH : (m + 1) * 2 + rest.length = cap * 2 := by have := H2.out; rw [List.length_append, HL2.out] at this; omega
  have HH := Lib.hid hH
  clear hH hm hi hsm h4 h5 hmx HL2 HLR
  go_enter Try.func18, Try.ntmps18
  go_upto_region 5 with fail
  have hB2 : Blk (w.drew.setRow g R1.toArray) g 26 R1 := HB.out.drew.row R1
  have hB3 := hB2.row (spl R1 (m * 2) (Builtin.zeroCells #[Value.string ⟨#[]⟩, Value.slice none 0 0] 1).toList)
  have HB2 := Lib.hid hB2
  have HB3 := Lib.hid hB3
  clear hB2 hB3
  by_cases hc : cap = i + 1
  · subst hc
    obtain rfl : m = i := by omega
    have hR : R1 = flat xcl xs ++ rest := by
      rw [HR1.out, List.drop_eq_nil_of_le (by rw [HM.out]; omega)]
      simp [spl, flat]
    have hB0 : Blk w.drew g 26 R1 := by rw [hR]; exact HB.out.drew
    have hB4 := hB0.row (spl R1 (m * 2) (Builtin.zeroCells #[Value.string ⟨#[]⟩, Value.slice none 0 0] 1).toList)
    have hc1 := fun ty => HCL.out _ hB0 ty
    rw [Nat.add_sub_cancel_left] at hc1
    have HC1 := Lib.hid hc1
    have HB4 := Lib.hid hB4
    clear hR hB0 hB4 hc1 HAP HB2 HB3
    refine region_tail 6 (by kernel_rfl) (by kernel_rfl) ?_
    simp only [List.take_succ_cons, List.take_zero, List.drop_succ_cons, List.drop_zero]
    iterate 6 (refine wpStill_step (fun K hK => ?_); go_simp; (try go_bits); refine hK _ ?_; clear hK K)
    refine wpStill_nil ?_
    go_wp2_with (first | (refine wpList_clearK rfl (.tmp 31) 22 rfl (by rfl) (HC1.out _) ?_))
    go_ret
    refine ⟨_, rfl, ?_, ((Kept.refl (fun k => k = g) w).drew.setRow (fun _ => rfl) _).mono (fun k _ h => by subst h; rfl)⟩
    have h3 := HB4.out
    rw [HROW.out] at h3 ⊢
    have hm := HM.out
    have hL : (flat xcl (xs.take m ++ xs.drop (m + 1))).length = m * 2 := by rw [flat_length xcl_len]; simp; omega
    rw [hm, Nat.add_sub_cancel]
    exact h3.owns (base := base) hL (by rw [List.length_append, hL, List.length_append, zcEX]; have := HH.out; simp only [List.length_cons, List.length_nil]; omega) h6 (by omega) (by unfold maxLen; omega)
  · skip
    refine region_tail 6 (by kernel_rfl) (by kernel_rfl) ?_
    simp only [List.take_succ_cons, List.take_zero, List.drop_succ_cons, List.drop_zero]
    iterate 6 (refine wpStill_step (fun K hK => ?_); go_simp; (try go_bits); refine hK _ ?_; clear hK K)
    refine wpStill_nil ?_
    go_wp2_with (first | (at_builtin; go_loud (refine Lib.wpList_append_run _ rfl (.tmp 22) (.tmp 25) 22 22 rfl _ _ (by rfl) (by rfl) _ _ (HAP.out _ HB.out.drew ⟨g, (i + 1) * 2, none⟩ _ (.inr rfl) _) ?_)) | (refine wpList_clearK rfl (.tmp 31) 22 rfl (by rfl) (HCL.out _ HB2.out _) ?_))
    go_ret
    refine ⟨_, rfl, ?_, ((((Kept.refl (fun k => k = g) w).drew.setRow (fun _ => rfl) _).setRow (fun _ => rfl) _).mono (fun k _ h => by subst h; rfl))⟩
    have h3 := HB3.out
    rw [HROW.out] at h3 ⊢
    have hm := HM.out
    have hL : (flat xcl (xs.take i ++ xs.drop (i + 1))).length = m * 2 := by rw [flat_length xcl_len]; simp; omega
    rw [hm, Nat.add_sub_cancel]
    exact h3.owns (base := base) hL (by rw [List.length_append, hL, List.length_append, zcEX]; have := HH.out; simp only [List.length_cons, List.length_nil]; omega) h6 (by omega) (by unfold maxLen; omega)

end Go.Proofs.Ytoeohbihelfphaa
