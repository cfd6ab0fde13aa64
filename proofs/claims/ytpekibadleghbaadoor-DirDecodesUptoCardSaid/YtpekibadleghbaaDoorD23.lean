/-
  The walk of the law DirDecodes.
-/
import Derived.Test.YtpekibadleghbaaDoorD22
namespace Go.Proofs.YtpekibadleghbaaDoor
open Go.RowKit
set_option linter.unusedVariables false
set_option linter.unusedSimpArgs false
theorem glue_none (f h : Nat → Byte) (i : Nat) : glue 0 f h i = h i := by unfold glue; rw [if_neg (by omega), Nat.sub_zero]
theorem run_push0D (w : World) (ty : TypeId) (x : Addr) (a : Option Addr) (c : Nat) : (Builtin.append_ #[37, 37] ty #[.slice (some x) 0 0, .slice a 0 c]).run Tryd.prog w = .ok (.slice (some x) 0 0) w := by
  obtain ⟨i0, hi, hz0, hz1, hz2⟩ := info_parts info5
  refine run_append_nothing w 37 37 ty 5 i0 Tryd.underlying37 hi (some x) 0 0 (Nat.le_refl _) _ ?_
  cases a with
  | none => exact Src.ofNil w Tryd.underlying37 c
  | some y => exact Src.ofSlice w Tryd.underlying37 y 0 c [] (by simp) (fun j u h => by simp at h) (fun u h => by simp at h)
theorem wp_appendE {a : Act} {w : World} {o : Oper} {K : Act → World → Prop} {Q : Exit → Act → World → Prop} (s x : Operand)
    (ho : o.op = .call { callee := .builtin .append, args := #[s, x], argTypes := #[37, 37] }) (base g : Nat) (f : Nat → Byte) (hrow : Row w g 5 0 f) (hbg : base ≤ g) (hs : a.eval s = .slice (some ⟨g, 0, none⟩) 0 0)
    (ax : Option Addr) (m c : Nat) (h : Nat → Byte) (hx : a.eval x = .slice ax m c) (hc : BytesAt w ax m h) (h0 : ax = none → m = 0) (hn : m ≤ 140737488351232) (hbase : base ≤ w.heap.size)
    (hk : ∀ a' cap' w', OwnB w' base a' m cap' h → Kept (fun k => k = g) w w' → K (a.put o.dst (.slice a' m cap')) w') : o.wp Tryd.prog a w K Q := by
  rcases Nat.eq_zero_or_pos m with hm | hm
  · subst hm
    have hr := run_push0D w o.type ⟨g, 0, none⟩ ax c
    unfold Oper.wp execOp
    simp only [ho, resolve, invoke, builtin, Sem.run_bind, Sem.run_pure, Result.andThen_ok, List.map_toArray, List.map_cons, List.map_nil, hs, hx, hr]
    exact hk _ _ _ ((OwnB.new hrow hbg (by omega)).congr fun i hi => by omega) (Kept.refl _ w)
  · cases ax with
    | none => exact absurd (h0 rfl) (by omega)
    | some y =>
      have hz := wp_appendN (Q := Q) (K := fun a w => K a w) s x ho base (some ⟨g, 0, none⟩) 0 0 f hs (OwnB.new hrow hbg (by omega)) y m c h hx hc (by omega) (by omega) hbase (fun a' cap' w' h1 h2 => by
        rw [Nat.zero_add] at h1 ⊢
        exact hk a' cap' w' (h1.congr fun i _ => glue_none _ h i) ⟨h2.kept.os, h2.kept.tape, h2.kept.output, h2.kept.size, fun k hk' hn => h2.kept.block k hk' (fun e => hn (some_eq e).symm)⟩)
      exact hz
theorem appendE {a : Act} {w : World} {ops : Array Oper} {rest : List Oper} {o : Oper} {Q : Exit → Act → World → Prop} (hgd : o.guard = none) (s x : Operand)
    (ho : o.op = .call { callee := .builtin .append, args := #[s, x], argTypes := #[37, 37] }) (base g : Nat) (f : Nat → Byte) (hrow : Row w g 5 0 f) (hbg : base ≤ g) (hs : a.eval s = .slice (some ⟨g, 0, none⟩) 0 0)
    (ax : Option Addr) (m c : Nat) (h : Nat → Byte) (hx : a.eval x = .slice ax m c) (hc : BytesAt w ax m h) (h0 : ax = none → m = 0) (hn : m ≤ 140737488351232) (hbase : base ≤ w.heap.size)
    (hk : ∀ a' cap' w', OwnB w' base a' m cap' h → Kept (fun k => k = g) w w' → wpList Tryd.prog ops Q rest (a.put o.dst (.slice a' m cap')) w') : wpList Tryd.prog ops Q (o :: rest) a w :=
  wpList_plain hgd fun _ hK => wp_appendE s x ho base g f hrow hbg hs ax m c h hx hc h0 hn hbase fun a' cap' w' h1 h2 => hK _ _ (hk a' cap' w' h1 h2)
theorem parse_par (f : Nat → Byte) (n : Nat) : ∀ k, Par f n (parse f n k).1 (parse f n k).2
  | 0 => .nil
  | k + 1 => by
    unfold parse
    split
    · rename_i h
      exact .snoc (parse_par f n k) h
    · exact parse_par f n k
theorem decR_cases (salt f : Nat → Byte) (n : Nat) : (∃ L, decR salt f n = (L, 0) ∧ rightB salt (nthE L) L.length = true ∧ encL L L.length = (List.range n).map f ∧ L.length ≤ n) ∨ decR salt f n = ([], 12) := by
  have hp := parse_par f n n
  unfold decR
  split
  · rename_i h
    obtain ⟨h1, h2⟩ := h
    rw [h1] at hp
    exact .inl ⟨_, rfl, h2, hp.bytes, by have := hp.len; omega⟩
  · exact .inr rfl
theorem OwnB.caps {w : World} {base n cap : Nat} {a : Option Addr} {f : Nat → Byte} (h : OwnB w base a n cap f) : n ≤ cap ∧ cap ≤ 9223372036854775807 := by
  rcases h.2 with ⟨h1, h2⟩ | ⟨g, cap', cur, hv, hb, hg, h3, h4, _⟩
  · simp only [Value.slice.injEq] at h1
    omega
  · simp only [Value.slice.injEq] at hv
    obtain ⟨_, _, rfl⟩ := hv
    unfold maxLen at h4
    omega
set_option maxRecDepth 100000 in
set_option maxHeartbeats 16000000 in
theorem dirDecodes_any (salt f : Nat → Byte) (a : Option Addr) (n cap : Nat) (w : World) (hk : KeysAt w) (hr : KeysRef w) (h : BytesAt w a n f) (h0 : a = none → n = 0) (hnc : n ≤ cap) (hcap : cap ≤ 9223372036854775807) (hn : n ≤ 1048576) :
    Calls Tryd.prog 7 #[.agg (Fs 16 salt), .slice a n cap] w fun e w' => e = .returned (.bool true) ∧ Kept (fun _ => False) w w' := by
  have HCS := Lib.hid (decR_cases salt f n)
  obtain ⟨rn, hrn⟩ : ∃ F, F = (decR salt f n).1.length := ⟨_, rfl⟩
  obtain ⟨rf, hrf⟩ : ∃ F, F = nthE (decR salt f n).1 := ⟨_, rfl⟩
  obtain ⟨re, hre⟩ : ∃ F, F = (decR salt f n).2 := ⟨_, rfl⟩
  obtain ⟨st, hst⟩ : ∃ F, F = strOf n f := ⟨_, rfl⟩
  have hrn2 : rn ≤ n := by
    rcases HCS.out with ⟨L, e, _, _, hl⟩ | e <;> rw [hrn, e] <;> simp only [List.length_nil] <;> omega
  have hre2 : re = 0 ∨ re = 12 := by
    rcases HCS.out with ⟨L, e, _, _, hl⟩ | e <;> rw [hre, e] <;> simp
  have C22 := Lib.hid (show ∀ W ad c, KeysAt W → BytesAt W ad n f → n ≤ c → c ≤ 9223372036854775807 → Calls Tryd.prog 22 #[.agg (Fs 16 salt), .slice ad n c] W (fun r w' => ∃ ad c, r = .returned (.tuple #[.slice ad rn c, .int .i64 re]) ∧ ListE w' ad rn rf ∧ Kept (fun _ => False) W w') by
    rw [hrn, hrf, hre]; exact fun W ad c hk h h1 h2 => (decode_any salt f ad n c W hk h h1 h2 hn).mono fun _ _ h => h.out)
  have C23 := Lib.hid (show ∀ W ad c, KeysRef W → BytesAt W ad n f → n ≤ c → c ≤ 9223372036854775807 → Calls Tryd.prog 23 #[.agg (Fs 16 salt), .slice ad n c] W (fun r w' => ∃ ad c, r = .returned (.tuple #[.slice ad rn c, .int .i64 re]) ∧ ListE w' ad rn rf ∧ Kept (fun _ => False) W w') by
    rw [hrn, hrf, hre]; exact fun W ad c hk h h1 h2 => (refDecode_any salt f ad n c W hk h h1 h2 hn).mono fun _ _ h => h.out)
  have C20 := Lib.hid (show ∀ W ad c, KeysAt W → ListE W ad rn rf → Calls Tryd.prog 20 #[.agg (Fs 16 salt), .slice ad rn c] W (fun r w' => ∃ ad m c ef e2, r = .returned (.tuple #[.slice ad m c, .int .i64 e2]) ∧ BytesAt w' ad m ef ∧ (ad = none → m = 0) ∧ (re = 0 → e2 = 0 ∧ strOf m ef = st) ∧ Kept (fun _ => False) W w') by
    intro W ad c hkw hl
    rw [hrn, hrf] at hl
    rw [hrn]
    have hsz : ∀ i, i < (decR salt f n).1.length → (nthE (decR salt f n).1 i).nm.size ≤ 140737488351232 := by
      rcases HCS.out with ⟨L, e, hr2, _, hl2⟩ | e
      · rw [e]; exact right_szs hr2
      · rw [e]; intro i hi; simp at hi
    refine (encode_any salt ad c (decR salt f n).1 W hkw hl (by omega) hsz).mono fun r w' hp => ?_
    obtain ⟨ad2, c2, rfl, hb, hb0, k⟩ := hp.out
    refine ⟨ad2, _, c2, _, _, rfl, hb, hb0, fun h12 => ?_, k⟩
    rcases HCS.out with ⟨L, e, hr2, he, hl2⟩ | e
    · rw [e]
      have e3 : encR salt L = (encL L L.length, 0) := by unfold encR; rw [if_pos hr2]
      simp only [e3]
      refine ⟨trivial, ?_⟩
      rw [hst, he, List.length_map, List.length_range]
      exact strOf_congr fun i hi => by simp [hi]
    · rw [hre, e] at h12; simp at h12)
  have HST := Lib.hid hst
  have H := Lib.hid h
  have H0 := Lib.hid h0
  have HKA := Lib.hid hk
  have HKR := Lib.hid hr
  have H12 := Lib.hid hre2
  clear hrn hrf hre hst h h0 hk hr hre2 HCS
  go_enter Tryd.func7, Tryd.ntmps7
  go_upto_region 1 with fail
  have hS : Row (w.alloc (.cells (Fs 16 salt) 22)) w.heap.size 22 16 salt := Row.new w 22 16 salt
  have hK0 : Kept (fun _ => False) w (w.alloc (.cells (Fs 16 salt) 22)) := (Kept.refl _ w).alloc _
  generalize hw0 : w.alloc (.cells (Fs 16 salt) 22) = w0 at *
  clear hw0
  have hem : Row (w0.alloc (.cells #[] 5)) w0.heap.size 5 0 (fun _ => 0#8) := heap_alloc_new w0 _
  go_upto_region 2 with (first | (refine appendE rfl (.tmp 12) (.tmp 13) rfl w0.heap.size w0.heap.size (fun _ => 0#8) hem (Nat.le_refl _) rfl a n cap f rfl (H.out.kept (hK0.alloc _)) H0.out (by omega) (by rw [size_alloc]; omega) ?_))
  intro a1 c1 w1 hM k1
  have hQ : Kept (fun _ => False) w w1 := (hK0.alloc _).trans k1 (fun i hi h => by have := hK0.size; omega)
  have hS1 : Row w1 w.heap.size 22 16 salt := k1.at (((Kept.refl (fun _ => False) w0).alloc _).at hS (fun h => h)) (fun h => by have := hS.lt; omega)
  have HM := Lib.hid hM.bytes
  have HM0 := Lib.hid hM.empty
  obtain ⟨hc1, hc2⟩ := hM.caps
  have hS := hS1
  clear k1 hM hem hK0 hS1
  replace HKA := Lib.hid (HKA.out.kept hQ)
  replace HKR := Lib.hid (HKR.out.kept hQ)
  replace H := Lib.hid (H.out.kept hQ)
  go_wp2_with (first | (refine load_row_g rfl 22 (.tmp 2) rfl w.heap.size rfl 22 (Fs 16 salt) (0, 0) _ hS Tryd.underlying22 rfl (info22F _) ?_))
  refine (C22.out w1 a1 c1 HKA.out HM.out hc1 hc2).mono ?_
  rintro r w2 ⟨ad22, c22, rfl, hl22, k⟩
  replace hQ := hQ.trans k (fun _ _ h => h)
  replace hS : Row w2 w.heap.size 22 16 salt := k.at hS (fun h => h)
  replace HKA := Lib.hid (HKA.out.kept k)
  replace HKR := Lib.hid (HKR.out.kept k)
  replace H := Lib.hid (H.out.kept k)
  replace HM := Lib.hid (HM.out.kept k)
  clear k
  have HL22 := Lib.hid hl22
  clear hl22
  go_wp2_with (first | (refine load_row_g rfl 22 (.tmp 2) rfl w.heap.size rfl 22 (Fs 16 salt) (0, 0) _ hS Tryd.underlying22 rfl (info22F _) ?_))
  refine (C23.out w2 a cap HKR.out H.out hnc hcap).mono ?_
  rintro r w3 ⟨ad23, c23, rfl, hl23, k⟩
  replace hQ := hQ.trans k (fun _ _ h => h)
  replace hS : Row w3 w.heap.size 22 16 salt := k.at hS (fun h => h)
  replace HKA := Lib.hid (HKA.out.kept k)
  replace HKR := Lib.hid (HKR.out.kept k)
  replace H := Lib.hid (H.out.kept k)
  replace HM := Lib.hid (HM.out.kept k)
  replace HL22 := Lib.hid (HL22.out.kept k)
  clear k
  have HL23 := Lib.hid hl23
  clear hl23
  have hcv1 := conv_str w3 37 9 5 a1 n c1 f Tryd.underlying37 Tryd.underlying5 Tryd.underlying9 HM.out HM0.out
  have hcv2 := conv_str w3 37 9 5 a n cap f Tryd.underlying37 Tryd.underlying5 Tryd.underlying9 H.out H0.out
  clear hcv1 hcv2
  go_wp2_with (first | (refine load_row_g rfl 22 (.tmp 2) rfl w.heap.size rfl 22 (Fs 16 salt) (0, 0) _ hS Tryd.underlying22 rfl (info22F _) ?_))
  refine (dirFixed_any w3 HKA.out).mono ?_
  rintro r w4 ⟨rfl, k⟩
  replace hQ := hQ.trans k (fun _ _ h => h)
  replace hS : Row w4 w.heap.size 22 16 salt := k.at hS (fun h => h)
  replace HKA := Lib.hid (HKA.out.kept k)
  replace HKR := Lib.hid (HKR.out.kept k)
  replace H := Lib.hid (H.out.kept k)
  replace HM := Lib.hid (HM.out.kept k)
  replace HL22 := Lib.hid (HL22.out.kept k)
  replace HL23 := Lib.hid (HL23.out.kept k)
  clear k
  go_wp2_with (first | (refine load_row_g rfl 22 (.tmp 2) rfl w.heap.size rfl 22 (Fs 16 salt) (0, 0) _ hS Tryd.underlying22 rfl (info22F _) ?_))
  refine (same_any ad22 ad23 rn c22 c23 rf w4 HL22.out HL23.out (by omega)).mono ?_
  rintro r w5 ⟨rfl, k⟩
  replace hQ := hQ.trans k (fun _ _ h => h)
  replace hS : Row w5 w.heap.size 22 16 salt := k.at hS (fun h => h)
  replace HKA := Lib.hid (HKA.out.kept k)
  replace HKR := Lib.hid (HKR.out.kept k)
  replace H := Lib.hid (H.out.kept k)
  replace HM := Lib.hid (HM.out.kept k)
  replace HL22 := Lib.hid (HL22.out.kept k)
  replace HL23 := Lib.hid (HL23.out.kept k)
  clear k
  have hcv1 := conv_str w5 37 9 5 a1 n c1 f Tryd.underlying37 Tryd.underlying5 Tryd.underlying9 HM.out HM0.out
  have hcv2 := conv_str w5 37 9 5 a n cap f Tryd.underlying37 Tryd.underlying5 Tryd.underlying9 H.out H0.out
  rw [← HST.out] at hcv1 hcv2
  go_upto_region 6 with (first | (refine load_row_g rfl 22 (.tmp 2) rfl w.heap.size rfl 22 (Fs 16 salt) (0, 0) _ hS Tryd.underlying22 rfl (info22F _) ?_))
  clear hcv1 hcv2
  obtain ⟨z0, z1, z2, z3, z4, z5, z6, z7, z8, z9, z10, z11, z12, z13, z14, z15⟩ := row_cells hS
  go_wp2_with (first | (refine load_row_g rfl 22 (.tmp 2) rfl w.heap.size rfl 22 (Fs 16 salt) (0, 0) _ hS Tryd.underlying22 rfl (info22F _) ?_))
  refine (C20.out w5 ad22 c22 HKA.out HL22.out).mono ?_
  rintro r w6 ⟨ad20, m, c20, ef, e2, rfl, hb, hb0, h12, k⟩
  clear z0 z1 z2 z3 z4 z5 z6 z7 z8 z9 z10 z11 z12 z13 z14 z15
  replace hQ := hQ.trans k (fun _ _ h => h)
  replace hS : Row w6 w.heap.size 22 16 salt := k.at hS (fun h => h)
  replace HKA := Lib.hid (HKA.out.kept k)
  replace HKR := Lib.hid (HKR.out.kept k)
  replace H := Lib.hid (H.out.kept k)
  replace HM := Lib.hid (HM.out.kept k)
  replace HL22 := Lib.hid (HL22.out.kept k)
  replace HL23 := Lib.hid (HL23.out.kept k)
  clear k
  have hcv3 := conv_str w6 37 9 5 ad20 m c20 ef Tryd.underlying37 Tryd.underlying5 Tryd.underlying9 hb hb0
  have hcv2 := conv_str w6 37 9 5 a n cap f Tryd.underlying37 Tryd.underlying5 Tryd.underlying9 H.out H0.out
  rw [← HST.out] at hcv2
  rcases H12.out with rfl | rfl
  · obtain ⟨rfl, h13⟩ := h12 rfl
    rw [h13] at hcv3
    clear h13 hb hb0
    go_wp2_with fail
    go_ret
    exact ⟨rfl, hQ⟩
  · clear h12 hb hb0
    go_wp2_with fail
    go_ret
    exact ⟨rfl, hQ⟩
theorem dirDecodes_below (salt : Nat → Byte) (a : Option Addr) (n cap : Nat) (f : Nat → Byte) (w : World) (h : BytesAt w a n f) (h0 : a = none → n = 0) (hnc : n ≤ cap) (hcap : cap ≤ 1048576) (hk : KeysRef w ∧ KeysAt w) :
    Calls Tryd.prog 7 #[.agg (Fs 16 salt), .slice a n cap] w fun e w' => e = .returned (.bool true) ∧ Below w.heap.size w w' :=
  (dirDecodes_any salt f a n cap w hk.2 hk.1 h h0 hnc (by omega) (by omega)).mono fun _ _ ⟨h, k⟩ => ⟨h, k.os, k.tape, k.output, k.size, fun i hi => k.block i hi (fun h => h)⟩
end Go.Proofs.YtpekibadleghbaaDoor
