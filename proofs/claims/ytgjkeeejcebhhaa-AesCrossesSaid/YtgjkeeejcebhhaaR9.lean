/-
  The walk of the law AesCrosses.
-/
import Derived.Test.YtgjkeeejcebhhaaR8
import Derived.Test.YtgjkeeejcebhhaaA13
import Derived.Deep.Upon
namespace Go.Proofs.Ytgjkeeejcebhhaa
open Go.RowKit
theorem run_push0 (w : World) (ty : TypeId) (x : Addr) (a : Option Addr) (c : Nat) : (Builtin.append_ #[28, 28] ty #[.slice (some x) 0 0, .slice a 0 c]).run Try.prog w = .ok (.slice (some x) 0 0) w := by
  obtain ⟨i0, hi, hz0, hz1, hz2⟩ := info_parts info5
  refine run_append_nothing w 28 28 ty 5 i0 Try.underlying28 hi (some x) 0 0 (Nat.le_refl _) _ ?_
  cases a with
  | none => exact Src.ofNil w Try.underlying28 c
  | some y => exact Src.ofSlice w Try.underlying28 y 0 c [] (by simp) (fun j u h => by simp at h) (fun u h => by simp at h)
theorem inc_iB (x : Byte) : (iB x + 1) % 256 = iB (x + 1#8) := by
  unfold iB; rw [BitVec.toNat_add]; simp
theorem wp_appendE {a : Act} {w : World} {o : Oper} {K : Act → World → Prop} {Q : Exit → Act → World → Prop} (s x : Operand)
    (ho : o.op = .call { callee := .builtin .append, args := #[s, x], argTypes := #[28, 28] }) (base g : Nat) (f : Nat → Byte) (hrow : Row w g 5 0 f) (hbg : base ≤ g) (hs : a.eval s = .slice (some ⟨g, 0, none⟩) 0 0)
    (ax : Option Addr) (m c : Nat) (h : Nat → Byte) (hx : a.eval x = .slice ax m c) (hc : BytesAt w ax m h) (h0 : ax = none → m = 0) (hn : m ≤ 140737488351232) (hbase : base ≤ w.heap.size)
    (hk : ∀ a' cap' w', OwnB w' base a' m cap' h → Kept (fun k => k = g) w w' → K (a.put o.dst (.slice a' m cap')) w') : o.wp Try.prog a w K Q := by
  rcases Nat.eq_zero_or_pos m with hm | hm
  · subst hm
    have hr := run_push0 w o.type ⟨g, 0, none⟩ ax c
    unfold Oper.wp execOp
    simp only [ho, resolve, invoke, builtin, Sem.run_bind, Sem.run_pure, Result.andThen_ok, List.map_toArray, List.map_cons, List.map_nil, hs, hx, hr]
    exact hk _ _ _ ((OwnB.new hrow hbg (by omega)).congr fun i hi => by omega) (Kept.refl _ w)
  · cases ax with
    | none => exact absurd (h0 rfl) (by omega)
    | some y =>
      have hz := wp_appendN (Q := Q) (K := fun a w => K a w) s x ho base (some ⟨g, 0, none⟩) 0 0 f hs (OwnB.new hrow hbg (by omega)) y m c h hx hc (by omega) (by omega) hbase (fun a' cap' w' h1 h2 => by
        rw [Nat.zero_add] at h1 ⊢
        exact hk a' cap' w' (h1.congr fun i _ => glue_zero _ h i) ⟨h2.kept.os, h2.kept.tape, h2.kept.output, h2.kept.size, fun k hk' hn => h2.kept.block k hk' (fun e => hn (some_eq e).symm)⟩)
      exact hz
theorem appendE {a : Act} {w : World} {ops : Array Oper} {rest : List Oper} {o : Oper} {Q : Exit → Act → World → Prop} (hgd : o.guard = none) (s x : Operand)
    (ho : o.op = .call { callee := .builtin .append, args := #[s, x], argTypes := #[28, 28] }) (base g : Nat) (f : Nat → Byte) (hrow : Row w g 5 0 f) (hbg : base ≤ g) (hs : a.eval s = .slice (some ⟨g, 0, none⟩) 0 0)
    (ax : Option Addr) (m c : Nat) (h : Nat → Byte) (hx : a.eval x = .slice ax m c) (hc : BytesAt w ax m h) (h0 : ax = none → m = 0) (hn : m ≤ 140737488351232) (hbase : base ≤ w.heap.size)
    (hk : ∀ a' cap' w', OwnB w' base a' m cap' h → Kept (fun k => k = g) w w' → wpList Try.prog ops Q rest (a.put o.dst (.slice a' m cap')) w') : wpList Try.prog ops Q (o :: rest) a w :=
  wpList_plain hgd fun _ hK => wp_appendE s x ho base g f hrow hbg hs ax m c h hx hc h0 hn hbase fun a' cap' w' h1 h2 => hK _ _ (hk a' cap' w' h1 h2)
attribute [local go_sem] xorB inc_iB
set_option maxRecDepth 100000 in
set_option maxHeartbeats 2000000 in
theorem crosses_from (key : Nat → Byte) (e s : Nat) (a : Option Addr) (len cap : Nat) (f : Nat → Byte) (w : World)
    (hb : BytesAt w a len f) (ha : a = none → len = 0) (hlc : len ≤ cap) (hcap : cap ≤ 140737488351232) :
    Calls Try.prog 5 #[.agg (Fs 16 key), .int .u64 e, .int .u64 s, .slice a len cap] w fun r w' => r = .returned (.bool true) ∧ Kept (fun _ => False) w w' := by
  go_enter Try.func5, Try.ntmps5
  have hkey : Row ((w.alloc (.cells (Fs 16 key) 22)).alloc (.cells #[] 5)) w.heap.size 22 16 key := (Row.new w 22 16 key).alloc _
  have hem : Row ((w.alloc (.cells (Fs 16 key) 22)).alloc (.cells #[] 5)) (w.heap.size + 1) 5 0 (fun _ => 0#8) := heap_alloc2_new w _ _
  have hK0 : Kept (fun _ => False) w ((w.alloc (.cells (Fs 16 key) 22)).alloc (.cells #[] 5)) := ((Kept.refl _ w).alloc _).alloc _
  go_wp2_with (refine appendE rfl (.tmp 15) (.tmp 16) rfl (w.heap.size + 1) (w.heap.size + 1) (fun _ => 0#8) hem (Nat.le_refl _) rfl a len cap f rfl (hb.kept hK0) ha (by omega) (by simp) ?_)
  intro am capm w1 hM hk1
  have h1 : Row w1 w.heap.size 22 16 key := hk1.at hkey (by omega)
  have hK1 : Kept (fun _ => False) w w1 := hK0.trans hk1 (fun i hi h => by omega)
  have hMb := hM.bytes
  clear hk1 hkey hem hK0
  by_cases hbig : 281474976710655 < e ∨ 281474976710655 < s
  · go_wp2_with (refine wpList_load_row rfl 22 (.tmp 4) rfl w.heap.size rfl 22 (Fs 16 key) (0, 0) _ h1 Try.underlying22 rfl (info22F _) ?_)
    refine (cross_bad key e s am len capm _ hbig).mono ?_
    rintro r w2 ⟨rfl, hk2⟩
    have h2 : Row w2 w.heap.size 22 16 key := hk2.at h1 (fun h => h)
    have hM2 := hM.kept hk2 (fun _ _ h => h)
    have hK2 : Kept (fun _ => False) w w2 := hK1.trans hk2 (fun _ _ h => h)
    clear hk2 h1 hM hK1 hMb
    go_wp2_with (refine wpList_load_row rfl 22 (.tmp 4) rfl w.heap.size rfl 22 (Fs 16 key) (0, 0) _ h2 Try.underlying22 rfl (info22F _) ?_)
    refine (crossR_bad key e s a len cap _ hbig).mono ?_
    rintro r w3 ⟨rfl, hk3⟩
    have hM3 := hM2.kept hk3 (fun _ _ h => h)
    have hK3 : Kept (fun _ => False) w w3 := hK2.trans hk3 (fun _ _ h => h)
    clear hk3 h2 hM2 hK2
    go_wp2_with fail
    refine (fixed_any _).mono ?_
    rintro r w4 ⟨rfl, hk4⟩
    have hM4 := hM3.kept hk4 (fun _ _ h => h)
    have hK4 : Kept (fun _ => False) w w4 := hK3.trans hk4 (fun _ _ h => h)
    clear hk4 hM3 hK3
    have s1 := conv_str (P := Try.prog) w4 28 9 5 none 0 0 f Try.underlying28 Try.underlying5 Try.underlying9 (.inl rfl) (fun _ => rfl)
    have s2 := conv_str (P := Try.prog) w4 28 9 5 am len capm f Try.underlying28 Try.underlying5 Try.underlying9 hM4.bytes hM4.empty
    have s3 := conv_str (P := Try.prog) w4 28 9 5 a len cap f Try.underlying28 Try.underlying5 Try.underlying9 (hb.kept hK4) ha
    go_wp2_with fail
    clear s1 s2 s3
    go_loopg [50] 0 (fun k i wr => k = 0 ∧ i = .int .i64 0 ∧ OwnB wr (w.heap.size + 1) am len capm f ∧ Kept (fun _ => False) w wr)
    case atStart => exact ⟨rfl, rfl, hM4, hK4⟩
    case round =>
      clear hM4 hK4
      obtain ⟨_, rfl, hM, hK⟩ := hrel
      have s1 := conv_str (P := Try.prog) wr 28 9 5 am len capm f Try.underlying28 Try.underlying5 Try.underlying9 hM.bytes hM.empty
      have s2 := conv_str (P := Try.prog) wr 28 9 5 a len cap f Try.underlying28 Try.underlying5 Try.underlying9 (hb.kept hK) ha
      go_wp2_with fail
      go_ret
      exact ⟨rfl, hK⟩
  · have he : e ≤ 281474976710655 := by omega
    have hs : s ≤ 281474976710655 := by omega
    clear hbig
    go_wp2_with (refine wpList_load_row rfl 22 (.tmp 4) rfl w.heap.size rfl 22 (Fs 16 key) (0, 0) _ h1 Try.underlying22 rfl (info22F _) ?_)
    refine (cross_any key e s am len capm f _ he hs hMb (by omega)).mono ?_
    rintro r w2 ⟨gc, rfl, hgc, hC, hk2⟩
    have h2 : Row w2 w.heap.size 22 16 key := hk2.at h1 (fun h => h)
    have hM2 := hM.kept hk2 (fun _ _ h => h)
    have hK2 : Kept (fun _ => False) w w2 := hK1.trans hk2 (fun _ _ h => h)
    have hgw : w.heap.size ≤ gc := by have := hK1.size; omega
    have hne : ∀ g, am = some ⟨g, 0, none⟩ → g < gc := fun g h => by
      rcases hM.at with ⟨h0, _⟩ | ⟨g', cur, h0, _, h3, _⟩
      · rw [h0] at h; cases h
      · rw [h0] at h; rw [← some_eq h]; have := lt_of_at h3; omega
    have Hne := Lib.hid hne
    clear hk2 h1 hM hK1 hMb hne hgc
    go_wp2_with (refine wpList_load_row rfl 22 (.tmp 4) rfl w.heap.size rfl 22 (Fs 16 key) (0, 0) _ h2 Try.underlying22 rfl (info22F _) ?_)
    refine (crossR_any key e s a len cap f _ he hs (hb.kept hK2) (by omega)).mono ?_
    rintro r w3 ⟨aw, capw, rfl, hW, hk3⟩
    have hM3 := hM2.kept hk3 (fun _ _ h => h)
    have hC3 : Row w3 gc 5 len (crossF key e s f) := hk3.at hC (fun h => h)
    have hK3 : Kept (fun _ => False) w w3 := hK2.trans hk3 (fun _ _ h => h)
    clear hk3 h2 hM2 hK2 hC
    go_wp2_with fail
    refine (fixed_any _).mono ?_
    rintro r w4 ⟨rfl, hk4⟩
    have hM4 := hM3.kept hk4 (fun _ _ h => h)
    have hW4 := hW.kept hk4 (fun _ _ h => h)
    have hC4 : Row w4 gc 5 len (crossF key e s f) := hk4.at hC3 (fun h => h)
    have hK4 : Kept (fun _ => False) w w4 := hK3.trans hk4 (fun _ _ h => h)
    clear hk4 hM3 hK3 hW hC3
    have s1 := conv_str (P := Try.prog) w4 28 9 5 (some ⟨gc, 0, none⟩) len len (crossF key e s f) Try.underlying28 Try.underlying5 Try.underlying9 hC4.bytes (fun h => by cases h)
    have s2 := conv_str (P := Try.prog) w4 28 9 5 aw len capw (crossF key e s f) Try.underlying28 Try.underlying5 Try.underlying9 hW4.bytes hW4.empty
    go_wp2_with fail
    clear s1 s2 hW4
    go_loopg [50] (len + 1) (fun k i wr => ∃ (m : Nat) (h : Nat → Byte), m + k = len + 1 ∧ m ≤ len ∧ i = .int .i64 (m : Int) ∧ Row wr gc 5 len h ∧ OwnB wr (w.heap.size + 1) am len capm f ∧ Kept (fun _ => False) w wr)
    case atStart => exact ⟨0, _, by omega, by omega, rfl, hC4, hM4, hK4⟩
    case round =>
      clear hC4 hM4 hK4
      obtain ⟨m, h, hm, hml, rfl, hC, hM, hK⟩ := hrel
      have Hm := Lib.hid hm
      clear hm
      by_cases hlm : m < len
      · have q : (m : Int) < len := by omega
        have ql : (len : Int) ≤ 140737488351232 := by omega
        have c1 := hC.cell (i := m) hlm
        have f1 := hC.free m
        go_wp2_with fail
        go_roundg (gk - 1)
        case measure => have := Hm.out; omega
        case rel =>
          have := Hm.out
          exact ⟨m + 1, _, by omega, by omega, by go_num, hC.set m _, hM.setOther Hne.out, hK.setNew (by simp; omega) _⟩
      · have Hml := Lib.hid (show m = len by omega)
        have s1 := conv_str (P := Try.prog) wr 28 9 5 am len capm f Try.underlying28 Try.underlying5 Try.underlying9 hM.bytes hM.empty
        have s2 := conv_str (P := Try.prog) wr 28 9 5 a len cap f Try.underlying28 Try.underlying5 Try.underlying9 (hb.kept hK) ha
        go_wp2_with fail
        go_ret
        exact ⟨rfl, hK⟩
theorem crosses_below (key : Nat → Byte) (e s : Int) (a : Option Addr) (len cap : Nat) (f : Nat → Byte) (w : World) (we : (Lit.int .u64 e).wf = true) (ws : (Lit.int .u64 s).wf = true)
    (hb : BytesAt w a len f) (ha : a = none → len = 0) (hlc : len ≤ cap) (hcap : cap ≤ 140737488351232) :
    Calls Try.prog 5 #[.agg (Fs 16 key), .int .u64 e, .int .u64 s, .slice a len cap] w fun r w' => r = .returned (.bool true) ∧ Below w.heap.size w w' := by
  have b1 := bounds_u64 we
  have b2 := bounds_u64 ws
  obtain ⟨E, rfl⟩ : ∃ E : Nat, e = (E : Int) := ⟨e.toNat, by omega⟩
  obtain ⟨S, rfl⟩ : ∃ S : Nat, s = (S : Int) := ⟨s.toNat, by omega⟩
  exact (crosses_from key E S a len cap f w hb ha hlc hcap).mono fun _ _ ⟨h, k⟩ => ⟨h, k.whole⟩
end Go.Proofs.Ytgjkeeejcebhhaa
