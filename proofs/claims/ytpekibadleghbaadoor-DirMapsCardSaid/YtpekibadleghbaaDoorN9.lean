/-
  The walks of mac.padded and mac.Mac.
-/
import Derived.Test.YtpekibadleghbaaDoorN8
namespace Go.Proofs.YtpekibadleghbaaDoor
open Go.RowKit
set_option linter.unusedVariables false
set_option linter.unusedSimpArgs false
theorem madeFs (n : Nat) : madeCells #[.int .u8 0] n = Fs n fun _ => 0#8 := by
  unfold madeCells Fs
  apply Array.ext
  · simp
  · intro i h1 h2; simp [Nat.mod_one]; rfl
theorem make37 (n : Nat) (h : n ≤ 140737488355328) (w : World) : (Instr.makeSlice 37 (.int .i64 n) (.int .i64 n)).run Tryd.prog w = .ok (.slice (some ⟨w.heap.size, 0, none⟩) n n) (w.alloc (.cells (Fs n fun _ => 0#8) 5)) := by
  obtain ⟨i, hi, hz, hs, hb⟩ : ∃ i, Tryd.prog.info? 5 = some i ∧ i.zero = some (.int .u8 0) ∧ i.size = 1 ∧ i.bytes = 1 := by
    cases hi : Tryd.prog.info? 5 with
    | none => have : (Tryd.prog.info? 5).isSome = true := by kernel_rfl
              rw [hi] at this; cases this
    | some i =>
      have e : (Tryd.prog.info? 5).map (fun i => (i.zero, i.size, i.bytes)) = some (some (.int .u8 0), 1, 1) := by kernel_rfl
      rw [hi] at e
      simp only [Option.map_some, Option.some.injEq, Prod.mk.injEq] at e
      exact ⟨i, rfl, e.1, e.2.1, e.2.2⟩
  have := run_make (P := Tryd.prog) w 37 5 i (.int .u8 0) Tryd.underlying37 hi hz .i64 .i64 n n (by omega) (by omega) (by rw [hb]; omega) (by omega)
  rw [this, hs, Nat.mul_one]
  simp only [Int.toNat_natCast]
  show Result.ok _ (w.alloc (.cells (madeCells #[.int .u8 0] n) 5)) = _
  rw [madeFs]
theorem make64 (w : World) : (Instr.makeSlice 37 (.int .i64 64) (.int .i64 64)).run Tryd.prog w = .ok (.slice (some ⟨w.heap.size, 0, none⟩) 64 64) (w.alloc (.cells (Fs 64 fun _ => 0#8) 5)) := make37 64 (by omega) w
def cut (n : Nat) (f : Nat → Byte) : Nat → Byte := fun i => if i < n then f i else 0#8
theorem run_copyB (w : World) (g : Nat) (hg : Row w g 5 64 (fun _ => 0#8)) (b : Option Addr) (m c : Nat) (h : Nat → Byte) (hc : BytesAt w b m h) (hm : m ≤ 64) (ty : TypeId) :
    ∃ w', (Builtin.copy_ #[37, 37] ty #[.slice (some ⟨g, 0, none⟩) 64 64, .slice b m c]).run Tryd.prog w = .ok (goInt m) w' ∧ Row w' g 5 64 (cut m h) ∧ Kept (fun k => k = g) w w' := by
  by_cases h0 : m = 0
  · subst h0
    exact ⟨w, run_copyK_none w 37 37 ty 5 _ b 64 64 0 c Tryd.underlying37 (by kernel_rfl) (by decide), hg.congr fun i _ => by unfold cut; rw [if_neg (by omega)], Kept.refl _ w⟩
  · obtain ⟨g2, o2, rfl, hx⟩ := hc.resolve_left h0
    have hmin : Nat.min m 64 = m := Nat.min_eq_left hm
    have hB : Blk w g 5 (Fs 64 fun _ => 0#8).toList := hg
    have hr := run_copyK (P := Tryd.prog) w 37 37 ty 5 1 g 0 64 64 ⟨g2, o2, none⟩ m c _ 5 ((List.range m).map fun i => B (h i)) Tryd.underlying37 (by kernel_rfl) hB (by simp [hmin])
      (fun j v hj => by
        have hj2 : j < m := by have := (List.getElem?_eq_some_iff.1 hj).1; simpa using this
        have hadd : (⟨g2, o2, none⟩ : Addr).add j = ⟨g2, o2 + j, none⟩ := by unfold Addr.add; split <;> simp_all
        rw [hadd, hx j hj2, ← hj]; simp [hj2]) (by simp [Fs_size]; omega) (by simp [Value.oneCell'])
    rw [hmin] at hr
    have e : (spl (Fs 64 fun _ => 0#8).toList 0 ((List.range m).map fun i => B (h i))).toArray = Fs 64 (cut m h) := by
      unfold spl Fs cut
      apply Array.ext'
      apply List.ext_getElem?
      intro i
      simp only [List.take_zero, List.nil_append, List.length_map, List.length_range, Nat.zero_add]
      by_cases hi : i < m
      · rw [List.getElem?_append_left (by simpa using hi)]
        simp [hi, show i < 64 by omega]
      · rw [List.getElem?_append_right (by simp; omega), List.getElem?_drop]
        simp only [List.length_map, List.length_range, show m + (i - m) = i by omega]
        by_cases h64 : i < 64
        · simp [hi, h64]
        · simp [h64]
    rw [e] at hr
    exact ⟨_, hr, Row.row hg, (Kept.refl (fun k => k = g) w).setRow (fun _ => rfl) _⟩
attribute [local go_sem] make64 xorB
set_option maxRecDepth 100000 in
set_option maxHeartbeats 8000000 in
theorem padded_any (a : Option Addr) (len cap : Nat) (f : Nat → Byte) (x : Byte) (w : World) (hc : BytesAt w a len f) (hlen : len ≤ 64) :
    Calls Tryd.prog 50 #[.slice a len cap, B x] w fun r w' => ∃ g, r = .returned (.slice (some ⟨g, 0, none⟩) 64 64) ∧ w.heap.size ≤ g ∧ Row w' g 5 64 (keyPad f len x) ∧ Kept (fun _ => False) w w' := by
  have q1 : ¬ (64 : Int) < len := by omega
  go_enter Tryd.func50, Tryd.ntmps50
  go_upto_region 5 with fail
  have hR : Row (w.alloc (.cells (Fs 64 fun _ => 0#8) 5)) w.heap.size 5 64 (fun _ => 0#8) := Row.new w 5 64 _
  have hcA : BytesAt (w.alloc (.cells (Fs 64 fun _ => 0#8) 5)) a len f := hc.kept ((Kept.refl _ w).alloc _)
  obtain ⟨w2, hr, hR2, hk2⟩ := run_copyB _ _ hR a len cap f hcA hlen 3
  have hK2 : Kept (fun _ => False) w w2 := ((Kept.refl (fun _ => False) w).alloc _).trans (hk2.mono (S' := fun k => k = w.heap.size) (fun _ _ h => h)) (fun i hi h => by omega)
  generalize hg : w.heap.size = g at *
  have hgw := hg
  clear hg hR hcA
  go_upto_region 8 with (refine wpList_copyK rfl (.tmp 15) (.tmp 16) 37 37 rfl rfl rfl hr ?_)
  clear hr hk2
  go_loopg [20] 64 (fun k i wr => ∃ j : Nat, j + k = 64 ∧ j ≤ 64 ∧ i = .int .i64 (j : Int) ∧ Row wr g 5 64 (fun i => if i < j then cut len f i ^^^ x else cut len f i) ∧ Kept (fun _ => False) w wr)
  case atStart => exact ⟨0, by omega, by omega, rfl, hR2.congr fun i _ => by rw [if_neg (by omega)], hK2⟩
  case round =>
    clear hR2 hK2
    obtain ⟨j, hj, hj2, rfl, hR, hK⟩ := hrel
    have Hj := Lib.hid hj
    clear hj
    by_cases hlt : j < 64
    · have q5 : (j : Int) < 64 := by omega
      have q6 : (0 : Int) ≤ j := by omega
      have co := hR.cell (i := j) hlt
      have fo := hR.free j
      rw [if_neg (by omega)] at co
      go_wp2_with fail
      go_roundg (gk - 1)
      case measure => have := Hj.out; omega
      case rel =>
        have := Hj.out
        refine ⟨j + 1, by omega, by omega, by go_num, ?_, hK.setNew (by simp; omega) _⟩
        refine (hR.set j _).congr fun i hi => ?_
        unfold upd
        by_cases h1 : i = j
        · rw [if_pos h1, if_pos (by omega), h1]
        · rw [if_neg h1]
          by_cases h2 : i < j
          · show (if i < j then cut len f i ^^^ x else cut len f i) = _
            rw [if_pos h2, if_pos (by omega)]
          · show (if i < j then cut len f i ^^^ x else cut len f i) = _
            rw [if_neg h2, if_neg (by omega)]
    · obtain rfl : j = 64 := by omega
      go_wp2_with fail
      go_ret
      exact ⟨g, rfl, by omega, hR.congr fun i hi => by rw [if_pos hi]; rfl, hK⟩
end Go.Proofs.YtpekibadleghbaaDoor
