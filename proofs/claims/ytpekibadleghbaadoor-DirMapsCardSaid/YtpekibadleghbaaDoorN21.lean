/-
  The walk of the reference's Sum.
-/
import Derived.Test.YtpekibadleghbaaDoorN20
namespace Go.Proofs.YtpekibadleghbaaDoor
open Go.RowKit
set_option linter.unusedVariables false
set_option linter.unusedSimpArgs false
def KeysRef (w : World) : Prop := ∀ i, i < 64 → w.cell? ⟨0, i, none⟩ = some (W (kk i))
theorem KeysRef.kept {w w' : World} (h : KeysRef w) (k : Kept (fun _ => False) w w') : KeysRef w' := fun i hi => k.cell (h i hi)
/-- What stays while the reference reckons. -/
def Gd (w0 : World) (g n : Nat) (f : Nat → Byte) (w : World) : Prop := Kept (fun _ => False) w0 w ∧ Row w w0.heap.size 70 32 (fun _ => 0#8) ∧ BytesAt w (some ⟨g, 0, none⟩) n f
theorem Gd.alloc {w0 w : World} {g n : Nat} {f : Nat → Byte} (h : Gd w0 g n f w) (o : Obj) : Gd w0 g n f (w.alloc o) := ⟨h.1.alloc _, h.2.1.alloc _, h.2.2.kept ((Kept.refl _ w).alloc _)⟩
theorem Gd.drew {w0 w : World} {g n : Nat} {f : Nat → Byte} (h : Gd w0 g n f w) : Gd w0 g n f w.drew := ⟨h.1.drew, h.2.1, h.2.2⟩
theorem Gd.set {w0 w : World} {g n : Nat} {f : Nat → Byte} (h : Gd w0 g n f w) {p : Addr} (hp : w0.heap.size + 1 ≤ p.block) (hg : p.block ≠ g) (u : Value) : Gd w0 g n f (w.setCell p u) :=
  ⟨h.1.setNew (by omega) _, h.2.1.other (by omega) _, h.2.2.keptBut ((Kept.refl (fun k => k = p.block) w).setCell (fun _ => rfl) _) (fun gb o e => by
    simp only [Option.some.injEq, Addr.mk.injEq] at e; exact fun h => hg (h.symm.trans e.1.symm))⟩
theorem Gd.setRow {w0 w : World} {g n : Nat} {f : Nat → Byte} (h : Gd w0 g n f w) {k : Nat} (hp : w0.heap.size + 1 ≤ k) (hg : k ≠ g) (cs : Array Value) : Gd w0 g n f (w.setRow k cs) :=
  ⟨h.1.setRowNew (by omega) _, h.2.1.rowOther (by omega) _, h.2.2.keptBut ((Kept.refl (fun i => i = k) w).setRow (fun _ => rfl) _) (fun gb o e => by
    simp only [Option.some.injEq, Addr.mk.injEq] at e; exact fun h => hg (h.symm.trans e.1.symm))⟩
theorem Gd.size {w0 w : World} {g n : Nat} {f : Nat → Byte} (h : Gd w0 g n f w) : w0.heap.size + 1 ≤ w.heap.size := h.2.1.lt
theorem Gd.cell {w0 w : World} {g n : Nat} {f : Nat → Byte} (h : Gd w0 g n f w) {i : Nat} (hi : i < n) : w.cell? ⟨g, i, none⟩ = some (B (f i)) := by
  rcases h.2.2 with h0 | ⟨g', o', e, hx⟩
  · omega
  · simp only [Option.some.injEq, Addr.mk.injEq] at e
    obtain ⟨rfl, rfl, _⟩ := e
    have := hx i hi
    rwa [Nat.zero_add] at this
theorem madeWs (n : Nat) : madeCells #[.int .u32 0] n = Ws n fun _ => 0#32 := by
  unfold madeCells Ws
  apply Array.ext
  · simp
  · intro i h1 h2; simp [Nat.mod_one]; rfl
theorem make101 (w : World) : (Instr.makeSlice 101 (.int .i64 64) (.int .i64 64)).run Tryd.prog w = .ok (.slice (some ⟨w.heap.size, 0, none⟩) 64 64) (w.alloc (.cells (Ws 64 fun _ => 0#32) 23)) := by
  obtain ⟨i, hi, hz, hs, hb⟩ : ∃ i, Tryd.prog.info? 23 = some i ∧ i.zero = some (.int .u32 0) ∧ i.size = 1 ∧ i.bytes = 4 := by
    cases hi : Tryd.prog.info? 23 with
    | none => have : (Tryd.prog.info? 23).isSome = true := by kernel_rfl
              rw [hi] at this; cases this
    | some i =>
      have e : (Tryd.prog.info? 23).map (fun i => (i.zero, i.size, i.bytes)) = some (some (.int .u32 0), 1, 4) := by kernel_rfl
      rw [hi] at e
      simp only [Option.map_some, Option.some.injEq, Prod.mk.injEq] at e
      exact ⟨i, rfl, e.1, e.2.1, e.2.2⟩
  have := run_make (P := Tryd.prog) w 101 23 i (.int .u32 0) Tryd.underlying101 hi hz .i64 .i64 64 64 (by omega) (by omega) (by rw [hb]; omega) (by omega)
  rw [this, hs, Nat.mul_one]
  show Result.ok _ (w.alloc (.cells (madeCells #[.int .u32 0] 64) 23)) = _
  rw [madeWs]
  rfl
/-- The first n words are the schedule's; the others stay. -/
def Sp (u : Nat → Word) (b : Nat → Byte) (n : Nat) : Nat → Word := fun i => if i < n then S b i else u i
theorem Sp_next (u : Nat → Word) (b : Nat → Byte) (n : Nat) : updW (Sp u b n) n (S b n) = Sp u b (n + 1) := by
  funext i; unfold updW Sp
  by_cases h : i = n
  · rw [if_pos h, if_pos (by omega), h]
  · rw [if_neg h]
    by_cases h2 : i < n
    · rw [if_pos h2, if_pos (by omega)]
    · rw [if_neg h2, if_neg (by omega)]
theorem Sp_at (u : Nat → Word) (b : Nat → Byte) (n i : Nat) (h : i < n) : Sp u b n i = S b i := if_pos h
/-- A word's first j bytes. -/
def pw (b : Nat → Byte) (p : Nat) : Nat → Word
  | 0 => 0#32
  | j + 1 => pw b p j <<< 8 ||| zx (b (p + j))
theorem pw_4 (b : Nat → Byte) (p : Nat) : pw b p 4 = wordAt b p := by
  unfold wordAt
  show (((0#32 <<< 8 ||| zx (b (p + 0))) <<< 8 ||| zx (b (p + 1))) <<< 8 ||| zx (b (p + 2))) <<< 8 ||| zx (b (p + 3)) = _
  rw [BitVec.zero_shiftLeft, BitVec.zero_or]
  simp only [BitVec.shiftLeft_or_distrib, ← BitVec.shiftLeft_add]
  rfl
theorem upd_upd (u : Nat → Word) (n : Nat) (x y : Word) : updW (updW u n x) n y = updW u n y := by
  funext i; unfold updW
  by_cases h : i = n
  · rw [if_pos h, if_pos h]
  · rw [if_neg h, if_neg h, if_neg h]
/-- The words moved on by one, from the end down to j. -/
def Shf (v : Nat → Word) (j : Nat) : Nat → Word := fun i => if j < i then v (i - 1) else v i
theorem Shf_next (v : Nat → Word) (j : Nat) (h : 0 < j) : updW (Shf v j) j (Shf v j (j - 1)) = Shf v (j - 1) := by
  funext i; unfold updW Shf
  by_cases h1 : i = j
  · subst h1; rw [if_pos rfl, if_neg (by omega), if_pos (by omega)]
  · rw [if_neg h1]
    by_cases h2 : j < i
    · rw [if_pos h2, if_pos (by omega)]
    · rw [if_neg h2, if_neg (by omega)]
theorem Shf_rnd (v : Nat → Word) (k w : Word) : updW (updW (Shf v 0) 4 (Shf v 0 4 + t1 v k w)) 0 (t1 v k w + t2 v) = rnd v k w := by
  funext i
  unfold updW Shf
  match i with
  | 0 => rfl
  | 1 => rfl
  | 2 => rfl
  | 3 => rfl
  | 4 => rfl
  | j + 5 => rfl
theorem shl8W (x : Word) : iW x * (256 : Int) % (4294967296 : Int) = iW (x <<< 8) := shlW x 8
theorem notW2 (a : Word) : bits .xor .u32 (iW a) (4294967295 : Int) = iW (~~~ a) := by
  have e : (4294967295 : Int) = iW (BitVec.allOnes 32) := by decide
  rw [e, xorW]
  congr 1
  exact BitVec.xor_allOnes
theorem new94h (w : World) : RowW (w.alloc (.cells #[.int .u32 1779033703, .int .u32 3144134277, .int .u32 1013904242, .int .u32 2773480762, .int .u32 1359893119, .int .u32 2600822924, .int .u32 528734635, .int .u32 1541459225] 94)) w.heap.size 94 8 h0 := by
  unfold RowW; rw [Ws_h0]; exact heap_alloc_new w _
theorem W_zero : W 0#32 = .int .u32 0 := rfl
attribute [local go_sem] make101 xorW addW andW shr3 shr10 shl8W orB modB notW2
set_option maxRecDepth 100000 in
set_option maxHeartbeats 16000000 in
theorem refSum_any (a : Option Addr) (len cap : Nat) (f : Nat → Byte) (w : World) (hkey : KeysRef w) (hc : BytesAt w a len f) (hlen : len + 72 ≤ 140737488355328) :
    Calls Tryd.prog 53 #[.slice a len cap] w fun r w' => r = .returned (.agg (Fs 32 (dig f len))) ∧ Kept (fun _ => False) w w' := by
  go_enter Tryd.func53, Tryd.ntmps53
  go_upto_region 2 with fail
  generalize hw0 : World.alloc (World.alloc w _) _ = w1
  have hR : Row w1 w.heap.size 70 32 (fun _ => 0#8) := by rw [← hw0]; exact Row.alloc (t := 70) (n := 32) (f := fun _ => 0#8) (heap_alloc_new w _) _
  have hH : RowW w1 (w.heap.size + 1) 94 8 (F (padB f len) 0) := by
    rw [← hw0]
    have := new94h (w.alloc (.cells (Fs 32 fun _ => 0#8) 70))
    rw [size_alloc] at this
    exact this
  have hK : Kept (fun _ => False) w w1 := by rw [← hw0]; exact ((Kept.refl _ w).alloc _).alloc _
  have hc1 := hc.kept hK
  clear hw0
  go_wp2_with (first | ((with_reducible refine (refPadded_any _ _ _ _ _ hc1 hlen).mono ?_); rintro r w2 ⟨g, cp, rfl, hg1, hg2, hb2, hcp, hk2⟩))
  generalize hwx : World.alloc w2 _ = wx
  have hz1 := hH.lt
  have hz2 := hk2.size
  have hG : Gd w g (padLen len) (padB f len) wx := by
    rw [← hwx]
    exact Gd.alloc ⟨hK.trans hk2 (fun _ _ h => h), hk2.at hR (fun h => h), hb2⟩ _
  have hHx : RowW wx (w.heap.size + 1) 94 8 (F (padB f len) 0) := by rw [← hwx]; exact RowW.alloc (hk2.at hH (fun h => h)) _
  have hWx : RowW wx w2.heap.size 23 64 (fun _ => 0#32) := by rw [← hwx]; exact RowW.new w2 23 64 _
  generalize hgw : w2.heap.size = gw at *
  have q1 : w.heap.size + 2 ≤ gw := by omega
  have q2 : w.heap.size + 2 ≤ g := by omega
  have q3 : g < gw := hg2
  have hpl : padLen len = 64 * ((len + 8) / 64 + 1) := rfl
  have hp1 : padLen len % 64 = 0 := by omega
  have HPL := Lib.hid hp1
  have hp2 : padLen len ≤ 140737488355328 := by omega
  clear hwx hgw hpl hp1 hR hH hK hc1 hk2 hb2 hz1 hz2 hg1 hg2
  go_outline
  go_loopg [6] (padLen len / 64) (fun k s wr => ∃ (m : Nat) (u : Nat → Word), m + k = padLen len / 64 ∧ s = .int .i64 ((64 * m : Nat) : Int) ∧ RowW wr gw 23 64 u ∧ RowW wr (w.heap.size + 1) 94 8 (F (padB f len) m) ∧ Gd w g (padLen len) (padB f len) wr)
  case atStart => exact ⟨0, _, by omega, rfl, hWx, hHx, hG⟩
  case round =>
    clear hWx hHx hG
    obtain ⟨m, u, hm, rfl, hW, hH, hG⟩ := hrel
    obtain ⟨p, hp⟩ : ∃ p, p = 64 * m := ⟨_, rfl⟩
    rw [← hp]
    have hp3 : p ≤ padLen len := by omega
    have hp4 : p % 64 = 0 := by omega
    have hp5 : p < padLen len → p + 64 ≤ padLen len := by have := HPL.out; omega
    have Hp := Lib.hid hp
    have Hm := Lib.hid hm
    clear hp hm hp4
    by_cases hlt : p < padLen len
    · have hp5 := hp5 hlt
      have q4 : (p : Int) < padLen len := by omega
      obtain ⟨b, hb⟩ : ∃ b : Nat → Byte, b = fun i => padB f len (p + i) := ⟨_, rfl⟩
      have hbc : ∀ i, padB f len (p + i) = b i := fun i => by rw [hb]
      have HB := Lib.hid hbc
      have Hb := Lib.hid hb
      clear hb hbc
      go_upto_region 8 with fail
      go_loopg [7] 17 (fun k i wr => ∃ n : Nat, n + k = 17 ∧ n ≤ 16 ∧ i = .int .i64 (n : Int) ∧ RowW wr gw 23 64 (Sp u b n) ∧ RowW wr (w.heap.size + 1) 94 8 (F (padB f len) m) ∧ Gd w g (padLen len) (padB f len) wr)
      case atStart => exact ⟨0, by omega, by omega, rfl, hW.congr (fun i _ => by unfold Sp; rw [if_neg (by omega)]), hH, hG⟩
      case round =>
        clear hW hH hG
        obtain ⟨n, hn, hnl, rfl, hW, hH, hG⟩ := hrel
        have Hn := Lib.hid hn
        clear hn
        by_cases hlt : n < 16
        · have q5 : (n : Int) < 16 := by omega
          have q6 : (0 : Int) ≤ n := by omega
          have q7 : (n : Int) < 64 := by omega
          have cW := hW.cell (i := n) (by omega)
          have fW := hW.free n
          go_upto_region 12 with fail
          generalize hwy : World.setCell wr _ _ = wy
          have hW2 : RowW wy gw 23 64 (updW (Sp u b n) n (pw b (4 * n) 0)) := by rw [← hwy]; exact hW.set n 0#32
          have hH2 : RowW wy (w.heap.size + 1) 94 8 (F (padB f len) m) := by rw [← hwy]; exact hH.other (by simp; omega) _
          have hG2 : Gd w g (padLen len) (padB f len) wy := by rw [← hwy]; exact hG.set (by simp; omega) (by simp; omega) _
          clear hwy hW hH hG cW fW
          go_loopg [8] 5 (fun k i wr => ∃ j : Nat, j + k = 5 ∧ j ≤ 4 ∧ i = .int .i64 (j : Int) ∧ RowW wr gw 23 64 (updW (Sp u b n) n (pw b (4 * n) j)) ∧ RowW wr (w.heap.size + 1) 94 8 (F (padB f len) m) ∧ Gd w g (padLen len) (padB f len) wr)
          case atStart => exact ⟨0, by omega, by omega, rfl, hW2, hH2, hG2⟩
          case round =>
            clear hW2 hH2 hG2
            obtain ⟨j, hj, hjl, rfl, hW, hH, hG⟩ := hrel
            have Hj := Lib.hid hj
            clear hj
            by_cases hlt4 : j < 4
            · have q8 : (j : Int) < 4 := by omega
              have q9 : (0 : Int) ≤ j := by omega
              have r1 : (p : Int) + 4 * (n : Int) + (j : Int) < padLen len := by omega
              have r2 : (0 : Int) ≤ (p : Int) + 4 * (n : Int) + (j : Int) := by omega
              have r3 : ((p : Int) + 4 * (n : Int) + (j : Int)).toNat = p + 4 * n + j := by omega
              have cW := hW.cell (i := n) (by omega)
              rw [updW_same] at cW
              have fW := hW.free n
              have cb := hG.cell (i := p + 4 * n + j) (by omega)
              rw [show p + 4 * n + j = p + (4 * n + j) by omega, HB.out, show p + (4 * n + j) = p + 4 * n + j by omega] at cb
              have hS0 : pw b (4 * n) (j + 1) = pw b (4 * n) j <<< 8 ||| zx (b (4 * n + j)) := rfl
              have hS := Lib.hid hS0
              clear hS0
              generalize pw b (4 * n) j = x at *
              generalize b (4 * n + j) = y at *
              go_upto_region 14 with fail
              refine region_tail 19 (by kernel_rfl) (by kernel_rfl) ?_
              simp only [List.take_succ_cons, List.take_zero, List.drop_succ_cons, List.drop_zero]
              iterate 19 (refine wpStill_step (fun K hK => ?_); go_simp; (try go_bits); refine hK _ ?_; clear hK K)
              refine wpStill_nil ?_
              go_wp2_with fail
              go_roundg (gk - 1)
              case measure => have := Hj.out; omega
              case rel =>
                have := Hj.out
                refine ⟨j + 1, by omega, by omega, by go_num, ?_, RowW.other (w := World.drew _) hH (by simp; omega) _, Gd.set (hG.drew) (by simp; omega) (by simp; omega) _⟩
                rw [hS.out, ← upd_upd (Sp u b n) n x]
                exact RowW.set (w := World.drew _) hW n _
            · obtain rfl : j = 4 := by omega
              rw [pw_4, ← S_low b n hlt, Sp_next] at hW
              clear hlt4 Hj hjl
              have q8 : ¬ ((4 : Nat) : Int) < 4 := by omega
              go_wp2_with fail
              go_roundg (16 - n)
              case measure => have := Hn.out; omega
              case rel =>
                have := Hn.out
                exact ⟨n + 1, by omega, by omega, by go_num, hW, hH, hG⟩
        · obtain rfl : n = 16 := by omega
          clear hnl hlt Hn
          go_upto_region 16 with fail
          go_loopg [9] 49 (fun k i wr => ∃ n : Nat, n + k = 65 ∧ 16 ≤ n ∧ n ≤ 64 ∧ i = .int .i64 (n : Int) ∧ RowW wr gw 23 64 (Sp u b n) ∧ RowW wr (w.heap.size + 1) 94 8 (F (padB f len) m) ∧ Gd w g (padLen len) (padB f len) wr)
          case atStart => exact ⟨16, by omega, by omega, by omega, rfl, hW, hH, hG⟩
          case round =>
            clear hW hH hG
            obtain ⟨n, hn, hn1, hnl, rfl, hW, hH, hG⟩ := hrel
            have Hn := Lib.hid hn
            clear hn
            by_cases hlt : n < 64
            · have q5 : (n : Int) < 64 := by omega
              have q6 : (0 : Int) ≤ n := by omega
              have a15 : (0 : Int) ≤ (n : Int) - 15 := by omega
              have b15 : (n : Int) - 15 < 64 := by omega
              have t15 : ((n : Int) - 15).toNat = n - 15 := by omega
              have a2 : (0 : Int) ≤ (n : Int) - 2 := by omega
              have b2 : (n : Int) - 2 < 64 := by omega
              have t2 : ((n : Int) - 2).toNat = n - 2 := by omega
              have a16 : (0 : Int) ≤ (n : Int) - 16 := by omega
              have b16 : (n : Int) - 16 < 64 := by omega
              have t16 : ((n : Int) - 16).toNat = n - 16 := by omega
              have a7 : (0 : Int) ≤ (n : Int) - 7 := by omega
              have b7 : (n : Int) - 7 < 64 := by omega
              have t7 : ((n : Int) - 7).toNat = n - 7 := by omega
              have d15 : (15 : Int) ≤ n := by omega
              have d2 : (2 : Int) ≤ n := by omega
              have d16 : (16 : Int) ≤ n := by omega
              have d7 : (7 : Int) ≤ n := by omega
              have cn := hW.cell (i := n) (by omega)
              have c15 := hW.cell (i := n - 15) (by omega)
              have c2 := hW.cell (i := n - 2) (by omega)
              have c16 := hW.cell (i := n - 16) (by omega)
              have c7 := hW.cell (i := n - 7) (by omega)
              rw [Sp_at _ _ _ _ (by omega)] at c15 c2 c16 c7
              have fW := hW.free n
              have hS := Lib.hid (S_high b n (by omega))
              generalize S b (n - 15) = x15 at *
              generalize S b (n - 2) = x2 at *
              generalize S b (n - 16) = x16 at *
              generalize S b (n - 7) = x7 at *
              clear hn1
              go_upto_region 20 with fail
              refine region_tail 32 (by kernel_rfl) (by kernel_rfl) ?_
              simp only [List.take_succ_cons, List.take_zero, List.drop_succ_cons, List.drop_zero]
              iterate 8 (refine wpStill_step (fun K hK => ?_); go_simp; (try go_bits); refine hK _ ?_; clear hK K)
              (refine wpStill_step (fun K hK => ?_); go_simp; refine ⟨_, right_7 _ _, hK _ ?_⟩; clear hK K)
              iterate 1 (refine wpStill_step (fun K hK => ?_); go_simp; (try go_bits); refine hK _ ?_; clear hK K)
              (refine wpStill_step (fun K hK => ?_); go_simp; refine ⟨_, right_18 _ _, hK _ ?_⟩; clear hK K)
              iterate 12 (refine wpStill_step (fun K hK => ?_); go_simp; (try go_bits); refine hK _ ?_; clear hK K)
              (refine wpStill_step (fun K hK => ?_); go_simp; refine ⟨_, right_17 _ _, hK _ ?_⟩; clear hK K)
              iterate 1 (refine wpStill_step (fun K hK => ?_); go_simp; (try go_bits); refine hK _ ?_; clear hK K)
              (refine wpStill_step (fun K hK => ?_); go_simp; refine ⟨_, right_19 _ _, hK _ ?_⟩; clear hK K)
              iterate 6 (refine wpStill_step (fun K hK => ?_); go_simp; (try go_bits); refine hK _ ?_; clear hK K)
              refine wpStill_nil ?_
              go_wp2_with fail
              go_roundg (gk - 1)
              case measure => have := Hn.out; omega
              case rel =>
                have := Hn.out
                refine ⟨n + 1, by omega, by omega, by omega, by go_num, ?_, RowW.other (w := World.drew _) hH (by simp; omega) _, Gd.set (hG.drew) (by simp; omega) (by simp; omega) _⟩
                rw [← Sp_next, hS.out]
                exact RowW.set (w := World.drew _) hW n _
            · obtain rfl : n = 64 := by omega
              have hW := hW.congr (f' := S b) (fun i hi => Sp_at u b 64 i hi)
              clear hnl hlt Hn hn1
              go_upto_region 22 with (first
                | (refine wpList_load_row rfl 94 (.tmp 3) rfl (w.heap.size + 1) rfl 94 (Ws 8 (F (padB f len) m)) (0, 0) _ hH Tryd.underlying94 rfl (info94 _) ?_)
                | (refine wpList_store_row rfl 94 (.tmp 12) (.tmp 106) rfl wr.heap.size (Ws 8 (F (padB f len) m)) rfl rfl 94 _ (new94 wr) (info94 _) (by rw [Ws_size, Ws_size]) (Ws_one _ _) ?_))
              generalize hwy : World.setRow (World.alloc wr _) _ _ = wy
              have hzz := hW.lt
              have hV : RowW wy wr.heap.size 94 8 (Rn b (F (padB f len) m) 0) := by rw [← hwy]; exact RowW.row (new94 wr)
              have hW2 : RowW wy gw 23 64 (S b) := by rw [← hwy]; exact RowW.rowOther (RowW.alloc hW _) (by omega) _
              have hH2 : RowW wy (w.heap.size + 1) 94 8 (F (padB f len) m) := by rw [← hwy]; exact RowW.rowOther (RowW.alloc hH _) (by omega) _
              have hG2 : Gd w g (padLen len) (padB f len) wy := by rw [← hwy]; exact (hG.alloc _).setRow (by omega) (by omega) _
              generalize hgv : wr.heap.size = gv at *
              clear hwy hgv hW hH hG
              go_upto_region 23 with fail
              go_loopg [13] 65 (fun k i wr => ∃ n : Nat, n + k = 65 ∧ n ≤ 64 ∧ i = .int .i64 (n : Int) ∧ RowW wr gv 94 8 (Rn b (F (padB f len) m) n) ∧ RowW wr gw 23 64 (S b) ∧ RowW wr (w.heap.size + 1) 94 8 (F (padB f len) m) ∧ Gd w g (padLen len) (padB f len) wr)
              case atStart => exact ⟨0, by omega, by omega, rfl, hV, hW2, hH2, hG2⟩
              case round =>
                clear hV hW2 hH2 hG2
                obtain ⟨n, hn, hnl, rfl, hV, hW, hH, hG⟩ := hrel
                have Hn := Lib.hid hn
                clear hn
                by_cases hlt : n < 64
                · have q5 : (n : Int) < 64 := by omega
                  have q6 : (0 : Int) ≤ n := by omega
                  have kn := hkey.kept hG.1 n hlt
                  have sn := hW.cell (i := n) hlt
                  have hR0 : rnd (Rn b (F (padB f len) m) n) (kk n) (S b n) = Rn b (F (padB f len) m) (n + 1) := rfl
                  have HR := Lib.hid hR0
                  clear hR0
                  generalize Rn b (F (padB f len) m) n = v at *
                  have c0 := hV.cell (i := 0) (by omega)
                  have c1 := hV.cell (i := 1) (by omega)
                  have c2 := hV.cell (i := 2) (by omega)
                  have c4 := hV.cell (i := 4) (by omega)
                  have c5 := hV.cell (i := 5) (by omega)
                  have c6 := hV.cell (i := 6) (by omega)
                  have c7 := hV.cell (i := 7) (by omega)
                  go_upto_region 25 with fail
                  refine region_still (by kernel_rfl) (by kernel_rfl) ?_
                  iterate 4 (refine wpStill_step (fun K hK => ?_); go_simp; (try go_bits); refine hK _ ?_; clear hK K)
                  (refine wpStill_step (fun K hK => ?_); go_simp; refine ⟨_, right_6 _ _, hK _ ?_⟩; clear hK K)
                  iterate 2 (refine wpStill_step (fun K hK => ?_); go_simp; (try go_bits); refine hK _ ?_; clear hK K)
                  (refine wpStill_step (fun K hK => ?_); go_simp; refine ⟨_, right_11 _ _, hK _ ?_⟩; clear hK K)
                  iterate 3 (refine wpStill_step (fun K hK => ?_); go_simp; (try go_bits); refine hK _ ?_; clear hK K)
                  (refine wpStill_step (fun K hK => ?_); go_simp; refine ⟨_, right_25 _ _, hK _ ?_⟩; clear hK K)
                  iterate 25 (refine wpStill_step (fun K hK => ?_); go_simp; (try go_bits); refine hK _ ?_; clear hK K)
                  refine wpStill_nil ?_
                  go_upto_region 26 with fail
                  clear c4 c5 c6 c7 kn sn
                  refine region_still (by kernel_rfl) (by kernel_rfl) ?_
                  iterate 2 (refine wpStill_step (fun K hK => ?_); go_simp; (try go_bits); refine hK _ ?_; clear hK K)
                  (refine wpStill_step (fun K hK => ?_); go_simp; refine ⟨_, right_2 _ _, hK _ ?_⟩; clear hK K)
                  iterate 2 (refine wpStill_step (fun K hK => ?_); go_simp; (try go_bits); refine hK _ ?_; clear hK K)
                  (refine wpStill_step (fun K hK => ?_); go_simp; refine ⟨_, right_13 _ _, hK _ ?_⟩; clear hK K)
                  iterate 3 (refine wpStill_step (fun K hK => ?_); go_simp; (try go_bits); refine hK _ ?_; clear hK K)
                  (refine wpStill_step (fun K hK => ?_); go_simp; refine ⟨_, right_22 _ _, hK _ ?_⟩; clear hK K)
                  iterate 20 (refine wpStill_step (fun K hK => ?_); go_simp; (try go_bits); refine hK _ ?_; clear hK K)
                  refine wpStill_nil ?_
                  clear c0 c1 c2
                  go_upto_region 28 with fail
                  have hV0 : RowW wr.drew.drew gv 94 8 (Shf v 7) := hV.congr (fun i hi => by unfold Shf; rw [if_neg (by omega)])
                  have hW0 : RowW wr.drew.drew gw 23 64 (S b) := hW
                  have hH0 : RowW wr.drew.drew (w.heap.size + 1) 94 8 (F (padB f len) m) := hH
                  have hG0 : Gd w g (padLen len) (padB f len) wr.drew.drew := hG.drew.drew
                  clear hV hW hH hG
                  go_loopg [16] 7 (fun k i wr => k ≤ 7 ∧ i = .int .i64 (k : Int) ∧ RowW wr gv 94 8 (Shf v k) ∧ RowW wr gw 23 64 (S b) ∧ RowW wr (w.heap.size + 1) 94 8 (F (padB f len) m) ∧ Gd w g (padLen len) (padB f len) wr)
                  case atStart => exact ⟨by omega, rfl, hV0, hW0, hH0, hG0⟩
                  case round =>
                    clear hV0 hW0 hH0 hG0
                    obtain ⟨hj, rfl, hV, hW, hH, hG⟩ := hrel
                    obtain ⟨j, hjk⟩ : ∃ j, j = gk := ⟨_, rfl⟩
                    rw [← hjk] at hj hV ⊢
                    have Hj := Lib.hid hjk
                    clear hjk
                    by_cases hj0 : 0 < j
                    · have s1 : (0 : Int) < j := by omega
                      have s2 : (1 : Int) ≤ j := by omega
                      have s3 : (j : Int) - 1 < 8 := by omega
                      have s4 : (0 : Int) ≤ (j : Int) - 1 := by omega
                      have s5 : ((j : Int) - 1).toNat = j - 1 := by omega
                      have s6 : (j : Int) < 8 := by omega
                      have cj := hV.cell (i := j) (by omega)
                      have ci := hV.cell (i := j - 1) (by omega)
                      have fj := hV.free j
                      go_wp2_with fail
                      go_roundg (j - 1)
                      case measure => have := Hj.out; omega
                      case rel =>
                        refine ⟨by omega, by congr 1; omega, ?_, hW.other (by simp; omega) _, hH.other (by simp; omega) _, hG.set (by simp; omega) (by simp; omega) _⟩
                        rw [← Shf_next v j hj0]
                        exact hV.set j _
                    · obtain rfl : j = 0 := by omega
                      clear hj0 Hj hj
                      have s1 : ¬ ((0 : Nat) : Int) > 0 := by omega
                      have c4 := hV.cell (i := 4) (by omega)
                      have c0 := hV.cell (i := 0) (by omega)
                      have f4 := hV.free 4
                      have f0 := hV.free 0
                      go_wp2_with fail
                      go_roundg (64 - n)
                      case measure => have := Hn.out; omega
                      case rel =>
                        have := Hn.out
                        refine ⟨n + 1, by omega, by omega, by go_num, ?_, (hW.other (by simp; omega) _).other (by simp; omega) _, (hH.other (by simp; omega) _).other (by simp; omega) _, (hG.set (by simp; omega) (by simp; omega) _).set (by simp; omega) (by simp; omega) _⟩
                        have hx := (hV.set 4 (Shf v 0 4 + t1 v (kk n) (S b n))).set 0 (t1 v (kk n) (S b n) + t2 v)
                        rw [Shf_rnd, HR.out] at hx
                        exact hx
                · obtain rfl : n = 64 := by omega
                  clear hnl hlt Hn
                  go_upto_region 34 with fail
                  obtain ⟨v, hv⟩ : ∃ v, v = Rn b (F (padB f len) m) 64 := ⟨_, rfl⟩
                  rw [← hv] at hV
                  have HV := Lib.hid hv
                  clear hv
                  obtain ⟨h, hh⟩ : ∃ h, h = F (padB f len) m := ⟨_, rfl⟩
                  rw [← hh] at hH
                  have HH := Lib.hid hh
                  clear hh
                  go_loopg [17] 9 (fun k i wr => ∃ n : Nat, n + k = 9 ∧ n ≤ 8 ∧ i = .int .i64 (n : Int) ∧ RowW wr gv 94 8 v ∧ RowW wr gw 23 64 (S b) ∧ RowW wr (w.heap.size + 1) 94 8 (Sm h v n) ∧ Gd w g (padLen len) (padB f len) wr)
                  case atStart => exact ⟨0, by omega, by omega, rfl, hV, hW, hH.congr (fun i _ => by unfold Sm; rw [if_neg (by omega)]), hG⟩
                  case round =>
                    clear hV hW hH hG
                    obtain ⟨n, hn, hnl, rfl, hV, hW, hH, hG⟩ := hrel
                    have Hn := Lib.hid hn
                    clear hn
                    by_cases hlt : n < 8
                    · have q5 : (n : Int) < 8 := by omega
                      have q6 : (0 : Int) ≤ n := by omega
                      have d3 := hH.cell (i := n) hlt
                      have d12 := hV.cell (i := n) hlt
                      have f3 := hH.free n
                      have hs : Sm h v n n = h n := by unfold Sm; rw [if_neg (by omega)]
                      rw [hs] at d3
                      clear hs
                      go_upto_region 36 with fail
                      refine region_tail 8 (by kernel_rfl) (by kernel_rfl) ?_
                      simp only [List.take_succ_cons, List.take_zero, List.drop_succ_cons, List.drop_zero]
                      iterate 8 (refine wpStill_step (fun K hK => ?_); go_simp; (try go_bits); refine hK _ ?_; clear hK K)
                      refine wpStill_nil ?_
                      go_wp2_with fail
                      go_roundg (gk - 1)
                      case measure => have := Hn.out; omega
                      case rel =>
                        have := Hn.out
                        refine ⟨n + 1, by omega, by omega, by go_num, RowW.other (w := World.drew _) hV (by simp; omega) _, RowW.other (w := World.drew _) hW (by simp; omega) _, ?_, Gd.set hG.drew (by simp) (by simp; omega) _⟩
                        rw [← Sm_next]
                        exact RowW.set (w := World.drew _) hH n _
                    · obtain rfl : n = 8 := by omega
                      clear hnl hlt Hn
                      have hH := hH.congr (f' := F (padB f len) (m + 1)) (fun i hi => by
                        unfold Sm
                        rw [if_pos hi, HV.out, HH.out, Hb.out, Hp.out]
                        rfl)
                      go_wp2_with fail
                      go_roundg (padLen len / 64 - (m + 1))
                      case measure => have := Hm.out; have := Hp.out; omega
                      case rel =>
                        have := Hm.out
                        have := Hp.out
                        exact ⟨m + 1, S b, by omega, by congr 1; omega, hW, hH, hG⟩
    · have q4 : ¬ (p : Int) < padLen len := by omega
      obtain rfl : m = padLen len / 64 := by have := Hp.out; have := HPL.out; omega
      obtain ⟨V, hv⟩ : ∃ V, V = F (padB f len) (padLen len / 64) := ⟨_, rfl⟩
      rw [← hv] at hH
      have HV := Lib.hid hv
      clear hv Hp Hm HPL hW hp5
      go_upto_region 39 with fail
      generalize hwo : World.alloc wr _ = wo
      have hO : Row wo wr.heap.size 70 32 (fun _ => 0#8) := by rw [← hwo]; exact heap_alloc_new wr _
      have hG0 : Gd w g (padLen len) (padB f len) wo := by rw [← hwo]; exact hG.alloc _
      have hH0 : RowW wo (w.heap.size + 1) 94 8 V := by rw [← hwo]; exact hH.alloc _
      have hgo : g < wr.heap.size := by
        have := block_lt_of_cell (hG.cell (i := 0) (by unfold padLen; omega))
        exact this
      have hho := hH.lt
      have hzz := hG.size
      generalize hgoo : wr.heap.size = go at *
      clear hwo hgoo hG hH
      go_loopg [19] 32 (fun k i wr => ∃ j : Nat, j + k = 32 ∧ j ≤ 32 ∧ i = .int .i64 (j : Int) ∧ Row wr go 70 32 (fT (bytesOf V) j) ∧ RowW wr (w.heap.size + 1) 94 8 V ∧ Gd w g (padLen len) (padB f len) wr)
      case atStart => exact ⟨0, by omega, by omega, rfl, hO, hH0, hG0⟩
      case round =>
        clear hO hH0 hG0
        obtain ⟨j, hj, hj2, rfl, hO, hH, hG⟩ := hrel
        have Hj := Lib.hid hj
        clear hj
        by_cases hlt : j < 32
        · have q5 : (j : Int) < 32 := by omega
          have q6 : (0 : Int) ≤ j := by omega
          have p1 : (j : Int) / 4 < 8 := by omega
          have p2 : (0 : Int) ≤ (j : Int) / 4 := by omega
          have p3 : ((j : Int) / 4).toNat = j / 4 := by omega
          have p4 : (0 : Int) ≤ (j : Int) % 4 := by omega
          have p5 : (j : Int) % 4 < 4 := by omega
          have p6 : (0 : Int) ≤ 24 - (j : Int) % 4 * 8 := by omega
          have p7 : (24 - (j : Int) % 4 * 8).toNat = 24 - 8 * (j % 4) := by omega
          have p8 : 24 - (j : Int) % 4 * 8 < 32 := by omega
          have cw := hH.cell (i := j / 4) (by omega)
          have fo := hO.free j
          have co := hO.cell (i := j) hlt
          go_wp2_with fail
          go_roundg (gk - 1)
          case measure => have := Hj.out; omega
          case rel =>
            have := Hj.out
            refine ⟨j + 1, by omega, by omega, by go_num, ?_, ?_, ?_⟩
            · rw [← fT_upd, bytesOf_iB V j]; exact hO.set j _
            · exact hH.other (by simp; omega) _
            · exact hG.set (by simp; omega) (by simp; omega) _
        · obtain rfl : j = 32 := by omega
          have hO := hO.congr (f' := bytesOf V) fun i hi => by unfold fT; rw [if_pos hi]
          have hR := hG.2.1
          go_wp2_with (first | (refine wpList_load_row rfl 70 (.tmp 18) rfl go rfl 70 (Fs 32 (bytesOf V)) (0, 0) _ hO Tryd.underlying70 rfl (info70F _) ?_) | (refine wpList_store_row rfl 70 (.tmp 2) (.tmp 224) rfl w.heap.size (Fs 32 (bytesOf V)) rfl rfl 70 _ hR (info70F _) (by rw [Fs_size, Fs_size]) (Fs_one _ _) ?_))
          have hR2 : Row (wr.setRow w.heap.size (Fs 32 (bytesOf V))) w.heap.size 70 32 (bytesOf V) := Row.row hR
          refine bodyPost_ret (v := .agg (Fs 32 (bytesOf V))) (results_cell_row rfl _ _ w.heap.size 70 _ (0, 0) _ rfl hR2 Tryd.underlying70 rfl (info70F _)) rfl ⟨?_, hG.1.setRowNew (Nat.le_refl _) _⟩
          rw [HV.out]
          rfl
end Go.Proofs.YtpekibadleghbaaDoor
