/-
  The keys' words, and the walk of aes.made.
-/
import Derived.Test.YtgjkeeejcebhhaaA3
namespace Go.Proofs.Ytgjkeeejcebhhaa
open Go.RowKit
def tword (W : Nat → Byte) (i : Nat) (r : Byte) (k : Nat) : Byte :=
  if i % 4 = 0 then (if k = 0 then sbox (W (4 * (i - 1) + 1)).toNat ^^^ r else if k = 1 then sbox (W (4 * (i - 1) + 2)).toNat else if k = 2 then sbox (W (4 * (i - 1) + 3)).toNat else sbox (W (4 * (i - 1))).toNat)
  else W (4 * (i - 1) + k)
def partW (W : Nat → Byte) (i : Nat) (r : Byte) (n : Nat) : Nat → Byte := fun j => if 4 * i ≤ j ∧ j < 4 * i + n then W (j - 16) ^^^ tword W i r (j - 4 * i) else W j
def nextR (i : Nat) (r : Byte) : Byte := if i % 4 = 0 then twice r else r
/-- The bytes of the keys, and the next constant, ahead of word n + 4. -/
def ks (key : Nat → Byte) : Nat → (Nat → Byte) × Byte
  | 0 => (fun j => if j < 16 then key j else 0, 1)
  | n + 1 => (partW (ks key n).1 (n + 4) (ks key n).2 4, nextR (n + 4) (ks key n).2)
/-- The cells of a cipher: the box, the keys' bytes. -/
def cf (W : Nat → Byte) : Nat → Byte := fun i => if i < 256 then sbox i else W (i - 256)
def k0 (key : Nat → Byte) (n : Nat) : Nat → Byte := fun j => if j < n then key j else 0
theorem cf_hi (W : Nat → Byte) (j : Nat) : cf W (256 + j) = W j := by unfold cf; rw [if_neg (by omega), Nat.add_sub_cancel_left]
theorem cf_lo (W : Nat → Byte) (j : Nat) (h : j < 256) : cf W j = sbox j := by unfold cf; rw [if_pos h]
theorem cf_upd (W : Nat → Byte) (j : Nat) (v : Byte) : upd (cf W) (256 + j) v = cf (upd W j v) := by
  funext i; unfold upd cf
  by_cases h : i = 256 + j
  · subst h; rw [if_pos rfl, if_neg (by omega), Nat.add_sub_cancel_left]; simp
  · rw [if_neg h]
    by_cases h2 : i < 256
    · rw [if_pos h2, if_pos h2]
    · rw [if_neg h2, if_neg h2]; exact (if_neg (by omega)).symm
theorem k0_upd (key : Nat → Byte) (n : Nat) : upd (k0 key n) n (key n) = k0 key (n + 1) := by
  funext i; unfold upd k0
  by_cases h : i = n
  · subst h; simp
  · rw [if_neg h]
    by_cases h2 : i < n
    · rw [if_pos h2, if_pos (by omega)]
    · rw [if_neg h2, if_neg (by omega)]
theorem partW_upd (W : Nat → Byte) (i : Nat) (r : Byte) (n : Nat) (h : 4 ≤ i) :
    upd (partW W i r n) (4 * i + n) (W (4 * (i - 4) + n) ^^^ tword W i r n) = partW W i r (n + 1) := by
  funext j; unfold upd partW
  by_cases e : j = 4 * i + n
  · subst e
    rw [if_pos rfl, if_pos (by omega), show 4 * i + n - 16 = 4 * (i - 4) + n by omega, Nat.add_sub_cancel_left]
  · rw [if_neg e]
    by_cases h2 : 4 * i ≤ j ∧ j < 4 * i + n
    · rw [if_pos h2, if_pos (by omega)]
    · rw [if_neg h2, if_neg (by omega)]
theorem partW_old (W : Nat → Byte) (i : Nat) (r : Byte) (n j : Nat) (h : j < 4 * i) : partW W i r n j = W j := by unfold partW; rw [if_neg (by omega)]
theorem partW_zero (W : Nat → Byte) (i : Nat) (r : Byte) : partW W i r 0 = W := by funext j; unfold partW; rw [if_neg (by omega)]
theorem tword_n (W : Nat → Byte) {n : Nat} (R : Byte) (k : Nat) (h : ¬ n % 4 = 0) : tword W n R k = W (4 * (n - 1) + k) := by unfold tword; rw [if_neg h]
theorem tword_a (W : Nat → Byte) {n : Nat} (R : Byte) (h : n % 4 = 0) : tword W n R 0 = sbox (W (4 * (n - 1) + 1)).toNat ^^^ R := by unfold tword; rw [if_pos h]; rfl
theorem tword_b (W : Nat → Byte) {n : Nat} (R : Byte) (h : n % 4 = 0) : tword W n R 1 = sbox (W (4 * (n - 1) + 2)).toNat := by unfold tword; rw [if_pos h]; rfl
theorem tword_c (W : Nat → Byte) {n : Nat} (R : Byte) (h : n % 4 = 0) : tword W n R 2 = sbox (W (4 * (n - 1) + 3)).toNat := by unfold tword; rw [if_pos h]; rfl
theorem tword_d (W : Nat → Byte) {n : Nat} (R : Byte) (h : n % 4 = 0) : tword W n R 3 = sbox (W (4 * (n - 1))).toNat := by unfold tword; rw [if_pos h]; rfl
theorem zero49 (w : World) : (zeroValue 49).run Try.prog w = .ok (.agg (Fs 432 fun _ => 0#8)) w := by kernel_rfl
theorem fold49 : Array.foldl (fun (cs : Array Value) (x : Value × Nat) => cs.setIfInBounds x.snd x.fst) (Fs 432 fun _ => 0#8) (Fs 256 sbox).zipIdx 0 256 = Fs 432 (cf fun _ => 0#8) := by kernel_rfl
attribute [local go_sem] xorB zero49 fold49 Fs_size
set_option maxRecDepth 100000 in
set_option maxHeartbeats 2000000 in
theorem made_any (key : Nat → Byte) (w : World) :
    Calls Try.prog 12 #[.agg (Fs 16 key)] w fun e w' => ∃ g, e = .returned (.pointer (some ⟨g, 0, none⟩)) ∧ w.heap.size ≤ g ∧ Row w' g 49 432 (cf (ks key 40).1) ∧ Kept (fun _ => False) w w' := by
  go_enter Try.func12, Try.ntmps12
  go_wp2_with fail
  refine (boxes_any _).mono ?_
  rintro e w1 ⟨rfl, hk1⟩
  have hkey : Row w1 w.heap.size 22 16 key := hk1.at (heap_alloc_new w _) (fun h => h)
  have hz := hk1.size
  rw [size_alloc] at hz
  have hk1' : Kept (fun _ => False) w w1 := ((Kept.refl _ w).alloc _).trans hk1 (fun _ _ h => h)
  clear hk1
  go_wp2_with fail
  obtain ⟨cb, hcb⟩ : ∃ cb, cb = w1.heap.size := ⟨_, rfl⟩
  go_loopg [12] 16 (fun k i wr => ∃ n : Nat, n + k = 16 ∧ i = .int .i64 n ∧ Row wr w1.heap.size 49 432 (cf (k0 key n)) ∧ Row wr w.heap.size 22 16 key ∧ Kept (fun _ => False) w wr)
  case atStart =>
    refine ⟨0, rfl, rfl, ?_, hkey.alloc _, hk1'.alloc _⟩
    exact (Row.new w1 49 432 _).congr fun i _ => by simp [cf, k0]
  case round =>
    obtain ⟨n, hn, rfl, hc, hke, hkept⟩ := hrel
    have Hn := Lib.hid hn
    have hn' : n ≤ 16 := by omega
    clear hn hkey
    by_cases hlt : n < 16
    · have q0 : 0 ≤ (n : Int) / 4 := by omega
      have q1 : (n : Int) / 4 < 44 := by omega
      have q2 : 0 ≤ (n : Int) % 4 := by omega
      have q3 : (n : Int) % 4 < 4 := by omega
      have q4 : 0 ≤ (n : Int) := by omega
      have q5 : (n : Int) < 16 := by omega
      have c1 := hke.cell (i := n) hlt
      have c2 := hc.cell (i := 256 + n) (by omega)
      have c3 := hc.free (256 + n)
      have e : 256 + n = 256 + n / 4 * 4 + n % 4 := by omega
      rw [e] at c2 c3
      have E := Lib.hid e
      clear e
      go_wp2
      refine region_tail 12 (by kernel_rfl) (by kernel_rfl) ?_
      simp only [List.take_succ_cons, List.take_zero, List.drop_succ_cons, List.drop_zero]
      repeat (refine wpStill_step (fun K hK => ?_); go_simp; (try go_bits); refine hK _ ?_; clear hK K)
      refine wpStill_nil ?_
      go_wp2
      go_roundg (gk - 1)
      case measure => have := Hn.out; omega
      case rel =>
        have := Hn.out
        refine ⟨n + 1, by omega, by go_num, ?_, hke.other (by simp; omega) _, (hkept.setNew (by simp; omega) _).drew⟩
        rw [← E.out]
        exact (show Row wr.drew _ _ _ _ from hc).set (256 + n) _ |>.congr fun i _ => by rw [cf_upd, k0_upd]
    · have h16 := Lib.hid (show n = 16 by omega)
      go_wp2_with fail
      go_loopg [5, 6] 40 (fun k r i wr => ∃ n : Nat, 4 ≤ n ∧ n + k = 44 ∧ i = .int .i64 n ∧ r = B (ks key (n - 4)).2 ∧ Row wr w1.heap.size 49 432 (cf (ks key (n - 4)).1) ∧ Kept (fun _ => False) w wr ∧ w1.heap.size < wr.heap.size)
      case atStart =>
        exact ⟨4, by omega, rfl, rfl, rfl, hc.congr fun i _ => by rw [h16.out]; rfl, hkept, hc.lt⟩
      case round =>
        clear hc hke hkept
        obtain ⟨n, hn4, hn, rfl, rfl, hc, hkept, hsz⟩ := hrel
        obtain ⟨gn, rfl⟩ : ∃ g : Nat, g = gk := ⟨_, rfl⟩
        have Hn := Lib.hid hn
        have hn' : n ≤ 44 := by omega
        clear hn
        by_cases hlt : n < 44
        · have q44 : (n : Int) < 44 := by omega
          obtain ⟨W, hW⟩ : ∃ W, W = (ks key (n - 4)).1 := ⟨_, rfl⟩
          obtain ⟨R, hR⟩ : ∃ R, R = (ks key (n - 4)).2 := ⟨_, rfl⟩
          rw [← hW] at hc
          rw [← hR]
          have hnext1 : (ks key (n + 1 - 4)).1 = partW W n R 4 := by
            rw [show n + 1 - 4 = (n - 4) + 1 by omega, hW, hR]; show partW _ (n - 4 + 4) _ 4 = _; rw [show n - 4 + 4 = n by omega]
          have hnext2 : (ks key (n + 1 - 4)).2 = nextR n R := by
            rw [show n + 1 - 4 = (n - 4) + 1 by omega, hR]; show nextR (n - 4 + 4) _ = _; rw [show n - 4 + 4 = n by omega]
          have HN1 := Lib.hid hnext1
          have HN2 := Lib.hid hnext2
          clear hnext1 hnext2 hW hR
          obtain ⟨x0, h0⟩ : ∃ x, x = W (4 * (n - 1)) := ⟨_, rfl⟩
          obtain ⟨x1, h1⟩ : ∃ x, x = W (4 * (n - 1) + 1) := ⟨_, rfl⟩
          obtain ⟨x2, h2⟩ : ∃ x, x = W (4 * (n - 1) + 2) := ⟨_, rfl⟩
          obtain ⟨x3, h3⟩ : ∃ x, x = W (4 * (n - 1) + 3) := ⟨_, rfl⟩
          have c0 : wr.cell? ⟨w1.heap.size, 256 + (n - 1) * 4, none⟩ = some (B x0) := by
            rw [h0, ← cf_hi W, show 256 + (n - 1) * 4 = 256 + 4 * (n - 1) by omega]; exact hc.cell (by omega)
          have c1 : wr.cell? ⟨w1.heap.size, 256 + (n - 1) * 4 + 1, none⟩ = some (B x1) := by
            rw [h1, ← cf_hi W, show 256 + (n - 1) * 4 + 1 = 256 + (4 * (n - 1) + 1) by omega]; exact hc.cell (by omega)
          have c2 : wr.cell? ⟨w1.heap.size, 256 + (n - 1) * 4 + 2, none⟩ = some (B x2) := by
            rw [h2, ← cf_hi W, show 256 + (n - 1) * 4 + 2 = 256 + (4 * (n - 1) + 2) by omega]; exact hc.cell (by omega)
          have c3 : wr.cell? ⟨w1.heap.size, 256 + (n - 1) * 4 + 3, none⟩ = some (B x3) := by
            rw [h3, ← cf_hi W, show 256 + (n - 1) * 4 + 3 = 256 + (4 * (n - 1) + 3) by omega]; exact hc.cell (by omega)
          have hbox : ∀ x : Byte, wr.cell? ⟨w1.heap.size, (iB x).toNat, none⟩ = some (B (sbox x.toNat)) := fun x => by
            rw [iB_toNat, ← cf_lo W x.toNat x.isLt]; exact hc.cell (by have := x.isLt; omega)
          have i0 := iB_ge x0
          have i1 := iB_ge x1
          have i2 := iB_ge x2
          have i3 := iB_ge x3
          have j0 := iB_lt x0
          have j1 := iB_lt x1
          have j2 := iB_lt x2
          have j3 := iB_lt x3
          have H0 := Lib.hid h0
          have H1 := Lib.hid h1
          have H2 := Lib.hid h2
          have H3 := Lib.hid h3
          clear h0 h1 h2 h3
          by_cases hm : n % 4 = 0
          · have hb : ((n : Int) % 4 == 0) = true := by simp; omega
            have Hm := Lib.hid hm
            clear hm
            go_wp2_with fail
            refine region_tail 31 (by kernel_rfl) (by kernel_rfl) ?_
            simp only [List.take_succ_cons, List.take_zero, List.drop_succ_cons, List.drop_zero]
            repeat (refine wpStill_step (fun K hK => ?_); go_simp; (try go_bits); refine hK _ ?_; clear hK K)
            refine wpStill_nil ?_
            go_wp2_with fail
            refine (twice_any _ _).mono ?_
            rintro e w' ⟨rfl, rfl⟩
            go_wp2_with fail
            obtain ⟨wq, hwq⟩ : ∃ wq : World, wq = ((wr.alloc (.cells #[B (sbox x1.toNat ^^^ R), B (sbox x2.toNat), B (sbox x3.toNat), B (sbox x0.toNat)] 46))).drew := ⟨_, rfl⟩
            have htq : Row wq wr.heap.size 46 4 (tword W n R) := by
              rw [hwq]
              show ((wr.alloc _)).heap[wr.heap.size]? = _
              rw [heap_alloc_new, show Fs 4 (tword W n R) = #[B (tword W n R 0), B (tword W n R 1), B (tword W n R 2), B (tword W n R 3)] from rfl, tword_a W R Hm.out, tword_b W R Hm.out, tword_c W R Hm.out, tword_d W R Hm.out, H0.out, H1.out, H2.out, H3.out]
            have hcq : Row wq w1.heap.size 49 432 (cf W) := by rw [hwq]; exact hc.alloc _
            have hkq : Kept (fun _ => False) w wq := by rw [hwq]; exact (hkept.alloc _).drew
            have hzq : wr.heap.size < wq.heap.size := htq.lt
            rw [← hwq]
            clear hwq hbox c0 c1 c2 c3 i0 i1 i2 i3 j0 j1 j2 j3 hb hc hkept
            have Hcb := Lib.hid (show ¬ wr.heap.size = w1.heap.size by omega)
            go_loopg [75] 4 (fun k i wp => ∃ m : Nat, m + k = 4 ∧ i = .int .i64 m ∧ Row wp w1.heap.size 49 432 (cf (partW W n R m)) ∧ Row wp wr.heap.size 46 4 (tword W n R) ∧ Kept (fun _ => False) w wp ∧ wr.heap.size < wp.heap.size)
            case atStart => exact ⟨0, rfl, rfl, by rw [partW_zero]; exact hcq, htq, hkq, hzq⟩
            case round =>
              clear hcq htq hkq hzq
              rename_i wz _ _
              obtain ⟨m, hm, rfl, hcq, htq, hkq, hzq⟩ := hrel
              have hm' : m ≤ 4 := by omega
              have Hmk := Lib.hid hm
              clear hm
              by_cases hlm : m < 4
              · have e1 : wr.cell? ⟨w1.heap.size, 256 + (n - 4) * 4 + m, none⟩ = some (B (W (4 * (n - 4) + m))) := by
                  rw [← partW_old W n R m (4 * (n - 4) + m) (by omega), ← cf_hi (partW W n R m), show 256 + (n - 4) * 4 + m = 256 + (4 * (n - 4) + m) by omega]; exact hcq.cell (by omega)
                have e2 := htq.cell (i := m) hlm
                have e3 : wr.cell? ⟨w1.heap.size, 256 + n * 4 + m, none⟩ = some (B (cf (partW W n R m) (256 + n * 4 + m))) := hcq.cell (by omega)
                have e4 : wr.frozen? ⟨w1.heap.size, 256 + n * 4 + m, none⟩ = false := hcq.free _
                have q0 : (4 : Int) ≤ (n : Int) := by omega
                have q1 : (n : Int) - 4 < 44 := by omega
                have q2 : (n : Int) < 44 := by omega
                have q3 : (m : Int) < 4 := by omega
                go_wp2
                refine region_tail 20 (by kernel_rfl) (by kernel_rfl) ?_
                simp only [List.take_succ_cons, List.take_zero, List.drop_succ_cons, List.drop_zero]
                repeat (refine wpStill_step (fun K hK => ?_); go_simp; (try go_bits); refine hK _ ?_; clear hK K)
                refine wpStill_nil ?_
                go_wp2
                go_roundg (gk - 1)
                case measure => have := Hmk.out; omega
                case rel =>
                  have := Hmk.out
                  refine ⟨m + 1, by omega, by go_num, ?_, htq.other Hcb.out _, (hkq.setNew (by simp; omega) _).drew, by simp; omega⟩
                  rw [← partW_upd W n R m hn4, ← cf_upd, show 256 + (4 * n + m) = 256 + n * 4 + m by omega]
                  exact (show Row wr.drew _ _ _ _ from hcq).set _ _
              · obtain rfl : m = 4 := by omega
                go_wp2_with fail
                go_roundg (gn - 1)
                case measure => have := Hn.out; omega
                case rel =>
                  have h1 := Hn.out
                  exact ⟨n + 1, by omega, by omega, by go_num, by rw [HN2.out]; unfold nextR; rw [if_pos Hm.out], by rw [HN1.out]; exact hcq, hkq, by omega⟩
          · have hb : ((n : Int) % 4 == 0) = false := by simp; omega
            have Hm := Lib.hid hm
            clear hm
            go_wp2_with fail
            obtain ⟨wq, hwq⟩ : ∃ wq : World, wq = wr.alloc (.cells #[B x0, B x1, B x2, B x3] 46) := ⟨_, rfl⟩
            have htq : Row wq wr.heap.size 46 4 (tword W n R) := by
              rw [hwq]
              show ((wr.alloc _)).heap[wr.heap.size]? = _
              rw [heap_alloc_new, show Fs 4 (tword W n R) = #[B (tword W n R 0), B (tword W n R 1), B (tword W n R 2), B (tword W n R 3)] from rfl, tword_n W R _ Hm.out, tword_n W R _ Hm.out, tword_n W R _ Hm.out, tword_n W R _ Hm.out, H0.out, H1.out, H2.out, H3.out]; rfl
            have hcq : Row wq w1.heap.size 49 432 (cf W) := by rw [hwq]; exact hc.alloc _
            have hkq : Kept (fun _ => False) w wq := by rw [hwq]; exact hkept.alloc _
            have hzq : wr.heap.size < wq.heap.size := htq.lt
            rw [← hwq]
            clear hwq hbox c0 c1 c2 c3 i0 i1 i2 i3 j0 j1 j2 j3 hb hc hkept
            have Hcb := Lib.hid (show ¬ wr.heap.size = w1.heap.size by omega)
            go_loopg [75] 4 (fun k i wp => ∃ m : Nat, m + k = 4 ∧ i = .int .i64 m ∧ Row wp w1.heap.size 49 432 (cf (partW W n R m)) ∧ Row wp wr.heap.size 46 4 (tword W n R) ∧ Kept (fun _ => False) w wp ∧ wr.heap.size < wp.heap.size)
            case atStart => exact ⟨0, rfl, rfl, by rw [partW_zero]; exact hcq, htq, hkq, hzq⟩
            case round =>
              clear hcq htq hkq hzq
              rename_i wz _ _
              obtain ⟨m, hm, rfl, hcq, htq, hkq, hzq⟩ := hrel
              have hm' : m ≤ 4 := by omega
              have Hmk := Lib.hid hm
              clear hm
              by_cases hlm : m < 4
              · have e1 : wr.cell? ⟨w1.heap.size, 256 + (n - 4) * 4 + m, none⟩ = some (B (W (4 * (n - 4) + m))) := by
                  rw [← partW_old W n R m (4 * (n - 4) + m) (by omega), ← cf_hi (partW W n R m), show 256 + (n - 4) * 4 + m = 256 + (4 * (n - 4) + m) by omega]; exact hcq.cell (by omega)
                have e2 := htq.cell (i := m) hlm
                have e3 : wr.cell? ⟨w1.heap.size, 256 + n * 4 + m, none⟩ = some (B (cf (partW W n R m) (256 + n * 4 + m))) := hcq.cell (by omega)
                have e4 : wr.frozen? ⟨w1.heap.size, 256 + n * 4 + m, none⟩ = false := hcq.free _
                have q0 : (4 : Int) ≤ (n : Int) := by omega
                have q1 : (n : Int) - 4 < 44 := by omega
                have q2 : (n : Int) < 44 := by omega
                have q3 : (m : Int) < 4 := by omega
                go_wp2
                refine region_tail 20 (by kernel_rfl) (by kernel_rfl) ?_
                simp only [List.take_succ_cons, List.take_zero, List.drop_succ_cons, List.drop_zero]
                repeat (refine wpStill_step (fun K hK => ?_); go_simp; (try go_bits); refine hK _ ?_; clear hK K)
                refine wpStill_nil ?_
                go_wp2
                go_roundg (gk - 1)
                case measure => have := Hmk.out; omega
                case rel =>
                  have := Hmk.out
                  refine ⟨m + 1, by omega, by go_num, ?_, htq.other Hcb.out _, (hkq.setNew (by simp; omega) _).drew, by simp; omega⟩
                  rw [← partW_upd W n R m hn4, ← cf_upd, show 256 + (4 * n + m) = 256 + n * 4 + m by omega]
                  exact (show Row wr.drew _ _ _ _ from hcq).set _ _
              · obtain rfl : m = 4 := by omega
                go_wp2_with fail
                go_roundg (gn - 1)
                case measure => have := Hn.out; omega
                case rel =>
                  have h1 := Hn.out
                  exact ⟨n + 1, by omega, by omega, by go_num, by rw [HN2.out]; unfold nextR; rw [if_neg Hm.out], by rw [HN1.out]; exact hcq, hkq, by omega⟩
        · obtain rfl : n = 44 := by omega
          go_wp2_with fail
          go_ret
          exact ⟨_, rfl, by omega, hc, hkept⟩
end Go.Proofs.Ytgjkeeejcebhhaa
