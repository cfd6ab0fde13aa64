/-
  The walk of sha.Sum.
-/
import Derived.Test.YtpekibadleghbaaDoorN7
namespace Go.Proofs.YtpekibadleghbaaDoor
open Go.RowKit
set_option linter.unusedVariables false
set_option linter.unusedSimpArgs false
theorem padLen_mod (len : Nat) : padLen len = 64 * (len / 64) + padLen (len % 64) := by unfold padLen; omega
theorem padLen_div (len : Nat) : padLen len / 64 = len / 64 + padLen (len % 64) / 64 := by rw [padLen_mod]; omega
theorem padE_padB (f : Nat → Byte) (len : Nat) : padE (fun i => f (64 * (len / 64) + i)) (len % 64) len = fun i => padB f len (64 * (len / 64) + i) := by
  funext i
  have h := padLen_mod len
  have h8 : 8 ≤ padLen (len % 64) := by unfold padLen; omega
  unfold padE padB
  by_cases h1 : i < len % 64
  · rw [if_pos h1, if_pos (show 64 * (len / 64) + i < len by omega)]
  · rw [if_neg h1, if_neg (show ¬ 64 * (len / 64) + i < len by omega)]
    by_cases h2 : i = len % 64
    · rw [if_pos h2, if_pos (show 64 * (len / 64) + i = len by omega)]
    · rw [if_neg h2, if_neg (show ¬ 64 * (len / 64) + i = len by omega)]
      by_cases h3 : i < padLen (len % 64) - 8
      · rw [if_pos h3, if_pos (show 64 * (len / 64) + i < padLen len - 8 by omega)]
      · rw [if_neg h3, if_neg (show ¬ 64 * (len / 64) + i < padLen len - 8 by omega), show 64 * (len / 64) + i - (padLen len - 8) = i - (padLen (len % 64) - 8) by omega]
theorem dig_eq (f : Nat → Byte) (len : Nat) : bytesOf (FF (FF h0 f (len / 64)) (padE (fun i => f (64 * (len / 64) + i)) (len % 64) len) (padLen (len % 64) / 64)) = dig f len := by
  have e : FF h0 f (len / 64) = FF h0 (padB f len) (len / 64) := by
    rw [FF_h0, FF_h0]
    exact F_congr _ fun i hi => by unfold padB; rw [if_pos (by omega)]
  rw [e, padE_padB, FF_add, ← padLen_div, FF_h0]
  rfl
theorem KeysAt.lt {w : World} (h : KeysAt w) : 1 < w.heap.size := block_lt_of_cell (h 0 (by omega))
theorem KeysAt.keptBut {w w' : World} {S : Nat → Prop} (h : KeysAt w) (k : Kept S w w') (h1 : ¬ S 1) : KeysAt w' := fun i hi => by
  rw [World.cell?_of_block (w := w) (k.block 1 (block_lt_of_cell (h i hi)) h1)]
  exact h i hi
set_option maxRecDepth 100000 in
set_option maxHeartbeats 8000000 in
theorem shaSum_any (a : Option Addr) (len cap : Nat) (f : Nat → Byte) (w : World) (hkey : KeysAt w) (hc : BytesAt w a len f) (hnil : a = none → len = 0) (hlc : len ≤ cap) (hcap : len ≤ 140737488355328) (hlt : ∀ gb o, a = some ⟨gb, o, none⟩ → gb < w.heap.size) :
    Calls Tryd.prog 52 #[.slice a len cap] w fun r w' => r = .returned (.agg (Fs 32 (dig f len))) ∧ Kept (fun _ => False) w w' := by
  have h1 := hkey.lt
  go_enter Tryd.func52, Tryd.ntmps52
  go_upto_region 1 with fail
  generalize hwA : World.alloc w _ = wA
  have hR : Row wA w.heap.size 70 32 (fun _ => 0#8) := by rw [← hwA]; exact heap_alloc_new w _
  have hK : Kept (fun _ => False) w wA := by rw [← hwA]; exact (Kept.refl _ w).alloc _
  have hkA := hkey.kept hK
  have hcA := hc.kept hK
  have hz : w.heap.size + 1 ≤ wA.heap.size := hR.lt
  clear hwA
  go_wp2_with fail
  refine (new_any wA).mono ?_
  rintro r w2 ⟨g, rfl, hg, hs, hk2⟩
  go_wp2_with fail
  have hkey2 := hkA.kept hk2
  have hc2 := hcA.kept hk2
  have hnb : ∀ gb o, a = some ⟨gb, o, none⟩ → gb ≠ g := fun gb o h e => by
    have := hlt gb o h
    omega
  refine (add_any g h0 0 a len cap f w2 hkey2 (by omega) (Hs.of _ _ _ _ _ hs) hc2 hnb hnil hlc hcap (by omega)).mono ?_
  rintro r w3 ⟨rfl, ra, rc, hs3, hz3, ho3, hk3⟩
  go_wp2_with fail
  have hkey3 := hkey2.keptBut hk3 (by omega)
  refine (sum_any g (FF h0 f (len / 64)) len ra (len % 64) rc (fun i => f (64 * (len / 64) + i)) w3 hkey3 (by omega) (by rw [Nat.zero_add] at hs3; exact hs3) ho3.bytes (by omega) (by omega)).mono ?_
  rw [dig_eq]
  rintro r w4 ⟨rfl, hk4⟩
  have hK4 : Kept (fun _ => False) w w4 := (hK.trans hk2 (fun _ _ h => h)).trans ((hk3.trans hk4 (fun _ _ h => h.elim)).mono (fun i hi h => h)) (fun i hi h => by omega)
  have hR4 : Row w4 w.heap.size 70 32 (fun _ => 0#8) := hk4.at (hk3.at (hk2.at hR (fun h => h)) (by omega)) (fun h => h)
  have hz4 := hK4.size
  have hz4' : w.heap.size < w4.heap.size := hR4.lt
  obtain ⟨D, hD⟩ : ∃ D, D = dig f len := ⟨_, rfl⟩
  rw [← hD]
  have HD := Lib.hid hD
  have ht : Row (w4.alloc (.cells (Fs 32 fun _ => 0#8) 70)) w4.heap.size 70 32 (fun _ => 0#8) := Row.new w4 _ _ _
  have ht2 : Row ((w4.alloc (.cells (Fs 32 fun _ => 0#8) 70)).setRow w4.heap.size (Fs 32 D)) w4.heap.size 70 32 D := Row.row ht
  have hR5 : Row ((w4.alloc (.cells (Fs 32 fun _ => 0#8) 70)).setRow w4.heap.size (Fs 32 D)) w.heap.size 70 32 (fun _ => 0#8) := (hR4.alloc _).rowOther (by omega) _
  clear hs hs3 ho3 hk2 hk3 hk4 hkey2 hkey3 hc2 hcA hkA hR hK hD
  go_wp2_with (first | (refine wpList_store_row rfl 70 (.tmp 4) (.tmp 13) rfl w4.heap.size (Fs 32 D) rfl rfl 70 _ ht (info70F _) (by rw [Fs_size, Fs_size]) (Fs_one _ _) ?_) | (refine wpList_load_row rfl 70 (.tmp 4) rfl w4.heap.size rfl 70 (Fs 32 D) (0, 0) _ ht2 Tryd.underlying70 rfl (info70F _) ?_) | (refine wpList_store_row rfl 70 (.tmp 2) (.tmp 15) rfl w.heap.size (Fs 32 D) rfl rfl 70 _ hR5 (info70F _) (by rw [Fs_size, Fs_size]) (Fs_one _ _) ?_))
  have hR6 : Row (((w4.alloc (.cells (Fs 32 fun _ => 0#8) 70)).setRow w4.heap.size (Fs 32 D)).setRow w.heap.size (Fs 32 D)) w.heap.size 70 32 D := Row.row hR5
  exact bodyPost_ret (results_cell_row rfl _ _ w.heap.size 70 (Fs 32 D) (0, 0) _ rfl hR6 Tryd.underlying70 rfl (info70F _)) rfl ⟨by rw [HD.out], ((hK4.alloc _).setRowNew (by omega) _).setRowNew (Nat.le_refl _) _⟩
end Go.Proofs.YtpekibadleghbaaDoor
