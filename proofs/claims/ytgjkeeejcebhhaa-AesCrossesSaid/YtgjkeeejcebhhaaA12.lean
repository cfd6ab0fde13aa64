/-
  The stream, and the walk of aes.Cross.
-/
import Derived.Test.YtgjkeeejcebhhaaA9
import Derived.Test.YtgjkeeejcebhhaaBts
namespace Go.Proofs.Ytgjkeeejcebhhaa
open Go.RowKit
def by8 (n : Nat) : Byte := BitVec.ofNat 8 n
/-- A block's number, as the stream has it: what is set of it behind k of the six, and the block's own number. -/
def ctr (e s : Nat) (n : Nat) : Nat → Byte := fun i =>
  if i < 6 then by8 (e / 2 ^ (40 - 8 * i)) else if i < 12 then by8 (s / 2 ^ (40 - 8 * (i - 6))) else if i = 12 then by8 (n / 16777216) else if i = 13 then by8 (n / 65536) else if i = 14 then by8 (n / 256) else by8 n
def ctrTo (e s : Nat) (k : Nat) : Nat → Byte := fun i => if i < k ∨ (6 ≤ i ∧ i < 6 + k) then ctr e s 0 i else 0#8
def crossF (key : Nat → Byte) (e s : Nat) (f : Nat → Byte) : Nat → Byte := fun i => f i ^^^ aesBlock key (ctr e s (i / 16)) (i % 16)
def crossTo (key : Nat → Byte) (e s : Nat) (f : Nat → Byte) (n : Nat) : Nat → Byte := fun i => if i < n then crossF key e s f i else 0#8
theorem by8_iB (n : Nat) : (n : Int) % 256 = iB (by8 n) := by unfold iB by8; rw [BitVec.toNat_ofNat]; simp
theorem ctrTo_upd (e s k : Nat) (hk : k < 6) : upd (upd (ctrTo e s k) k (by8 (e / 2 ^ (40 - 8 * k)))) (6 + k) (by8 (s / 2 ^ (40 - 8 * k))) = ctrTo e s (k + 1) := by
  funext i; unfold upd ctrTo
  by_cases h : i = 6 + k
  · subst h; rw [if_pos rfl, if_pos (by omega)]; unfold ctr; rw [if_neg (by omega), if_pos (by omega), Nat.add_sub_cancel_left]
  · rw [if_neg h]
    by_cases h2 : i = k
    · subst h2; rw [if_pos rfl, if_pos (by omega)]; unfold ctr; rw [if_pos (by omega)]
    · rw [if_neg h2]
      by_cases h3 : i < k ∨ (6 ≤ i ∧ i < 6 + k)
      · rw [if_pos h3, if_pos (by omega)]
      · rw [if_neg h3, if_neg (by omega)]
theorem madeFs (n : Nat) : madeCells #[.int .u8 0] n = Fs n fun _ => 0#8 := by
  unfold madeCells Fs
  apply Array.ext
  · simp
  · intro i h1 h2; simp [Nat.mod_one]; rfl
theorem make28 (n : Nat) (h : n ≤ 140737488351232) (w : World) : (Instr.makeSlice 28 (.int .i64 n) (.int .i64 n)).run Try.prog w = .ok (.slice (some ⟨w.heap.size, 0, none⟩) n n) (w.alloc (.cells (Fs n fun _ => 0#8) 5)) := by
  obtain ⟨i, hi, hz, hs, hb⟩ : ∃ i, Try.prog.info? 5 = some i ∧ i.zero = some (.int .u8 0) ∧ i.size = 1 ∧ i.bytes = 1 := by
    cases hi : Try.prog.info? 5 with
    | none => have : (Try.prog.info? 5).isSome = true := by kernel_rfl
              rw [hi] at this; cases this
    | some i =>
      have e : (Try.prog.info? 5).map (fun i => (i.zero, i.size, i.bytes)) = some (some (.int .u8 0), 1, 1) := by kernel_rfl
      rw [hi] at e
      simp only [Option.map_some, Option.some.injEq, Prod.mk.injEq] at e
      exact ⟨i, rfl, e.1, e.2.1, e.2.2⟩
  have := run_make (P := Try.prog) w 28 5 i (.int .u8 0) Try.underlying28 hi hz .i64 .i64 n n (by omega) (by omega) (by rw [hb]; omega) (by omega)
  rw [this, hs, Nat.mul_one]
  simp only [Int.toNat_natCast]
  show Result.ok _ (w.alloc (.cells (madeCells #[.int .u8 0] n) 5)) = _
  rw [madeFs]
attribute [local go_sem] xorB by8_iB
theorem cell_apart (w : World) (p q : Addr) (h : q.block ≠ p.block) {u : Value} : (w.setCell p u).cell? q = w.cell? q := World.cell?_of_block (w := w) (heap_setCell_other w p q.block u h)
theorem ctr_old (e s n j : Nat) (h : j < 12) : ctr e s n j = ctr e s 0 j := by
  unfold ctr
  by_cases h6 : j < 6
  · rw [if_pos h6, if_pos h6]
  · rw [if_neg h6, if_neg h6, if_pos h, if_pos h]
theorem ctr_set (e s m : Nat) (I : Nat → Byte) (h : ∀ j, j < 12 → I j = ctr e s 0 j) : ∀ j, j < 16 →
    upd (upd (upd (upd I 12 (by8 (m / 16777216))) 13 (by8 (m / 65536))) 14 (by8 (m / 256))) 15 (by8 m) j = ctr e s m j := fun j hj => by
  unfold upd
  by_cases h12 : j < 12
  · rw [if_neg (by omega), if_neg (by omega), if_neg (by omega), if_neg (by omega), ctr_old e s m j h12]; exact h j h12
  · unfold ctr
    rw [if_neg (show ¬ j < 6 by omega), if_neg h12]
    by_cases a : j = 12
    · rw [if_neg (by omega), if_neg (by omega), if_neg (by omega), if_pos a, if_pos a]
    · by_cases b : j = 13
      · rw [if_neg (by omega), if_neg (by omega), if_pos b, if_neg a, if_pos b]
      · by_cases c : j = 14
        · rw [if_neg (by omega), if_pos c, if_neg a, if_neg b, if_pos c]
        · rw [if_pos (show j = 15 by omega), if_neg a, if_neg b, if_neg c]
theorem crossTo_upd (key : Nat → Byte) (e s : Nat) (f : Nat → Byte) (n : Nat) : upd (crossTo key e s f n) n (crossF key e s f n) = crossTo key e s f (n + 1) := by
  funext i; unfold upd crossTo
  by_cases h : i = n
  · subst h; simp
  · rw [if_neg h]
    by_cases h2 : i < n
    · rw [if_pos h2, if_pos (by omega)]
    · rw [if_neg h2, if_neg (by omega)]
theorem cross_bad (key : Nat → Byte) (e s : Nat) (a : Option Addr) (len cap : Nat) (w : World) (hbig : 281474976710655 < e ∨ 281474976710655 < s) :
    Calls Try.prog 10 #[.agg (Fs 16 key), .int .u64 e, .int .u64 s, .slice a len cap] w fun r w' => r = .returned (.tuple #[.slice none 0 0, .int .i64 2]) ∧ Kept (fun _ => False) w w' := by
  by_cases h : 281474976710655 < e
  · have q : (281474976710655 : Int) < e := by omega
    go_enter Try.func10, Try.ntmps10
    go_wp2
    go_ret2
    exact ⟨rfl, (Kept.refl _ w).alloc _⟩
  · have q : (e : Int) ≤ 281474976710655 := by omega
    have q2 : (281474976710655 : Int) < s := by omega
    go_enter Try.func10, Try.ntmps10
    go_wp2
    go_ret2
    exact ⟨rfl, (Kept.refl _ w).alloc _⟩
set_option maxRecDepth 100000 in
set_option maxHeartbeats 2000000 in
theorem cross_any (key : Nat → Byte) (e s : Nat) (a : Option Addr) (len cap : Nat) (f : Nat → Byte) (w : World) (he : e ≤ 281474976710655) (hs : s ≤ 281474976710655) (hb : BytesAt w a len f) (hlen : len ≤ 140737488351232) :
    Calls Try.prog 10 #[.agg (Fs 16 key), .int .u64 e, .int .u64 s, .slice a len cap] w fun r w' => ∃ g, r = .returned (.tuple #[.slice (some ⟨g, 0, none⟩) len len, .int .i64 0]) ∧ w.heap.size ≤ g ∧ Row w' g 5 len (crossF key e s f) ∧ Kept (fun _ => False) w w' := by
  have q : (e : Int) ≤ 281474976710655 := by omega
  have q2 : (s : Int) ≤ 281474976710655 := by omega
  have hmk := make28 len hlen
  go_enter Try.func10, Try.ntmps10
  have h1 : Row (w.alloc (.cells (Fs 16 key) 22)) w.heap.size 22 16 key := Row.new w _ _ _
  go_wp2_with (refine wpList_load_row rfl 22 (.tmp 4) rfl w.heap.size rfl 22 (Fs 16 key) (0, 0) _ h1 Try.underlying22 rfl (info22F _) ?_)
  refine (made_any key _).mono ?_
  rintro r w1 ⟨gc, rfl, hgc, hc, hk⟩
  have hK1 : Kept (fun _ => False) w w1 := ((Kept.refl _ w).alloc _).trans hk (fun _ _ h => h)
  have hz1 := hK1.size
  clear hk h1
  rw [size_alloc] at hgc
  have hlc := hc.lt
  go_wp2_with fail
  generalize hW : World.alloc (World.alloc (World.alloc w1 _) _) _ = w3
  have hO : Row w3 w1.heap.size 5 len (fun _ => 0#8) := by rw [← hW]; exact ((Row.new w1 5 len _).alloc _).alloc _
  have hI : Row w3 (w1.heap.size + 1) 22 16 (fun _ => 0#8) := by
    have := (Row.new (w1.alloc (.cells (Fs len fun _ => 0#8) 5)) 22 16 (fun _ => 0#8)).alloc (.cells (Fs 16 fun _ => 0#8) 22)
    rw [size_alloc] at this; rw [← hW]; exact this
  have hT : Row w3 (w1.heap.size + 1 + 1) 22 16 (fun _ => 0#8) := by
    have := Row.new ((w1.alloc (.cells (Fs len fun _ => 0#8) 5)).alloc (.cells (Fs 16 fun _ => 0#8) 22)) 22 16 (fun _ => 0#8)
    rw [size_alloc, size_alloc] at this; rw [← hW]; exact this
  have hC : Row w3 gc 49 432 (cf (ks key 40).1) := by rw [← hW]; exact ((hc.alloc _).alloc _).alloc _
  have hK : Kept (fun _ => False) w w3 := by rw [← hW]; exact ((hK1.alloc _).alloc _).alloc _
  clear hW
  go_loopg [28] 6 (fun k i wr => ∃ n : Nat, n + k = 6 ∧ i = .int .i64 n ∧ Row wr w1.heap.size 5 len (fun _ => 0#8) ∧ Row wr (w1.heap.size + 1) 22 16 (ctrTo e s n) ∧ Row wr (w1.heap.size + 1 + 1) 22 16 (fun _ => 0#8) ∧ Row wr gc 49 432 (cf (ks key 40).1) ∧ Kept (fun _ => False) w wr)
  case atStart => exact ⟨0, rfl, rfl, hO, hI.congr fun i _ => by unfold ctrTo; rw [if_neg (by omega)], hT, hC, hK⟩
  case round =>
    clear hO hI hT hC hK hc hK1
    obtain ⟨n, hn, rfl, hO, hI, hT, hC, hK⟩ := hrel
    have Hn := Lib.hid hn
    have hn' : n ≤ 6 := by omega
    clear hn
    by_cases hlt : n < 6
    · have q6 : (n : Int) < 6 := by omega
      have q10 : (n : Int) < 10 := by omega
      have q16 : (n : Int) < 16 := by omega
      have q17 : 6 + (n : Int) < 16 := by omega
      have c1 := hI.cell (i := n) (by omega)
      have f1 := hI.free n
      have f2 := hI.free (6 + n)
      have c2 := fun v => (hI.set n v).cell (i := 6 + n) (by omega)
      go_wp2
      refine region_perm (fun _ => True) [(0, true), (1, true), (2, true), (3, true), (4, true), (5, true), (6, true), (7, true), (8, true), (9, true), (10, true), (11, true), (12, true), (13, true), (14, true), (15, true), (16, false), (17, true), (18, false)] (by kernel_rfl) (by kernel_rfl) (by intro c a d v w h; cases d <;> exact h) trivial ?_
      repeat (apply HeldSeq.take; (focus rfl); (focus rfl); (focus (intro W _; go_simp; (try go_bits); rfl)); simp only [List.getElem_toArray, List.getElem_cons_zero, List.getElem_cons_succ, Act.put, List.setIfInBounds_toArray, List.set_cons_zero, List.set_cons_succ])
      refine HeldSeq.run rfl rfl (fun K hK => ?_)
      go_simp
      refine hK _ _ trivial ?_
      clear hK K
      repeat (apply HeldSeq.take; (focus rfl); (focus rfl); (focus (intro W _; go_simp; (try go_bits); rfl)); simp only [List.getElem_toArray, List.getElem_cons_zero, List.getElem_cons_succ, Act.put, List.setIfInBounds_toArray, List.set_cons_zero, List.set_cons_succ])
      have e1 : (e : Int) / 2 ^ (40 - 8 * n) % 256 = iB (by8 (e / 2 ^ (40 - 8 * n))) := by rw [← by8_iB]; simp
      have e2 : (s : Int) / 2 ^ (40 - 8 * n) % 256 = iB (by8 (s / 2 ^ (40 - 8 * n))) := by rw [← by8_iB]; simp
      rw [e1, e2]
      clear e1 e2
      have c2 := c2 (by8 (e / 2 ^ (40 - 8 * n)))
      refine HeldSeq.run rfl rfl (fun K hK => ?_)
      go_simp
      refine hK _ _ trivial ?_
      clear hK K
      refine HeldSeq.done ?_
      go_wp2_with fail
      go_roundg (gk - 1)
      case measure => have := Hn.out; omega
      case rel =>
        have := Hn.out
        refine ⟨n + 1, by omega, by go_num, (hO.other (by simp) _).other (by simp) _, ?_, (hT.other (by simp) _).other (by simp) _, (hC.other (by simp; omega) _).other (by simp; omega) _, ((hK.setNew (by simp; omega) _).setNew (by simp; omega) _).drew⟩
        rw [← ctrTo_upd e s n hlt]
        exact (hI.set n _).set (6 + n) _
    · have H6 := Lib.hid (show n = 6 by omega)
      have hI0 : ∀ j, j < 12 → ctrTo e s n j = ctr e s 0 j := fun j hj => by unfold ctrTo; rw [if_pos (by rw [H6.out]; omega)]
      have HI0 := Lib.hid hI0
      clear hI0
      go_wp2_with fail
      go_loopg [51] (len + 1) (fun k i wr => ∃ (m : Nat) (I T : Nat → Byte), m + k = len + 1 ∧ m ≤ len ∧ i = .int .i64 m ∧ Row wr w1.heap.size 5 len (crossTo key e s f m) ∧ Row wr (w1.heap.size + 1) 22 16 I ∧ (∀ j, j < 12 → I j = ctr e s 0 j) ∧ Row wr (w1.heap.size + 1 + 1) 22 16 T ∧ (m % 16 ≠ 0 → Agree 16 T (aesBlock key (ctr e s (m / 16)))) ∧ Row wr gc 49 432 (cf (ks key 40).1) ∧ Kept (fun _ => False) w wr)
      case atStart => exact ⟨0, _, _, by omega, by omega, rfl, hO.congr fun i _ => by unfold crossTo; rw [if_neg (by omega)], hI, HI0.out, hT, fun h => absurd rfl h, hC, hK⟩
      case round =>
        clear hO hI hT hC hK
        obtain ⟨m, I, T, hm, hml, rfl, hO, hI, hIo, hT, hTo, hC, hK⟩ := hrel
        have Hm := Lib.hid hm
        have HIo := Lib.hid hIo
        have HTo := Lib.hid hTo
        clear hm hIo hTo HI0
        by_cases hlm : m < len
        · obtain ⟨gb, ob, ha, hcell⟩ := hb.resolve_left (by omega)
          subst ha
          have cb := hK.cell (hcell m hlm)
          have cb0 := hcell m hlm
          clear hcell hb
          have q7 : (m : Int) < len := by omega
          have hmlen : (len : Int) ≤ 140737488351232 := by omega
          by_cases h16 : m % 16 = 0
          · have hb : ((m : Int) % 16 == 0) = true := by simp; omega
            have H16 := Lib.hid h16
            clear h16
            have d12 := hI.cell (i := 12) (by omega)
            have d13 := hI.cell (i := 13) (by omega)
            have d14 := hI.cell (i := 14) (by omega)
            have d15 := hI.cell (i := 15) (by omega)
            have f12 := hI.free 12
            have f13 := hI.free 13
            have f14 := hI.free 14
            have f15 := hI.free 15
            go_upto_region 17 with fail
            generalize hW : World.setCell (World.setCell (World.setCell (World.setCell wr _ _) _ _) _ _) _ _ = w5
            have v1 : (m : Int) / 16 / 16777216 % 256 = iB (by8 (m / 16 / 16777216)) := by rw [← by8_iB]; simp
            have v2 : (m : Int) / 16 / 65536 % 256 = iB (by8 (m / 16 / 65536)) := by rw [← by8_iB]; simp
            have v3 : (m : Int) / 16 / 256 % 256 = iB (by8 (m / 16 / 256)) := by rw [← by8_iB]; simp
            have v4 : (m : Int) / 16 % 256 = iB (by8 (m / 16)) := by rw [← by8_iB]; simp
            rw [v1, v2, v3, v4] at hW
            have hI5 : Row w5 (w1.heap.size + 1) 22 16 (ctr e s (m / 16)) := by
              rw [← hW]
              exact ((((hI.set 12 _).set 13 _).set 14 _).set 15 _).congr (ctr_set e s (m / 16) I HIo.out)
            have hO5 : Row w5 w1.heap.size 5 len (crossTo key e s f m) := by rw [← hW]; exact (((hO.other (by simp) _).other (by simp) _).other (by simp) _).other (by simp) _
            have hT5 : Row w5 (w1.heap.size + 1 + 1) 22 16 T := by rw [← hW]; exact (((hT.other (by simp) _).other (by simp) _).other (by simp) _).other (by simp) _
            have hC5 : Row w5 gc 49 432 (cf (ks key 40).1) := by rw [← hW]; exact (((hC.other (by simp; omega) _).other (by simp; omega) _).other (by simp; omega) _).other (by simp; omega) _
            have hK5 : Kept (fun _ => False) w w5 := by rw [← hW]; exact (((hK.setNew (by simp; omega) _).setNew (by simp; omega) _).setNew (by simp; omega) _).setNew (by simp; omega) _
            have cb5 : w5.cell? ⟨gb, ob + m, none⟩ = some (B (f m)) := by
              rw [← hW]
              have hg : gb < w.heap.size := block_lt_of_cell cb0
              have hne : gb ≠ w1.heap.size + 1 := by omega
              rw [cell_apart _ _ _ hne, cell_apart _ _ _ hne, cell_apart _ _ _ hne, cell_apart _ _ _ hne]
              exact cb
            clear hW v1 v2 v3 v4 hI hO hT hC hK cb d12 d13 d14 d15 f12 f13 f14 f15
            go_wp2_with (refine wpList_load_row rfl 22 (.tmp 12) rfl (w1.heap.size + 1) rfl 22 (Fs 16 (ctr e s (m / 16))) (0, 0) _ hI5 Try.underlying22 rfl (info22F _) ?_)
            refine (block_any gc _ (ctr e s (m / 16)) _ hC5).mono ?_
            rintro r w6 ⟨rfl, hk6⟩
            have hO6 : Row w6 w1.heap.size 5 len (crossTo key e s f m) := hk6.at hO5 (fun h => h)
            have hI6 : Row w6 (w1.heap.size + 1) 22 16 (ctr e s (m / 16)) := hk6.at hI5 (fun h => h)
            have hT6 : Row w6 (w1.heap.size + 1 + 1) 22 16 T := hk6.at hT5 (fun h => h)
            have hC6 : Row w6 gc 49 432 (cf (ks key 40).1) := hk6.at hC5 (fun h => h)
            have cb6 := hk6.cell cb5
            have hK6 : Kept (fun _ => False) w w6 := hK5.trans hk6 (fun _ _ h => h)
            clear hk6 hO5 hI5 hT5 hC5 cb5 hK5
            go_upto_region 18 with (refine wpList_store_row rfl 22 (.tmp 13) (.tmp 76) rfl (w1.heap.size + 1 + 1) (Fs 16 (enc (cf (ks key 40).1) (ctr e s (m / 16)) 10)) rfl rfl 22 _ hT6 (info22F _) (by simp only [Fs_size]) (Fs_one _ _) ?_)
            generalize hW : World.setRow w6 _ _ = w7
            obtain ⟨T', hT'⟩ : ∃ T', T' = aesBlock key (ctr e s (m / 16)) := ⟨_, rfl⟩
            have hO : Row w7 w1.heap.size 5 len (crossTo key e s f m) := by rw [← hW]; exact hO6.rowOther (by omega) _
            have hI : Row w7 (w1.heap.size + 1) 22 16 (ctr e s (m / 16)) := by rw [← hW]; exact hI6.rowOther (by omega) _
            have hT : Row w7 (w1.heap.size + 1 + 1) 22 16 T' := by rw [← hW, hT']; exact hT6.row
            have hC : Row w7 gc 49 432 (cf (ks key 40).1) := by rw [← hW]; exact hC6.rowOther (by omega) _
            have hK : Kept (fun _ => False) w w7 := by rw [← hW]; exact hK6.setRowNew (by omega) _
            have cb : w7.cell? ⟨gb, ob + m, none⟩ = some (B (f m)) := by
              rw [← hW, cell_setRow_other w6 _ _ _ (by have := block_lt_of_cell cb0; simp at this ⊢; omega)]
              exact cb6
            have hTm : Agree 16 T' (aesBlock key (ctr e s (m / 16))) := by rw [hT']; exact fun _ _ => rfl
            clear hW hO6 hI6 hT6 hC6 cb6 hK6
            obtain ⟨I', hI'⟩ : ∃ I', I' = ctr e s (m / 16) := ⟨_, rfl⟩
            rw [← hI'] at hI
            have hIo : ∀ j, j < 12 → I' j = ctr e s 0 j := fun j hj => by rw [hI']; exact ctr_old e s _ j hj
            have HIo2 := Lib.hid hIo
            have HTm := Lib.hid hTm
            clear hI' hT' hIo
            have x1 := hO.cell (i := m) hlm
            have x2 := hO.free m
            have x3 := hT.cell (i := m % 16) (by omega)
            have x4 : T' (m % 16) = aesBlock key (ctr e s (m / 16)) (m % 16) := hTm _ (by omega)
            have X4 := Lib.hid x4
            clear x4 hTm
            have q8 : (0 : Int) ≤ (m : Int) % 16 := by omega
            have q9 : (m : Int) % 16 < 16 := by omega
            go_wp2_with fail
            refine region_tail 12 (by kernel_rfl) (by kernel_rfl) ?_
            simp only [List.take_succ_cons, List.take_zero, List.drop_succ_cons, List.drop_zero]
            repeat (refine wpStill_step (fun K hK => ?_); go_simp; (try go_bits); refine hK _ ?_; clear hK K)
            refine wpStill_nil ?_
            go_wp2_with fail
            go_roundg (gk - 1)
            case measure => have := Hm.out; omega
            case rel =>
              have := Hm.out
              refine ⟨m + 1, I', T', by omega, by omega, by go_num, ?_, hI.other (by simp) _, HIo2.out, hT.other (by simp; omega) _, ?_, hC.other (by simp; omega) _, (hK.setNew (by simp; omega) _).drew⟩
              · rw [X4.out, show f m ^^^ aesBlock key (ctr e s (m / 16)) (m % 16) = crossF key e s f m from rfl, ← crossTo_upd]
                exact (show Row w7.drew _ _ _ _ from hO).set m _
              · intro h
                rw [show (m + 1) / 16 = m / 16 by omega]
                exact HTm.out
          · have hb : ((m : Int) % 16 == 0) = false := by simp; omega
            have hTm := HTo.out h16
            have HTm := Lib.hid hTm
            clear h16
            have x1 := hO.cell (i := m) hlm
            have x2 := hO.free m
            have x3 := hT.cell (i := m % 16) (by omega)
            have x4 : T (m % 16) = aesBlock key (ctr e s (m / 16)) (m % 16) := hTm _ (by omega)
            have X4 := Lib.hid x4
            clear x4 hTm
            have q8 : (0 : Int) ≤ (m : Int) % 16 := by omega
            have q9 : (m : Int) % 16 < 16 := by omega
            go_wp2_with fail
            refine region_tail 12 (by kernel_rfl) (by kernel_rfl) ?_
            simp only [List.take_succ_cons, List.take_zero, List.drop_succ_cons, List.drop_zero]
            repeat (refine wpStill_step (fun K hK => ?_); go_simp; (try go_bits); refine hK _ ?_; clear hK K)
            refine wpStill_nil ?_
            go_wp2_with fail
            go_roundg (gk - 1)
            case measure => have := Hm.out; omega
            case rel =>
              have := Hm.out
              refine ⟨m + 1, I, T, by omega, by omega, by go_num, ?_, hI.other (by simp) _, HIo.out, hT.other (by simp; omega) _, ?_, hC.other (by simp; omega) _, (hK.setNew (by simp; omega) _).drew⟩
              · rw [X4.out, show f m ^^^ aesBlock key (ctr e s (m / 16)) (m % 16) = crossF key e s f m from rfl, ← crossTo_upd]
                exact (show Row wr.drew _ _ _ _ from hO).set m _
              · intro h
                rw [show (m + 1) / 16 = m / 16 by omega]
                exact HTm.out
        · have Hml := Lib.hid (show m = len by omega)
          have hO : Row wr w1.heap.size 5 len (crossF key e s f) := hO.congr fun i hi => by unfold crossTo; rw [if_pos (by rw [Hml.out]; exact hi)]
          go_wp2_with fail
          go_ret2
          exact ⟨_, rfl, by omega, hO, hK⟩
end Go.Proofs.Ytgjkeeejcebhhaa
