/-
  The walk of Add, where nothing rests.
-/
import Derived.Test.YtpekibadleghbaaDoorN5
import Derived.Test.YtpekibadleghbaaDoorOA
import Derived.Test.YtpekibadleghbaaDoorS0
namespace Go.Proofs.YtpekibadleghbaaDoor
open Go.RowKit
set_option linter.unusedVariables false
set_option linter.unusedSimpArgs false
def wl (v : Nat → Word) : List Value := [W (v 0), W (v 1), W (v 2), W (v 3), W (v 4), W (v 5), W (v 6), W (v 7)]
theorem wl_Ws (v : Nat → Word) : (wl v).toArray = Ws 8 v := rfl
theorem wl_list (v : Nat → Word) : (Ws 8 v).toList = wl v := rfl
/-- A digest's state at block g. -/
def Hs (w : World) (g : Nat) (v : Nat → Word) (r : Value) (n : Nat) : Prop := Blk w g 98 (wl v ++ [r, .int .u64 (n : Int)])
theorem Hs.of (w : World) (g : Nat) (v : Nat → Word) (r : Value) (n : Nat) (h : HSt w g v r n) : Hs w g v r n := h
theorem Hs.c8 {w : World} {g : Nat} {v : Nat → Word} {r : Value} {n : Nat} (h : Hs w g v r n) : w.cell? ⟨g, 8, none⟩ = some r := Blk.cell h 8
theorem Hs.c9 {w : World} {g : Nat} {v : Nat → Word} {r : Value} {n : Nat} (h : Hs w g v r n) : w.cell? ⟨g, 9, none⟩ = some (.int .u64 (n : Int)) := Blk.cell h 9
theorem Hs.f {w : World} {g : Nat} {v : Nat → Word} {r : Value} {n : Nat} (h : Hs w g v r n) (i : Nat) : w.frozen? ⟨g, i, none⟩ = false := Blk.free h i
theorem Blk.set {w : World} {g : Nat} {t : TypeId} {cs : List Value} (h : Blk w g t cs) (i : Nat) (u : Value) : Blk (w.setCell ⟨g, i, none⟩ u) g t (cs.set i u) := by
  unfold Blk
  rw [Go.heap_setCell_same w g i _ t u h, List.setIfInBounds_toArray]
theorem Hs.s8 {w : World} {g : Nat} {v : Nat → Word} {r : Value} {n : Nat} (h : Hs w g v r n) (r' : Value) : Hs (w.setCell ⟨g, 8, none⟩ r') g v r' n := Blk.set h 8 r'
theorem Hs.s9 {w : World} {g : Nat} {v : Nat → Word} {r : Value} {n : Nat} (h : Hs w g v r n) (m : Nat) : Hs (w.setCell ⟨g, 9, none⟩ (.int .u64 (m : Int))) g v r m := Blk.set h 9 _
theorem Hs.range {w : World} {g : Nat} {v : Nat → Word} {r : Value} {n : Nat} (h : Hs w g v r n) : w.rangeAt g 0 (wl v) := Blk.range h 0 _ (fun j u hj => by
  have hlt : j < 8 := by have := (List.getElem?_eq_some_iff.1 hj).1; exact this
  rw [Nat.zero_add, List.getElem?_append_left hlt]; exact hj)
theorem Hs.row {w : World} {g : Nat} {v : Nat → Word} {r : Value} {n : Nat} (h : Hs w g v r n) (v' : Nat → Word) : Hs (w.setRow g (spl (wl v ++ [r, .int .u64 (n : Int)]) 0 (Ws 8 v').toList).toArray) g v' r n := Blk.row h _
/-- The words behind k pieces from given words on. -/
def FF (v : Nat → Word) (f : Nat → Byte) : Nat → Nat → Word
  | 0 => v
  | k + 1 => comp (FF v f k) (fun i => f (64 * k + i))
theorem FF_h0 (f : Nat → Byte) : ∀ k, FF h0 f k = F f k
  | 0 => rfl
  | k + 1 => by unfold FF F; rw [FF_h0 f k]
theorem FF_add (v : Nat → Word) (f : Nat → Byte) (m : Nat) : ∀ k, FF (FF v f m) (fun i => f (64 * m + i)) k = FF v f (m + k)
  | 0 => rfl
  | k + 1 => by
    rw [← Nat.add_assoc]
    unfold FF
    rw [FF_add v f m k]
    congr 1
    funext i
    rw [show 64 * (m + k) + i = 64 * m + (64 * k + i) by omega]
theorem BytesAt.keptBut {w w' : World} {a : Option Addr} {len : Nat} {f : Nat → Byte} {S : Nat → Prop} (h : BytesAt w a len f) (k : Kept S w w') (hs : ∀ g o, a = some ⟨g, o, none⟩ → ¬ S g) : BytesAt w' a len f := by
  rcases h with h | ⟨g, o, ha, hc⟩
  · exact .inl h
  · refine .inr ⟨g, o, ha, fun i hi => ?_⟩
    have hci := hc i hi
    have hlt : g < w.heap.size := block_lt_of_cell hci
    rw [World.cell?_of_block (w := w) (k.block g hlt (hs g o ha))]; exact hci
theorem BytesAt.more {w : World} {a : Option Addr} {l : Nat} {f : Nat → Byte} (h : BytesAt w a l f) (k : Nat) (hk : k ≤ l) : BytesAt w (a.map fun x => ⟨x.block, x.off + k, none⟩) (l - k) (fun i => f (k + i)) := by
  rcases h with h | ⟨g, o, rfl, hc⟩
  · exact .inl (by omega)
  · by_cases h0 : k = l
    · exact .inl (by omega)
    · exact .inr ⟨g, o + k, rfl, fun i hi => by rw [Nat.add_assoc]; exact hc (k + i) (by omega)⟩
theorem BytesAt.drop {w : World} {a : Option Addr} {len : Nat} {f : Nat → Byte} (h : BytesAt w a len f) (k : Nat) (hk : k < len) : ∃ g o, a = some ⟨g, o, none⟩ ∧ BytesAt w (some ⟨g, o + k, none⟩) (len - k) (fun i => f (k + i)) := by
  obtain ⟨g, o, ha, hc⟩ := h.resolve_left (by omega)
  exact ⟨g, o, ha, .inr ⟨g, o + k, rfl, fun i hi => by rw [Nat.add_assoc]; exact hc (k + i) (by omega)⟩⟩
def AddPost (g : Nat) (v : Nat → Word) (n : Nat) (f : Nat → Byte) (len : Nat) (w : World) (r : Ending) (w' : World) : Prop :=
  r = .returned (.int .i64 0) ∧ ∃ ra rc, Hs w' g (FF v f (len / 64)) (.slice ra (len % 64) rc) (n + len) ∧ (len % 64 = 0 → ra = none ∧ rc = 0) ∧ OwnB w' w.heap.size ra (len % 64) rc (fun i => f (64 * (len / 64) + i)) ∧ Kept (fun k => k = g) w w'
set_option maxRecDepth 100000 in
set_option maxHeartbeats 8000000 in
theorem add_any (g : Nat) (v : Nat → Word) (n : Nat) (a : Option Addr) (len cap : Nat) (f : Nat → Byte) (w : World) (hkey : KeysAt w) (hg1 : g ≠ 1) (hs : Hs w g v (.slice none 0 0) n) (hc : BytesAt w a len f) (hne : ∀ gb o, a = some ⟨gb, o, none⟩ → gb ≠ g) (hnil : a = none → len = 0) (hlc : len ≤ cap) (hll : len ≤ 140737488355328) (hn : n ≤ 140737488355328) :
    Calls Tryd.prog 49 #[.pointer (some ⟨g, 0, none⟩), .slice a len cap] w (AddPost g v n f len w) := by
  have hs0 := hs
  have c8 := hs.c8
  have c9 := hs.c9
  have f9 := hs.f 9
  have q1 : (n : Int) ≤ 140737488355328 := by omega
  have q2 : (len : Int) ≤ 140737488355328 := by omega
  go_enter Tryd.func49, Tryd.ntmps49
  go_upto_region 12 with fail
  have hs1 : Hs (w.setCell ⟨g, 9, none⟩ (.int .u64 ((n : Int) + (len : Int)))) g v (.slice none 0 0) (n + len) := by
    have := hs.s9 (n + len)
    rwa [show (((n + len : Nat)) : Int) = (n : Int) + (len : Int) by omega] at this
  have hk1 : Kept (fun k => k = g) w (w.setCell ⟨g, 9, none⟩ (.int .u64 ((n : Int) + (len : Int)))) := (Kept.refl (fun k => k = g) w).setCell (p := ⟨g, 9, none⟩) (fun _ => rfl) _
  have hc1 : BytesAt (w.setCell ⟨g, 9, none⟩ (.int .u64 ((n : Int) + (len : Int)))) a len f := hc.keptBut hk1 (fun gb o h => hne gb o h)
  generalize hw1 : w.setCell ⟨g, 9, none⟩ (.int .u64 ((n : Int) + (len : Int))) = w1 at hs1 hk1 hc1 ⊢
  clear hw1 c8 c9 f9 hs
  go_loopg [1] (len / 64) (fun k s wr => ∃ (m : Nat) (ad : Option Addr) (cp : Nat), m + k = len / 64 ∧ m ≤ len / 64 ∧ s = .slice ad (len - 64 * m) cp ∧ len - 64 * m ≤ cp ∧ BytesAt wr ad (len - 64 * m) (fun i => f (64 * m + i)) ∧ (∀ gb o, ad = some ⟨gb, o, none⟩ → gb ≠ g) ∧ (ad = none → len - 64 * m = 0) ∧ Hs wr g (FF v f m) (.slice none 0 0) (n + len) ∧ Kept (fun k => k = g) w wr)
  case atStart => exact ⟨0, a, cap, by omega, by omega, rfl, by omega, by simpa using hc1, hne, by simpa using hnil, hs1, hk1⟩
  case round =>
    clear hs1 hk1 hc1
    obtain ⟨m, ad, cp, hm, hm2, rfl, hl, hb, hgb, hnl, hs, hk⟩ := hrel
    have Hm := Lib.hid hm
    clear hm
    obtain ⟨l, hl2⟩ : ∃ l : Nat, l = len - 64 * m := ⟨_, rfl⟩
    have hll2 : l ≤ len := by omega
    rw [← hl2] at hl hb hnl ⊢
    have HL := Lib.hid hl2
    clear hl2
    by_cases hlt : 64 ≤ l
    · have q3 : (64 : Int) ≤ l := by omega
      have hkw : KeysAt wr := fun i hi => by
        rw [World.cell?_of_block (w := w) (hk.block 1 (block_lt_of_cell (hkey i hi)) (fun e => hg1 e.symm))]
        exact hkey i hi
      have hrg := hs.range
      go_wp2_with (first | (refine wpList_load_mid rfl 94 (.tmp 81) rfl g 0 rfl (wl (FF v f m)) _ hrg Tryd.underlying94 rfl (by kernel_rfl) ?_))
      refine (piece_any (FF v f m) ad l cp (fun i => f (64 * m + i)) wr hkw hb hlt (by omega)).mono ?_
      rintro r w2 ⟨rfl, hk2⟩
      have hs2 : Hs w2 g (FF v f m) (.slice none 0 0) (n + len) := hk2.at hs (fun h => h)
      have hb2 := hb.kept hk2
      have hK2 : Kept (fun k => k = g) w w2 := hk.trans hk2 (fun _ _ h => h.elim)
      clear hs hb hk hk2 hrg hkw
      go_wp2_with (first | (refine wpList_storeK rfl 94 (.tmp 86) (.tmp 84) rfl g 0 (Ws 8 (FF v f (m + 1))) rfl rfl 98 _ hs2 (info94 _) (by simp [wl, Ws_size]) (Ws_one _ _) ?_))
      · have hl64 : l = 64 := by omega
        go_roundg (gk - 1)
        case measure => have := Hm.out; have := HL.out; omega
        case rel =>
          have := Hm.out
          have := HL.out
          refine ⟨m + 1, ad, 0, by omega, by omega, by rw [show len - 64 * (m + 1) = l - 64 by omega], by omega, .inl (by omega), hgb, fun _ => by omega, hs2.row _, hK2.setRow (fun _ => rfl) _⟩
      · have hmap : ∀ gb o, (ad.map fun x => (⟨x.block, x.off + 64, none⟩ : Addr)) = some ⟨gb, o, none⟩ → gb ≠ g := by
          intro gb o h
          rcases hb2 with h0 | ⟨g2, o2, rfl, _⟩
          · omega
          · simp only [Option.map_some, Option.some.injEq, Addr.mk.injEq] at h
            exact h.1 ▸ hgb g2 o2 rfl
        go_roundg (gk - 1)
        case measure => have := Hm.out; have := HL.out; omega
        case rel =>
          have := Hm.out
          have := HL.out
          have e : len - 64 * (m + 1) = l - 64 := by omega
          refine ⟨m + 1, _, cp - 64, by omega, by omega, by rw [e], by omega, ?_, ?_, fun h => by rw [hnl (by simpa using h)] at hlt; omega, hs2.row _, hK2.setRow (fun _ => rfl) _⟩
          · rw [e]
            have hb3 := hb2.more 64 hlt
            rw [show (fun i => f (64 * (m + 1) + i)) = (fun i => f (64 * m + (64 + i))) from funext fun i => by rw [show 64 * (m + 1) + i = 64 * m + (64 + i) by omega]]
            exact hb3.keptBut ((Kept.refl (fun k => k = g) w2).setRow (fun _ => rfl) _) (fun gb o h => hmap gb o h)
          · exact hmap
    · have q3 : ¬ (64 : Int) ≤ l := by omega
      have c8 := hs.c8
      have f8 := hs.f 8
      go_wp2_with (refine appendA rfl (.tmp 91) (.tmp 92) rfl w.heap.size none 0 0 (fun i => f i) rfl (OwnB.nil _ _ _) ad l cp (fun i => f (64 * m + i)) rfl hb (by omega) hk.size ?_)
      intro a' cap' w2 hO hP hZ
      have hs2 : Hs w2 g (FF v f m) (.slice none 0 0) (n + len) := hP.kept.at hs (by simp)
      have hK2 : Kept (fun k => k = g) w w2 := hk.trans hP.kept (fun _ _ h => by simp at h)
      have hO2 : OwnB w2 w.heap.size a' l cap' (fun i => f (64 * m + i)) := by
        have := hO.congr (f' := fun i => f (64 * m + i)) (fun i _ => by unfold glue; rw [if_neg (by omega)]; rfl)
        simpa using this
      have hgl : g < w.heap.size := lt_of_at hs0
      clear hO hP hs hk hb
      have c8 := hs2.c8
      have f8 := hs2.f 8
      go_wp2_with fail
      go_ret
      have := Hm.out
      have := HL.out
      have em : len / 64 = m := by omega
      have el : len % 64 = l := by omega
      refine ⟨rfl, a', cap', ?_, fun h => hZ (by omega), ?_, hK2.setCell (p := ⟨g, 8, none⟩) (fun _ => rfl) _⟩
      · rw [em, el]; exact hs2.s8 _
      · rw [em, el]
        exact hO2.kept ((Kept.refl (fun k => k = g) w2).setCell (p := ⟨g, 8, none⟩) (fun _ => rfl) _) (fun g' h e => by
          subst h
          have := hO2.base_le
          omega)
end Go.Proofs.YtpekibadleghbaaDoor
