/-
  The walk of the method Sum.
-/
import Derived.Test.YtpekibadleghbaaDoorN6
namespace Go.Proofs.YtpekibadleghbaaDoor
open Go.RowKit
set_option linter.unusedVariables false
set_option linter.unusedSimpArgs false
def padE (f : Nat → Byte) (len n : Nat) : Nat → Byte := fun i => if i < len then f i else if i = len then 128#8 else if i < padLen len - 8 then 0#8 else lenByte n (i - (padLen len - 8))
def bytesOf (v : Nat → Word) : Nat → Byte := fun i => ((v (i / 4)) >>> (24 - 8 * (i % 4))).setWidth 8
theorem lenByte_iB (n j : Nat) : (n : Int) * 8 / 2 ^ (56 - 8 * j) % 256 = iB (lenByte n j) := by
  unfold iB lenByte
  rw [BitVec.toNat_ofNat, Int.natCast_emod, Int.natCast_ediv, Int.natCast_mul, Int.natCast_pow]
  rfl
def fT (f : Nat → Byte) (n : Nat) : Nat → Byte := fun i => if i < n then f i else 0#8
theorem fT_upd (f : Nat → Byte) (n : Nat) : upd (fT f n) n (f n) = fT f (n + 1) := by
  funext i; unfold upd fT
  by_cases h : i = n
  · subst h; simp
  · rw [if_neg h]
    by_cases h2 : i < n
    · rw [if_pos h2, if_pos (by omega)]
    · rw [if_neg h2, if_neg (by omega)]
theorem info70F (f : Nat → Byte) : (Tryd.prog.info? 70).map (·.size) = some (Fs 32 f).size := by
  rw [Fs_size]; kernel_rfl
theorem bytesOf_iB (V : Nat → Word) (j : Nat) : iW (V (j / 4)) / 2 ^ (24 - 8 * (j % 4)) % 256 = iB (bytesOf V j) := by
  unfold iB bytesOf iW
  rw [BitVec.toNat_setWidth, BitVec.toNat_ushiftRight, Nat.shiftRight_eq_div_pow, Int.natCast_emod, Int.natCast_ediv, Int.natCast_pow]
  rfl
theorem results_ct {P : Program} {fn : Func} {p u : Tmp} {ty : TypeId} (h : fn.results = #[.cell p ty, .tmp u]) (tmps : Array Value) (w : World) (g : Nat) (t : TypeId) (cs : Array Value) (fr : Nat × Nat) (d : TypeDesc)
    (hp : tmps.getD p undef = .pointer (some ⟨g, 0, none⟩)) (hg : w.heap[g]? = some (.cells cs t fr))
    (hu : P.underlying ty = some d) (hd : (match d with | .struct _ | .array _ _ => true | _ => false) = true) (hi : (P.info? ty).map (·.size) = some cs.size) :
    (results fn tmps).run P w = .ok (.tuple #[.agg cs, tmps.getD u undef]) w := by
  have hp' : tmps[p]?.getD undef = .pointer (some ⟨g, 0, none⟩) := by simpa using hp
  simp [results, h, hp', asAddr, run_loadVar_row w g t ty cs fr d hg hu hd hi]
/-- What stays while the padded rest is laid. -/
def Stays (w0 w : World) : Prop := Kept (fun _ => False) w0 w ∧ Row w w0.heap.size 70 32 (fun _ => 0#8)
theorem Stays.alloc {w0 w : World} (h : Stays w0 w) (o : Obj) : Stays w0 (w.alloc o) := ⟨h.1.alloc _, h.2.alloc _⟩
theorem Stays.setNew {w0 w : World} (h : Stays w0 w) {p : Addr} (hp : w0.heap.size + 1 ≤ p.block) (u : Value) : Stays w0 (w.setCell p u) := ⟨h.1.setNew (by omega) _, h.2.other (by omega) _⟩
theorem Stays.setRowNew {w0 w : World} (h : Stays w0 w) {g : Nat} (hp : w0.heap.size + 1 ≤ g) (cs : Array Value) : Stays w0 (w.setRow g cs) := ⟨h.1.setRowNew (by omega) _, h.2.rowOther (by omega) _⟩
theorem OwnB.le_cap {w : World} {base n cap : Nat} {a : Option Addr} {f : Nat → Byte} (h : OwnB w base a n cap f) : n ≤ cap := by
  rcases h.at with ⟨_, h1, h2⟩ | ⟨_, _, _, _, _, h1, _⟩
  · omega
  · exact h1
theorem Stays.kept {w0 w w' : World} (h : Stays w0 w) (k : Kept (fun _ => False) w w') : Stays w0 w' := ⟨h.1.trans k (fun _ _ h => h), k.at h.2 (fun h => h)⟩
theorem Stays.push {w0 w w' : World} (h : Stays w0 w) {a a' : Option Addr} {n m cap : Nat} {f : Nat → Byte} (ho : OwnB w (w0.heap.size + 1) a n cap f) (p : Pushed a m a' w w') : Stays w0 w' := by
  have hno : ∀ i, i < w0.heap.size + 1 → ¬ a = some ⟨i, 0, none⟩ := fun i hi e => by
    subst e
    have := ho.base_le
    omega
  exact ⟨h.1.trans p.kept (fun i hi e => hno i (by omega) e), p.kept.at h.2 (hno _ (by omega))⟩
theorem Stays.size {w0 w : World} (h : Stays w0 w) : w0.heap.size + 1 ≤ w.heap.size := h.2.lt
set_option maxRecDepth 100000 in
set_option maxHeartbeats 8000000 in
theorem sum_any (g : Nat) (v : Nat → Word) (n : Nat) (a : Option Addr) (len cap : Nat) (f : Nat → Byte) (w : World) (hkey : KeysAt w) (hg1 : g ≠ 1) (hs : Hs w g v (.slice a len cap) n) (hc : BytesAt w a len f) (hlen : len < 64) (hn : n ≤ 140737488355328) :
    Calls Tryd.prog 51 #[.pointer (some ⟨g, 0, none⟩)] w fun r w' => r = .returned (.tuple #[.agg (Fs 32 (bytesOf (FF v (padE f len n) (padLen len / 64)))), .int .i64 0]) ∧ Kept (fun _ => False) w w' := by
  have c8 := hs.c8
  have c9 := hs.c9
  have q1 : (n : Int) ≤ 140737488355328 := by omega
  have q2 : (len : Int) < 64 := by omega
  go_enter Tryd.func51, Tryd.ntmps51
  go_upto_region 3 with fail
  clear c8 c9
  generalize hwA : World.alloc w _ = wA
  have hR : Row wA w.heap.size 70 32 (fun _ => 0#8) := by rw [← hwA]; exact heap_alloc_new w _
  have hK : Kept (fun _ => False) w wA := by rw [← hwA]; exact (Kept.refl _ w).alloc _
  have hz : wA.heap.size = w.heap.size + 1 := by rw [← hwA, size_alloc]
  have hsA : Hs wA g v (.slice a len cap) n := hK.at hs (fun h => h)
  have hcA := hc.kept hK
  have hgl : g < w.heap.size := lt_of_at hs
  clear hwA
  have hE : OwnB (wA.alloc (.cells #[] 5)) (w.heap.size + 1) (some ⟨w.heap.size + 1, 0, none⟩) 0 0 f := by rw [← hz]; exact OwnB.new (Row.new wA 5 0 f) (by omega) (by omega)
  have hKE : Kept (fun _ => False) wA (wA.alloc (.cells #[] 5)) := (Kept.refl _ wA).alloc _
  have hsE : Hs (wA.alloc (.cells #[] 5)) g v (.slice a len cap) n := hKE.at hsA (fun h => h)
  have hcE := hcA.kept hKE
  have c8 := hsE.c8
  go_upto_region 4 with (first | (refine appendA rfl (.tmp 12) (.tmp 16) rfl (w.heap.size + 1) (some ⟨w.heap.size + 1, 0, none⟩) 0 0 f rfl hE a len cap f rfl hcE (by omega) (by rw [size_alloc]; omega) ?_))
  intro a1 cap1 w1 hO hP _
  have hO1 : OwnB w1 (w.heap.size + 1) a1 len cap1 f := by
    have := hO.congr (f' := f) (fun i _ => by unfold glue; rw [if_neg (by omega)]; rfl)
    simpa using this
  have hS1 : Stays w w1 := Stays.push (⟨hK.alloc _, hR.alloc _⟩ : Stays w (wA.alloc (.cells #[] 5))) hE hP
  clear hO hP hE hKE hsE hcE c8 hcA hsA hR hK hz
  have hz1 := hS1.size
  go_upto_region 5 with (first | (refine append1 rfl (.tmp 18) (.tmp 19) rfl (w.heap.size + 1) a1 len cap1 f rfl (hO1.alloc _) w1.heap.size 1 128#8 rfl (by simp; rfl) (by omega) (by simp; omega) ?_))
  intro a2 cap2 w2 hO hP
  have hO2 : OwnB w2 (w.heap.size + 1) a2 (len + 1) cap2 (padE f len n) := hO.congr (fun i hi => by
    unfold upd padE
    by_cases h1 : i < len
    · rw [if_neg (by omega), if_pos h1]
    · rw [if_pos (by omega), if_neg h1, if_pos (by omega)])
  have hS2 : Stays w w2 := (hS1.alloc _).push (hO1.alloc _) hP
  clear hO hP hO1 hS1 hz1
  have hpl : padLen len = 64 * ((len + 8) / 64 + 1) := rfl
  have HPL := Lib.hid hpl
  have hp1 : len + 1 ≤ padLen len - 8 := by omega
  have hp2 : padLen len ≤ 128 := by omega
  clear hpl
  go_upto_region 5 with fail
  go_loopg [4] (padLen len - 8 - (len + 1)) (fun k s wr => ∃ (m : Nat) (ad : Option Addr) (cp : Nat), m + k = padLen len - 8 ∧ len + 1 ≤ m ∧ m ≤ padLen len - 8 ∧ s = .slice ad m cp ∧ OwnB wr (w.heap.size + 1) ad m cp (padE f len n) ∧ Stays w wr)
  case atStart => exact ⟨len + 1, a2, cap2, by omega, by omega, by omega, rfl, hO2, hS2⟩
  case round =>
    clear hO2 hS2
    obtain ⟨m, ad, cp, hm, hm1, hm2, rfl, hO, hS⟩ := hrel
    have Hm := Lib.hid hm
    clear hm
    have hz := hS.size
    have hpl := HPL.out
    by_cases hlt : m % 64 = 56
    · have q3 : (m : Int) % 64 = 56 := by omega
      have hmE : m = padLen len - 8 := by omega
      clear hpl hlt hm1 hm2 Hm
      go_upto_region 8 with fail
      subst hmE
      generalize hbb : ((((padLen len - 8 : Nat) : Int) % 64) != 56) = bb
      clear q3 hbb
      go_loopg [4, 28] 8 (fun k s i wr => ∃ (j : Nat) (ad : Option Addr) (cp : Nat), j + k = 8 ∧ j ≤ 8 ∧ i = .int .i64 (j : Int) ∧ s = .slice ad (padLen len - 8 + j) cp ∧ OwnB wr (w.heap.size + 1) ad (padLen len - 8 + j) cp (padE f len n) ∧ Stays w wr)
      case atStart => exact ⟨0, ad, cp, by omega, by omega, rfl, rfl, hO, hS⟩
      case round =>
        clear hO hS
        obtain ⟨j, ad, cp, hj, hj2, rfl, rfl, hO, hS⟩ := hrel
        have Hj := Lib.hid hj
        clear hj
        have hz := hS.size
        by_cases hlt : j < 8
        · have q4 : (j : Int) < 8 := by omega
          have hsw : Hs wr g v (.slice a len cap) n := hS.1.at hs (fun h => h)
          have c9 := hsw.c9
          have q5 : (0 : Int) ≤ j := by omega
          have q6 : (0 : Int) ≤ 56 - 8 * (j : Int) := by omega
          have q7 : (56 - 8 * (j : Int)).toNat = 56 - 8 * j := by omega
          go_upto_region 10 with fail
          go_wp2_with (refine append1 rfl (.tmp 31) (.tmp 42) rfl (w.heap.size + 1) ad (padLen len - 8 + j) cp (padE f len n) rfl (hO.alloc _) wr.heap.size 1 (lenByte n j) rfl (by simp; exact lenByte_iB n j) (by omega) (by simp; omega) ?_)
          intro a' cap' w' hO' hP
          have hO' := hO'.congr (f' := padE f len n) (fun i hi => by
            unfold upd
            by_cases h1 : i = padLen len - 8 + j
            · rw [if_pos h1]; unfold padE; rw [if_neg (by omega), if_neg (by omega), if_neg (by omega), show i - (padLen len - 8) = j by omega]
            · rw [if_neg h1])
          have hS' : Stays w w' := (hS.alloc _).push (hO.alloc _) hP
          clear hO hS hP hsw
          go_wp2_with fail
          go_roundg (gk - 1)
          case measure => have := Hj.out; omega
          case rel =>
            have := Hj.out
            exact ⟨j + 1, a', cap', by omega, by omega, by go_num, by rw [Nat.add_assoc], hO', hS'⟩
        · have q4 : ¬ (j : Int) < 8 := by omega
          obtain rfl : j = 8 := by omega
          have hsw : Hs wr g v (.slice a len cap) n := hS.1.at hs (fun h => h)
          have hrg := hsw.range
          clear q4 hlt Hj hj2
          go_upto_region 13 with (first | (refine wpList_load_mid rfl 94 (.tmp 47) rfl g 0 rfl (wl v) _ hrg Tryd.underlying94 rfl (by kernel_rfl) ?_) | (refine wpList_store_row rfl 94 (.tmp 6) (.tmp 48) rfl wr.heap.size (Ws 8 v) rfl rfl 94 _ (new94 wr) (info94 _) (by rw [Ws_size, Ws_size]) (Ws_one _ _) ?_))
          have hL : padLen len - 8 + 8 = padLen len := by omega
          rw [hL] at hO ⊢
          have hcap : padLen len ≤ cp := hO.le_cap
          have hb0 : BytesAt wr ad (padLen len) (padE f len n) := hO.bytes
          have hlt0 : ∀ gb o, ad = some ⟨gb, o, none⟩ → gb ≠ wr.heap.size := fun gb o h e => by
            subst h
            have hx := hb0.resolve_left (by omega)
            obtain ⟨g2, o2, he, hx⟩ := hx
            have := block_lt_of_cell (hx 0 (by omega))
            simp only [Option.some.injEq, Addr.mk.injEq] at he
            simp only [] at this
            omega
          generalize hwm : World.setRow (World.alloc wr _) _ _ = wm
          have hW : RowW wm wr.heap.size 94 8 v := by rw [← hwm]; exact RowW.row (new94 wr)
          have hSm : Stays w wm := by rw [← hwm]; exact (hS.alloc _).setRowNew (by omega) _
          have hbm : BytesAt wm ad (padLen len) (padE f len n) := by
            rw [← hwm]
            exact (hb0.kept ((Kept.refl _ wr).alloc _)).keptBut ((Kept.refl (fun k => k = wr.heap.size) _).setRow (fun _ => rfl) _) (fun gb o h => hlt0 gb o h)
          generalize hgw : wr.heap.size = gw at *
          have hz1 : w.heap.size + 1 ≤ gw := by omega
          have hnl0 : ad = none → padLen len = 0 := fun h => by
            subst h
            rcases hbm with h | ⟨_, _, h, _⟩
            · exact h
            · cases h
          clear hwm hO hS hsw hrg hb0 hgw hz
          rw [show ∀ (x : Act) (u : Value), x.put none u = x from fun _ _ => rfl]
          go_loopg [4] (padLen len / 64) (fun k s wr => ∃ (m : Nat) (ad : Option Addr) (cp : Nat), m + k = padLen len / 64 ∧ m ≤ padLen len / 64 ∧ s = .slice ad (padLen len - 64 * m) cp ∧ padLen len - 64 * m ≤ cp ∧ BytesAt wr ad (padLen len - 64 * m) (fun i => padE f len n (64 * m + i)) ∧ (∀ gb o, ad = some ⟨gb, o, none⟩ → gb ≠ gw) ∧ (ad = none → padLen len - 64 * m = 0) ∧ RowW wr gw 94 8 (FF v (padE f len n) m) ∧ Stays w wr)
          case atStart => exact ⟨0, ad, cp, by omega, by omega, rfl, by omega, by simpa using hbm, hlt0, hnl0, hW, hSm⟩
          case round =>
            clear hW hSm hbm hlt0
            obtain ⟨m, ad, cp, hm, hm2, rfl, hl, hb, hgb, hnl, hW, hS⟩ := hrel
            have Hm := Lib.hid hm
            clear hm
            obtain ⟨l, hl2⟩ : ∃ l : Nat, l = padLen len - 64 * m := ⟨_, rfl⟩
            rw [← hl2] at hl hb hnl ⊢
            have HL := Lib.hid hl2
            have hpl := HPL.out
            have hl64 : l % 64 = 0 := by omega
            have hl128 : l ≤ 128 := by omega
            clear hl2 hpl
            have hkw : KeysAt wr := hkey.kept hS.1
            by_cases hlt : 64 ≤ l
            · have q3 : (0 : Int) < l := by omega
              have q4 : (64 : Int) ≤ l := by omega
              go_wp2_with (first | (refine wpList_load_row rfl 94 (.tmp 6) rfl gw rfl 94 (Ws 8 (FF v (padE f len n) m)) (0, 0) _ hW Tryd.underlying94 rfl (info94 _) ?_))
              refine (piece_any (FF v (padE f len n) m) ad l cp (fun i => padE f len n (64 * m + i)) wr hkw hb hlt (by omega)).mono ?_
              rintro r w2 ⟨rfl, hk2⟩
              have hW2 : RowW w2 gw 94 8 (FF v (padE f len n) m) := hk2.at hW (fun h => h)
              have hb2 := hb.kept hk2
              have hS2 : Stays w w2 := hS.kept hk2
              clear hb hS hk2 hkw hW
              go_wp2_with (first | (refine wpList_store_row rfl 94 (.tmp 6) (.tmp 56) rfl gw (Ws 8 (FF v (padE f len n) (m + 1))) rfl rfl 94 _ hW2 (info94 _) (by rw [Ws_size, Ws_size]) (Ws_one _ _) ?_))
              · have hl64 : l = 64 := by omega
                go_roundg (gk - 1)
                case measure => have := Hm.out; have := HL.out; omega
                case rel =>
                  have := Hm.out
                  have := HL.out
                  refine ⟨m + 1, ad, 0, by omega, by omega, by rw [show padLen len - 64 * (m + 1) = l - 64 by omega], by omega, .inl (by omega), hgb, fun _ => by omega, RowW.row hW2, hS2.setRowNew hz1 _⟩
              · have hmap : ∀ gb o, (ad.map fun x => (⟨x.block, x.off + 64, none⟩ : Addr)) = some ⟨gb, o, none⟩ → gb ≠ gw := by
                  intro gb o h
                  rcases hb2 with h0 | ⟨g2, o2, rfl, _⟩
                  · omega
                  · simp only [Option.map_some, Option.some.injEq, Addr.mk.injEq] at h
                    exact h.1 ▸ hgb g2 o2 rfl
                go_roundg (gk - 1)
                case measure => have := Hm.out; have := HL.out; omega
                case rel =>
                  have := Hm.out
                  have := HL.out
                  have e : padLen len - 64 * (m + 1) = l - 64 := by omega
                  refine ⟨m + 1, _, cp - 64, by omega, by omega, by rw [e], by omega, ?_, hmap, fun h => by rw [hnl (by simpa using h)] at hlt; omega, RowW.row hW2, hS2.setRowNew hz1 _⟩
                  rw [e]
                  have hb3 := hb2.more 64 hlt
                  rw [show (fun i => padE f len n (64 * (m + 1) + i)) = (fun i => padE f len n (64 * m + (64 + i))) from funext fun i => by rw [show 64 * (m + 1) + i = 64 * m + (64 + i) by omega]]
                  exact hb3.keptBut ((Kept.refl (fun k => k = gw) w2).setRow (fun _ => rfl) _) (fun gb o h => hmap gb o h)
            · have q3 : ¬ (0 : Int) < l := by omega
              have hl0 : l = 0 := by omega
              have hmE : m = padLen len / 64 := by have := HL.out; omega
              have hS := hS
              generalize hV : FF v (padE f len n) (padLen len / 64) = V
              rw [hmE, hV] at hW
              have HV := Lib.hid hV
              clear Hm HL hb hgb hnl hkw hmE hm2 hV HPL
              go_upto_region 18 with fail
              generalize hwo : World.alloc wr _ = wo
              have hO : Row wo wr.heap.size 70 32 (fun _ => 0#8) := by rw [← hwo]; exact heap_alloc_new wr _
              have hS0 : Stays w wo := by rw [← hwo]; exact hS.alloc _
              have hW0 : RowW wo gw 94 8 V := by rw [← hwo]; exact hW.alloc _
              have hgo : gw < wr.heap.size := hW.lt
              have hzz := hS.size
              generalize hgoo : wr.heap.size = go at *
              clear hwo hgoo hS hW
              go_loopg [57] 32 (fun k i wr => ∃ j : Nat, j + k = 32 ∧ j ≤ 32 ∧ i = .int .i64 (j : Int) ∧ Row wr go 70 32 (fT (bytesOf V) j) ∧ RowW wr gw 94 8 V ∧ Stays w wr)
              case atStart => exact ⟨0, by omega, by omega, rfl, hO, hW0, hS0⟩
              case round =>
                clear hO hW0 hS0
                obtain ⟨j, hj, hj2, rfl, hO, hW, hS⟩ := hrel
                have Hj := Lib.hid hj
                clear hj
                by_cases hlt : j < 32
                · have q5 : (j : Int) < 32 := by omega
                  have q6 : (0 : Int) ≤ j := by omega
                  have p1 : (j : Int) / 4 < 8 := by omega
                  have p2 : (0 : Int) ≤ (j : Int) / 4 := by omega
                  have p3 : ((j : Int) / 4).toNat = j / 4 := by omega
                  have p4 : (0 : Int) ≤ (j : Int) % 4 := by omega
                  have p5 : (j : Int) % 4 < 4 := by omega
                  have p6 : (0 : Int) ≤ 24 - 8 * ((j : Int) % 4) := by omega
                  have p7 : (24 - 8 * ((j : Int) % 4)).toNat = 24 - 8 * (j % 4) := by omega
                  have p8 : 24 - 8 * ((j : Int) % 4) < 32 := by omega
                  have cw := hW.cell (i := j / 4) (by omega)
                  have fo := hO.free j
                  have co := hO.cell (i := j) hlt
                  go_wp2_with fail
                  go_roundg (gk - 1)
                  case measure => have := Hj.out; omega
                  case rel =>
                    have := Hj.out
                    refine ⟨j + 1, by omega, by omega, by go_num, ?_, ?_, ?_⟩
                    · rw [← fT_upd, bytesOf_iB V j]; exact hO.set j _
                    · exact hW.other (by simp; omega) _
                    · exact hS.setNew (by simp; omega) _
                · obtain rfl : j = 32 := by omega
                  have hO := hO.congr (f' := bytesOf V) fun i hi => by unfold fT; rw [if_pos hi]
                  have hR := hS.2
                  go_wp2_with (first | (refine wpList_load_row rfl 70 (.tmp 7) rfl go rfl 70 (Fs 32 (bytesOf V)) (0, 0) _ hO Tryd.underlying70 rfl (info70F _) ?_) | (refine wpList_store_row rfl 70 (.tmp 2) (.tmp 73) rfl w.heap.size (Fs 32 (bytesOf V)) rfl rfl 70 _ hR (info70F _) (by rw [Fs_size, Fs_size]) (Fs_one _ _) ?_))
                  have hR2 : Row (wr.setRow w.heap.size (Fs 32 (bytesOf V))) w.heap.size 70 32 (bytesOf V) := Row.row hR
                  refine bodyPost_ret (results_ct rfl _ _ w.heap.size 70 (Fs 32 (bytesOf V)) (0, 0) _ rfl hR2 Tryd.underlying70 rfl (info70F _)) rfl ⟨?_, hS.1.setRowNew (Nat.le_refl _) _⟩
                  rw [HV.out]
                  rfl
    · have q3 : ¬ (m : Int) % 64 = 56 := by omega
      have hm3 : m < padLen len - 8 := by omega
      clear hpl
      go_wp2_with (first | (refine append1 rfl (.tmp 25) (.tmp 26) rfl (w.heap.size + 1) ad m cp (padE f len n) rfl (hO.alloc _) wr.heap.size 1 0#8 rfl (by simp; rfl) (by omega) (by simp; omega) ?_))
      intro a' cap' w' hO' hP
      have hO' := hO'.congr (f' := padE f len n) (fun i hi => by
        unfold upd
        by_cases h1 : i = m
        · rw [if_pos h1]; unfold padE; rw [if_neg (by omega), if_neg (by omega), if_pos (by omega)]
        · rw [if_neg h1])
      have hS' : Stays w w' := (hS.alloc _).push (hO.alloc _) hP
      clear hO hS hP
      go_wp2_with fail
      go_roundg (gk - 1)
      case measure => have := Hm.out; omega
      case rel =>
        have := Hm.out
        exact ⟨m + 1, a', cap', by omega, by omega, by omega, rfl, hO', hS'⟩
end Go.Proofs.YtpekibadleghbaaDoor
