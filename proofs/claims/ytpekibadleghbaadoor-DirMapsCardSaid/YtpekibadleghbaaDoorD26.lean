/-
  The walk of the law DirMaps.
-/
import Derived.Test.YtpekibadleghbaaDoorDE
import Derived.Test.YtpekibadleghbaaDoorOpE
import Derived.IntWalk
namespace Go.Proofs.YtpekibadleghbaaDoor
open Go.RowKit
set_option linter.unusedVariables false
set_option linter.unusedSimpArgs false
/-- A step of a script. -/
structure OpD where
  kind : Int
  nm : ByteArray
  ino : Int
def OpsAt (w : World) (a : Option Addr) (n : Nat) (f : Nat → OpD) : Prop := n = 0 ∨ ∃ g o, a = some ⟨g, o, none⟩ ∧ ∀ i, i < n → w.cell? ⟨g, o + i * 3, none⟩ = some (.int .i64 (f i).kind) ∧ w.cell? ⟨g, o + i * 3 + 1, none⟩ = some (.string (f i).nm) ∧ w.cell? ⟨g, o + i * 3 + 2, none⟩ = some (.int .i64 (f i).ino)
def zn (Z : List En) : List ByteArray := Z.map En.nm
def zi (Z : List En) : List Int := Z.map En.ino
theorem zn_len (Z : List En) : (zn Z).length = Z.length := by simp [zn]
theorem zi_len (Z : List En) : (zi Z).length = Z.length := by simp [zi]
theorem zn_get (Z : List En) (i : Nat) (h : i < Z.length) : (zn Z)[i]? = some (nthE Z i).nm := by simp [zn, nthE, h]
theorem zi_get (Z : List En) (i : Nat) (h : i < Z.length) : (zi Z)[i]? = some (nthE Z i).ino := by simp [zi, nthE, h]
def zt (xs : List En) (c : Nat) : List ByteArray := (xs.take c).map En.nm
theorem pick9 (s : Int) : ∃ N : Nat, wrap64 (1 + wrap64 ((IntKind.u64.wrap s).tmod 9)) = (N : Int) ∧ 1 ≤ N ∧ N ≤ 9 := by
  have h0 : 0 ≤ IntKind.u64.wrap s := by simp only [IntKind.wrap, IntKind.bits, IntKind.signed]; simp; omega
  rw [Int.tmod_eq_emod_of_nonneg h0]
  have h1 := Int.emod_nonneg (IntKind.u64.wrap s) (show (9 : Int) ≠ 0 by omega)
  have h2 := Int.emod_lt_of_pos (IntKind.u64.wrap s) (show 0 < (9 : Int) by omega)
  generalize IntKind.u64.wrap s % 9 = x at *
  exact ⟨(x + 1).toNat, by rw [IntWalk.wrap64_in x (by omega), IntWalk.wrap64_in _ (by omega)]; omega, by omega, by omega⟩
set_option maxRecDepth 100000 in
set_option maxHeartbeats 32000000 in
theorem dirMaps_any (salt : Nat → Byte) (a : Option Addr) (n cap : Nat) (f : Nat → OpD) (s : Int) (w : World) (hk : KeysAt w) (h : OpsAt w a n f) (hn : n ≤ 140737488351232) (hs : ∀ i, i < n → (f i).nm.size ≤ 140737488351232) (hs1 : -9223372036854775808 ≤ s) (hs2 : s ≤ 9223372036854775807) :
    Calls Tryd.prog 9 #[.agg (Fs 16 salt), .slice a n cap, .int .i64 s] w fun e w' => e = .returned (.bool true) ∧ Kept (fun _ => False) w w' := by
  have qn : (n : Int) ≤ 140737488351232 := by omega
  go_enter Tryd.func9, Tryd.ntmps9
  go_upto_region 1 with fail
  have hS0 : Row (w.alloc (.cells (Fs 16 salt) 22)) w.heap.size 22 16 salt := Row.new w 22 16 salt
  have hK0 : Kept (fun _ => False) w (w.alloc (.cells (Fs 16 salt) 22)) := (Kept.refl _ w).alloc _
  generalize hw0 : w.alloc (.cells (Fs 16 salt) 22) = w0 at *
  clear hw0
  go_wp2_with fail
  refine (dirFixed_any w0 (hk.kept hK0)).mono ?_
  rintro r w1 ⟨rfl, k1⟩
  have hS1 : Row w1 w.heap.size 22 16 salt := k1.at hS0 (fun h => h)
  have hK1 : Kept (fun _ => False) w w1 := hK0.trans k1 (fun _ _ h => h)
  have hk1 : KeysAt w1 := hk.kept hK1
  clear k1 hS0 hK0
  obtain ⟨B, hB⟩ : ∃ B, B = w1.heap.size := ⟨_, rfl⟩
  have HBW := Lib.hid hB
  have hBw : w.heap.size < B := by rw [hB]; exact hS1.lt
  clear hB
  go_wp2_with fail
  go_loopg [7, 8, 9, 32] n (fun k s7 s8 s9 s32 wr => ∃ (j : Nat) (xs Z : List En) (ad : Option Addr) (c : Nat) (v8 v9 : Value), j + k = n ∧ s32 = .int .i64 (j : Int) ∧ s7 = .slice ad xs.length c ∧ s8 = v8 ∧ s9 = v9 ∧ wr.ownsRow B 68 2 (.slice ad xs.length c) xs.length (flat ecl xs) ∧ MapOk salt xs Z ∧ OwnS wr B v8 Z.length (zn Z) ∧ OwnI wr B v9 Z.length (zi Z) ∧ Kept (fun _ => False) w1 wr ∧ B ≤ wr.heap.size)
  case atStart => exact ⟨0, [], [], none, 0, _, _, by omega, rfl, rfl, rfl, rfl, World.ownsRow_nil _ _ 68 2, MapOk.nil salt, OwnS.nil _ _, OwnI.nil _ _, Kept.refl _ w1, by have := HBW.out; omega⟩
  case round =>
    obtain ⟨j, xs, Z, ad, c, v8, v9, hj, rfl, rfl, rfl, rfl, hl, hm, h8, h9, hQ, hBr⟩ := hrel
    obtain ⟨ko, rfl⟩ : ∃ ko : Nat, ko = gk := ⟨_, rfl⟩
    have Hj := Lib.hid hj
    have hjn : j ≤ n := by omega
    have hS : Row wr w.heap.size 22 16 salt := hQ.at hS1 (fun h => h)
    have hka : KeysAt wr := hk1.kept hQ
    obtain ⟨m1, m2⟩ := hm.small
    have HKA := Lib.hid hka
    have HM := Lib.hid hm
    have HL := Lib.hid hl
    have H8 := Lib.hid h8
    have H9 := Lib.hid h9
    have HZX := Lib.hid m2
    obtain ⟨xn, hxx⟩ : ∃ xn, xn = xs.length := ⟨_, rfl⟩
    rw [← hxx] at m1
    have HXX := Lib.hid hxx
    replace HL := Lib.hid (show wr.ownsRow B 68 2 (.slice ad xn c) xn (flat ecl xs) by rw [hxx]; exact hl)
    simp only [← hxx]
    obtain ⟨zl, hzl⟩ : ∃ zl, zl = Z.length := ⟨_, rfl⟩
    have hzn : zl ≤ 440 := by rw [hzl, m2, ← hxx]; exact m1
    have HZL := Lib.hid hzl
    obtain ⟨a8, c8, rfl⟩ := h8.form
    obtain ⟨a9, c9, rfl⟩ := h9.form
    simp only [← hzl]
    clear hj hka hm hl hxx hzl m2 h8 h9
    by_cases hlt : j < n ∧ j < 100
    · obtain ⟨hlt, h100⟩ := hlt
      have q1 : (j : Int) < n := by omega
      have q2 : (0 : Int) ≤ j := by omega
      have q3 : ¬ (100 : Int) ≤ j := by omega
      obtain ⟨g, o, rfl, hcs⟩ := h.resolve_left (by omega)
      obtain ⟨e0, e1, e2⟩ := hcs j hlt
      replace e0 := (hK1.trans hQ (fun _ _ h => h)).cell e0
      replace e1 := (hK1.trans hQ (fun _ _ h => h)).cell e1
      replace e2 := (hK1.trans hQ (fun _ _ h => h)).cell e2
      have hnm := hs j hlt
      obtain ⟨nm, hnme⟩ : ∃ nm, nm = (f j).nm := ⟨_, rfl⟩
      obtain ⟨kd, hkd⟩ : ∃ kd, kd = (f j).kind := ⟨_, rfl⟩
      obtain ⟨ino, hino⟩ : ∃ ino, ino = (f j).ino := ⟨_, rfl⟩
      rw [← hnme] at e1 hnm
      rw [← hkd] at e0
      rw [← hino] at e2
      clear hcs hnme hkd hino
      go_upto_region 11 with fail
      have hOp : wr.alloc (.cells #[.int .i64 kd, .string nm, .int .i64 ino] 65) = wr.alloc (.cells #[.int .i64 kd, .string nm, .int .i64 ino] 65) := rfl
      have kx : Kept (fun _ => False) wr (wr.alloc (.cells #[.int .i64 kd, .string nm, .int .i64 ino] 65)) := (Kept.refl _ wr).alloc _
      have b0 : (wr.alloc (.cells #[.int .i64 kd, .string nm, .int .i64 ino] 65)).cell? ⟨wr.heap.size, 0, none⟩ = some (.int .i64 kd) := by go_simp
      have b1 : (wr.alloc (.cells #[.int .i64 kd, .string nm, .int .i64 ino] 65)).cell? ⟨wr.heap.size, 1, none⟩ = some (.string nm) := by go_simp
      have b2 : (wr.alloc (.cells #[.int .i64 kd, .string nm, .int .i64 ino] 65)).cell? ⟨wr.heap.size, 2, none⟩ = some (.int .i64 ino) := by go_simp
      have BB := Lib.hid (heap_alloc_new wr (.cells #[.int .i64 kd, .string nm, .int .i64 ino] 65))
      clear hOp e0 e1 e2
      generalize wr.alloc (.cells #[.int .i64 kd, .string nm, .int .i64 ino] 65) = wx at *
      have hgz := kx.size
      generalize wr.heap.size = gb at *
      replace hS : Row wx w.heap.size 22 16 salt := kx.at hS (fun h => h)
      have hkz : gb ≤ wx.heap.size := hgz
      have hQx : Kept (fun _ => False) w1 wx := hQ.trans kx (fun _ _ h => h)
      have hBx : B ≤ wx.heap.size := Nat.le_trans hBr (by omega)
      have h8 : OwnS wx B (.slice a8 zl c8) zl (zn Z) := by have := H8.out; rw [← HZL.out] at this; exact owns_keptS this kx (fun _ _ h => h)
      have h9 : OwnI wx B (.slice a9 zl c9) zl (zi Z) := by have := H9.out; rw [← HZL.out] at this; exact owns_keptI this kx (fun _ _ h => h)
      replace H8 := Lib.hid h8
      replace H9 := Lib.hid h9
      replace HL := Lib.hid (owns_kept HL.out kx (fun _ _ h => h))
      replace HKA := Lib.hid (HKA.out.kept kx)
      clear kx hQ hBr h8 h9
      go_wp2_with fail
      have B0 := Lib.hid b0
      have B2 := Lib.hid b2
      clear b0 b2
      go_loopg [12, 41] zl (fun k s12 s41 wy => ∃ (i : Nat), i + k = zl ∧ s41 = .int .i64 (i : Int) ∧ s12 = .int .i64 (atR (nthE Z) nm i) ∧ wy = wx)
      case atStart => exact ⟨0, by omega, rfl, rfl, rfl⟩
      case round =>
        obtain ⟨i, hi, rfl, rfl, hwy⟩ := hrel
        replace hwy := hwy.symm
        subst hwy
        have Hi := Lib.hid hi
        have hin : i ≤ zl := by omega
        clear hi
        by_cases hlt : i < zl
        · have p1 : (i : Int) < zl := by omega
          have p2 : (0 : Int) ≤ i := by omega
          obtain ⟨g8, c8', ev, hcc, hcell⟩ := H8.out.cells (by omega)
          obtain ⟨rfl, rfl⟩ : a8 = some ⟨g8, 0, none⟩ ∧ c8 = c8' := by simpa using ev
          have d0 := hcell i _ (zn_get Z i (by have := HZL.out; omega))
          have hst : atR (nthE Z) nm (i + 1) = if (nthE Z i).nm.toList == nm.toList then (i : Int) else atR (nthE Z) nm i := rfl
          have HST := Lib.hid hst
          obtain ⟨x, hx⟩ : ∃ x, x = (nthE Z i).nm := ⟨_, rfl⟩
          rw [← hx] at d0 HST
          clear hcell hst hx ev
          cases hq : x.toList == nm.toList
          · have p3 : (x.toList == nm.toList) = false := hq
            clear hq
            go_wp2_with fail
            go_roundg (gk - 1)
            case measure => have := Hi.out; omega
            case rel => have := Hi.out; exact ⟨i + 1, by omega, by go_num, by rw [HST.out]; simp [p3], rfl⟩
          · have HST2 := Lib.hid (show atR (nthE Z) nm (i + 1) = (i : Int) by rw [HST.out, hq]; rfl)
            clear HST
            go_wp2_with fail
            go_roundg (gk - 1)
            case measure => have := Hi.out; omega
            case rel => have := Hi.out; exact ⟨i + 1, by omega, by go_num, by rw [HST2.out], rfl⟩
        · obtain rfl : zl = i := by omega
          have p1 : ¬ (zl : Int) < zl := by omega
          go_upto_region 17 with fail
          have b0 := B0.out
          have b2 := B2.out
          clear B0 B2 Hi hin hlt p1
          obtain ⟨A, hA⟩ : ∃ A, A = atR (nthE Z) nm zl := ⟨_, rfl⟩
          simp only [← hA]
          have hA2 : A = atR (nthE Z) nm Z.length := by rw [hA, ← HZL.out]
          have CD := Lib.hid (show ∀ W, KeysAt W → W.ownsRow B 68 2 (.slice ad xn c) xn (flat ecl xs) → Calls Tryd.prog 29 #[.agg (Fs 16 salt), .slice ad xn c, .string nm] W (fun r w' => ∃ (ad : Option Addr) (n c : Nat) (e : Int), r = .returned (.tuple #[.slice ad n c, .int .i64 e]) ∧ Kept (fun _ => False) W w' ∧
              ((e = 4 ∧ A = -1) ∨ (e = 0 ∧ ∃ k : Nat, k < zl ∧ A = (k : Int) ∧ ∃ ys : List En, n = ys.length ∧ w'.ownsRow W.heap.size 68 2 (.slice ad ys.length c) ys.length (flat ecl ys) ∧ MapOk salt ys (Z.take k ++ Z.drop (k + 1))))) by
            intro W hk hl
            rw [HXX.out] at hl ⊢
            obtain ⟨_, _, ev, hl2, _⟩ := OwnE.reads hl
            obtain ⟨rfl, rfl⟩ := (by simpa using ev : ad = _ ∧ c = _)
            refine (drop_maps salt ad c xs Z nm W hk hl2 HM.out hnm).mono fun r w' hp => ?_
            rw [HZL.out, hA2]
            exact hp)
          have CP := Lib.hid (show ∀ W, KeysAt W → W.ownsRow B 68 2 (.slice ad xn c) xn (flat ecl xs) → Calls Tryd.prog 19 #[.agg (Fs 16 salt), .slice ad xn c, .string nm, .int .i64 ino] W (fun r w' => ∃ (ad : Option Addr) (n c : Nat) (e : Int), r = .returned (.tuple #[.slice ad n c, .int .i64 e]) ∧ Kept (fun _ => False) W w' ∧
              (e = 2 ∨ e = 17 ∨ e = 5 ∨ (e = 0 ∧ A = -1 ∧ ∃ ys : List En, n = ys.length ∧ w'.ownsRow W.heap.size 68 2 (.slice ad ys.length c) ys.length (flat ecl ys) ∧ MapOk salt ys (Z ++ [⟨nm, ino⟩])))) by
            intro W hk hl
            rw [HXX.out] at hl ⊢
            obtain ⟨_, _, ev, hl2, _⟩ := OwnE.reads hl
            obtain ⟨rfl, rfl⟩ := (by simpa using ev : ad = _ ∧ c = _)
            refine (put_maps salt ad c xs Z nm ino W hk hl2 HM.out hnm).mono fun r w' hp => ?_
            rw [hA2]
            exact hp)
          clear hA hA2
          by_cases h2 : kd = 2
          · subst h2
            clear CP b2
            go_wp2_with (first | (refine load_row_g rfl 22 (.tmp 3) rfl w.heap.size rfl 22 (Fs 16 salt) (0, 0) _ hS Tryd.underlying22 rfl (info22F _) ?_))
            refine (CD.out wx HKA.out HL.out).mono ?_
            rintro r w2 ⟨a5, n5, c5, e, rfl, k2, hcase⟩
            clear CD
            replace hS : Row w2 w.heap.size 22 16 salt := k2.at hS (fun h => h)
            have hQ2 : Kept (fun _ => False) w1 w2 := hQx.trans k2 (fun _ _ h => h)
            have hB2 : B ≤ w2.heap.size := Nat.le_trans hBx k2.size
            have h8 := owns_keptS H8.out k2 (fun _ _ h => h)
            have h9 := owns_keptI H9.out k2 (fun _ _ h => h)
            replace H8 := Lib.hid h8
            replace H9 := Lib.hid h9
            replace HL := Lib.hid (owns_kept HL.out k2 (fun _ _ h => h))
            have c1 := k2.cell b1
            have hBx0 := Lib.hid hBx
            clear h8 h9 b0 b1 k2 hQx hBx HKA
            rcases hcase with ⟨rfl, rfl⟩ | ⟨rfl, kk, hkk, rfl, ys, rfl, hly, hmy⟩
            · go_wp2_with fail
              go_roundg (ko - 1)
              case measure => have := Hj.out; omega
              case rel =>
                have := Hj.out
                exact ⟨j + 1, xs, Z, ad, c, _, _, by omega, by go_num, by rw [HXX.out], rfl, rfl, by have := HL.out; rw [HXX.out] at this; exact this, HM.out, by rw [← HZL.out]; exact H8.out, by rw [← HZL.out]; exact H9.out, hQ2, hB2⟩
            · have qk : (0 : Int) ≤ kk := by omega
              have qk2 : (kk : Int) ≤ 440 := by omega
              go_upto_region 23 with fail
              obtain ⟨g8, c8', ev, hcc8, hcell8⟩ := H8.out.cells (by omega)
              obtain ⟨rfl, rfl⟩ : a8 = some ⟨g8, 0, none⟩ ∧ c8 = c8' := by simpa using ev
              obtain ⟨g9, c9', ev9, hcc9, hcell9⟩ := H9.out.cells (by omega)
              obtain ⟨rfl, rfl⟩ : a9 = some ⟨g9, 0, none⟩ ∧ c9 = c9' := by simpa using ev9
              obtain ⟨o8, ho8, ht8⟩ := tail_S g8 zl c8 kk (by omega) hcc8
              obtain ⟨o9, ho9, ht9⟩ := tail_I g9 zl c9 kk (by omega) hcc9
              have hh8 := head_S g8 zl c8 kk (by omega)
              have hh9 := head_I g9 zl c9 kk (by omega)
              have hzz := HZL.out
              obtain ⟨r1, r2, l1, l2⟩ := OwnS.pieces (c := c8) (n := zl) hcell8 (by rw [zn_len]; exact hzz) (by omega) ho8
              obtain ⟨s1, s2, m1, m2⟩ := OwnI.pieces (c := c9) (n := zl) hcell9 (by rw [zi_len]; exact hzz) (by omega) ho9
              have R1 := Lib.hid r1
              have R2 := Lib.hid r2
              have S1 := Lib.hid s1
              have S2 := Lib.hid s2
              have L1 := Lib.hid l1
              have L2 := Lib.hid l2
              have M1 := Lib.hid m1
              have M2 := Lib.hid m2
              have HHK := Lib.hid hkk
              clear r1 r2 s1 s2 l1 l2 m1 m2 hcell8 hcell9 ev ev9 ho8 ho9 hcc8 hcc9 hzz
              refine region_two (fun W => Kept (fun _ => False) w2 W) [1, 2, 3, 5, 6, 7, 8, 11, 12, 13, 15, 16, 17, 18] [0, 4, 9] [10] [(14, false), (19, false), (20, true), (21, true)] (by kernel_rfl) (by kernel_rfl) (by intro c a d v w h; cases d <;> exact h) (Kept.refl _ w2).drew ?_
              repeat (apply HeldPre.take; (focus rfl); (focus rfl); (focus (intro W _; go_simp; (try go_bits); rfl)); simp only [List.getElem_toArray]; (try simp only [List.getElem_cons_succ]); (try simp only [List.getElem_cons_zero]); simp only [Act.put, List.setIfInBounds_toArray]; (try simp only [List.set_cons_succ]); (try simp only [List.set_cons_zero]))
              refine HeldPre.done ?_
              refine two_cuts (w2 := w2) (x1 := ⟨g8, 0, none⟩) (x2 := ⟨g8, o8, none⟩) (u1 := ⟨g9, 0, none⟩) (u2 := ⟨g9, o9, none⟩) (n1 := kk) (n2 := zl - (kk + 1)) (c1 := c8) (c2 := c8 - (kk + 1)) (d1 := c9) (d2 := c9 - (kk + 1)) (show 90 < 213 by omega) rfl rfl rfl rfl rfl rfl ⟨rfl, rfl, rfl⟩ ⟨rfl, rfl, rfl⟩ ⟨rfl, rfl, rfl⟩ ⟨rfl, rfl, rfl⟩ ⟨rfl, rfl, rfl⟩ ⟨rfl, rfl, rfl⟩ rfl rfl rfl rfl L1.out L2.out M1.out M2.out R1.out R2.out S1.out S2.out (by omega) ?_
              rintro ⟨x1, x2, x3⟩ ⟨y1, y2, y3⟩ w3 hk3 ho8 ho9
              unfold T6
              simp only [Act.put, List.setIfInBounds_toArray, List.set_cons_succ, List.set_cons_zero]
              repeat (apply HeldSeq.take; (focus rfl); (focus rfl); (focus (intro W _; go_simp; (try go_bits); rfl)); simp only [List.getElem_toArray, List.getElem_cons_zero, List.getElem_cons_succ, Act.put, List.setIfInBounds_toArray, List.set_cons_zero, List.set_cons_succ])
              refine HeldSeq.done ?_
              have hS3 : Row w3 w.heap.size 22 16 salt := hk3.at hS (fun h => h)
              have hQ3 : Kept (fun _ => False) w1 w3 := hQ2.trans hk3 (fun _ _ h => h)
              have hl3 := owns_kept hly hk3 (fun _ _ h => h)
              have HX1 := Lib.hid ho8
              have HX2 := Lib.hid ho9
              have HX3 := Lib.hid hl3
              have hB3 : B ≤ w3.heap.size := Nat.le_trans hB2 hk3.size
              clear hk3 ho8 ho9 hl3 hly hh8 hh9 ht8 ht9
              go_wp2_with fail
              go_roundg (ko - 1)
              case measure => have := Hj.out; omega
              case rel =>
                have := Hj.out
                have hzl : kk + (zl - (kk + 1)) = (Z.take kk ++ Z.drop (kk + 1)).length := by have := HZL.out; have := HHK.out; simp; omega
                have hzn2 : (zn Z).take kk ++ (zn Z).drop (kk + 1) = zn (Z.take kk ++ Z.drop (kk + 1)) := by simp [zn, List.map_take, List.map_drop]
                have hzi2 : (zi Z).take kk ++ (zi Z).drop (kk + 1) = zi (Z.take kk ++ Z.drop (kk + 1)) := by simp [zi, List.map_take, List.map_drop]
                refine ⟨j + 1, ys, Z.take kk ++ Z.drop (kk + 1), a5, c5, _, _, by omega, by go_num, rfl, rfl, rfl, ?_, hmy, ?_, ?_, hQ3, hB3⟩
                · exact owns_lowerE HX3.out hBx0.out
                · rw [← hzl, ← hzn2]; exact owns_lowerS HX1.out hB2
                · rw [← hzl, ← hzi2]; exact owns_lowerI HX2.out hB2
          · have q5 : ¬ (kd = 2) := h2
            have q6 : (kd == 2) = false := by simpa using h2
            clear h2
            clear CD
            go_wp2_with (first | (refine load_row_g rfl 22 (.tmp 3) rfl w.heap.size rfl 22 (Fs 16 salt) (0, 0) _ hS Tryd.underlying22 rfl (info22F _) ?_))
            refine (CP.out wx HKA.out HL.out).mono ?_
            rintro r w2 ⟨a5, n5, c5, e, rfl, k2, hcase⟩
            clear CP
            replace hS : Row w2 w.heap.size 22 16 salt := k2.at hS (fun h => h)
            have hQ2 : Kept (fun _ => False) w1 w2 := hQx.trans k2 (fun _ _ h => h)
            have hB2 : B ≤ w2.heap.size := Nat.le_trans hBx k2.size
            have h8 := owns_keptS H8.out k2 (fun _ _ h => h)
            have h9 := owns_keptI H9.out k2 (fun _ _ h => h)
            replace H8 := Lib.hid h8
            replace H9 := Lib.hid h9
            replace HL := Lib.hid (owns_kept HL.out k2 (fun _ _ h => h))
            have BB2 := Lib.hid (show w2.heap[gb]? = some (.cells #[.int .i64 kd, .string nm, .int .i64 ino] 65 (0, 0)) by rw [k2.block gb (lt_of_at BB.out) (fun h => h)]; exact BB.out)
            have f1 := k2.cell b1
            have f2 := k2.cell b2
            have hBx0 := Lib.hid hBx
            clear h8 h9 b0 b1 b2 k2 hQx hBx HKA
            rcases hcase with rfl | rfl | rfl | ⟨rfl, rfl, ys, rfl, hly, hmy⟩
            · go_wp2_with fail
              go_roundg (ko - 1)
              case measure => have := Hj.out; omega
              case rel =>
                have := Hj.out
                exact ⟨j + 1, xs, Z, ad, c, _, _, by omega, by go_num, by rw [HXX.out], rfl, rfl, by have := HL.out; rw [HXX.out] at this; exact this, HM.out, by rw [← HZL.out]; exact H8.out, by rw [← HZL.out]; exact H9.out, hQ2, hB2⟩
            · go_wp2_with fail
              go_roundg (ko - 1)
              case measure => have := Hj.out; omega
              case rel =>
                have := Hj.out
                exact ⟨j + 1, xs, Z, ad, c, _, _, by omega, by go_num, by rw [HXX.out], rfl, rfl, by have := HL.out; rw [HXX.out] at this; exact this, HM.out, by rw [← HZL.out]; exact H8.out, by rw [← HZL.out]; exact H9.out, hQ2, hB2⟩
            · go_wp2_with fail
              go_roundg (ko - 1)
              case measure => have := Hj.out; omega
              case rel =>
                have := Hj.out
                exact ⟨j + 1, xs, Z, ad, c, _, _, by omega, by go_num, by rw [HXX.out], rfl, rfl, by have := HL.out; rw [HXX.out] at this; exact this, HM.out, by rw [← HZL.out]; exact H8.out, by rw [← HZL.out]; exact H9.out, hQ2, hB2⟩
            · go_upto_region 29 with fail
              have e8 : OwnS w2 B (.slice a8 zl c8) zl (zn Z) := H8.out
              have e9 : OwnI w2 B (.slice a9 zl c9) zl (zi Z) := H9.out
              have hbb := BB2.out
              have hng : ∀ k, k = gb → ¬ ((Value.slice a8 zl c8).ownBlock = some k ∨ (Value.slice a9 zl c9).ownBlock = some k) := by
                rintro k rfl (h | h)
                · obtain ⟨cur, hc⟩ := e8.blk h
                  rw [hc] at hbb; have := Option.some.inj hbb; injection this with _ h3 _; exact absurd h3 (by decide)
                · obtain ⟨cur, hc⟩ := e9.blk h
                  rw [hc] at hbb; have := Option.some.inj hbb; injection this with _ h3 _; exact absurd h3 (by decide)
              have hg1 : ∀ W, Kept (fun k => (Value.slice a8 zl c8).ownBlock = some k ∨ (Value.slice a9 zl c9).ownBlock = some k) w2 W → W.cell? ⟨gb, 1, none⟩ = some (.string nm) ∧ W.cell? ⟨gb, 2, none⟩ = some (.int .i64 ino) := fun W k => by
                have hlt : gb < w2.heap.size := lt_of_at hbb
                have hb' := k.block gb hlt (hng gb rfl)
                exact ⟨by rw [World.cell?_of_block (w := w2) hb']; exact f1, by rw [World.cell?_of_block (w := w2) hb']; exact f2⟩
              have E8 := Lib.hid e8
              have E9 := Lib.hid e9
              clear hbb hng f1 f2 e8 e9
              refine region_two (fun W => Kept (fun _ => False) w1 W ∧ Kept (fun k => (Value.slice a8 zl c8).ownBlock = some k ∨ (Value.slice a9 zl c9).ownBlock = some k) w2 W) [0, 1, 2, 5, 6, 7] [3, 4] [8] [(9, false), (10, true), (11, true)] (by kernel_rfl) (by kernel_rfl) (by intro c a d v w h; cases d <;> exact h) ⟨hQ2.drew, (Kept.refl _ w2).drew⟩ ?_
              repeat (apply HeldPre.take; (focus rfl); (focus rfl); (focus (intro W hW; obtain ⟨i1, i2⟩ := hg1 W hW.2; clear hW; go_simp; (try go_bits); rfl)); simp only [List.getElem_toArray]; (try simp only [List.getElem_cons_succ]); (try simp only [List.getElem_cons_zero]); simp only [Act.put, List.setIfInBounds_toArray]; (try simp only [List.set_cons_succ]); (try simp only [List.set_cons_zero]))
              refine HeldPre.done ?_
              clear hg1
              refine two_apps (w1 := w1) (w2 := w2) (v8 := .slice a8 zl c8) (v9 := .slice a9 zl c9) (nm := nm) (ino := ino) (base := B) (n := zl) (L := zn Z) (M := zi Z) (by show 115 < 213; omega) rfl rfl rfl rfl ⟨rfl, rfl, rfl⟩ ⟨rfl, rfl, rfl⟩ ⟨rfl, rfl, rfl⟩ ⟨rfl, rfl, rfl⟩ rfl rfl rfl rfl (by have := HBW.out; omega) (by omega) E8.out E9.out (fun W hW _ => by have := hW.size; have := HBW.out; omega) ?_
              rintro ⟨x1, x2⟩ ⟨y1, y2⟩ w3 hk1 hk3 ho8 ho9
              unfold T4
              simp only [Act.put, List.setIfInBounds_toArray, List.set_cons_succ, List.set_cons_zero]
              repeat (apply HeldSeq.take; (focus rfl); (focus rfl); (focus (intro W _; go_simp; (try go_bits); rfl)); simp only [List.getElem_toArray, List.getElem_cons_zero, List.getElem_cons_succ, Act.put, List.setIfInBounds_toArray, List.set_cons_zero, List.set_cons_succ])
              refine HeldSeq.done ?_
              have hB3 : B ≤ w3.heap.size := Nat.le_trans hB2 hk3.size
              have hl3 := owns_kept hly hk3 (fun k h1 h => by
                rcases hly.2 with ⟨hv, _⟩ | ⟨g', cap', cur, hv, _, hh, _⟩
                · rw [hv] at h1; simp [Value.ownBlock] at h1
                · have e1 : g' = k := by rw [hv] at h1; simpa [Value.ownBlock] using h1
                  subst e1
                  rcases h with h | h
                  · obtain ⟨cur', hc⟩ := E8.out.blk h
                    rw [hh] at hc; have := Option.some.inj hc; injection this with _ h3 _; exact absurd h3 (by decide)
                  · obtain ⟨cur', hc⟩ := E9.out.blk h
                    rw [hh] at hc; have := Option.some.inj hc; injection this with _ h3 _; exact absurd h3 (by decide))
              have HX1 := Lib.hid ho8
              have HX2 := Lib.hid ho9
              have HX3 := Lib.hid hl3
              clear hk3 ho8 ho9 hl3 hly
              go_wp2_with fail
              go_roundg (ko - 1)
              case measure => have := Hj.out; omega
              case rel =>
                have := Hj.out
                have hzl : zl + 1 = (Z ++ [(⟨nm, ino⟩ : En)]).length := by have := HZL.out; simp; omega
                have hzn2 : zn Z ++ [nm] = zn (Z ++ [⟨nm, ino⟩]) := by simp [zn]
                have hzi2 : zi Z ++ [ino] = zi (Z ++ [⟨nm, ino⟩]) := by simp [zi]
                refine ⟨j + 1, ys, Z ++ [⟨nm, ino⟩], a5, c5, _, _, by omega, by go_num, rfl, rfl, rfl, ?_, hmy, ?_, ?_, hk1, hB3⟩
                · exact owns_lowerE HX3.out hBx0.out
                · rw [← hzl, ← hzn2]; exact HX1.out
                · rw [← hzl, ← hzi2]; exact HX2.out
    · have h8 : OwnS wr B (.slice a8 zl c8) zl (zn Z) := by have := H8.out; rw [← HZL.out] at this; exact this
      have h9 : OwnI wr B (.slice a9 zl c9) zl (zi Z) := by have := H9.out; rw [← HZL.out] at this; exact this
      replace H8 := Lib.hid h8
      replace H9 := Lib.hid h9
      clear h8 h9
      by_cases hlt2 : j < n
      · have q1 : (j : Int) < n := by omega
        have q2 : (0 : Int) ≤ j := by omega
        have q3 : (100 : Int) ≤ j := by omega
        obtain ⟨g, o, rfl, hcs⟩ := h.resolve_left (by omega)
        obtain ⟨e0, e1, e2⟩ := hcs j hlt2
        replace e0 := (hK1.trans hQ (fun _ _ h => h)).cell e0
        replace e1 := (hK1.trans hQ (fun _ _ h => h)).cell e1
        replace e2 := (hK1.trans hQ (fun _ _ h => h)).cell e2
        obtain ⟨nm, hnme⟩ : ∃ nm, nm = (f j).nm := ⟨_, rfl⟩
        obtain ⟨kd, hkd⟩ : ∃ kd, kd = (f j).kind := ⟨_, rfl⟩
        obtain ⟨ino, hino⟩ : ∃ ino, ino = (f j).ino := ⟨_, rfl⟩
        rw [← hnme] at e1
        rw [← hkd] at e0
        rw [← hino] at e2
        clear hcs hnme hkd hino
        go_upto_region 31 with fail
        have kx : Kept (fun _ => False) wr (wr.alloc (.cells #[.int .i64 kd, .string nm, .int .i64 ino] 65)) := (Kept.refl _ wr).alloc _
        clear e0 e1 e2
        generalize wr.alloc (.cells #[.int .i64 kd, .string nm, .int .i64 ino] 65) = wz at *
        replace hS : Row wz w.heap.size 22 16 salt := kx.at hS (fun h => h)
        replace hQ : Kept (fun _ => False) w1 wz := hQ.trans kx (fun _ _ h => h)
        replace H8 := Lib.hid (owns_keptS H8.out kx (fun _ _ h => h))
        replace H9 := Lib.hid (owns_keptI H9.out kx (fun _ _ h => h))
        replace HL := Lib.hid (owns_kept HL.out kx (fun _ _ h => h))
        replace HKA := Lib.hid (HKA.out.kept kx)
        clear kx hBr hlt hlt2 Hj q1 q2 q3
        have CF := Lib.hid (show ∀ W i, i < zl → KeysAt W → W.ownsRow B 68 2 (.slice ad xn c) xn (flat ecl xs) → Calls Tryd.prog 26 #[.agg (Fs 16 salt), .slice ad xn c, .string (nthE Z i).nm] W (fun r w' => r = .returned (.tuple #[.int .i64 (nthE Z i).ino, .int .i64 0]) ∧ Kept (fun _ => False) W w') by
          intro W i hi hk hl
          rw [HXX.out] at hl ⊢
          obtain ⟨_, _, ev, hl2, _⟩ := OwnE.reads hl
          obtain ⟨rfl, rfl⟩ := (by simpa using ev : ad = _ ∧ c = _)
          have hiZ : i < Z.length := by rw [← HZL.out]; exact hi
          have hnm : (nthE Z i).nm.size ≤ 140737488351232 := by
            have := one_size (HM.out.ok (nthE Z i) (by rw [← nthE_eq Z i hiZ]; exact List.getElem_mem _)); omega
          have := find_any salt ad xs.length c (nthE xs) (nthE Z i).nm W hk hl2 HM.out.len (right_szs HM.out.right) hnm
          rw [HM.out.find hiZ] at this
          exact this)
        go_wp2_with fail
        go_loopg [119] zl (fun k s119 wy => ∃ (i : Nat), i + k = zl ∧ s119 = .int .i64 (i : Int) ∧ Kept (fun _ => False) wz wy)
        case atStart => exact ⟨0, by omega, rfl, Kept.refl _ wz⟩
        case round =>
          obtain ⟨i, hi, rfl, hZ⟩ := hrel
          have Hi := Lib.hid hi
          have hin : i ≤ zl := by omega
          clear hi
          have hSy : Row wr w.heap.size 22 16 salt := hZ.at hS (fun h => h)
          by_cases hlt : i < zl
          · have p1 : (i : Int) < zl := by omega
            have p2 : (0 : Int) ≤ i := by omega
            obtain ⟨g8, c8', ev, hcc, hcell⟩ := H8.out.cells (by omega)
            obtain ⟨rfl, rfl⟩ : a8 = some ⟨g8, 0, none⟩ ∧ c8 = c8' := by simpa using ev
            obtain ⟨g9, c9', ev9, hcc9, hcell9⟩ := H9.out.cells (by omega)
            obtain ⟨rfl, rfl⟩ : a9 = some ⟨g9, 0, none⟩ ∧ c9 = c9' := by simpa using ev9
            have d0 := hZ.cell (hcell i _ (zn_get Z i (by have := HZL.out; omega)))
            have d1 := hcell9 i _ (zi_get Z i (by have := HZL.out; omega))
            have CF2 := Lib.hid (CF.out wr i hlt (HKA.out.kept hZ) (owns_kept HL.out hZ (fun _ _ h => h)))
            obtain ⟨x, hx⟩ : ∃ x, x = (nthE Z i).nm := ⟨_, rfl⟩
            obtain ⟨y, hy⟩ : ∃ y, y = (nthE Z i).ino := ⟨_, rfl⟩
            replace CF2 := Lib.hid (by have := CF2.out; rw [← hx, ← hy] at this; exact this)
            rw [← hx] at d0
            rw [← hy] at d1
            have D1 := Lib.hid d1
            clear hcell hcell9 ev ev9 hx hy d1
            go_wp2_with (first | (refine load_row_g rfl 22 (.tmp 3) rfl w.heap.size rfl 22 (Fs 16 salt) (0, 0) _ hSy Tryd.underlying22 rfl (info22F _) ?_))
            refine CF2.out.mono ?_
            rintro r w4 ⟨rfl, k4⟩
            have hZ4 : Kept (fun _ => False) wz w4 := hZ.trans k4 (fun _ _ h => h)
            have d1 := hZ4.cell D1.out
            clear CF2 k4 hZ hSy d0
            go_wp2_with fail
            go_roundg (gk - 1)
            case measure => have := Hi.out; omega
            case rel => have := Hi.out; exact ⟨i + 1, by omega, by go_num, hZ4⟩
          · obtain rfl : zl = i := by omega
            have p1 : ¬ (zl : Int) < zl := by omega
            replace hS : Row wr w.heap.size 22 16 salt := hSy
            replace hQ : Kept (fun _ => False) w1 wr := hQ.trans hZ (fun _ _ h => h)
            replace H8 := Lib.hid (owns_keptS H8.out hZ (fun _ _ h => h))
            replace HL := Lib.hid (owns_kept HL.out hZ (fun _ _ h => h))
            replace HKA := Lib.hid (HKA.out.kept hZ)
            obtain ⟨wq, rfl⟩ : ∃ wq : World, wq = wr := ⟨_, rfl⟩
            clear hZ hSy CF H9
            go_upto_region 41 with fail
            obtain ⟨N, hN, hN1, hN2⟩ := pick9 s
            rw [hN]
            clear hN
            have qN : (N : Int) ≤ 9 := by omega
            have qN0 : (1 : Int) ≤ N := by omega
            have CA := Lib.hid (show ∀ W c', c' ≤ xn → KeysAt W → W.ownsRow B 68 2 (.slice ad xn c) xn (flat ecl xs) → Calls Tryd.prog 31 #[.agg (Fs 16 salt), .slice ad xn c, .string (lastOf xs c'), .int .i64 (N : Int)] W (fun r w' => ∃ (v : Value) (m : Nat), r = .returned (.tuple #[v, .int .i64 0]) ∧ m = (nextOf xs c' N).length ∧ OwnS w' W.heap.size v m (nextOf xs c' N) ∧ Kept (fun _ => False) W w') by
              intro W c' hc' hk hl
              rw [HXX.out] at hl hc' ⊢
              obtain ⟨_, _, ev, hl2, hc1, hc2⟩ := OwnE.reads hl
              obtain ⟨rfl, rfl⟩ := (by simpa using ev : ad = _ ∧ c = _)
              have hnm : (lastOf xs c').size ≤ 140737488351232 := by
                unfold lastOf
                split
                · exact (by decide)
                · exact right_szs HM.out.right _ (by omega)
              refine (after_any salt ad c xs (lastOf xs c') (N : Int) W hk hl2 hc1 HM.out.len (by unfold maxLen at hc2; omega) (right_szs HM.out.right) hnm (by omega)).mono fun r w' hp => ?_
              rw [after_last HM.out.right hc'] at hp
              obtain ⟨v, rfl, ho, k⟩ := hp
              exact ⟨v, _, rfl, rfl, ho, k⟩)
            go_wp2_with fail
            go_loopg [23, 24, 150] (zl + 1) (fun k s23 s24 s150 wy => ∃ (j c' : Nat) (v : Value), j + k = zl + 1 ∧ s150 = .int .i64 (j : Int) ∧ c' ≤ xn ∧ j ≤ c' ∧ s24 = .string (lastOf xs c') ∧ s23 = v ∧ OwnS wy wq.heap.size v c' (zt xs c') ∧ Kept (fun _ => False) wq wy)
            case atStart => exact ⟨0, 0, _, by omega, rfl, by omega, by omega, rfl, rfl, OwnS.nil _ _, Kept.refl _ wq⟩
            case round =>
              obtain ⟨i, c', v, hi, rfl, hcx, hic, rfl, rfl, hv, hZ⟩ := hrel
              have Hi := Lib.hid hi
              have hxz : xn = zl := by rw [HXX.out, HZL.out, HZX.out]
              have hlt : i < zl + 1 := by omega
              have p1 : (i : Int) < (zl : Int) + 1 := by omega
              have p2 : (0 : Int) ≤ i := by omega
              have HXZ := Lib.hid hxz
              have hSy : Row wr w.heap.size 22 16 salt := hZ.at hS (fun h => h)
              have CA2 := Lib.hid (CA.out wr c' hcx (HKA.out.kept hZ) (owns_kept HL.out hZ (fun _ _ h => h)))
              obtain ⟨ls, hls⟩ : ∃ ls, ls = lastOf xs c' := ⟨_, rfl⟩
              replace CA2 := Lib.hid (by have := CA2.out; rw [← hls] at this; exact this)
              simp only [← hls]
              obtain ⟨av, ac, rfl⟩ := hv.form
              have HV := Lib.hid hv
              clear hi hls hxz hv hlt
              go_wp2_with (first | (refine load_row_g rfl 22 (.tmp 3) rfl w.heap.size rfl 22 (Fs 16 salt) (0, 0) _ hSy Tryd.underlying22 rfl (info22F _) ?_))
              refine CA2.out.mono ?_
              rintro r w4 ⟨v4, m, rfl, hm, ho4, k4⟩
              obtain ⟨a4, c4, rfl⟩ := ho4.form
              have hml : m ≤ N := by rw [hm, nextOf_len]; omega
              have p3 : ¬ (N : Int) < m := by omega
              have hmx : m = min N (xs.length - c') := by rw [hm, nextOf_len]
              have HMX := Lib.hid hmx
              have HMM := Lib.hid hm
              have hZ4 : Kept (fun _ => False) wq w4 := hZ.trans k4 (fun _ _ h => h)
              have hV4 := owns_keptS HV.out k4 (fun _ _ h => h)
              have HW := Lib.hid hZ.size
              have hvb : ∀ k, (Value.slice av c' ac).ownBlock = some k → k < wr.heap.size := fun k hk => (owns_ltS HV.out hk).2
              have HVB := Lib.hid hvb
              have HV4 := Lib.hid hV4
              have HO4 := Lib.hid ho4
              clear CA2 k4 hZ hSy hm hmx hV4 hvb ho4
              by_cases hm0 : m = 0
              · subst hm0
                have hcc : c' = zl := by have := HMX.out; have := HXX.out; have := HXZ.out; omega
                have hV5 := HV4.out
                rw [hcc] at hV5
                obtain rfl := hcc
                have hxz := HXZ.out
                obtain rfl := hxz
                replace hS : Row w4 w.heap.size 22 16 salt := hZ4.at hS (fun h => h)
                replace hQ : Kept (fun _ => False) w1 w4 := hQ.trans hZ4 (fun _ _ h => h)
                replace HL := Lib.hid (owns_kept HL.out hZ4 (fun _ _ h => h))
                replace HKA := Lib.hid (HKA.out.kept hZ4)
                go_upto_region 52 with fail
                have CC := Lib.hid (show ∀ W, KeysAt W → W.ownsRow B 68 2 (.slice ad xn c) xn (flat ecl xs) → Calls Tryd.prog 21 #[.agg (Fs 16 salt), .slice ad xn c] W (fun r w' => r = .returned (.int .i64 0) ∧ Kept (fun _ => False) W w') by
                  intro W hk hl
                  rw [HXX.out] at hl ⊢
                  obtain ⟨_, _, ev, hl2, hc1, hc2⟩ := OwnE.reads hl
                  obtain ⟨rfl, rfl⟩ := (by simpa using ev : ad = _ ∧ c = _)
                  exact check_right salt ad c xs W hk hl2 HM.out.len HM.out.right)
                have HV5 := Lib.hid hV5
                clear hV5 CA p1 p3
                go_wp2_with fail
                go_loopg [195] xn (fun k s195 wy => ∃ (i : Nat), i + k = xn ∧ s195 = .int .i64 (i : Int) ∧ Kept (fun _ => False) w4 wy)
                case atStart => exact ⟨0, by omega, rfl, Kept.refl _ w4⟩
                case round =>
                  obtain ⟨i, hi, rfl, hZ⟩ := hrel
                  have Hi := Lib.hid hi
                  have hin : i ≤ xn := by omega
                  clear hi
                  replace hS : Row wr w.heap.size 22 16 salt := hZ.at hS (fun h => h)
                  by_cases hlt : i < xn
                  · have p1 : (i : Int) < xn := by omega
                    have p2 : (0 : Int) ≤ i := by omega
                    have hil : i < xs.length := by rw [← HXX.out]; exact hlt
                    obtain ⟨g5, c5, ev, hcc, hcell⟩ := HV5.out.cells (by omega)
                    obtain ⟨rfl, rfl⟩ : av = some ⟨g5, 0, none⟩ ∧ ac = c5 := by simpa using ev
                    have d0 := hZ.cell (hcell i (nthE xs i).nm (by unfold zt; rw [HXX.out, List.take_length]; exact zn_get xs i hil))
                    have hl0 := HL.out
                    rw [HXX.out] at hl0
                    obtain ⟨_, _, ev2, hl2, _⟩ := OwnE.reads hl0
                    obtain ⟨rfl, rfl⟩ := (by simpa using ev2 : ad = _ ∧ c = _)
                    obtain ⟨g6, o6, rfl, hce⟩ := hl2.resolve_left (by omega)
                    have d1 := hZ.cell (hce i hil).1
                    obtain ⟨x, hx⟩ : ∃ x, x = (nthE xs i).nm := ⟨_, rfl⟩
                    rw [← hx] at d0 d1
                    have HQ' := Lib.hid hQ
                    clear hcell ev hcc hl0 ev2 hl2 hce hx hQ
                    go_upto_region 55 with fail
                    refine region_still (by kernel_rfl) (by kernel_rfl) ?_
                    repeat (refine wpStill_step (fun K hK => ?_); go_simp; (try go_bits); refine hK _ ?_; clear hK K)
                    refine wpStill_nil ?_
                    go_wp2_with fail
                    go_roundg (gk - 1)
                    case measure => have := Hi.out; omega
                    case rel => have := Hi.out; exact ⟨i + 1, by omega, by go_num, hZ.drew⟩
                  · obtain rfl : xn = i := by omega
                    have p1 : ¬ (xn : Int) < xn := by omega
                    go_wp2_with (first | (refine load_row_g rfl 22 (.tmp 3) rfl w.heap.size rfl 22 (Fs 16 salt) (0, 0) _ hS Tryd.underlying22 rfl (info22F _) ?_))
                    refine (CC.out wr (HKA.out.kept hZ) (owns_kept HL.out hZ (fun _ _ h => h))).mono ?_
                    rintro r w6 ⟨rfl, k6⟩
                    go_wp2_with fail
                    go_ret
                    exact ⟨rfl, (hK1.trans hQ (fun _ _ h => h)).trans (hZ.trans k6 (fun _ _ h => h)) (fun _ _ h => h)⟩
              · have q0 : ¬ ((m : Int) = 0) := by omega
                have q1' : ((m : Int) == 0) = false := by simpa using hm0
                obtain ⟨g4, c4', ev, hcc, hcell⟩ := HO4.out.cells (by omega)
                obtain ⟨rfl, rfl⟩ : a4 = some ⟨g4, 0, none⟩ ∧ c4 = c4' := by simpa using ev
                have hlast : (nextOf xs c' N)[m - 1]? = some ((nextOf xs c' N).getD (m - 1) ⟨#[]⟩) := by
                  rw [List.getD_eq_getElem?_getD, List.getElem?_eq_getElem (by have := HMM.out; omega)]; rfl
                have hz1 := hcell _ _ hlast
                rw [nextOf_last xs c' N m HMM.out (by omega)] at hz1
                have hg4 : wr.heap.size ≤ g4 := (owns_ltS HO4.out (k := g4) rfl).1
                have hcM : ∀ j b, (nextOf xs c' N)[j]? = some b → w4.cell? ((⟨g4, 0, none⟩ : Addr).add j) = some (.string b) := fun j b hj => by
                  rw [Addr.add_lit, Nat.zero_add]; exact hcell j b hj
                have HCM := Lib.hid hcM
                have HZ1 := Lib.hid hz1
                have hcN : c' + m ≤ 1000000 := by have := HMX.out; have := HXX.out; omega
                have hxle : c' + m ≤ xn := by have := HMX.out; have := HXX.out; omega
                clear hcell hlast ev hcM hz1
                go_upto_region 48 with (first | (refine appSs rfl (.tmp 171) (.tmp 172) rfl wq.heap.size (.slice av c' ac) c' (zt xs c') (by rfl) HV4.out ⟨g4, 0, none⟩ m c4 (nextOf xs c' N) (by rfl) HMM.out.symm HCM.out hcN hZ4.size ?_))
                intro v5 w5 ho5 k5
                have hZ5 : Kept (fun _ => False) wq w5 := kept_ownS hZ4 (Nat.le_refl _) HV4.out k5
                have hlt4 : g4 < w4.heap.size := (owns_ltS HO4.out (k := g4) rfl).2
                have hz5 : w5.cell? ⟨g4, m - 1, none⟩ = some (.string (lastOf xs (c' + m))) := by
                  rw [World.cell?_of_block (w := w4) (k5.block g4 hlt4 (fun h => by have := HVB.out g4 h; omega))]; exact HZ1.out
                have hnx : zt xs c' ++ nextOf xs c' N = zt xs (c' + m) := by
                  unfold zt; rw [names_next, ← HMM.out]
                rw [hnx] at ho5
                have HO5 := Lib.hid ho5
                have p4 : (0 : Int) ≤ (m : Int) - 1 := by omega
                have p5 : ((m : Int) - 1).toNat = m - 1 := by omega
                have p6 : (1 : Int) ≤ m := by omega
                have p7 : (m : Int) - 1 < m := by omega
                have p8 : (m : Int) ≤ 9 := by omega
                clear k5 ho5 hnx hg4 hlt4 hZ4
                go_wp2_with fail
                go_roundg (gk - 1)
                case measure => have := Hi.out; omega
                case rel => have := Hi.out; exact ⟨i + 1, c' + m, v5, by omega, by go_num, hxle, by omega, rfl, rfl, HO5.out, hZ5⟩
      · obtain rfl : n = j := by omega
        have q1 : ¬ (n : Int) < n := by omega
        go_upto_region 31 with fail
        obtain ⟨wz, rfl⟩ : ∃ wz : World, wz = wr := ⟨_, rfl⟩
        clear hBr hlt hlt2 Hj q1
        have CF := Lib.hid (show ∀ W i, i < zl → KeysAt W → W.ownsRow B 68 2 (.slice ad xn c) xn (flat ecl xs) → Calls Tryd.prog 26 #[.agg (Fs 16 salt), .slice ad xn c, .string (nthE Z i).nm] W (fun r w' => r = .returned (.tuple #[.int .i64 (nthE Z i).ino, .int .i64 0]) ∧ Kept (fun _ => False) W w') by
          intro W i hi hk hl
          rw [HXX.out] at hl ⊢
          obtain ⟨_, _, ev, hl2, _⟩ := OwnE.reads hl
          obtain ⟨rfl, rfl⟩ := (by simpa using ev : ad = _ ∧ c = _)
          have hiZ : i < Z.length := by rw [← HZL.out]; exact hi
          have hnm : (nthE Z i).nm.size ≤ 140737488351232 := by
            have := one_size (HM.out.ok (nthE Z i) (by rw [← nthE_eq Z i hiZ]; exact List.getElem_mem _)); omega
          have := find_any salt ad xs.length c (nthE xs) (nthE Z i).nm W hk hl2 HM.out.len (right_szs HM.out.right) hnm
          rw [HM.out.find hiZ] at this
          exact this)
        go_wp2_with fail
        go_loopg [119] zl (fun k s119 wy => ∃ (i : Nat), i + k = zl ∧ s119 = .int .i64 (i : Int) ∧ Kept (fun _ => False) wz wy)
        case atStart => exact ⟨0, by omega, rfl, Kept.refl _ wz⟩
        case round =>
          obtain ⟨i, hi, rfl, hZ⟩ := hrel
          have Hi := Lib.hid hi
          have hin : i ≤ zl := by omega
          clear hi
          have hSy : Row wr w.heap.size 22 16 salt := hZ.at hS (fun h => h)
          by_cases hlt : i < zl
          · have p1 : (i : Int) < zl := by omega
            have p2 : (0 : Int) ≤ i := by omega
            obtain ⟨g8, c8', ev, hcc, hcell⟩ := H8.out.cells (by omega)
            obtain ⟨rfl, rfl⟩ : a8 = some ⟨g8, 0, none⟩ ∧ c8 = c8' := by simpa using ev
            obtain ⟨g9, c9', ev9, hcc9, hcell9⟩ := H9.out.cells (by omega)
            obtain ⟨rfl, rfl⟩ : a9 = some ⟨g9, 0, none⟩ ∧ c9 = c9' := by simpa using ev9
            have d0 := hZ.cell (hcell i _ (zn_get Z i (by have := HZL.out; omega)))
            have d1 := hcell9 i _ (zi_get Z i (by have := HZL.out; omega))
            have CF2 := Lib.hid (CF.out wr i hlt (HKA.out.kept hZ) (owns_kept HL.out hZ (fun _ _ h => h)))
            obtain ⟨x, hx⟩ : ∃ x, x = (nthE Z i).nm := ⟨_, rfl⟩
            obtain ⟨y, hy⟩ : ∃ y, y = (nthE Z i).ino := ⟨_, rfl⟩
            replace CF2 := Lib.hid (by have := CF2.out; rw [← hx, ← hy] at this; exact this)
            rw [← hx] at d0
            rw [← hy] at d1
            have D1 := Lib.hid d1
            clear hcell hcell9 ev ev9 hx hy d1
            go_wp2_with (first | (refine load_row_g rfl 22 (.tmp 3) rfl w.heap.size rfl 22 (Fs 16 salt) (0, 0) _ hSy Tryd.underlying22 rfl (info22F _) ?_))
            refine CF2.out.mono ?_
            rintro r w4 ⟨rfl, k4⟩
            have hZ4 : Kept (fun _ => False) wz w4 := hZ.trans k4 (fun _ _ h => h)
            have d1 := hZ4.cell D1.out
            clear CF2 k4 hZ hSy d0
            go_wp2_with fail
            go_roundg (gk - 1)
            case measure => have := Hi.out; omega
            case rel => have := Hi.out; exact ⟨i + 1, by omega, by go_num, hZ4⟩
          · obtain rfl : zl = i := by omega
            have p1 : ¬ (zl : Int) < zl := by omega
            replace hS : Row wr w.heap.size 22 16 salt := hSy
            replace hQ : Kept (fun _ => False) w1 wr := hQ.trans hZ (fun _ _ h => h)
            replace H8 := Lib.hid (owns_keptS H8.out hZ (fun _ _ h => h))
            replace HL := Lib.hid (owns_kept HL.out hZ (fun _ _ h => h))
            replace HKA := Lib.hid (HKA.out.kept hZ)
            obtain ⟨wq, rfl⟩ : ∃ wq : World, wq = wr := ⟨_, rfl⟩
            clear hZ hSy CF H9
            go_upto_region 41 with fail
            obtain ⟨N, hN, hN1, hN2⟩ := pick9 s
            rw [hN]
            clear hN
            have qN : (N : Int) ≤ 9 := by omega
            have qN0 : (1 : Int) ≤ N := by omega
            have CA := Lib.hid (show ∀ W c', c' ≤ xn → KeysAt W → W.ownsRow B 68 2 (.slice ad xn c) xn (flat ecl xs) → Calls Tryd.prog 31 #[.agg (Fs 16 salt), .slice ad xn c, .string (lastOf xs c'), .int .i64 (N : Int)] W (fun r w' => ∃ (v : Value) (m : Nat), r = .returned (.tuple #[v, .int .i64 0]) ∧ m = (nextOf xs c' N).length ∧ OwnS w' W.heap.size v m (nextOf xs c' N) ∧ Kept (fun _ => False) W w') by
              intro W c' hc' hk hl
              rw [HXX.out] at hl hc' ⊢
              obtain ⟨_, _, ev, hl2, hc1, hc2⟩ := OwnE.reads hl
              obtain ⟨rfl, rfl⟩ := (by simpa using ev : ad = _ ∧ c = _)
              have hnm : (lastOf xs c').size ≤ 140737488351232 := by
                unfold lastOf
                split
                · exact (by decide)
                · exact right_szs HM.out.right _ (by omega)
              refine (after_any salt ad c xs (lastOf xs c') (N : Int) W hk hl2 hc1 HM.out.len (by unfold maxLen at hc2; omega) (right_szs HM.out.right) hnm (by omega)).mono fun r w' hp => ?_
              rw [after_last HM.out.right hc'] at hp
              obtain ⟨v, rfl, ho, k⟩ := hp
              exact ⟨v, _, rfl, rfl, ho, k⟩)
            go_wp2_with fail
            go_loopg [23, 24, 150] (zl + 1) (fun k s23 s24 s150 wy => ∃ (j c' : Nat) (v : Value), j + k = zl + 1 ∧ s150 = .int .i64 (j : Int) ∧ c' ≤ xn ∧ j ≤ c' ∧ s24 = .string (lastOf xs c') ∧ s23 = v ∧ OwnS wy wq.heap.size v c' (zt xs c') ∧ Kept (fun _ => False) wq wy)
            case atStart => exact ⟨0, 0, _, by omega, rfl, by omega, by omega, rfl, rfl, OwnS.nil _ _, Kept.refl _ wq⟩
            case round =>
              obtain ⟨i, c', v, hi, rfl, hcx, hic, rfl, rfl, hv, hZ⟩ := hrel
              have Hi := Lib.hid hi
              have hxz : xn = zl := by rw [HXX.out, HZL.out, HZX.out]
              have hlt : i < zl + 1 := by omega
              have p1 : (i : Int) < (zl : Int) + 1 := by omega
              have p2 : (0 : Int) ≤ i := by omega
              have HXZ := Lib.hid hxz
              have hSy : Row wr w.heap.size 22 16 salt := hZ.at hS (fun h => h)
              have CA2 := Lib.hid (CA.out wr c' hcx (HKA.out.kept hZ) (owns_kept HL.out hZ (fun _ _ h => h)))
              obtain ⟨ls, hls⟩ : ∃ ls, ls = lastOf xs c' := ⟨_, rfl⟩
              replace CA2 := Lib.hid (by have := CA2.out; rw [← hls] at this; exact this)
              simp only [← hls]
              obtain ⟨av, ac, rfl⟩ := hv.form
              have HV := Lib.hid hv
              clear hi hls hxz hv hlt
              go_wp2_with (first | (refine load_row_g rfl 22 (.tmp 3) rfl w.heap.size rfl 22 (Fs 16 salt) (0, 0) _ hSy Tryd.underlying22 rfl (info22F _) ?_))
              refine CA2.out.mono ?_
              rintro r w4 ⟨v4, m, rfl, hm, ho4, k4⟩
              obtain ⟨a4, c4, rfl⟩ := ho4.form
              have hml : m ≤ N := by rw [hm, nextOf_len]; omega
              have p3 : ¬ (N : Int) < m := by omega
              have hmx : m = min N (xs.length - c') := by rw [hm, nextOf_len]
              have HMX := Lib.hid hmx
              have HMM := Lib.hid hm
              have hZ4 : Kept (fun _ => False) wq w4 := hZ.trans k4 (fun _ _ h => h)
              have hV4 := owns_keptS HV.out k4 (fun _ _ h => h)
              have HW := Lib.hid hZ.size
              have hvb : ∀ k, (Value.slice av c' ac).ownBlock = some k → k < wr.heap.size := fun k hk => (owns_ltS HV.out hk).2
              have HVB := Lib.hid hvb
              have HV4 := Lib.hid hV4
              have HO4 := Lib.hid ho4
              clear CA2 k4 hZ hSy hm hmx hV4 hvb ho4
              by_cases hm0 : m = 0
              · subst hm0
                have hcc : c' = zl := by have := HMX.out; have := HXX.out; have := HXZ.out; omega
                have hV5 := HV4.out
                rw [hcc] at hV5
                obtain rfl := hcc
                have hxz := HXZ.out
                obtain rfl := hxz
                replace hS : Row w4 w.heap.size 22 16 salt := hZ4.at hS (fun h => h)
                replace hQ : Kept (fun _ => False) w1 w4 := hQ.trans hZ4 (fun _ _ h => h)
                replace HL := Lib.hid (owns_kept HL.out hZ4 (fun _ _ h => h))
                replace HKA := Lib.hid (HKA.out.kept hZ4)
                go_upto_region 52 with fail
                have CC := Lib.hid (show ∀ W, KeysAt W → W.ownsRow B 68 2 (.slice ad xn c) xn (flat ecl xs) → Calls Tryd.prog 21 #[.agg (Fs 16 salt), .slice ad xn c] W (fun r w' => r = .returned (.int .i64 0) ∧ Kept (fun _ => False) W w') by
                  intro W hk hl
                  rw [HXX.out] at hl ⊢
                  obtain ⟨_, _, ev, hl2, hc1, hc2⟩ := OwnE.reads hl
                  obtain ⟨rfl, rfl⟩ := (by simpa using ev : ad = _ ∧ c = _)
                  exact check_right salt ad c xs W hk hl2 HM.out.len HM.out.right)
                have HV5 := Lib.hid hV5
                clear hV5 CA p1 p3
                go_wp2_with fail
                go_loopg [195] xn (fun k s195 wy => ∃ (i : Nat), i + k = xn ∧ s195 = .int .i64 (i : Int) ∧ Kept (fun _ => False) w4 wy)
                case atStart => exact ⟨0, by omega, rfl, Kept.refl _ w4⟩
                case round =>
                  obtain ⟨i, hi, rfl, hZ⟩ := hrel
                  have Hi := Lib.hid hi
                  have hin : i ≤ xn := by omega
                  clear hi
                  replace hS : Row wr w.heap.size 22 16 salt := hZ.at hS (fun h => h)
                  by_cases hlt : i < xn
                  · have p1 : (i : Int) < xn := by omega
                    have p2 : (0 : Int) ≤ i := by omega
                    have hil : i < xs.length := by rw [← HXX.out]; exact hlt
                    obtain ⟨g5, c5, ev, hcc, hcell⟩ := HV5.out.cells (by omega)
                    obtain ⟨rfl, rfl⟩ : av = some ⟨g5, 0, none⟩ ∧ ac = c5 := by simpa using ev
                    have d0 := hZ.cell (hcell i (nthE xs i).nm (by unfold zt; rw [HXX.out, List.take_length]; exact zn_get xs i hil))
                    have hl0 := HL.out
                    rw [HXX.out] at hl0
                    obtain ⟨_, _, ev2, hl2, _⟩ := OwnE.reads hl0
                    obtain ⟨rfl, rfl⟩ := (by simpa using ev2 : ad = _ ∧ c = _)
                    obtain ⟨g6, o6, rfl, hce⟩ := hl2.resolve_left (by omega)
                    have d1 := hZ.cell (hce i hil).1
                    obtain ⟨x, hx⟩ : ∃ x, x = (nthE xs i).nm := ⟨_, rfl⟩
                    rw [← hx] at d0 d1
                    have HQ' := Lib.hid hQ
                    clear hcell ev hcc hl0 ev2 hl2 hce hx hQ
                    go_upto_region 55 with fail
                    refine region_still (by kernel_rfl) (by kernel_rfl) ?_
                    repeat (refine wpStill_step (fun K hK => ?_); go_simp; (try go_bits); refine hK _ ?_; clear hK K)
                    refine wpStill_nil ?_
                    go_wp2_with fail
                    go_roundg (gk - 1)
                    case measure => have := Hi.out; omega
                    case rel => have := Hi.out; exact ⟨i + 1, by omega, by go_num, hZ.drew⟩
                  · obtain rfl : xn = i := by omega
                    have p1 : ¬ (xn : Int) < xn := by omega
                    go_wp2_with (first | (refine load_row_g rfl 22 (.tmp 3) rfl w.heap.size rfl 22 (Fs 16 salt) (0, 0) _ hS Tryd.underlying22 rfl (info22F _) ?_))
                    refine (CC.out wr (HKA.out.kept hZ) (owns_kept HL.out hZ (fun _ _ h => h))).mono ?_
                    rintro r w6 ⟨rfl, k6⟩
                    go_wp2_with fail
                    go_ret
                    exact ⟨rfl, (hK1.trans hQ (fun _ _ h => h)).trans (hZ.trans k6 (fun _ _ h => h)) (fun _ _ h => h)⟩
              · have q0 : ¬ ((m : Int) = 0) := by omega
                have q1' : ((m : Int) == 0) = false := by simpa using hm0
                obtain ⟨g4, c4', ev, hcc, hcell⟩ := HO4.out.cells (by omega)
                obtain ⟨rfl, rfl⟩ : a4 = some ⟨g4, 0, none⟩ ∧ c4 = c4' := by simpa using ev
                have hlast : (nextOf xs c' N)[m - 1]? = some ((nextOf xs c' N).getD (m - 1) ⟨#[]⟩) := by
                  rw [List.getD_eq_getElem?_getD, List.getElem?_eq_getElem (by have := HMM.out; omega)]; rfl
                have hz1 := hcell _ _ hlast
                rw [nextOf_last xs c' N m HMM.out (by omega)] at hz1
                have hg4 : wr.heap.size ≤ g4 := (owns_ltS HO4.out (k := g4) rfl).1
                have hcM : ∀ j b, (nextOf xs c' N)[j]? = some b → w4.cell? ((⟨g4, 0, none⟩ : Addr).add j) = some (.string b) := fun j b hj => by
                  rw [Addr.add_lit, Nat.zero_add]; exact hcell j b hj
                have HCM := Lib.hid hcM
                have HZ1 := Lib.hid hz1
                have hcN : c' + m ≤ 1000000 := by have := HMX.out; have := HXX.out; omega
                have hxle : c' + m ≤ xn := by have := HMX.out; have := HXX.out; omega
                clear hcell hlast ev hcM hz1
                go_upto_region 48 with (first | (refine appSs rfl (.tmp 171) (.tmp 172) rfl wq.heap.size (.slice av c' ac) c' (zt xs c') (by rfl) HV4.out ⟨g4, 0, none⟩ m c4 (nextOf xs c' N) (by rfl) HMM.out.symm HCM.out hcN hZ4.size ?_))
                intro v5 w5 ho5 k5
                have hZ5 : Kept (fun _ => False) wq w5 := kept_ownS hZ4 (Nat.le_refl _) HV4.out k5
                have hlt4 : g4 < w4.heap.size := (owns_ltS HO4.out (k := g4) rfl).2
                have hz5 : w5.cell? ⟨g4, m - 1, none⟩ = some (.string (lastOf xs (c' + m))) := by
                  rw [World.cell?_of_block (w := w4) (k5.block g4 hlt4 (fun h => by have := HVB.out g4 h; omega))]; exact HZ1.out
                have hnx : zt xs c' ++ nextOf xs c' N = zt xs (c' + m) := by
                  unfold zt; rw [names_next, ← HMM.out]
                rw [hnx] at ho5
                have HO5 := Lib.hid ho5
                have p4 : (0 : Int) ≤ (m : Int) - 1 := by omega
                have p5 : ((m : Int) - 1).toNat = m - 1 := by omega
                have p6 : (1 : Int) ≤ m := by omega
                have p7 : (m : Int) - 1 < m := by omega
                have p8 : (m : Int) ≤ 9 := by omega
                clear k5 ho5 hnx hg4 hlt4 hZ4
                go_wp2_with fail
                go_roundg (gk - 1)
                case measure => have := Hi.out; omega
                case rel => have := Hi.out; exact ⟨i + 1, c' + m, v5, by omega, by go_num, hxle, by omega, rfl, rfl, HO5.out, hZ5⟩
end Go.Proofs.YtpekibadleghbaaDoor
