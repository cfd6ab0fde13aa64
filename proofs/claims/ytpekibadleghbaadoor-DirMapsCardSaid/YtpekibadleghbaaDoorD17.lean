/-
  The walk of the law DirFull.
-/
import Derived.Test.YtpekibadleghbaaDoorD16
namespace Go.Proofs.YtpekibadleghbaaDoor
open Go.RowKit
set_option linter.unusedVariables false
set_option linter.unusedSimpArgs false
theorem right_szs {salt : Nat → Byte} {xs : List En} (hr : rightB salt (nthE xs) xs.length = true) : ∀ i, i < xs.length → (nthE xs i).nm.size ≤ 140737488351232 := fun i hi => by
  have := (one_size (okTo_one salt (nthE xs) xs.length (rightB_ok hr) i hi)).2.1; omega
theorem encode_right (salt : Nat → Byte) (a : Option Addr) (cap : Nat) (xs : List En) (w : World) (hk : KeysAt w) (h : ListE w a xs.length (nthE xs)) (hn : xs.length ≤ 140737488351232) (hr : rightB salt (nthE xs) xs.length = true) :
    Calls Tryd.prog 20 #[.agg (Fs 16 salt), .slice a xs.length cap] w fun r w' => ∃ (ad : Option Addr) (m c : Nat), r = .returned (.tuple #[.slice ad m c, .int .i64 0]) ∧ (m : Int) = szE (nthE xs) xs.length ∧ Kept (fun _ => False) w w' := by
  refine (encode_any salt a cap xs w hk h hn (right_szs hr)).mono fun r w' hp => ?_
  obtain ⟨ad, c, rfl, _, _, k⟩ := hp.out
  have e : encR salt xs = (encL xs xs.length, 0) := by unfold encR; rw [if_pos hr]
  rw [e]
  exact ⟨ad, _, c, rfl, by rw [encL_sum, (right_sum hn hr).1], k⟩
theorem check_right (salt : Nat → Byte) (a : Option Addr) (cap : Nat) (xs : List En) (w : World) (hk : KeysAt w) (h : ListE w a xs.length (nthE xs)) (hn : xs.length ≤ 140737488351232) (hr : rightB salt (nthE xs) xs.length = true) :
    Calls Tryd.prog 21 #[.agg (Fs 16 salt), .slice a xs.length cap] w fun r w' => r = .returned (.int .i64 0) ∧ Kept (fun _ => False) w w' := by
  refine (check_any salt a xs.length cap (nthE xs) w hk h hn (right_szs hr)).mono fun r w' ⟨e, k⟩ => ⟨?_, k⟩
  rw [e, if_pos hr]
set_option maxRecDepth 100000 in
set_option maxHeartbeats 32000000 in
theorem dirFull_any (salt : Nat → Byte) (a : Option Addr) (n cap : Nat) (f : Nat → ByteArray) (w : World) (hk : KeysAt w) (h : ListS w a n f) (hn : n ≤ 140737488351232) (hs : ∀ i, i < n → (f i).size ≤ 140737488351232) :
    Calls Tryd.prog 6 #[.agg (Fs 16 salt), .slice a n cap] w fun e w' => e = .returned (.bool true) ∧ Kept (fun _ => False) w w' := by
  have qn : (n : Int) ≤ 140737488351232 := by omega
  go_enter Tryd.func6, Tryd.ntmps6
  go_upto_region 1 with fail
  have hS0 : Row (w.alloc (.cells (Fs 16 salt) 22)) w.heap.size 22 16 salt := Row.new w 22 16 salt
  have hK0 : Kept (fun _ => False) w (w.alloc (.cells (Fs 16 salt) 22)) := (Kept.refl _ w).alloc _
  generalize hw0 : w.alloc (.cells (Fs 16 salt) 22) = w0 at *
  clear hw0
  go_wp2_with fail
  refine (dirFixed_any w0 (hk.kept hK0)).mono ?_
  rintro r w1 ⟨rfl, k1⟩
  have hS1 : Row w1 w.heap.size 22 16 salt := k1.at hS0 (fun h => h)
  have hK1 : Kept (fun _ => False) w w1 := hK0.trans k1 (fun _ _ h => h)
  have hk1 : KeysAt w1 := hk.kept hK1
  have h1 : ListS w1 a n f := h.kept hK1
  clear k1 hS0 hK0 hk h
  go_upto_region 5 with fail
  go_loopg [5, 17] n (fun k s5 s17 wr => ∃ (j : Nat) (xs : List En) (ad : Option Addr) (c : Nat), j + k = n ∧ s17 = .int .i64 (j : Int) ∧ s5 = .slice ad xs.length c ∧ ListE wr ad xs.length (nthE xs) ∧ rightB salt (nthE xs) xs.length = true ∧ xs.length ≤ 140737488351232 ∧ Kept (fun _ => False) w1 wr)
  case atStart => exact ⟨0, [], none, 0, by omega, rfl, rfl, .inl rfl, by rfl, by simp, Kept.refl _ w1⟩
  case round =>
    obtain ⟨j, xs, ad, c, hj, rfl, rfl, hl, hr, hxn, hQ⟩ := hrel
    have Hj := Lib.hid hj
    have hjn : j ≤ n := by omega
    have hS : Row wr w.heap.size 22 16 salt := hQ.at hS1 (fun h => h)
    have hka : KeysAt wr := hk1.kept hQ
    obtain ⟨b0, b1, b2⟩ := right_len hxn hr
    have HKA := Lib.hid hka
    have HR := Lib.hid hr
    have HL := Lib.hid hl
    obtain ⟨xn, hxx⟩ : ∃ xn, xn = xs.length := ⟨_, rfl⟩
    obtain ⟨sz, hsz⟩ : ∃ sz, sz = szE (nthE xs) xs.length := ⟨_, rfl⟩
    rw [← hsz] at b1 b2
    have CE := Lib.hid (show ∀ W ad c, KeysAt W → ListE W ad xn (nthE xs) → Calls Tryd.prog 20 #[.agg (Fs 16 salt), .slice ad xn c] W (fun r w' => ∃ (ad : Option Addr) (m c : Nat), r = .returned (.tuple #[.slice ad m c, .int .i64 0]) ∧ (m : Int) = sz ∧ Kept (fun _ => False) W w') by
      rw [hxx, hsz]; exact fun W ad c hk h => encode_right salt ad c xs W hk h hxn hr)
    have CC := Lib.hid (show ∀ W ad c, KeysAt W → ListE W ad xn (nthE xs) → Calls Tryd.prog 21 #[.agg (Fs 16 salt), .slice ad xn c] W (fun r w' => r = .returned (.int .i64 0) ∧ Kept (fun _ => False) W w') by
      rw [hxx]; exact fun W ad c hk h => check_right salt ad c xs W hk h hxn hr)
    have CS := Lib.hid (show ∀ W ad c, ListE W ad xn (nthE xs) → Calls Tryd.prog 18 #[.slice ad xn c] W (fun r w' => r = .returned (.int .i64 sz) ∧ Kept (fun _ => False) W w') by
      rw [hxx, hsz]; exact fun W ad c h => size_any ad xs.length c (nthE xs) W h hxn (right_szs hr))
    have CP := Lib.hid (show ∀ W ad c nm ino, KeysAt W → ListE W ad xn (nthE xs) → nm.size ≤ 140737488351232 → Calls Tryd.prog 19 #[.agg (Fs 16 salt), .slice ad xn c, .string nm, .int .i64 ino] W (fun r w' => ∃ (ad : Option Addr) (n c : Nat) (e : Int), r = .returned (.tuple #[.slice ad n c, .int .i64 e]) ∧ Kept (fun _ => False) W w' ∧
      ((e = 2 ∧ n = 0) ∨ (e = 17 ∧ n = 0) ∨ (e = 5 ∧ n = 0 ∧ 1320 < sz + 2 + (nm.size : Int)) ∨
        (e = 0 ∧ ∃ ys : List En, n = ys.length ∧ ListE w' ad ys.length (nthE ys) ∧ rightB salt (nthE ys) ys.length = true ∧ ys.length ≤ 140737488351232 ∧ szE (nthE ys) ys.length = sz + 2 + (nm.size : Int)))) by
      rw [hxx, hsz]; exact fun W ad c nm ino hk h h2 => put_four salt ad c xs nm ino W hk h hxn hr h2)
    replace HL := Lib.hid (show ListE wr ad xn (nthE xs) by rw [hxx]; exact hl)
    have HXX := Lib.hid hxx
    simp only [← hxx]
    clear hj hr hl hka hxx hsz
    by_cases hlt : j < n
    · have q1 : (j : Int) < n := by omega
      have q2 : (0 : Int) ≤ j := by omega
      by_cases h120 : 120 ≤ j
      · have q3 : (120 : Int) ≤ j := by omega
        obtain ⟨g, o, rfl, hc⟩ := h1.resolve_left (by omega)
        have c0 := hQ.cell (hc j hlt)
        clear hc
        go_wp2_with (first | (refine load_row_g rfl 22 (.tmp 2) rfl w.heap.size rfl 22 (Fs 16 salt) (0, 0) _ hS Tryd.underlying22 rfl (info22F _) ?_))
        refine (CE.out wr ad c HKA.out HL.out).mono ?_
        rintro r e2 ⟨a2, m2, c2, rfl, hm2, k⟩
        have hQ2 := hQ.trans k (fun _ _ h => h)
        have hS2 : Row e2 w.heap.size 22 16 salt := k.at hS (fun h => h)
        have HL2 := Lib.hid (HL.out.kept k)
        have HKA2 := Lib.hid (HKA.out.kept k)
        clear k hS hQ
        go_wp2_with fail
        refine (CS.out e2 ad c HL2.out).mono ?_
        rintro r e3 ⟨rfl, k⟩
        have hQ3 := hQ2.trans k (fun _ _ h => h)
        have hS3 : Row e3 w.heap.size 22 16 salt := k.at hS2 (fun h => h)
        have HL3 := Lib.hid (HL2.out.kept k)
        have HKA3 := Lib.hid (HKA2.out.kept k)
        clear k hS2 hQ2
        obtain ⟨z0, z1, z2, z3, z4, z5, z6, z7, z8, z9, z10, z11, z12, z13, z14, z15⟩ := row_cells hS3
        go_wp2_with fail
        refine (CC.out e3 ad c HKA3.out HL3.out).mono ?_
        rintro r e4 ⟨rfl, k⟩
        have hQ4 := hQ3.trans k (fun _ _ h => h)
        clear k z0 z1 z2 z3 z4 z5 z6 z7 z8 z9 z10 z11 z12 z13 z14 z15
        go_wp2_with fail
        go_ret
        exact ⟨by first | rfl | simp, hK1.trans hQ4 (fun _ _ h => h)⟩
      · have q3 : ¬ (120 : Int) ≤ j := by omega
        obtain ⟨g, o, rfl, hc⟩ := h1.resolve_left (by omega)
        have c0 := hQ.cell (hc j hlt)
        have hnm := hs j hlt
        obtain ⟨nm, hnme⟩ : ∃ nm, nm = f j := ⟨_, rfl⟩
        rw [← hnme] at c0 hnm
        clear hc hnme
        have qm : (nm.size : Int) ≤ 140737488351232 := by omega
        have qm0 : (0 : Int) ≤ nm.size := by omega
        go_wp2_with fail
        refine (CS.out wr ad c HL.out).mono ?_
        rintro r w2 ⟨rfl, k2⟩
        have hQ2 := hQ.trans k2 (fun _ _ h => h)
        have hS2 : Row w2 w.heap.size 22 16 salt := k2.at hS (fun h => h)
        clear c0
        go_wp2_with (first | (refine load_row_g rfl 22 (.tmp 2) rfl w.heap.size rfl 22 (Fs 16 salt) (0, 0) _ hS2 Tryd.underlying22 rfl (info22F _) ?_))
        refine (CP.out w2 ad c nm _ (hk1.kept hQ2) (HL.out.kept k2) hnm).mono ?_
        rintro r w3 ⟨a9, n9, c9, e, rfl, k3, hcase⟩
        have hQ3 := hQ2.trans k3 (fun _ _ h => h)
        have hL3 := (HL.out.kept k2).kept k3
        have HL3 := Lib.hid (show ListE w3 ad xs.length (nthE xs) by rw [← HXX.out]; exact hL3)
        have HXN := Lib.hid hxn
        clear k2 k3 hL3 CP CE CC CS HL hS hS2 HKA hQ hQ2 hxn
        rcases hcase with ⟨rfl, rfl⟩ | ⟨rfl, rfl⟩ | ⟨rfl, rfl, hbig⟩ | ⟨rfl, ys, rfl, hly, hry, hyn, hsy⟩
        · go_wp2_with fail
          go_roundg (gk - 1)
          case measure => have := Hj.out; omega
          case rel =>
            have := Hj.out
            exact ⟨j + 1, xs, ad, c, by omega, by go_num, by rw [HXX.out], HL3.out, HR.out, HXN.out, hQ3⟩
        · go_wp2_with fail
          go_roundg (gk - 1)
          case measure => have := Hj.out; omega
          case rel =>
            have := Hj.out
            exact ⟨j + 1, xs, ad, c, by omega, by go_num, by rw [HXX.out], HL3.out, HR.out, HXN.out, hQ3⟩
        · have q5 : ¬ sz + 2 + (nm.size : Int) ≤ 1320 := by omega
          go_wp2_with fail
          go_roundg (gk - 1)
          case measure => have := Hj.out; omega
          case rel =>
            have := Hj.out
            exact ⟨j + 1, xs, ad, c, by omega, by go_num, by rw [HXX.out], HL3.out, HR.out, HXN.out, hQ3⟩
        · obtain ⟨_, y1, y2⟩ := right_len hyn hry
          have q5 : sz + 2 + (nm.size : Int) ≤ 1320 := by omega
          have q6 : ¬ 1320 < sz + 2 + (nm.size : Int) := by omega
          have CY := Lib.hid (show ∀ W, ListE W a9 ys.length (nthE ys) → Calls Tryd.prog 18 #[.slice a9 ys.length c9] W (fun r w' => r = .returned (.int .i64 (sz + 2 + (nm.size : Int))) ∧ Kept (fun _ => False) W w') by
            rw [← hsy]; exact fun W h => size_any a9 ys.length c9 (nthE ys) W h hyn (right_szs hry))
          have HLY := Lib.hid hly
          have HRY := Lib.hid hry
          have HYN := Lib.hid hyn
          clear hly hry hyn hsy y1 y2 HL3 HXN HR
          go_wp2_with fail
          refine (CY.out w3 HLY.out).mono ?_
          rintro r w4 ⟨rfl, k4⟩
          go_wp2_with fail
          refine (CY.out w4 (HLY.out.kept k4)).mono ?_
          rintro r w5 ⟨rfl, k5⟩
          have hQ5 := (hQ3.trans k4 (fun _ _ h => h)).trans k5 (fun _ _ h => h)
          have HL5 := Lib.hid ((HLY.out.kept k4).kept k5)
          clear k4 k5 CY HLY hQ3
          go_wp2_with fail
          go_roundg (gk - 1)
          case measure => have := Hj.out; omega
          case rel =>
            have := Hj.out
            exact ⟨j + 1, ys, a9, c9, by omega, by go_num, rfl, HL5.out, HRY.out, HYN.out, hQ5⟩
    · obtain rfl : j = n := by omega
      have q1 : ¬ (j : Int) < j := by omega
      go_wp2_with (first | (refine load_row_g rfl 22 (.tmp 2) rfl w.heap.size rfl 22 (Fs 16 salt) (0, 0) _ hS Tryd.underlying22 rfl (info22F _) ?_))
      refine (CE.out wr ad c HKA.out HL.out).mono ?_
      rintro r e2 ⟨a2, m2, c2, rfl, hm2, k⟩
      have hQ2 := hQ.trans k (fun _ _ h => h)
      have hS2 : Row e2 w.heap.size 22 16 salt := k.at hS (fun h => h)
      have HL2 := Lib.hid (HL.out.kept k)
      have HKA2 := Lib.hid (HKA.out.kept k)
      clear k hS hQ
      go_wp2_with fail
      refine (CS.out e2 ad c HL2.out).mono ?_
      rintro r e3 ⟨rfl, k⟩
      have hQ3 := hQ2.trans k (fun _ _ h => h)
      have hS3 : Row e3 w.heap.size 22 16 salt := k.at hS2 (fun h => h)
      have HL3 := Lib.hid (HL2.out.kept k)
      have HKA3 := Lib.hid (HKA2.out.kept k)
      clear k hS2 hQ2
      obtain ⟨z0, z1, z2, z3, z4, z5, z6, z7, z8, z9, z10, z11, z12, z13, z14, z15⟩ := row_cells hS3
      go_wp2_with fail
      refine (CC.out e3 ad c HKA3.out HL3.out).mono ?_
      rintro r e4 ⟨rfl, k⟩
      have hQ4 := hQ3.trans k (fun _ _ h => h)
      clear k z0 z1 z2 z3 z4 z5 z6 z7 z8 z9 z10 z11 z12 z13 z14 z15
      go_wp2_with fail
      go_ret
      exact ⟨by first | rfl | simp, hK1.trans hQ4 (fun _ _ h => h)⟩
end Go.Proofs.YtpekibadleghbaaDoor
