/-
  dir.After and the reference's.
-/
import Derived.Test.YtpekibadleghbaaDoorDB
namespace Go.Proofs.YtpekibadleghbaaDoor
open Go.RowKit
set_option linter.unusedVariables false
set_option linter.unusedSimpArgs false
def aftB (salt : Nat → Byte) (nm : ByteArray) (e : En) : Bool := nm.toList.isEmpty || decide (0 < orderOf salt e.nm nm)
def afterR (salt : Nat → Byte) (xs : List En) (nm : ByteArray) (n : Int) : List ByteArray × Int :=
  if rightB salt (nthE xs) xs.length = true then if n < 0 then ([], 2) else (((xs.filter (aftB salt nm)).map En.nm).take n.toNat, 0) else ([], 3)
def TextsPost (R : List ByteArray × Int) (w : World) (r : Ending) (w' : World) : Prop :=
  ∃ v, r = .returned (.tuple #[v, .int .i64 R.2]) ∧ OwnS w' w.heap.size v R.1.length R.1 ∧ Kept (fun _ => False) w w'
theorem TextsPost.nil {e : Int} {w w' : World} (h : Kept (fun _ => False) w w') : TextsPost ([], e) w (.returned (.tuple #[.slice none 0 0, .int .i64 e])) w' :=
  ⟨_, rfl, OwnS.nil _ _, h⟩
/-- The names of some entries. -/
def txt (xs : List En) (i j : Nat) : List ByteArray := ((xs.drop i).take j).map En.nm
theorem txt_zero (xs : List En) (i : Nat) : txt xs i 0 = [] := by simp [txt]
theorem txt_len (xs : List En) (i j : Nat) (h : i + j ≤ xs.length) : (txt xs i j).length = j := by simp [txt]; omega
theorem txt_succ (xs : List En) (i j : Nat) (h : i + j < xs.length) : txt xs i (j + 1) = txt xs i j ++ [(nthE xs (i + j)).nm] := by
  unfold txt
  rw [List.take_succ_eq_append_getElem (by simp; omega), List.map_append, List.getElem_drop, nthE_eq xs (i + j) h]
  rfl
/-- Behind a place all are greater, before it none is. -/
theorem filter_drop {α : Type} (p : α → Bool) : ∀ (xs : List α) (i : Nat), i ≤ xs.length → (∀ m (h : m < xs.length), m < i → p xs[m] = false) → (∀ m (h : m < xs.length), i ≤ m → p xs[m] = true) → xs.filter p = xs.drop i
  | [], i, _, _, _ => by simp
  | x :: xs, 0, _, _, h => by
    rw [List.drop_zero, List.filter_eq_self]
    intro y hy
    obtain ⟨m, hm, rfl⟩ := List.mem_iff_getElem.1 hy
    exact h m hm (by omega)
  | x :: xs, i + 1, hi, hl, h => by
    have h0 : p x = false := hl 0 (by simp) (by omega)
    rw [List.filter_cons, h0, List.drop_succ_cons]
    simp only [Bool.false_eq_true, if_false]
    exact filter_drop p xs i (by simpa using hi) (fun m hm hmi => hl (m + 1) (Nat.succ_lt_succ hm) (by omega)) (fun m hm hmi => h (m + 1) (Nat.succ_lt_succ hm) (by omega))
theorem after_split {salt : Nat → Byte} {xs : List En} {nm : ByteArray} {i : Nat} (hne : nm.toList.isEmpty = false) (hs : Sorted salt (nthE xs) xs.length) (sp : Split salt (nthE xs) xs.length nm i i) (b : Bool) (hb : b = (decide (i < xs.length) && decide (orderOf salt (nthE xs i).nm nm = 0))) :
    xs.filter (aftB salt nm) = xs.drop (if b = true then i + 1 else i) ∧ (if b = true then i + 1 else i) ≤ xs.length := by
  have hp : ∀ m (h : m < xs.length), aftB salt nm xs[m] = decide (0 < orderOf salt (nthE xs m).nm nm) := fun m h => by
    unfold aftB; rw [hne, nthE_eq xs m h]; rfl
  cases b
  · simp only [Bool.false_eq_true, if_false]
    refine ⟨filter_drop _ xs i sp.len (fun m h hm => ?_) (fun m h hm => ?_), sp.len⟩
    · rw [hp m h]; have := sp.low m hm; exact decide_eq_false (by omega)
    · rw [hp m h]
      have h1 := sp.high m hm h
      have h2 : orderOf salt (nthE xs m).nm nm ≠ 0 := fun e => there_no hs sp hb.symm m h (ord_eq salt e)
      exact decide_eq_true (by omega)
  · obtain ⟨hin, hnm⟩ := there_yes hb.symm
    simp only [if_true]
    refine ⟨filter_drop _ xs (i + 1) hin (fun m h hm => ?_) (fun m h hm => ?_), hin⟩
    · rw [hp m h]
      by_cases e : m = i
      · subst e; rw [hnm, ord_self]; rfl
      · have := sp.low m (by omega); exact decide_eq_false (by omega)
    · rw [hp m h]
      have h1 := hs i m (by omega) h
      rw [hnm] at h1
      have h2 := ord_neg salt nm (nthE xs m).nm
      exact decide_eq_true (by omega)
theorem filter_empty {salt : Nat → Byte} {xs : List En} {nm : ByteArray} (h : nm.toList.isEmpty = true) : xs.filter (aftB salt nm) = xs := by
  rw [List.filter_eq_self]
  intro y _
  unfold aftB
  rw [h]; rfl
set_option maxRecDepth 100000 in
set_option maxHeartbeats 8000000 in
theorem after_any (salt : Nat → Byte) (a : Option Addr) (cap : Nat) (xs : List En) (nm : ByteArray) (n : Int) (w : World) (hk : KeysAt w) (h : ListE w a xs.length (nthE xs)) (hcap : xs.length ≤ cap) (hn : xs.length ≤ 140737488351232) (hcap2 : cap ≤ 9223372036854775807) (hs : ∀ i, i < xs.length → (nthE xs i).nm.size ≤ 140737488351232) (h2 : nm.size ≤ 140737488351232) (hn1 : n ≤ 9223372036854775807) :
    Calls Tryd.prog 31 #[.agg (Fs 16 salt), .slice a xs.length cap, .string nm, .int .i64 n] w (TextsPost (afterR salt xs nm n) w) := by
  obtain ⟨z, hz⟩ : ∃ z, z = afterR salt xs nm n := ⟨_, rfl⟩
  rw [← hz]
  have HZ := Lib.hid hz
  clear hz
  have qa : (xs.length : Int) ≤ 140737488351232 := by omega
  go_enter Tryd.func31, Tryd.ntmps31
  go_upto_region 1 with fail
  have hS0 : Row (w.alloc (.cells (Fs 16 salt) 22)) w.heap.size 22 16 salt := Row.new w 22 16 salt
  have hK0 : Kept (fun _ => False) w (w.alloc (.cells (Fs 16 salt) 22)) := (Kept.refl _ w).alloc _
  generalize hw0 : w.alloc (.cells (Fs 16 salt) 22) = w0 at *
  obtain ⟨gs, hgs⟩ : ∃ gs, gs = w.heap.size := ⟨_, rfl⟩
  rw [← hgs] at hS0 ⊢
  clear hw0 hgs
  have hcon := check_any salt a xs.length cap (nthE xs) w0 (hk.kept hK0) (h.kept hK0) hn hs
  cases hr : rightB salt (nthE xs) xs.length
  · rw [hr] at hcon
    simp only [Bool.false_eq_true, if_false] at hcon
    have HC := Lib.hid hcon
    obtain rfl : z = ([], 3) := by rw [HZ.out]; unfold afterR; rw [hr]; rfl
    clear hcon hr
    go_wp2_with (first | (refine wpList_load_row rfl 22 (.tmp 4) rfl gs rfl 22 (Fs 16 salt) (0, 0) _ hS0 Tryd.underlying22 rfl (info22F _) ?_) | ((with_reducible refine (HC.out).mono ?_); rintro r w1 ⟨rfl, k1⟩))
    go_ret2
    exact TextsPost.nil (hK0.trans k1 (fun _ _ h => h))
  rw [hr] at hcon
  simp only [if_true] at hcon
  have HC := Lib.hid hcon
  have HR := Lib.hid hr
  have hso := okTo_sorted salt _ _ (rightB_ok hr)
  have HSO := Lib.hid hso
  obtain ⟨l1, l2, l3⟩ := right_len hn hr
  clear hcon hr hso
  by_cases hneg : n < 0
  · obtain rfl : z = ([], 2) := by rw [HZ.out]; unfold afterR; rw [if_pos HR.out, if_pos hneg]
    go_wp2_with (first | (refine wpList_load_row rfl 22 (.tmp 4) rfl gs rfl 22 (Fs 16 salt) (0, 0) _ hS0 Tryd.underlying22 rfl (info22F _) ?_) | ((with_reducible refine (HC.out).mono ?_); rintro r w1 ⟨rfl, k1⟩))
    go_ret2
    exact TextsPost.nil (hK0.trans k1 (fun _ _ h => h))
  go_upto_region 7 with (first | (refine wpList_load_row rfl 22 (.tmp 4) rfl gs rfl 22 (Fs 16 salt) (0, 0) _ hS0 Tryd.underlying22 rfl (info22F _) ?_) | ((with_reducible refine (HC.out).mono ?_); rintro r w1 ⟨rfl, k1⟩; clear HC))
  have hS1 : Row w1 gs 22 16 salt := k1.at hS0 (fun h => h)
  have hK1 : Kept (fun _ => False) w w1 := hK0.trans k1 (fun _ _ h => h)
  clear k1 hS0 hK0
  obtain ⟨m, hm⟩ : ∃ m : Nat, n = m := ⟨n.toNat, by omega⟩
  subst hm
  have hz : z = (((xs.filter (aftB salt nm)).map En.nm).take m, 0) := by rw [HZ.out]; unfold afterR; rw [if_pos HR.out, if_neg (by omega), Int.toNat_natCast]
  have HZ2 := Lib.hid hz
  clear hz HZ hneg
  obtain ⟨mm, hmm⟩ : ∃ mm : Nat, mm = min m xs.length := ⟨_, rfl⟩
  have e1 : min (m : Int) (xs.length : Int) = (mm : Int) := by omega
  have e2 : min (xs.length : Int) (m : Int) = (mm : Int) := by omega
  cases he : nm.toList.isEmpty
  · have he2 : nm.toList ≠ [] := fun e => by rw [e] at he; cases he
    have HE := Lib.hid he
    go_upto_region 9 with fail
    go_upto_region 10 with (first | (refine wpList_load_row rfl 22 (.tmp 4) rfl gs rfl 22 (Fs 16 salt) (0, 0) _ hS1 Tryd.underlying22 rfl (info22F _) ?_) | ((with_reducible refine (at_any salt a xs.length cap (nthE xs) nm w1 (hk.kept hK1) (h.kept hK1) hn hs HSO.out h2).mono ?_); rintro r w2 ⟨i, hsp, rfl, k2⟩; have HSP := Lib.hid hsp; clear hsp))
    have hK2 : Kept (fun _ => False) w w2 := hK1.trans k2 (fun _ _ h => h)
    clear k2 hS1 hK1
    obtain ⟨b, hb⟩ : ∃ b, b = (decide (i < xs.length) && decide (orderOf salt (nthE xs i).nm nm = 0)) := ⟨_, rfl⟩
    rw [← hb]
    obtain ⟨hf, hil⟩ := after_split HE.out HSO.out HSP.out b hb
    clear hb
    cases b
    · simp only [Bool.false_eq_true, if_false] at hf hil
      have HF := Lib.hid hf
      clear hf
      go_upto_region 13 with fail
      obtain ⟨c, hcc⟩ : ∃ c : Nat, c = min (xs.length - i) m := ⟨_, rfl⟩
      have hz : z = (txt xs i c, 0) := by
        rw [HZ2.out, HF.out, hcc]
        unfold txt
        rw [List.map_take]
        congr 1
        rw [List.take_eq_take_iff]
        simp
        omega
      have HZ3 := Lib.hid hz
      have e3 : min (xs.length : Int) ((i : Int) + (mm : Int)) = ((i + c : Nat) : Int) := by omega
      have e4 : ((i + c : Nat) : Int) = (i : Int) + (c : Int) := by omega
      rw [e4] at e3
      clear e4
      have hcl : i + c ≤ xs.length := by omega
      have q8 : (i : Int) + (c : Int) ≤ xs.length := by omega
      have q9 : (i : Int) + (c : Int) ≤ cap := by omega
      have q10 : (xs.length : Int) ≤ 440 := by omega
      have q11 : (cap : Int) ≤ 9223372036854775807 := by omega
      have q7 : (mm : Int) ≤ 440 := by omega
      have q12 : i ≤ xs.length := by omega
      have q13 : (i : Int) ≤ cap := by omega
      have q14 : ((i : Int) + (c : Int)).toNat = i + c := by omega
      have q15 : (0 : Int) ≤ (i : Int) + (c : Int) := by omega
      have q16 : i + c - i = c := by omega
      have q18 : i + c ≤ cap := by omega
      have q19 : i ≤ cap := by omega
      have q20 : (i : Int) ≤ 440 := by omega
      clear hz HZ2 HF
      by_cases hc0 : c = 0
      · have HC0 := Lib.hid hc0
        clear hcc hmm hc0
        by_cases hcp : cap = i
        · replace hcp := hcp.symm; subst hcp
          go_upto_region 14 with fail
          go_loopg [13, 49] c (fun k so si wr => ∃ (j : Nat) (v : Value), j + k = c ∧ si = .int .i64 (j : Int) ∧ v = so ∧ OwnS wr w.heap.size v j (txt xs i j) ∧ Kept (fun _ => False) w wr)
          case atStart => exact ⟨0, _, by omega, rfl, rfl, by rw [txt_zero]; exact OwnS.nil _ _, hK2⟩
          case round =>
            clear hK2
            obtain ⟨j, v, hj, rfl, rfl, hO0, hK0⟩ := hrel
            have Hj := Lib.hid hj
            have hj2 : j ≤ c := by omega
            have hz0 : w.heap.size ≤ wr.heap.size := hK0.size
            clear hj
            by_cases hlt : j < c
            · have := HC0.out; omega
            · obtain rfl : j = c := by omega
              have q1 : ¬ (j : Int) < j := by omega
              have HO := Lib.hid hO0
              have HTL := Lib.hid (txt_len xs i j (by omega))
              clear hO0
              obtain rfl : z = (txt xs i j, 0) := HZ3.out
              go_wp2_with fail
              go_ret2
              exact ⟨_, rfl, by show OwnS _ _ _ (txt xs i j).length _; rw [HTL.out]; exact HO.out, hK0⟩
        · skip
          go_upto_region 14 with fail
          go_loopg [13, 49] c (fun k so si wr => ∃ (j : Nat) (v : Value), j + k = c ∧ si = .int .i64 (j : Int) ∧ v = so ∧ OwnS wr w.heap.size v j (txt xs i j) ∧ Kept (fun _ => False) w wr)
          case atStart => exact ⟨0, _, by omega, rfl, rfl, by rw [txt_zero]; exact OwnS.nil _ _, hK2⟩
          case round =>
            clear hK2
            obtain ⟨j, v, hj, rfl, rfl, hO0, hK0⟩ := hrel
            have Hj := Lib.hid hj
            have hj2 : j ≤ c := by omega
            have hz0 : w.heap.size ≤ wr.heap.size := hK0.size
            clear hj
            by_cases hlt : j < c
            · have := HC0.out; omega
            · obtain rfl : j = c := by omega
              have q1 : ¬ (j : Int) < j := by omega
              have HO := Lib.hid hO0
              have HTL := Lib.hid (txt_len xs i j (by omega))
              clear hO0
              obtain rfl : z = (txt xs i j, 0) := HZ3.out
              go_wp2_with fail
              go_ret2
              exact ⟨_, rfl, by show OwnS _ _ _ (txt xs i j).length _; rw [HTL.out]; exact HO.out, hK0⟩
      · obtain ⟨g, o, rfl, hc⟩ := h.resolve_left (by omega)
        have q17 : ¬ cap = i := by omega
        clear hcc hmm hc0
        go_upto_region 14 with fail
        go_loopg [13, 49] c (fun k so si wr => ∃ (j : Nat) (v : Value), j + k = c ∧ si = .int .i64 (j : Int) ∧ v = so ∧ OwnS wr w.heap.size v j (txt xs i j) ∧ Kept (fun _ => False) w wr)
        case atStart => exact ⟨0, _, by omega, rfl, rfl, by rw [txt_zero]; exact OwnS.nil _ _, hK2⟩
        case round =>
          clear hK2
          obtain ⟨j, v, hj, rfl, rfl, hO0, hK0⟩ := hrel
          have Hj := Lib.hid hj
          have hj2 : j ≤ c := by omega
          have hz0 : w.heap.size ≤ wr.heap.size := hK0.size
          clear hj
          by_cases hlt : j < c
          · have q1 : (j : Int) < c := by omega
            have q2 : (0 : Int) ≤ j := by omega
            obtain ⟨c0, c1⟩ := (hc (i + j) (by omega)).kept hK0
            rw [show o + (i + j) * 2 = o + i * 2 + j * 2 by omega] at c0 c1
            have HL := Lib.hid (txt_succ xs i j (by omega))
            obtain ⟨x, hx⟩ : ∃ x, x = nthE xs (i + j) := ⟨_, rfl⟩
            rw [← hx] at HL c0 c1
            clear hx
            go_upto_region 16 with fail
            generalize hwx : World.alloc wr _ = wx
            have hE : EAt wx wr.heap.size 0 x := by rw [← hwx]; exact newE' wr x
            have hOx : OwnS wx w.heap.size v j (txt xs i j) := by rw [← hwx]; exact OwnS.alloc hO0 _
            have hKx : Kept (fun _ => False) w wx := by rw [← hwx]; exact hK0.alloc _
            have hzx : w.heap.size ≤ wx.heap.size := hKx.size
            obtain ⟨d0, d1⟩ := hE
            generalize wr.heap.size = gx at *
            clear hwx hO0 hK0 c0 c1 hz0
            go_wp2_with (first | (refine appS rfl (.tmp 53) (.tmp 56) rfl w.heap.size v j (txt xs i j) (by rfl) (OwnS.alloc hOx _) wx.heap.size 1 x.nm (by rfl) (by first | (simp; done) | (simp; rfl)) (by omega) (by rw [size_alloc]; omega) ?_))
            intro v6 w6 hO6 k6
            have hK6 : Kept (fun _ => False) w w6 := kept_ownS (hKx.alloc _) (Nat.le_refl _) (OwnS.alloc hOx _) k6
            clear k6 hOx hKx
            go_wp2_with fail
            go_roundg (gk - 1)
            case measure => have := Hj.out; omega
            case rel =>
              have := Hj.out
              exact ⟨j + 1, v6, by omega, by go_num, rfl, by rw [HL.out]; exact hO6, hK6⟩
          · obtain rfl : j = c := by omega
            have q1 : ¬ (j : Int) < j := by omega
            have HO := Lib.hid hO0
            have HTL := Lib.hid (txt_len xs i j (by omega))
            clear hO0
            obtain rfl : z = (txt xs i j, 0) := HZ3.out
            go_wp2_with fail
            go_ret2
            exact ⟨_, rfl, by show OwnS _ _ _ (txt xs i j).length _; rw [HTL.out]; exact HO.out, hK0⟩
    · simp only [if_true] at hf hil
      obtain ⟨p, hp⟩ : ∃ p, p = i + 1 := ⟨_, rfl⟩
      rw [← hp] at hf hil
      have HF := Lib.hid hf
      have e5 : (i : Int) + 1 = (p : Int) := by omega
      have q0 : (i : Int) ≤ 440 := by omega
      clear hf hp
      go_upto_region 13 with fail
      obtain ⟨c, hcc⟩ : ∃ c : Nat, c = min (xs.length - p) m := ⟨_, rfl⟩
      have hz : z = (txt xs p c, 0) := by
        rw [HZ2.out, HF.out, hcc]
        unfold txt
        rw [List.map_take]
        congr 1
        rw [List.take_eq_take_iff]
        simp
        omega
      have HZ3 := Lib.hid hz
      have e3 : min (xs.length : Int) ((p : Int) + (mm : Int)) = ((p + c : Nat) : Int) := by omega
      have e4 : ((p + c : Nat) : Int) = (p : Int) + (c : Int) := by omega
      rw [e4] at e3
      clear e4
      have hcl : p + c ≤ xs.length := by omega
      have q8 : (p : Int) + (c : Int) ≤ xs.length := by omega
      have q9 : (p : Int) + (c : Int) ≤ cap := by omega
      have q10 : (xs.length : Int) ≤ 440 := by omega
      have q11 : (cap : Int) ≤ 9223372036854775807 := by omega
      have q7 : (mm : Int) ≤ 440 := by omega
      have q12 : p ≤ xs.length := by omega
      have q13 : (p : Int) ≤ cap := by omega
      have q14 : ((p : Int) + (c : Int)).toNat = p + c := by omega
      have q15 : (0 : Int) ≤ (p : Int) + (c : Int) := by omega
      have q16 : p + c - p = c := by omega
      have q18 : p + c ≤ cap := by omega
      have q19 : p ≤ cap := by omega
      have q20 : (p : Int) ≤ 440 := by omega
      clear hz HZ2 HF
      by_cases hc0 : c = 0
      · have HC0 := Lib.hid hc0
        clear hcc hmm hc0
        by_cases hcp : cap = p
        · replace hcp := hcp.symm; subst hcp
          go_upto_region 14 with fail
          go_loopg [13, 49] c (fun k so si wr => ∃ (j : Nat) (v : Value), j + k = c ∧ si = .int .i64 (j : Int) ∧ v = so ∧ OwnS wr w.heap.size v j (txt xs p j) ∧ Kept (fun _ => False) w wr)
          case atStart => exact ⟨0, _, by omega, rfl, rfl, by rw [txt_zero]; exact OwnS.nil _ _, hK2⟩
          case round =>
            clear hK2
            obtain ⟨j, v, hj, rfl, rfl, hO0, hK0⟩ := hrel
            have Hj := Lib.hid hj
            have hj2 : j ≤ c := by omega
            have hz0 : w.heap.size ≤ wr.heap.size := hK0.size
            clear hj
            by_cases hlt : j < c
            · have := HC0.out; omega
            · obtain rfl : j = c := by omega
              have q1 : ¬ (j : Int) < j := by omega
              have HO := Lib.hid hO0
              have HTL := Lib.hid (txt_len xs p j (by omega))
              clear hO0
              obtain rfl : z = (txt xs p j, 0) := HZ3.out
              go_wp2_with fail
              go_ret2
              exact ⟨_, rfl, by show OwnS _ _ _ (txt xs p j).length _; rw [HTL.out]; exact HO.out, hK0⟩
        · skip
          go_upto_region 14 with fail
          go_loopg [13, 49] c (fun k so si wr => ∃ (j : Nat) (v : Value), j + k = c ∧ si = .int .i64 (j : Int) ∧ v = so ∧ OwnS wr w.heap.size v j (txt xs p j) ∧ Kept (fun _ => False) w wr)
          case atStart => exact ⟨0, _, by omega, rfl, rfl, by rw [txt_zero]; exact OwnS.nil _ _, hK2⟩
          case round =>
            clear hK2
            obtain ⟨j, v, hj, rfl, rfl, hO0, hK0⟩ := hrel
            have Hj := Lib.hid hj
            have hj2 : j ≤ c := by omega
            have hz0 : w.heap.size ≤ wr.heap.size := hK0.size
            clear hj
            by_cases hlt : j < c
            · have := HC0.out; omega
            · obtain rfl : j = c := by omega
              have q1 : ¬ (j : Int) < j := by omega
              have HO := Lib.hid hO0
              have HTL := Lib.hid (txt_len xs p j (by omega))
              clear hO0
              obtain rfl : z = (txt xs p j, 0) := HZ3.out
              go_wp2_with fail
              go_ret2
              exact ⟨_, rfl, by show OwnS _ _ _ (txt xs p j).length _; rw [HTL.out]; exact HO.out, hK0⟩
      · obtain ⟨g, o, rfl, hc⟩ := h.resolve_left (by omega)
        have q17 : ¬ cap = p := by omega
        clear hcc hmm hc0
        go_upto_region 14 with fail
        go_loopg [13, 49] c (fun k so si wr => ∃ (j : Nat) (v : Value), j + k = c ∧ si = .int .i64 (j : Int) ∧ v = so ∧ OwnS wr w.heap.size v j (txt xs p j) ∧ Kept (fun _ => False) w wr)
        case atStart => exact ⟨0, _, by omega, rfl, rfl, by rw [txt_zero]; exact OwnS.nil _ _, hK2⟩
        case round =>
          clear hK2
          obtain ⟨j, v, hj, rfl, rfl, hO0, hK0⟩ := hrel
          have Hj := Lib.hid hj
          have hj2 : j ≤ c := by omega
          have hz0 : w.heap.size ≤ wr.heap.size := hK0.size
          clear hj
          by_cases hlt : j < c
          · have q1 : (j : Int) < c := by omega
            have q2 : (0 : Int) ≤ j := by omega
            obtain ⟨c0, c1⟩ := (hc (p + j) (by omega)).kept hK0
            rw [show o + (p + j) * 2 = o + p * 2 + j * 2 by omega] at c0 c1
            have HL := Lib.hid (txt_succ xs p j (by omega))
            obtain ⟨x, hx⟩ : ∃ x, x = nthE xs (p + j) := ⟨_, rfl⟩
            rw [← hx] at HL c0 c1
            clear hx
            go_upto_region 16 with fail
            generalize hwx : World.alloc wr _ = wx
            have hE : EAt wx wr.heap.size 0 x := by rw [← hwx]; exact newE' wr x
            have hOx : OwnS wx w.heap.size v j (txt xs p j) := by rw [← hwx]; exact OwnS.alloc hO0 _
            have hKx : Kept (fun _ => False) w wx := by rw [← hwx]; exact hK0.alloc _
            have hzx : w.heap.size ≤ wx.heap.size := hKx.size
            obtain ⟨d0, d1⟩ := hE
            generalize wr.heap.size = gx at *
            clear hwx hO0 hK0 c0 c1 hz0
            go_wp2_with (first | (refine appS rfl (.tmp 53) (.tmp 56) rfl w.heap.size v j (txt xs p j) (by rfl) (OwnS.alloc hOx _) wx.heap.size 1 x.nm (by rfl) (by first | (simp; done) | (simp; rfl)) (by omega) (by rw [size_alloc]; omega) ?_))
            intro v6 w6 hO6 k6
            have hK6 : Kept (fun _ => False) w w6 := kept_ownS (hKx.alloc _) (Nat.le_refl _) (OwnS.alloc hOx _) k6
            clear k6 hOx hKx
            go_wp2_with fail
            go_roundg (gk - 1)
            case measure => have := Hj.out; omega
            case rel =>
              have := Hj.out
              exact ⟨j + 1, v6, by omega, by go_num, rfl, by rw [HL.out]; exact hO6, hK6⟩
          · obtain rfl : j = c := by omega
            have q1 : ¬ (j : Int) < j := by omega
            have HO := Lib.hid hO0
            have HTL := Lib.hid (txt_len xs p j (by omega))
            clear hO0
            obtain rfl : z = (txt xs p j, 0) := HZ3.out
            go_wp2_with fail
            go_ret2
            exact ⟨_, rfl, by show OwnS _ _ _ (txt xs p j).length _; rw [HTL.out]; exact HO.out, hK0⟩
  · have he2 : nm.toList = [] := by simpa using he
    have hf : xs.filter (aftB salt nm) = xs.drop 0 := by rw [filter_empty he]; rfl
    have HF := Lib.hid hf
    clear hf
    go_upto_region 13 with fail
    obtain ⟨c, hcc⟩ : ∃ c : Nat, c = min (xs.length - 0) m := ⟨_, rfl⟩
    have hz : z = (txt xs 0 c, 0) := by
      rw [HZ2.out, HF.out, hcc]
      unfold txt
      rw [List.map_take]
      congr 1
      rw [List.take_eq_take_iff]
      simp
      omega
    have HZ3 := Lib.hid hz
    have e3 : min (xs.length : Int) ((mm : Int)) = ((0 + c : Nat) : Int) := by omega
    have e4 : ((0 + c : Nat) : Int) = (c : Int) := by omega
    rw [e4] at e3
    clear e4
    have hcl : 0 + c ≤ xs.length := by omega
    have q8 : (c : Int) ≤ xs.length := by omega
    have q9 : (c : Int) ≤ cap := by omega
    have q10 : (xs.length : Int) ≤ 440 := by omega
    have q11 : (cap : Int) ≤ 9223372036854775807 := by omega
    clear hz HZ2 HF
    by_cases hc0 : c = 0
    · have HC0 := Lib.hid hc0
      clear hcc hmm hc0
      go_upto_region 14 with fail
      go_loopg [13, 49] c (fun k so si wr => ∃ (j : Nat) (v : Value), j + k = c ∧ si = .int .i64 (j : Int) ∧ v = so ∧ OwnS wr w.heap.size v j (txt xs 0 j) ∧ Kept (fun _ => False) w wr)
      case atStart => exact ⟨0, _, by omega, rfl, rfl, by rw [txt_zero]; exact OwnS.nil _ _, hK1⟩
      case round =>
        clear hK1
        obtain ⟨j, v, hj, rfl, rfl, hO0, hK0⟩ := hrel
        have Hj := Lib.hid hj
        have hj2 : j ≤ c := by omega
        have hz0 : w.heap.size ≤ wr.heap.size := hK0.size
        clear hj
        by_cases hlt : j < c
        · have := HC0.out; omega
        · obtain rfl : j = c := by omega
          have q1 : ¬ (j : Int) < j := by omega
          have HO := Lib.hid hO0
          have HTL := Lib.hid (txt_len xs 0 j (by omega))
          clear hO0
          obtain rfl : z = (txt xs 0 j, 0) := HZ3.out
          go_wp2_with fail
          go_ret2
          exact ⟨_, rfl, by show OwnS _ _ _ (txt xs 0 j).length _; rw [HTL.out]; exact HO.out, hK0⟩
    · obtain ⟨g, o, rfl, hc⟩ := h.resolve_left (by omega)
      clear hcc hmm hc0
      go_upto_region 14 with fail
      go_loopg [13, 49] c (fun k so si wr => ∃ (j : Nat) (v : Value), j + k = c ∧ si = .int .i64 (j : Int) ∧ v = so ∧ OwnS wr w.heap.size v j (txt xs 0 j) ∧ Kept (fun _ => False) w wr)
      case atStart => exact ⟨0, _, by omega, rfl, rfl, by rw [txt_zero]; exact OwnS.nil _ _, hK1⟩
      case round =>
        clear hK1
        obtain ⟨j, v, hj, rfl, rfl, hO0, hK0⟩ := hrel
        have Hj := Lib.hid hj
        have hj2 : j ≤ c := by omega
        have hz0 : w.heap.size ≤ wr.heap.size := hK0.size
        clear hj
        by_cases hlt : j < c
        · have q1 : (j : Int) < c := by omega
          have q2 : (0 : Int) ≤ j := by omega
          obtain ⟨c0, c1⟩ := (hc (0 + j) (by omega)).kept hK0
          rw [show o + (0 + j) * 2 = o + j * 2 by omega] at c0 c1
          have HL := Lib.hid (txt_succ xs 0 j (by omega))
          obtain ⟨x, hx⟩ : ∃ x, x = nthE xs (0 + j) := ⟨_, rfl⟩
          rw [← hx] at HL c0 c1
          clear hx
          go_upto_region 16 with fail
          generalize hwx : World.alloc wr _ = wx
          have hE : EAt wx wr.heap.size 0 x := by rw [← hwx]; exact newE' wr x
          have hOx : OwnS wx w.heap.size v j (txt xs 0 j) := by rw [← hwx]; exact OwnS.alloc hO0 _
          have hKx : Kept (fun _ => False) w wx := by rw [← hwx]; exact hK0.alloc _
          have hzx : w.heap.size ≤ wx.heap.size := hKx.size
          obtain ⟨d0, d1⟩ := hE
          generalize wr.heap.size = gx at *
          clear hwx hO0 hK0 c0 c1 hz0
          go_wp2_with (first | (refine appS rfl (.tmp 53) (.tmp 56) rfl w.heap.size v j (txt xs 0 j) (by rfl) (OwnS.alloc hOx _) wx.heap.size 1 x.nm (by rfl) (by first | (simp; done) | (simp; rfl)) (by omega) (by rw [size_alloc]; omega) ?_))
          intro v6 w6 hO6 k6
          have hK6 : Kept (fun _ => False) w w6 := kept_ownS (hKx.alloc _) (Nat.le_refl _) (OwnS.alloc hOx _) k6
          clear k6 hOx hKx
          go_wp2_with fail
          go_roundg (gk - 1)
          case measure => have := Hj.out; omega
          case rel =>
            have := Hj.out
            exact ⟨j + 1, v6, by omega, by go_num, rfl, by rw [HL.out]; exact hO6, hK6⟩
        · obtain rfl : j = c := by omega
          have q1 : ¬ (j : Int) < j := by omega
          have HO := Lib.hid hO0
          have HTL := Lib.hid (txt_len xs 0 j (by omega))
          clear hO0
          obtain rfl : z = (txt xs 0 j, 0) := HZ3.out
          go_wp2_with fail
          go_ret2
          exact ⟨_, rfl, by show OwnS _ _ _ (txt xs 0 j).length _; rw [HTL.out]; exact HO.out, hK0⟩
end Go.Proofs.YtpekibadleghbaaDoor
