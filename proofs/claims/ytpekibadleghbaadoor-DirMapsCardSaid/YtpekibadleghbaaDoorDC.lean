/-
  The directory's texts: After and the reference's, Encode and the reference's Bytes, the fixed answers.
-/
import Derived.Test.YtpekibadleghbaaDoorDB
import Derived.Lib.AppendStr
namespace Go.Proofs.YtpekibadleghbaaDoor
open Go.RowKit
set_option linter.unusedVariables false
set_option linter.unusedSimpArgs false
def aftB (salt : Nat → Byte) (nm : ByteArray) (e : En) : Bool := nm.toList.isEmpty || decide (0 < orderOf salt e.nm nm)
def afterR (salt : Nat → Byte) (xs : List En) (nm : ByteArray) (n : Int) : List ByteArray × Int :=
  if rightB salt (nthE xs) xs.length = true then if n < 0 then ([], 2) else (((xs.filter (aftB salt nm)).map En.nm).take n.toNat, 0) else ([], 3)
def TextsPost (R : List ByteArray × Int) (w : World) (r : Ending) (w' : World) : Prop :=
  ∃ v, r = .returned (.tuple #[v, .int .i64 R.2]) ∧ OwnS w' w.heap.size v R.1.length R.1 ∧ Kept (fun _ => False) w w'
theorem TextsPost.nil {e : Int} {w w' : World} (h : Kept (fun _ => False) w w') : TextsPost ([], e) w (.returned (.tuple #[.slice none 0 0, .int .i64 e])) w' :=
  ⟨_, rfl, OwnS.nil _ _, h⟩
/-- The names of some entries. -/
def txt (xs : List En) (i j : Nat) : List ByteArray := ((xs.drop i).take j).map En.nm
theorem txt_zero (xs : List En) (i : Nat) : txt xs i 0 = [] := by simp [txt]
theorem txt_len (xs : List En) (i j : Nat) (h : i + j ≤ xs.length) : (txt xs i j).length = j := by simp [txt]; omega
theorem txt_succ (xs : List En) (i j : Nat) (h : i + j < xs.length) : txt xs i (j + 1) = txt xs i j ++ [(nthE xs (i + j)).nm] := by
  unfold txt
  rw [List.take_succ_eq_append_getElem (by simp; omega), List.map_append, List.getElem_drop, nthE_eq xs (i + j) h]
  rfl
/-- Behind a place all are greater, before it none is. -/
theorem filter_drop {α : Type} (p : α → Bool) : ∀ (xs : List α) (i : Nat), i ≤ xs.length → (∀ m (h : m < xs.length), m < i → p xs[m] = false) → (∀ m (h : m < xs.length), i ≤ m → p xs[m] = true) → xs.filter p = xs.drop i
  | [], i, _, _, _ => by simp
  | x :: xs, 0, _, _, h => by
    rw [List.drop_zero, List.filter_eq_self]
    intro y hy
    obtain ⟨m, hm, rfl⟩ := List.mem_iff_getElem.1 hy
    exact h m hm (by omega)
  | x :: xs, i + 1, hi, hl, h => by
    have h0 : p x = false := hl 0 (by simp) (by omega)
    rw [List.filter_cons, h0, List.drop_succ_cons]
    simp only [Bool.false_eq_true, if_false]
    exact filter_drop p xs i (by simpa using hi) (fun m hm hmi => hl (m + 1) (Nat.succ_lt_succ hm) (by omega)) (fun m hm hmi => h (m + 1) (Nat.succ_lt_succ hm) (by omega))
theorem after_split {salt : Nat → Byte} {xs : List En} {nm : ByteArray} {i : Nat} (hne : nm.toList.isEmpty = false) (hs : Sorted salt (nthE xs) xs.length) (sp : Split salt (nthE xs) xs.length nm i i) (b : Bool) (hb : b = (decide (i < xs.length) && decide (orderOf salt (nthE xs i).nm nm = 0))) :
    xs.filter (aftB salt nm) = xs.drop (if b = true then i + 1 else i) ∧ (if b = true then i + 1 else i) ≤ xs.length := by
  have hp : ∀ m (h : m < xs.length), aftB salt nm xs[m] = decide (0 < orderOf salt (nthE xs m).nm nm) := fun m h => by
    unfold aftB; rw [hne, nthE_eq xs m h]; rfl
  cases b
  · simp only [Bool.false_eq_true, if_false]
    refine ⟨filter_drop _ xs i sp.len (fun m h hm => ?_) (fun m h hm => ?_), sp.len⟩
    · rw [hp m h]; have := sp.low m hm; exact decide_eq_false (by omega)
    · rw [hp m h]
      have h1 := sp.high m hm h
      have h2 : orderOf salt (nthE xs m).nm nm ≠ 0 := fun e => there_no hs sp hb.symm m h (ord_eq salt e)
      exact decide_eq_true (by omega)
  · obtain ⟨hin, hnm⟩ := there_yes hb.symm
    simp only [if_true]
    refine ⟨filter_drop _ xs (i + 1) hin (fun m h hm => ?_) (fun m h hm => ?_), hin⟩
    · rw [hp m h]
      by_cases e : m = i
      · subst e; rw [hnm, ord_self]; rfl
      · have := sp.low m (by omega); exact decide_eq_false (by omega)
    · rw [hp m h]
      have h1 := hs i m (by omega) h
      rw [hnm] at h1
      have h2 := ord_neg salt nm (nthE xs m).nm
      exact decide_eq_true (by omega)
theorem filter_empty {salt : Nat → Byte} {xs : List En} {nm : ByteArray} (h : nm.toList.isEmpty = true) : xs.filter (aftB salt nm) = xs := by
  rw [List.filter_eq_self]
  intro y _
  unfold aftB
  rw [h]; rfl
set_option maxRecDepth 100000 in
set_option maxHeartbeats 8000000 in
theorem after_any (salt : Nat → Byte) (a : Option Addr) (cap : Nat) (xs : List En) (nm : ByteArray) (n : Int) (w : World) (hk : KeysAt w) (h : ListE w a xs.length (nthE xs)) (hcap : xs.length ≤ cap) (hn : xs.length ≤ 140737488351232) (hcap2 : cap ≤ 9223372036854775807) (hs : ∀ i, i < xs.length → (nthE xs i).nm.size ≤ 140737488351232) (h2 : nm.size ≤ 140737488351232) (hn1 : n ≤ 9223372036854775807) :
    Calls Tryd.prog 31 #[.agg (Fs 16 salt), .slice a xs.length cap, .string nm, .int .i64 n] w (TextsPost (afterR salt xs nm n) w) := by
  obtain ⟨z, hz⟩ : ∃ z, z = afterR salt xs nm n := ⟨_, rfl⟩
  rw [← hz]
  have HZ := Lib.hid hz
  clear hz
  have qa : (xs.length : Int) ≤ 140737488351232 := by omega
  go_enter Tryd.func31, Tryd.ntmps31
  go_upto_region 1 with fail
  have hS0 : Row (w.alloc (.cells (Fs 16 salt) 22)) w.heap.size 22 16 salt := Row.new w 22 16 salt
  have hK0 : Kept (fun _ => False) w (w.alloc (.cells (Fs 16 salt) 22)) := (Kept.refl _ w).alloc _
  generalize hw0 : w.alloc (.cells (Fs 16 salt) 22) = w0 at *
  obtain ⟨gs, hgs⟩ : ∃ gs, gs = w.heap.size := ⟨_, rfl⟩
  rw [← hgs] at hS0 ⊢
  clear hw0 hgs
  have hcon := check_any salt a xs.length cap (nthE xs) w0 (hk.kept hK0) (h.kept hK0) hn hs
  cases hr : rightB salt (nthE xs) xs.length
  · rw [hr] at hcon
    simp only [Bool.false_eq_true, if_false] at hcon
    have HC := Lib.hid hcon
    obtain rfl : z = ([], 3) := by rw [HZ.out]; unfold afterR; rw [hr]; rfl
    clear hcon hr
    go_wp2_with (first | (refine wpList_load_row rfl 22 (.tmp 4) rfl gs rfl 22 (Fs 16 salt) (0, 0) _ hS0 Tryd.underlying22 rfl (info22F _) ?_) | ((with_reducible refine (HC.out).mono ?_); rintro r w1 ⟨rfl, k1⟩))
    go_ret2
    exact TextsPost.nil (hK0.trans k1 (fun _ _ h => h))
  rw [hr] at hcon
  simp only [if_true] at hcon
  have HC := Lib.hid hcon
  have HR := Lib.hid hr
  have hso := okTo_sorted salt _ _ (rightB_ok hr)
  have HSO := Lib.hid hso
  obtain ⟨l1, l2, l3⟩ := right_len hn hr
  clear hcon hr hso
  by_cases hneg : n < 0
  · obtain rfl : z = ([], 2) := by rw [HZ.out]; unfold afterR; rw [if_pos HR.out, if_pos hneg]
    go_wp2_with (first | (refine wpList_load_row rfl 22 (.tmp 4) rfl gs rfl 22 (Fs 16 salt) (0, 0) _ hS0 Tryd.underlying22 rfl (info22F _) ?_) | ((with_reducible refine (HC.out).mono ?_); rintro r w1 ⟨rfl, k1⟩))
    go_ret2
    exact TextsPost.nil (hK0.trans k1 (fun _ _ h => h))
  go_upto_region 7 with (first | (refine wpList_load_row rfl 22 (.tmp 4) rfl gs rfl 22 (Fs 16 salt) (0, 0) _ hS0 Tryd.underlying22 rfl (info22F _) ?_) | ((with_reducible refine (HC.out).mono ?_); rintro r w1 ⟨rfl, k1⟩; clear HC))
  have hS1 : Row w1 gs 22 16 salt := k1.at hS0 (fun h => h)
  have hK1 : Kept (fun _ => False) w w1 := hK0.trans k1 (fun _ _ h => h)
  clear k1 hS0 hK0
  obtain ⟨m, hm⟩ : ∃ m : Nat, n = m := ⟨n.toNat, by omega⟩
  subst hm
  have hz : z = (((xs.filter (aftB salt nm)).map En.nm).take m, 0) := by rw [HZ.out]; unfold afterR; rw [if_pos HR.out, if_neg (by omega), Int.toNat_natCast]
  have HZ2 := Lib.hid hz
  clear hz HZ hneg
  obtain ⟨mm, hmm⟩ : ∃ mm : Nat, mm = min m xs.length := ⟨_, rfl⟩
  have e1 : min (m : Int) (xs.length : Int) = (mm : Int) := by omega
  have e2 : min (xs.length : Int) (m : Int) = (mm : Int) := by omega
  cases he : nm.toList.isEmpty
  · have he2 : nm.toList ≠ [] := fun e => by rw [e] at he; cases he
    have HE := Lib.hid he
    go_upto_region 9 with fail
    go_upto_region 10 with (first | (refine wpList_load_row rfl 22 (.tmp 4) rfl gs rfl 22 (Fs 16 salt) (0, 0) _ hS1 Tryd.underlying22 rfl (info22F _) ?_) | ((with_reducible refine (at_any salt a xs.length cap (nthE xs) nm w1 (hk.kept hK1) (h.kept hK1) hn hs HSO.out h2).mono ?_); rintro r w2 ⟨i, hsp, rfl, k2⟩; have HSP := Lib.hid hsp; clear hsp))
    have hK2 : Kept (fun _ => False) w w2 := hK1.trans k2 (fun _ _ h => h)
    clear k2 hS1 hK1
    obtain ⟨b, hb⟩ : ∃ b, b = (decide (i < xs.length) && decide (orderOf salt (nthE xs i).nm nm = 0)) := ⟨_, rfl⟩
    rw [← hb]
    obtain ⟨hf, hil⟩ := after_split HE.out HSO.out HSP.out b hb
    clear hb
    cases b
    · simp only [Bool.false_eq_true, if_false] at hf hil
      have HF := Lib.hid hf
      clear hf
      go_upto_region 13 with fail
      obtain ⟨c, hcc⟩ : ∃ c : Nat, c = min (xs.length - i) m := ⟨_, rfl⟩
      have hz : z = (txt xs i c, 0) := by
        rw [HZ2.out, HF.out, hcc]
        unfold txt
        rw [List.map_take]
        congr 1
        rw [List.take_eq_take_iff]
        simp
        omega
      have HZ3 := Lib.hid hz
      have e3 : min (xs.length : Int) ((i : Int) + (mm : Int)) = ((i + c : Nat) : Int) := by omega
      have e4 : ((i + c : Nat) : Int) = (i : Int) + (c : Int) := by omega
      rw [e4] at e3
      clear e4
      have hcl : i + c ≤ xs.length := by omega
      have q8 : (i : Int) + (c : Int) ≤ xs.length := by omega
      have q9 : (i : Int) + (c : Int) ≤ cap := by omega
      have q10 : (xs.length : Int) ≤ 440 := by omega
      have q11 : (cap : Int) ≤ 9223372036854775807 := by omega
      have q7 : (mm : Int) ≤ 440 := by omega
      have q12 : i ≤ xs.length := by omega
      have q13 : (i : Int) ≤ cap := by omega
      have q14 : ((i : Int) + (c : Int)).toNat = i + c := by omega
      have q15 : (0 : Int) ≤ (i : Int) + (c : Int) := by omega
      have q16 : i + c - i = c := by omega
      have q18 : i + c ≤ cap := by omega
      have q19 : i ≤ cap := by omega
      have q20 : (i : Int) ≤ 440 := by omega
      clear hz HZ2 HF
      by_cases hc0 : c = 0
      · have HC0 := Lib.hid hc0
        clear hcc hmm hc0
        by_cases hcp : cap = i
        · replace hcp := hcp.symm; subst hcp
          go_upto_region 14 with fail
          go_loopg [13, 49] c (fun k so si wr => ∃ (j : Nat) (v : Value), j + k = c ∧ si = .int .i64 (j : Int) ∧ v = so ∧ OwnS wr w.heap.size v j (txt xs i j) ∧ Kept (fun _ => False) w wr)
          case atStart => exact ⟨0, _, by omega, rfl, rfl, by rw [txt_zero]; exact OwnS.nil _ _, hK2⟩
          case round =>
            clear hK2
            obtain ⟨j, v, hj, rfl, rfl, hO0, hK0⟩ := hrel
            have Hj := Lib.hid hj
            have hj2 : j ≤ c := by omega
            have hz0 : w.heap.size ≤ wr.heap.size := hK0.size
            clear hj
            by_cases hlt : j < c
            · have := HC0.out; omega
            · obtain rfl : j = c := by omega
              have q1 : ¬ (j : Int) < j := by omega
              have HO := Lib.hid hO0
              have HTL := Lib.hid (txt_len xs i j (by omega))
              clear hO0
              obtain rfl : z = (txt xs i j, 0) := HZ3.out
              go_wp2_with fail
              go_ret2
              exact ⟨_, rfl, by show OwnS _ _ _ (txt xs i j).length _; rw [HTL.out]; exact HO.out, hK0⟩
        · skip
          go_upto_region 14 with fail
          go_loopg [13, 49] c (fun k so si wr => ∃ (j : Nat) (v : Value), j + k = c ∧ si = .int .i64 (j : Int) ∧ v = so ∧ OwnS wr w.heap.size v j (txt xs i j) ∧ Kept (fun _ => False) w wr)
          case atStart => exact ⟨0, _, by omega, rfl, rfl, by rw [txt_zero]; exact OwnS.nil _ _, hK2⟩
          case round =>
            clear hK2
            obtain ⟨j, v, hj, rfl, rfl, hO0, hK0⟩ := hrel
            have Hj := Lib.hid hj
            have hj2 : j ≤ c := by omega
            have hz0 : w.heap.size ≤ wr.heap.size := hK0.size
            clear hj
            by_cases hlt : j < c
            · have := HC0.out; omega
            · obtain rfl : j = c := by omega
              have q1 : ¬ (j : Int) < j := by omega
              have HO := Lib.hid hO0
              have HTL := Lib.hid (txt_len xs i j (by omega))
              clear hO0
              obtain rfl : z = (txt xs i j, 0) := HZ3.out
              go_wp2_with fail
              go_ret2
              exact ⟨_, rfl, by show OwnS _ _ _ (txt xs i j).length _; rw [HTL.out]; exact HO.out, hK0⟩
      · obtain ⟨g, o, rfl, hc⟩ := h.resolve_left (by omega)
        have q17 : ¬ cap = i := by omega
        clear hcc hmm hc0
        go_upto_region 14 with fail
        go_loopg [13, 49] c (fun k so si wr => ∃ (j : Nat) (v : Value), j + k = c ∧ si = .int .i64 (j : Int) ∧ v = so ∧ OwnS wr w.heap.size v j (txt xs i j) ∧ Kept (fun _ => False) w wr)
        case atStart => exact ⟨0, _, by omega, rfl, rfl, by rw [txt_zero]; exact OwnS.nil _ _, hK2⟩
        case round =>
          clear hK2
          obtain ⟨j, v, hj, rfl, rfl, hO0, hK0⟩ := hrel
          have Hj := Lib.hid hj
          have hj2 : j ≤ c := by omega
          have hz0 : w.heap.size ≤ wr.heap.size := hK0.size
          clear hj
          by_cases hlt : j < c
          · have q1 : (j : Int) < c := by omega
            have q2 : (0 : Int) ≤ j := by omega
            obtain ⟨c0, c1⟩ := (hc (i + j) (by omega)).kept hK0
            rw [show o + (i + j) * 2 = o + i * 2 + j * 2 by omega] at c0 c1
            have HL := Lib.hid (txt_succ xs i j (by omega))
            obtain ⟨x, hx⟩ : ∃ x, x = nthE xs (i + j) := ⟨_, rfl⟩
            rw [← hx] at HL c0 c1
            clear hx
            go_upto_region 16 with fail
            generalize hwx : World.alloc wr _ = wx
            have hE : EAt wx wr.heap.size 0 x := by rw [← hwx]; exact newE' wr x
            have hOx : OwnS wx w.heap.size v j (txt xs i j) := by rw [← hwx]; exact OwnS.alloc hO0 _
            have hKx : Kept (fun _ => False) w wx := by rw [← hwx]; exact hK0.alloc _
            have hzx : w.heap.size ≤ wx.heap.size := hKx.size
            obtain ⟨d0, d1⟩ := hE
            generalize wr.heap.size = gx at *
            clear hwx hO0 hK0 c0 c1 hz0
            go_wp2_with (first | (refine appS rfl (.tmp 53) (.tmp 56) rfl w.heap.size v j (txt xs i j) (by rfl) (OwnS.alloc hOx _) wx.heap.size 1 x.nm (by rfl) (by first | (simp; done) | (simp; rfl)) (by omega) (by rw [size_alloc]; omega) ?_))
            intro v6 w6 hO6 k6
            have hK6 : Kept (fun _ => False) w w6 := kept_ownS (hKx.alloc _) (Nat.le_refl _) (OwnS.alloc hOx _) k6
            clear k6 hOx hKx
            go_wp2_with fail
            go_roundg (gk - 1)
            case measure => have := Hj.out; omega
            case rel =>
              have := Hj.out
              exact ⟨j + 1, v6, by omega, by go_num, rfl, by rw [HL.out]; exact hO6, hK6⟩
          · obtain rfl : j = c := by omega
            have q1 : ¬ (j : Int) < j := by omega
            have HO := Lib.hid hO0
            have HTL := Lib.hid (txt_len xs i j (by omega))
            clear hO0
            obtain rfl : z = (txt xs i j, 0) := HZ3.out
            go_wp2_with fail
            go_ret2
            exact ⟨_, rfl, by show OwnS _ _ _ (txt xs i j).length _; rw [HTL.out]; exact HO.out, hK0⟩
    · simp only [if_true] at hf hil
      obtain ⟨p, hp⟩ : ∃ p, p = i + 1 := ⟨_, rfl⟩
      rw [← hp] at hf hil
      have HF := Lib.hid hf
      have e5 : (i : Int) + 1 = (p : Int) := by omega
      have q0 : (i : Int) ≤ 440 := by omega
      clear hf hp
      go_upto_region 13 with fail
      obtain ⟨c, hcc⟩ : ∃ c : Nat, c = min (xs.length - p) m := ⟨_, rfl⟩
      have hz : z = (txt xs p c, 0) := by
        rw [HZ2.out, HF.out, hcc]
        unfold txt
        rw [List.map_take]
        congr 1
        rw [List.take_eq_take_iff]
        simp
        omega
      have HZ3 := Lib.hid hz
      have e3 : min (xs.length : Int) ((p : Int) + (mm : Int)) = ((p + c : Nat) : Int) := by omega
      have e4 : ((p + c : Nat) : Int) = (p : Int) + (c : Int) := by omega
      rw [e4] at e3
      clear e4
      have hcl : p + c ≤ xs.length := by omega
      have q8 : (p : Int) + (c : Int) ≤ xs.length := by omega
      have q9 : (p : Int) + (c : Int) ≤ cap := by omega
      have q10 : (xs.length : Int) ≤ 440 := by omega
      have q11 : (cap : Int) ≤ 9223372036854775807 := by omega
      have q7 : (mm : Int) ≤ 440 := by omega
      have q12 : p ≤ xs.length := by omega
      have q13 : (p : Int) ≤ cap := by omega
      have q14 : ((p : Int) + (c : Int)).toNat = p + c := by omega
      have q15 : (0 : Int) ≤ (p : Int) + (c : Int) := by omega
      have q16 : p + c - p = c := by omega
      have q18 : p + c ≤ cap := by omega
      have q19 : p ≤ cap := by omega
      have q20 : (p : Int) ≤ 440 := by omega
      clear hz HZ2 HF
      by_cases hc0 : c = 0
      · have HC0 := Lib.hid hc0
        clear hcc hmm hc0
        by_cases hcp : cap = p
        · replace hcp := hcp.symm; subst hcp
          go_upto_region 14 with fail
          go_loopg [13, 49] c (fun k so si wr => ∃ (j : Nat) (v : Value), j + k = c ∧ si = .int .i64 (j : Int) ∧ v = so ∧ OwnS wr w.heap.size v j (txt xs p j) ∧ Kept (fun _ => False) w wr)
          case atStart => exact ⟨0, _, by omega, rfl, rfl, by rw [txt_zero]; exact OwnS.nil _ _, hK2⟩
          case round =>
            clear hK2
            obtain ⟨j, v, hj, rfl, rfl, hO0, hK0⟩ := hrel
            have Hj := Lib.hid hj
            have hj2 : j ≤ c := by omega
            have hz0 : w.heap.size ≤ wr.heap.size := hK0.size
            clear hj
            by_cases hlt : j < c
            · have := HC0.out; omega
            · obtain rfl : j = c := by omega
              have q1 : ¬ (j : Int) < j := by omega
              have HO := Lib.hid hO0
              have HTL := Lib.hid (txt_len xs p j (by omega))
              clear hO0
              obtain rfl : z = (txt xs p j, 0) := HZ3.out
              go_wp2_with fail
              go_ret2
              exact ⟨_, rfl, by show OwnS _ _ _ (txt xs p j).length _; rw [HTL.out]; exact HO.out, hK0⟩
        · skip
          go_upto_region 14 with fail
          go_loopg [13, 49] c (fun k so si wr => ∃ (j : Nat) (v : Value), j + k = c ∧ si = .int .i64 (j : Int) ∧ v = so ∧ OwnS wr w.heap.size v j (txt xs p j) ∧ Kept (fun _ => False) w wr)
          case atStart => exact ⟨0, _, by omega, rfl, rfl, by rw [txt_zero]; exact OwnS.nil _ _, hK2⟩
          case round =>
            clear hK2
            obtain ⟨j, v, hj, rfl, rfl, hO0, hK0⟩ := hrel
            have Hj := Lib.hid hj
            have hj2 : j ≤ c := by omega
            have hz0 : w.heap.size ≤ wr.heap.size := hK0.size
            clear hj
            by_cases hlt : j < c
            · have := HC0.out; omega
            · obtain rfl : j = c := by omega
              have q1 : ¬ (j : Int) < j := by omega
              have HO := Lib.hid hO0
              have HTL := Lib.hid (txt_len xs p j (by omega))
              clear hO0
              obtain rfl : z = (txt xs p j, 0) := HZ3.out
              go_wp2_with fail
              go_ret2
              exact ⟨_, rfl, by show OwnS _ _ _ (txt xs p j).length _; rw [HTL.out]; exact HO.out, hK0⟩
      · obtain ⟨g, o, rfl, hc⟩ := h.resolve_left (by omega)
        have q17 : ¬ cap = p := by omega
        clear hcc hmm hc0
        go_upto_region 14 with fail
        go_loopg [13, 49] c (fun k so si wr => ∃ (j : Nat) (v : Value), j + k = c ∧ si = .int .i64 (j : Int) ∧ v = so ∧ OwnS wr w.heap.size v j (txt xs p j) ∧ Kept (fun _ => False) w wr)
        case atStart => exact ⟨0, _, by omega, rfl, rfl, by rw [txt_zero]; exact OwnS.nil _ _, hK2⟩
        case round =>
          clear hK2
          obtain ⟨j, v, hj, rfl, rfl, hO0, hK0⟩ := hrel
          have Hj := Lib.hid hj
          have hj2 : j ≤ c := by omega
          have hz0 : w.heap.size ≤ wr.heap.size := hK0.size
          clear hj
          by_cases hlt : j < c
          · have q1 : (j : Int) < c := by omega
            have q2 : (0 : Int) ≤ j := by omega
            obtain ⟨c0, c1⟩ := (hc (p + j) (by omega)).kept hK0
            rw [show o + (p + j) * 2 = o + p * 2 + j * 2 by omega] at c0 c1
            have HL := Lib.hid (txt_succ xs p j (by omega))
            obtain ⟨x, hx⟩ : ∃ x, x = nthE xs (p + j) := ⟨_, rfl⟩
            rw [← hx] at HL c0 c1
            clear hx
            go_upto_region 16 with fail
            generalize hwx : World.alloc wr _ = wx
            have hE : EAt wx wr.heap.size 0 x := by rw [← hwx]; exact newE' wr x
            have hOx : OwnS wx w.heap.size v j (txt xs p j) := by rw [← hwx]; exact OwnS.alloc hO0 _
            have hKx : Kept (fun _ => False) w wx := by rw [← hwx]; exact hK0.alloc _
            have hzx : w.heap.size ≤ wx.heap.size := hKx.size
            obtain ⟨d0, d1⟩ := hE
            generalize wr.heap.size = gx at *
            clear hwx hO0 hK0 c0 c1 hz0
            go_wp2_with (first | (refine appS rfl (.tmp 53) (.tmp 56) rfl w.heap.size v j (txt xs p j) (by rfl) (OwnS.alloc hOx _) wx.heap.size 1 x.nm (by rfl) (by first | (simp; done) | (simp; rfl)) (by omega) (by rw [size_alloc]; omega) ?_))
            intro v6 w6 hO6 k6
            have hK6 : Kept (fun _ => False) w w6 := kept_ownS (hKx.alloc _) (Nat.le_refl _) (OwnS.alloc hOx _) k6
            clear k6 hOx hKx
            go_wp2_with fail
            go_roundg (gk - 1)
            case measure => have := Hj.out; omega
            case rel =>
              have := Hj.out
              exact ⟨j + 1, v6, by omega, by go_num, rfl, by rw [HL.out]; exact hO6, hK6⟩
          · obtain rfl : j = c := by omega
            have q1 : ¬ (j : Int) < j := by omega
            have HO := Lib.hid hO0
            have HTL := Lib.hid (txt_len xs p j (by omega))
            clear hO0
            obtain rfl : z = (txt xs p j, 0) := HZ3.out
            go_wp2_with fail
            go_ret2
            exact ⟨_, rfl, by show OwnS _ _ _ (txt xs p j).length _; rw [HTL.out]; exact HO.out, hK0⟩
  · have he2 : nm.toList = [] := by simpa using he
    have hf : xs.filter (aftB salt nm) = xs.drop 0 := by rw [filter_empty he]; rfl
    have HF := Lib.hid hf
    clear hf
    go_upto_region 13 with fail
    obtain ⟨c, hcc⟩ : ∃ c : Nat, c = min (xs.length - 0) m := ⟨_, rfl⟩
    have hz : z = (txt xs 0 c, 0) := by
      rw [HZ2.out, HF.out, hcc]
      unfold txt
      rw [List.map_take]
      congr 1
      rw [List.take_eq_take_iff]
      simp
      omega
    have HZ3 := Lib.hid hz
    have e3 : min (xs.length : Int) ((mm : Int)) = ((0 + c : Nat) : Int) := by omega
    have e4 : ((0 + c : Nat) : Int) = (c : Int) := by omega
    rw [e4] at e3
    clear e4
    have hcl : 0 + c ≤ xs.length := by omega
    have q8 : (c : Int) ≤ xs.length := by omega
    have q9 : (c : Int) ≤ cap := by omega
    have q10 : (xs.length : Int) ≤ 440 := by omega
    have q11 : (cap : Int) ≤ 9223372036854775807 := by omega
    clear hz HZ2 HF
    by_cases hc0 : c = 0
    · have HC0 := Lib.hid hc0
      clear hcc hmm hc0
      go_upto_region 14 with fail
      go_loopg [13, 49] c (fun k so si wr => ∃ (j : Nat) (v : Value), j + k = c ∧ si = .int .i64 (j : Int) ∧ v = so ∧ OwnS wr w.heap.size v j (txt xs 0 j) ∧ Kept (fun _ => False) w wr)
      case atStart => exact ⟨0, _, by omega, rfl, rfl, by rw [txt_zero]; exact OwnS.nil _ _, hK1⟩
      case round =>
        clear hK1
        obtain ⟨j, v, hj, rfl, rfl, hO0, hK0⟩ := hrel
        have Hj := Lib.hid hj
        have hj2 : j ≤ c := by omega
        have hz0 : w.heap.size ≤ wr.heap.size := hK0.size
        clear hj
        by_cases hlt : j < c
        · have := HC0.out; omega
        · obtain rfl : j = c := by omega
          have q1 : ¬ (j : Int) < j := by omega
          have HO := Lib.hid hO0
          have HTL := Lib.hid (txt_len xs 0 j (by omega))
          clear hO0
          obtain rfl : z = (txt xs 0 j, 0) := HZ3.out
          go_wp2_with fail
          go_ret2
          exact ⟨_, rfl, by show OwnS _ _ _ (txt xs 0 j).length _; rw [HTL.out]; exact HO.out, hK0⟩
    · obtain ⟨g, o, rfl, hc⟩ := h.resolve_left (by omega)
      clear hcc hmm hc0
      go_upto_region 14 with fail
      go_loopg [13, 49] c (fun k so si wr => ∃ (j : Nat) (v : Value), j + k = c ∧ si = .int .i64 (j : Int) ∧ v = so ∧ OwnS wr w.heap.size v j (txt xs 0 j) ∧ Kept (fun _ => False) w wr)
      case atStart => exact ⟨0, _, by omega, rfl, rfl, by rw [txt_zero]; exact OwnS.nil _ _, hK1⟩
      case round =>
        clear hK1
        obtain ⟨j, v, hj, rfl, rfl, hO0, hK0⟩ := hrel
        have Hj := Lib.hid hj
        have hj2 : j ≤ c := by omega
        have hz0 : w.heap.size ≤ wr.heap.size := hK0.size
        clear hj
        by_cases hlt : j < c
        · have q1 : (j : Int) < c := by omega
          have q2 : (0 : Int) ≤ j := by omega
          obtain ⟨c0, c1⟩ := (hc (0 + j) (by omega)).kept hK0
          rw [show o + (0 + j) * 2 = o + j * 2 by omega] at c0 c1
          have HL := Lib.hid (txt_succ xs 0 j (by omega))
          obtain ⟨x, hx⟩ : ∃ x, x = nthE xs (0 + j) := ⟨_, rfl⟩
          rw [← hx] at HL c0 c1
          clear hx
          go_upto_region 16 with fail
          generalize hwx : World.alloc wr _ = wx
          have hE : EAt wx wr.heap.size 0 x := by rw [← hwx]; exact newE' wr x
          have hOx : OwnS wx w.heap.size v j (txt xs 0 j) := by rw [← hwx]; exact OwnS.alloc hO0 _
          have hKx : Kept (fun _ => False) w wx := by rw [← hwx]; exact hK0.alloc _
          have hzx : w.heap.size ≤ wx.heap.size := hKx.size
          obtain ⟨d0, d1⟩ := hE
          generalize wr.heap.size = gx at *
          clear hwx hO0 hK0 c0 c1 hz0
          go_wp2_with (first | (refine appS rfl (.tmp 53) (.tmp 56) rfl w.heap.size v j (txt xs 0 j) (by rfl) (OwnS.alloc hOx _) wx.heap.size 1 x.nm (by rfl) (by first | (simp; done) | (simp; rfl)) (by omega) (by rw [size_alloc]; omega) ?_))
          intro v6 w6 hO6 k6
          have hK6 : Kept (fun _ => False) w w6 := kept_ownS (hKx.alloc _) (Nat.le_refl _) (OwnS.alloc hOx _) k6
          clear k6 hOx hKx
          go_wp2_with fail
          go_roundg (gk - 1)
          case measure => have := Hj.out; omega
          case rel =>
            have := Hj.out
            exact ⟨j + 1, v6, by omega, by go_num, rfl, by rw [HL.out]; exact hO6, hK6⟩
        · obtain rfl : j = c := by omega
          have q1 : ¬ (j : Int) < j := by omega
          have HO := Lib.hid hO0
          have HTL := Lib.hid (txt_len xs 0 j (by omega))
          clear hO0
          obtain rfl : z = (txt xs 0 j, 0) := HZ3.out
          go_wp2_with fail
          go_ret2
          exact ⟨_, rfl, by show OwnS _ _ _ (txt xs 0 j).length _; rw [HTL.out]; exact HO.out, hK0⟩
end Go.Proofs.YtpekibadleghbaaDoor
namespace Go.Proofs.YtpekibadleghbaaDoor
open Go.RowKit
set_option linter.unusedVariables false
set_option linter.unusedSimpArgs false
/-- The names of those among the first j that are behind a name. -/
def ftxt (p : En → Bool) (xs : List En) (j : Nat) : List ByteArray := ((xs.take j).filter p).map En.nm
theorem ftxt_zero (p : En → Bool) (xs : List En) : ftxt p xs 0 = [] := by simp [ftxt]
theorem ftxt_succ (p : En → Bool) (xs : List En) (j : Nat) (h : j < xs.length) : ftxt p xs (j + 1) = if p (nthE xs j) = true then ftxt p xs j ++ [(nthE xs j).nm] else ftxt p xs j := by
  unfold ftxt
  rw [take_snocE xs j h, List.filter_append, List.map_append, List.filter_cons, List.filter_nil]
  split <;> simp
theorem ftxt_le (p : En → Bool) (xs : List En) (j : Nat) : (ftxt p xs j).length ≤ j := by
  unfold ftxt
  have := List.length_filter_le p (xs.take j)
  simp at this ⊢
  omega
theorem ftxt_take (p : En → Bool) (xs : List En) (j : Nat) : ((xs.filter p).map En.nm).take (ftxt p xs j).length = ftxt p xs j := by
  have e : (xs.filter p).map En.nm = ftxt p xs j ++ ((xs.drop j).filter p).map En.nm := by
    unfold ftxt
    rw [← List.map_append, ← List.filter_append, List.take_append_drop]
  rw [e, List.take_left]
set_option maxRecDepth 100000 in
set_option maxHeartbeats 8000000 in
theorem refAfter_any (salt : Nat → Byte) (a : Option Addr) (cap : Nat) (xs : List En) (nm : ByteArray) (n : Int) (w : World) (hk : KeysRef w) (h : ListE w a xs.length (nthE xs)) (hn : xs.length ≤ 140737488351232) (hs : ∀ i, i < xs.length → (nthE xs i).nm.size ≤ 140737488351232) (h2 : nm.size ≤ 140737488351232) (hn1 : n ≤ 9223372036854775807) :
    Calls Tryd.prog 32 #[.agg (Fs 16 salt), .slice a xs.length cap, .string nm, .int .i64 n] w (TextsPost (afterR salt xs nm n) w) := by
  obtain ⟨z, hz⟩ : ∃ z, z = afterR salt xs nm n := ⟨_, rfl⟩
  rw [← hz]
  have HZ := Lib.hid hz
  clear hz
  have qa : (xs.length : Int) ≤ 140737488351232 := by omega
  go_enter Tryd.func32, Tryd.ntmps32
  go_upto_region 1 with fail
  have hS0 : Row (w.alloc (.cells (Fs 16 salt) 22)) w.heap.size 22 16 salt := Row.new w 22 16 salt
  have hK0 : Kept (fun _ => False) w (w.alloc (.cells (Fs 16 salt) 22)) := (Kept.refl _ w).alloc _
  generalize hw0 : w.alloc (.cells (Fs 16 salt) 22) = w0 at *
  obtain ⟨gs, hgs⟩ : ∃ gs, gs = w.heap.size := ⟨_, rfl⟩
  rw [← hgs] at hS0 ⊢
  have HGS := Lib.hid hgs
  clear hw0 hgs
  have hcon := refRight_any salt a xs.length cap (nthE xs) w0 (hk.kept hK0) (h.kept hK0) hn hs
  cases hr : rightB salt (nthE xs) xs.length
  · rw [hr] at hcon
    have HC := Lib.hid hcon
    obtain rfl : z = ([], 3) := by rw [HZ.out]; unfold afterR; rw [hr]; rfl
    clear hcon hr
    go_wp2_with (first | (refine wpList_load_row rfl 22 (.tmp 4) rfl gs rfl 22 (Fs 16 salt) (0, 0) _ hS0 Tryd.underlying22 rfl (info22F _) ?_) | ((with_reducible refine (HC.out).mono ?_); rintro r w1 ⟨rfl, k1⟩))
    go_ret2
    exact TextsPost.nil (hK0.trans k1 (fun _ _ h => h))
  rw [hr] at hcon
  have HC := Lib.hid hcon
  have HR := Lib.hid hr
  obtain ⟨l1, l2, l3⟩ := right_len hn hr
  clear hcon hr
  by_cases hneg : n < 0
  · obtain rfl : z = ([], 2) := by rw [HZ.out]; unfold afterR; rw [if_pos HR.out, if_pos hneg]
    go_wp2_with (first | (refine wpList_load_row rfl 22 (.tmp 4) rfl gs rfl 22 (Fs 16 salt) (0, 0) _ hS0 Tryd.underlying22 rfl (info22F _) ?_) | ((with_reducible refine (HC.out).mono ?_); rintro r w1 ⟨rfl, k1⟩))
    go_ret2
    exact TextsPost.nil (hK0.trans k1 (fun _ _ h => h))
  go_upto_region 5 with (first | (refine wpList_load_row rfl 22 (.tmp 4) rfl gs rfl 22 (Fs 16 salt) (0, 0) _ hS0 Tryd.underlying22 rfl (info22F _) ?_) | ((with_reducible refine (HC.out).mono ?_); rintro r w1 ⟨rfl, k1⟩; clear HC))
  have hS1 : Row w1 gs 22 16 salt := k1.at hS0 (fun h => h)
  have hK1 : Kept (fun _ => False) w w1 := hK0.trans k1 (fun _ _ h => h)
  clear k1 hS0 hK0
  obtain ⟨m, hm⟩ : ∃ m : Nat, n = m := ⟨n.toNat, by omega⟩
  subst hm
  obtain ⟨p, hp⟩ : ∃ p, p = aftB salt nm := ⟨_, rfl⟩
  have hz : z = (((xs.filter p).map En.nm).take m, 0) := by rw [HZ.out, hp]; unfold afterR; rw [if_pos HR.out, if_neg (by omega), Int.toNat_natCast]
  have HZ2 := Lib.hid hz
  have HP := Lib.hid hp
  clear hz HZ hneg hp
  go_upto_region 7 with fail
  go_loopg [10, 11] xs.length (fun k so si wr => ∃ (j l : Nat) (ad : Option Addr) (cp : Nat), j + k = xs.length ∧ si = .int .i64 (j : Int) ∧ so = .slice ad l cp ∧ l ≤ m ∧ (ftxt p xs j).length = l ∧ OwnS wr (w.heap.size + 1) (.slice ad l cp) l (ftxt p xs j) ∧ Row wr gs 22 16 salt ∧ Kept (fun _ => False) w wr)
  case atStart => exact ⟨0, 0, none, 0, by omega, rfl, rfl, by omega, by rw [ftxt_zero]; rfl, by rw [ftxt_zero]; exact OwnS.nil _ _, hS1, hK1⟩
  case round =>
    clear hS1 hK1
    obtain ⟨j, l, ad, cp, hj, rfl, rfl, hlm, hll, hO0, hS0, hK0⟩ := hrel
    have Hj := Lib.hid hj
    have hjn : j ≤ xs.length := by omega
    have hz0 : w.heap.size + 1 ≤ wr.heap.size := by have := hS0.lt; have := HGS.out; omega
    have hlj : l ≤ j := by rw [← hll]; exact ftxt_le p xs j
    have HLL := Lib.hid hll
    clear hj hll
    by_cases hlt : j < xs.length
    · have q1 : (j : Int) < xs.length := by omega
      have q2 : (0 : Int) ≤ j := by omega
      by_cases hm2 : l < m
      · have q3 : (l : Int) < m := by omega
        obtain ⟨g, o, rfl, hc⟩ := h.resolve_left (by omega)
        have hxs := (one_size (okTo_one salt (nthE xs) xs.length (rightB_ok HR.out) j hlt)).2.1
        have hcj := hc j hlt
        have hF := ftxt_succ p xs j hlt
        obtain ⟨x, hx⟩ : ∃ x, x = nthE xs j := ⟨_, rfl⟩
        rw [← hx] at hxs hcj hF
        have HF := Lib.hid hF
        have HCJ := Lib.hid hcj
        clear hc hx hF hcj
        obtain ⟨c0, c1⟩ := HCJ.out.kept hK0
        go_upto_region 9 with fail
        cases he : nm.toList.isEmpty
        · have he2 : nm.toList ≠ [] := fun e => by rw [e] at he; cases he
          have hpx : p x = decide (0 < orderOf salt x.nm nm) := by rw [HP.out]; unfold aftB; rw [he]; rfl
          obtain ⟨q, hq⟩ : ∃ q, q = orderOf salt x.nm nm := ⟨_, rfl⟩
          have hord := fun W hk => refOrder_any salt x.nm nm W hk (by omega) h2
          rw [← hq] at hord hpx
          have HPX := Lib.hid hpx
          have HORD := Lib.hid hord
          clear hord hq hpx
          refine region_perm (fun W => W.cell? ⟨g, o + j * 2, none⟩ = some (.string x.nm) ∧ Row W gs 22 16 salt) [(0, true), (1, true), (2, true), (3, true), (4, true), (5, true), (6, true), (7, true), (8, true), (9, true), (10, false), (11, true), (12, true)] (by kernel_rfl) (by kernel_rfl) (by intro c a d v w h; cases d <;> exact h) ⟨c0, hS0⟩ ?_
          repeat (first | (apply HeldSeq.take; (focus rfl); (focus rfl); (focus (intro W hS; obtain ⟨e0, _⟩ := hS; go_simp; (try go_bits); rfl)); simp only [List.getElem_toArray]; (try simp only [List.getElem_cons_succ]); (try simp only [List.getElem_cons_zero]); simp only [Act.put, List.setIfInBounds_toArray]; (try simp only [List.set_cons_succ]); (try simp only [List.set_cons_zero])) | (apply HeldSeq.skip; (focus rfl); (focus rfl); simp only [List.getElem_toArray]; (try simp only [List.getElem_cons_succ]); (try simp only [List.getElem_cons_zero]); simp only [Act.put, List.setIfInBounds_toArray]; (try simp only [List.set_cons_succ]); (try simp only [List.set_cons_zero])))
          refine HeldSeq.take rfl rfl (fun W hS => yields_row 22 (.tmp 4) rfl gs rfl 22 (Fs 16 salt) (0, 0) _ hS.2 Tryd.underlying22 rfl (info22F _)) ?_
          simp only [List.getElem_toArray]; (try simp only [List.getElem_cons_succ]); (try simp only [List.getElem_cons_zero]); simp only [Act.put, List.setIfInBounds_toArray]; (try simp only [List.set_cons_succ]); (try simp only [List.set_cons_zero])
          repeat (first | (apply HeldSeq.take; (focus rfl); (focus rfl); (focus (intro W hS; obtain ⟨e0, _⟩ := hS; go_simp; (try go_bits); rfl)); simp only [List.getElem_toArray]; (try simp only [List.getElem_cons_succ]); (try simp only [List.getElem_cons_zero]); simp only [Act.put, List.setIfInBounds_toArray]; (try simp only [List.set_cons_succ]); (try simp only [List.set_cons_zero])) | (apply HeldSeq.skip; (focus rfl); (focus rfl); simp only [List.getElem_toArray]; (try simp only [List.getElem_cons_succ]); (try simp only [List.getElem_cons_zero]); simp only [Act.put, List.setIfInBounds_toArray]; (try simp only [List.set_cons_succ]); (try simp only [List.set_cons_zero])))
          refine HeldSeq.run rfl rfl (fun K hK => ?_)
          go_simp
          refine (HORD.out wr.drew (hk.kept hK0.drew)).mono ?_
          rintro r w4 ⟨rfl, k4⟩
          have hS4 : Row w4 gs 22 16 salt := k4.at hS0 (fun h => h)
          have hO4 : OwnS w4 (w.heap.size + 1) (.slice ad l cp) l (ftxt p xs j) := owns_keptS (w := wr.drew) hO0 k4 (fun _ _ h => h)
          have hK4 : Kept (fun _ => False) w w4 := hK0.drew.trans k4 (fun _ _ h => h)
          have hz4 : w.heap.size + 1 ≤ w4.heap.size := by have := hS4.lt; have := HGS.out; omega
          have c4 : w4.cell? ⟨g, o + j * 2, none⟩ = some (.string x.nm) := k4.cell c0
          refine hK _ _ ⟨c4, hS4⟩ ?_
          clear hK K k4 hK0 hS0 hO0 c0 c1 hz0 c4
          by_cases hq0 : 0 < q
          · have hF2 : ftxt p xs (j + 1) = ftxt p xs j ++ [x.nm] := by rw [HF.out, HPX.out, decide_eq_true hq0]; rfl
            have HF2 := Lib.hid hF2
            clear hF2
            repeat (first | (apply HeldSeq.take; (focus rfl); (focus rfl); (focus (intro W hS; obtain ⟨e0, _⟩ := hS; go_simp; (try go_bits); rfl)); simp only [List.getElem_toArray]; (try simp only [List.getElem_cons_succ]); (try simp only [List.getElem_cons_zero]); simp only [Act.put, List.setIfInBounds_toArray]; (try simp only [List.set_cons_succ]); (try simp only [List.set_cons_zero])) | (apply HeldSeq.skip; (focus rfl); (focus rfl); simp only [List.getElem_toArray]; (try simp only [List.getElem_cons_succ]); (try simp only [List.getElem_cons_zero]); simp only [Act.put, List.setIfInBounds_toArray]; (try simp only [List.set_cons_succ]); (try simp only [List.set_cons_zero])))
            refine HeldSeq.done ?_
            obtain ⟨c0, c1⟩ := HCJ.out.kept hK4
            go_wp2_with (first | (refine appS rfl (.tmp 43) (.tmp 49) rfl (w.heap.size + 1) (.slice ad l cp) l (ftxt p xs j) (by rfl) (OwnS.alloc hO4 _) w4.heap.size 1 x.nm (by rfl) (by first | (simp; done) | (simp; rfl)) (by omega) (by rw [size_alloc]; omega) ?_))
            intro v6 w6 hO6 k6
            have hK6 : Kept (fun _ => False) w w6 := kept_ownS (hK4.alloc _) (Nat.le_succ _) (OwnS.alloc hO4 _) k6
            have hS6 : Row w6 gs 22 16 salt := k6.at (hS4.alloc _) (fun h => by have := (owns_ltS hO4 h).1; have := HGS.out; omega)
            obtain ⟨_, ad6, cp6, rfl, _⟩ := owns_readsS hO6
            clear k6 hO4 hK4 hS4
            go_wp2_with fail
            go_roundg (gk - 1)
            case measure => have := Hj.out; omega
            case rel =>
              have := Hj.out
              have hLL := HLL.out
              exact ⟨j + 1, l + 1, ad6, cp6, by omega, by go_num, rfl, by omega, by rw [HF2.out]; simp [hLL], by rw [HF2.out]; exact hO6, hS6, hK6⟩
          · have hF2 : ftxt p xs (j + 1) = ftxt p xs j := by rw [HF.out, HPX.out, decide_eq_false hq0]; rfl
            have HF2 := Lib.hid hF2
            clear hF2
            repeat (first | (apply HeldSeq.take; (focus rfl); (focus rfl); (focus (intro W hS; obtain ⟨e0, _⟩ := hS; go_simp; (try go_bits); rfl)); simp only [List.getElem_toArray]; (try simp only [List.getElem_cons_succ]); (try simp only [List.getElem_cons_zero]); simp only [Act.put, List.setIfInBounds_toArray]; (try simp only [List.set_cons_succ]); (try simp only [List.set_cons_zero])) | (apply HeldSeq.skip; (focus rfl); (focus rfl); simp only [List.getElem_toArray]; (try simp only [List.getElem_cons_succ]); (try simp only [List.getElem_cons_zero]); simp only [Act.put, List.setIfInBounds_toArray]; (try simp only [List.set_cons_succ]); (try simp only [List.set_cons_zero])))
            refine HeldSeq.done ?_
            go_wp2_with fail
            go_roundg (gk - 1)
            case measure => have := Hj.out; omega
            case rel =>
              have := Hj.out
              exact ⟨j + 1, l, ad, cp, by omega, by go_num, rfl, hlm, by rw [HF2.out]; exact HLL.out, by rw [HF2.out]; exact hO4, hS4, hK4⟩
        · have he2 : nm.toList = [] := by simpa using he
          have hpx : p x = true := by rw [HP.out]; unfold aftB; rw [he]; rfl
          have hF2 : ftxt p xs (j + 1) = ftxt p xs j ++ [x.nm] := by rw [HF.out, hpx]; rfl
          have HF2 := Lib.hid hF2
          clear hF2 hpx
          refine region_perm (fun W => W.cell? ⟨g, o + j * 2, none⟩ = some (.string x.nm)) [(0, true), (1, true), (2, true), (3, true), (4, true), (5, true), (6, true), (7, true), (8, true), (9, true), (10, false), (11, true), (12, true)] (by kernel_rfl) (by kernel_rfl) (by intro c a d v w h; cases d <;> exact h) c0 ?_
          repeat (first | (apply HeldSeq.take; (focus rfl); (focus rfl); (focus (intro W hS; obtain e0 := hS; go_simp; (try go_bits); rfl)); simp only [List.getElem_toArray]; (try simp only [List.getElem_cons_succ]); (try simp only [List.getElem_cons_zero]); simp only [Act.put, List.setIfInBounds_toArray]; (try simp only [List.set_cons_succ]); (try simp only [List.set_cons_zero])) | (apply HeldSeq.skip; (focus rfl); (focus rfl); simp only [List.getElem_toArray]; (try simp only [List.getElem_cons_succ]); (try simp only [List.getElem_cons_zero]); simp only [Act.put, List.setIfInBounds_toArray]; (try simp only [List.set_cons_succ]); (try simp only [List.set_cons_zero])))
          refine HeldSeq.pass rfl rfl c0 ?_
          repeat (first | (apply HeldSeq.take; (focus rfl); (focus rfl); (focus (intro W hS; obtain e0 := hS; go_simp; (try go_bits); rfl)); simp only [List.getElem_toArray]; (try simp only [List.getElem_cons_succ]); (try simp only [List.getElem_cons_zero]); simp only [Act.put, List.setIfInBounds_toArray]; (try simp only [List.set_cons_succ]); (try simp only [List.set_cons_zero])) | (apply HeldSeq.skip; (focus rfl); (focus rfl); simp only [List.getElem_toArray]; (try simp only [List.getElem_cons_succ]); (try simp only [List.getElem_cons_zero]); simp only [Act.put, List.setIfInBounds_toArray]; (try simp only [List.set_cons_succ]); (try simp only [List.set_cons_zero])))
          refine HeldSeq.done ?_
          have hO4 : OwnS wr.drew (w.heap.size + 1) (.slice ad l cp) l (ftxt p xs j) := hO0
          have hS4 : Row wr.drew gs 22 16 salt := hS0
          have hK4 : Kept (fun _ => False) w wr.drew := hK0.drew
          have hz4 : w.heap.size + 1 ≤ wr.drew.heap.size := hz0
          obtain ⟨w4, hw4⟩ : ∃ w4, w4 = wr.drew := ⟨_, rfl⟩
          rw [← hw4] at hO4 hS4 hK4 hz4 ⊢
          clear hw4 hO0 hS0 hK0 hz0 c0 c1
          obtain ⟨c0, c1⟩ := HCJ.out.kept hK4
          go_wp2_with (first | (refine appS rfl (.tmp 43) (.tmp 49) rfl (w.heap.size + 1) (.slice ad l cp) l (ftxt p xs j) (by rfl) (OwnS.alloc hO4 _) w4.heap.size 1 x.nm (by rfl) (by first | (simp; done) | (simp; rfl)) (by omega) (by rw [size_alloc]; omega) ?_))
          intro v6 w6 hO6 k6
          have hK6 : Kept (fun _ => False) w w6 := kept_ownS (hK4.alloc _) (Nat.le_succ _) (OwnS.alloc hO4 _) k6
          have hS6 : Row w6 gs 22 16 salt := k6.at (hS4.alloc _) (fun h => by have := (owns_ltS hO4 h).1; have := HGS.out; omega)
          obtain ⟨_, ad6, cp6, rfl, _⟩ := owns_readsS hO6
          clear k6 hO4 hK4 hS4
          go_wp2_with fail
          go_roundg (gk - 1)
          case measure => have := Hj.out; omega
          case rel =>
            have := Hj.out
            have hLL := HLL.out
            exact ⟨j + 1, l + 1, ad6, cp6, by omega, by go_num, rfl, by omega, by rw [HF2.out]; simp [hLL], by rw [HF2.out]; exact hO6, hS6, hK6⟩
      · obtain rfl : l = m := by omega
        have q3 : ¬ (l : Int) < l := by omega
        have hO := owns_lowerS hO0 (Nat.le_succ w.heap.size)
        have HO := Lib.hid hO
        have ht := ftxt_take p xs j
        rw [HLL.out] at ht
        obtain rfl : z = (ftxt p xs j, 0) := by rw [HZ2.out, ht]
        clear hO hO0 ht
        go_wp2_with fail
        go_ret2
        exact ⟨_, rfl, by show OwnS _ _ _ (ftxt p xs j).length _; rw [HLL.out]; exact HO.out, hK0⟩
    · obtain rfl : j = xs.length := by omega
      have q1 : ¬ (xs.length : Int) < xs.length := by omega
      have hO := owns_lowerS hO0 (Nat.le_succ w.heap.size)
      have HO := Lib.hid hO
      have ht : ((xs.filter p).map En.nm).take m = ftxt p xs xs.length := by
        have : (xs.filter p).map En.nm = ftxt p xs xs.length := by unfold ftxt; rw [List.take_length]
        rw [this, List.take_of_length_le (by rw [HLL.out]; exact hlm)]
      obtain rfl : z = (ftxt p xs xs.length, 0) := by rw [HZ2.out, ht]
      clear hO hO0 ht
      go_wp2_with fail
      go_ret2
      exact ⟨_, rfl, by show OwnS _ _ _ (ftxt p xs xs.length).length _; rw [HLL.out]; exact HO.out, hK0⟩
end Go.Proofs.YtpekibadleghbaaDoor
namespace Go.Proofs.YtpekibadleghbaaDoor
open Go.RowKit
set_option linter.unusedVariables false
set_option linter.unusedSimpArgs false
/-- A string's bytes. -/
def sBytes (s : ByteArray) : List Byte := s.data.toList.map fun b => BitVec.ofNat 8 b.toNat
theorem sBytes_len (s : ByteArray) : (sBytes s).length = s.size := by unfold sBytes; simp
theorem sBytes_cells (s : ByteArray) : (sBytes s).map B = s.data.toList.map fun b => Value.int .u8 (b.toNat : Int) := by
  unfold sBytes
  rw [List.map_map]
  apply List.map_congr_left
  intro b _
  show Value.int .u8 (iB (BitVec.ofNat 8 b.toNat)) = _
  unfold iB
  rw [BitVec.toNat_ofNat, Nat.mod_eq_of_lt (by have := UInt8.toNat_lt b; omega)]
theorem sBytes_get (s : ByteArray) (i : Nat) (h : i < s.size) : (sBytes s)[i]? = some (sB s i) := by
  have hi : i < s.data.size := h
  unfold sBytes sB
  rw [List.getElem?_map, Array.getElem?_toList, Array.getElem?_eq_getElem hi]
  rfl
/-- Bytes of one's own. -/
def OwnL (w : World) (base : Nat) (v : Value) (n : Nat) (L : List Byte) : Prop := w.ownsRow base 5 1 v n (L.map B)
theorem OwnL.nil (w : World) (base : Nat) : OwnL w base (.slice none 0 0) 0 [] := World.ownsRow_nil w base 5 1
theorem OwnL.alloc {w : World} {base : Nat} {v : Value} {n : Nat} {L : List Byte} (h : OwnL w base v n L) (o : Obj) : OwnL (w.alloc o) base v n L := World.ownsRow.alloc h o
theorem OwnL.lt {w : World} {base : Nat} {v : Value} {n : Nat} {L : List Byte} (ho : OwnL w base v n L) {k : Nat} (hk : v.ownBlock = some k) : base ≤ k ∧ k < w.heap.size := by
  rcases ho.2 with ⟨rfl, _⟩ | ⟨g, cap, cur, rfl, hg, hh, _⟩
  · simp [Value.ownBlock] at hk
  · have : g = k := by simpa [Value.ownBlock] using hk
    subst this
    exact ⟨hg, lt_of_at hh⟩
theorem OwnL.lower {w : World} {base base' : Nat} {v : Value} {n : Nat} {L : List Byte} (ho : OwnL w base v n L) (hb : base' ≤ base) : OwnL w base' v n L := by
  refine ⟨ho.1, ?_⟩
  rcases ho.2 with h | ⟨g, cap, cur, hv, hg, r⟩
  · exact .inl h
  · exact .inr ⟨g, cap, cur, hv, by omega, r⟩
theorem OwnL.kept {w w' : World} {base : Nat} {v : Value} {n : Nat} {L : List Byte} {S : Nat → Prop} (ho : OwnL w base v n L) (hk : Kept S w w') (hn : ∀ k, v.ownBlock = some k → ¬ S k) : OwnL w' base v n L := by
  refine ⟨ho.1, ?_⟩
  rcases ho.2 with h | ⟨g, cap, cur, hv, hb, hh, r⟩
  · exact .inl h
  · exact .inr ⟨g, cap, cur, hv, hb, by rw [hk.block g (lt_of_at hh) (hn g (by rw [hv]; rfl))]; exact hh, r⟩
theorem OwnL.len {w : World} {base : Nat} {v : Value} {n : Nat} {L : List Byte} (ho : OwnL w base v n L) : n = L.length := by have := ho.1; simp at this; omega
theorem OwnL.reads {w : World} {base : Nat} {v : Value} {n : Nat} {L : List Byte} (ho : OwnL w base v n L) : ∃ a c, v = .slice a n c ∧ BytesAt w a n (fun i => L.getD i 0#8) ∧ (a = none → n = 0) ∧ n ≤ c := by
  have hl := ho.len
  rcases ho.2 with ⟨rfl, h0⟩ | ⟨g, cap, cur, rfl, hb, hg, hn, hc, hs, ht⟩
  · exact ⟨none, 0, by rw [h0], .inl h0, fun _ => h0, by omega⟩
  · refine ⟨_, _, rfl, .inr ⟨g, 0, rfl, fun i hi => ?_⟩, (fun h => by cases h), hn⟩
    rw [Nat.zero_add, cell_of_row w g i cur 5 _ hg]
    have h6 : cur.toList[i]? = some (B (L.getD i 0#8)) := by
      have e : (cur.toList.take (n * 1))[i]? = cur.toList[i]? := by rw [List.getElem?_take, if_pos (by omega)]
      rw [← e, ht]
      simp [show i < L.length by omega]
    simpa using h6
theorem kept_ownL {w0 w w' : World} {base : Nat} {v : Value} {n : Nat} {L : List Byte} (hK : Kept (fun _ => False) w0 w) (hb : w0.heap.size ≤ base) (ho : OwnL w base v n L) (hk : Kept (fun k => v.ownBlock = some k) w w') : Kept (fun _ => False) w0 w' :=
  hK.trans hk (fun j hj h => by have := (ho.lt h).1; omega)
/-- Two rows of bytes, one behind the other. -/
def cat (L M : List Byte) : List Byte := L ++ M
theorem info5' : Tryd.prog.info? 5 = some ((Tryd.prog.info? 5).getD default) := by kernel_rfl
theorem zero5' : ((Tryd.prog.info? 5).getD default).zero = some (.int .u8 0) := by kernel_rfl
theorem size5' : ((Tryd.prog.info? 5).getD default).size = 1 := by kernel_rfl
theorem bytes5' : ((Tryd.prog.info? 5).getD default).bytes = 1 := by kernel_rfl
theorem B_one (L : List Byte) : ∀ u ∈ L.map B, u.oneCell' = true := by
  intro u hu
  obtain ⟨b, _, rfl⟩ := List.mem_map.1 hu
  rfl
set_option maxRecDepth 100000 in
/-- Bytes appended to bytes of one's own. -/
theorem appL {ops : Array Oper} {rest : List Oper} {o : Oper} {a : Act} {w : World} {Q : Exit → Act → World → Prop} (hgd : o.guard = none) (s x : Operand) (ho : o.op = .call { callee := .builtin .append, args := #[s, x], argTypes := #[37, 37] })
    (base : Nat) (v : Value) (n : Nat) (L : List Byte) (hs : a.eval s = v) (hown : OwnL w base v n L) (ad : Addr) (m c : Nat) (M : List Byte) (hx : a.eval x = .slice (some ad) m c) (hl : M.length = m) (hc : ∀ j b, M[j]? = some b → w.cell? (ad.add j) = some (B b))
    (hn : n + m ≤ 140737488355328) (hbase : base ≤ w.heap.size)
    (h : ∀ v' w', OwnL w' base v' (n + m) (cat L M) → Kept (fun k => v.ownBlock = some k) w w' → wpList Tryd.prog ops Q rest (a.put o.dst v') w') : wpList Tryd.prog ops Q (o :: rest) a w := by
  refine wpList_append_own_at _ hgd s x 37 ho base 5 _ _ 1 1 Tryd.underlying37 info5' zero5' size5' bytes5' rfl (by omega) v n (L.map B) hs hown ad m c (M.map B) hx (by simp [hl]) ?_ (B_one M) (by unfold maxLen; omega) (by omega) hbase ?_
  · intro j u hj
    rw [List.getElem?_map] at hj
    cases hb : M[j]? with
    | none => rw [hb] at hj; cases hj
    | some b => rw [hb] at hj; simp at hj; rw [← hj]; exact hc j b hb
  intro v' w2 h1 h2 _ _
  refine h v' w2 ?_ (Kept.grown h2)
  unfold OwnL cat
  rw [List.map_append]
  exact h1
set_option maxRecDepth 100000 in
theorem wp_appL {o : Oper} {a : Act} {w : World} {K : Act → World → Prop} {Q : Exit → Act → World → Prop} (s x : Operand) (ho : o.op = .call { callee := .builtin .append, args := #[s, x], argTypes := #[37, 37] })
    (base : Nat) (v : Value) (n : Nat) (L : List Byte) (hs : a.eval s = v) (hown : OwnL w base v n L) (ad : Addr) (m c : Nat) (M : List Byte) (hx : a.eval x = .slice (some ad) m c) (hl : M.length = m) (hc : ∀ j b, M[j]? = some b → w.cell? (ad.add j) = some (B b))
    (hn : n + m ≤ 140737488355328) (hbase : base ≤ w.heap.size)
    (h : ∀ v' w', OwnL w' base v' (n + m) (cat L M) → Kept (fun k => v.ownBlock = some k) w w' → K (a.put o.dst v') w') : o.wp Tryd.prog a w K Q := by
  obtain ⟨v', w', hr, h1, h2, _, _⟩ := run_append_own_at (P := Tryd.prog) w base 37 o.type 5 _ _ 1 1 Tryd.underlying37 info5' zero5' size5' bytes5' rfl (by omega) v n (L.map B) hown ad m c (M.map B) (by simp [hl]) (fun j u hj => by
    rw [List.getElem?_map] at hj
    cases hb : M[j]? with
    | none => rw [hb] at hj; cases hj
    | some b => rw [hb] at hj; simp at hj; rw [← hj]; exact hc j b hb) (B_one M) (by unfold maxLen; omega) (by omega) hbase
  unfold Oper.wp execOp
  simp only [ho, resolve, invoke, builtin, Sem.run_bind, Sem.run_pure, Result.andThen_ok, List.map_toArray, List.map_cons, List.map_nil, hs, hx, hr]
  refine h v' w' ?_ (Kept.grown h2)
  unfold OwnL cat
  rw [List.map_append]
  exact h1
set_option maxRecDepth 100000 in
theorem appStr {ops : Array Oper} {rest : List Oper} {o : Oper} {a : Act} {w : World} {Q : Exit → Act → World → Prop} (hgd : o.guard = none) (s x : Operand) (ho : o.op = .call { callee := .builtin .append, args := #[s, x], argTypes := #[37, 9] })
    (base : Nat) (v : Value) (n : Nat) (L : List Byte) (hs : a.eval s = v) (hown : OwnL w base v n L) (t : ByteArray) (hx : a.eval x = .string t)
    (hn : n + t.size ≤ 140737488355328) (hbase : base ≤ w.heap.size)
    (h : ∀ v' w', OwnL w' base v' (n + t.size) (cat L (sBytes t)) → Kept (fun k => v.ownBlock = some k) w w' → wpList Tryd.prog ops Q rest (a.put o.dst v') w') : wpList Tryd.prog ops Q (o :: rest) a w := by
  refine Lib.wpList_append_own_string _ hgd s x 37 9 ho base 5 _ Tryd.underlying37 Tryd.underlying9 info5' zero5' size5' bytes5' v n (L.map B) hs hown t hx (by unfold maxLen; omega) hn hbase ?_
  intro v' w2 h1 h2 _
  refine h v' w2 ?_ (Kept.grown h2)
  unfold OwnL cat
  rw [List.map_append, sBytes_cells]
  exact h1
def encE (e : En) : List Byte := BitVec.ofInt 8 e.ino :: BitVec.ofInt 8 (e.nm.size : Int) :: sBytes e.nm
def encL (xs : List En) (j : Nat) : List Byte := (xs.take j).flatMap encE
theorem encL_succ (xs : List En) (j : Nat) (h : j < xs.length) : encL xs (j + 1) = cat (cat (encL xs j) [BitVec.ofInt 8 (nthE xs j).ino, BitVec.ofInt 8 ((nthE xs j).nm.size : Int)]) (sBytes (nthE xs j).nm) := by
  unfold encL cat
  rw [take_snocE xs j h, List.flatMap_append]
  simp [encE]
theorem encE_len (e : En) : (encE e).length = 2 + e.nm.size := by unfold encE; simp [sBytes_len]; omega
theorem modB8 (b : Byte) : iB b % (256 : Int) = iB b := Int.emod_eq_of_lt (iB_ge b) (iB_lt b)
theorem ofInt_iB8 (b : Byte) : BitVec.ofInt 8 (iB b) = b := by unfold iB; simp
theorem EAt.keptBut {S : Nat → Prop} {w w' : World} {g o : Nat} {e : En} (h : EAt w g o e) (k : Kept S w w') (hn : ¬ S g) : EAt w' g o e := by
  have hb := k.block g (block_lt_of_cell h.1) hn
  exact ⟨by rw [World.cell?_of_block (w := w) hb]; exact h.1, by rw [World.cell?_of_block (w := w) hb]; exact h.2⟩
theorem ofInt8 (i : Int) (h1 : 0 ≤ i) (h2 : i < 256) : iB (BitVec.ofInt 8 i) = i := by
  unfold iB
  rw [BitVec.toNat_ofInt]
  omega
theorem newB2 (w : World) (x y : Int) (hx : 0 ≤ x) (hx2 : x < 256) (hy : 0 ≤ y) (hy2 : y < 256) : ∀ j b, ([BitVec.ofInt 8 x, BitVec.ofInt 8 y] : List Byte)[j]? = some b → (w.alloc (.cells #[.int .u8 x, .int .u8 y] 5)).cell? ((⟨w.heap.size, 0, none⟩ : Addr).add j) = some (B b) := by
  intro j b hj
  have hl : j < 2 := (List.getElem?_eq_some_iff.1 hj).1
  rw [Addr.add_lit, Nat.zero_add]
  obtain rfl | rfl : j = 0 ∨ j = 1 := by omega
  · simp at hj
    rw [cell_of_row _ w.heap.size 0 _ 5 _ (heap_alloc_new w _), ← hj]
    show some (Value.int .u8 x) = some (.int .u8 (iB (BitVec.ofInt 8 x)))
    rw [ofInt8 x hx hx2]
  · simp at hj
    rw [cell_of_row _ w.heap.size 1 _ 5 _ (heap_alloc_new w _), ← hj]
    show some (Value.int .u8 y) = some (.int .u8 (iB (BitVec.ofInt 8 y)))
    rw [ofInt8 y hy hy2]
def encR (salt : Nat → Byte) (xs : List En) : List Byte × Int := if rightB salt (nthE xs) xs.length = true then (encL xs xs.length, 0) else ([], 3)
def BytesPost (R : List Byte × Int) (w : World) (r : Ending) (w' : World) : Prop :=
  ∃ v, r = .returned (.tuple #[v, .int .i64 R.2]) ∧ OwnL w' w.heap.size v R.1.length R.1 ∧ Kept (fun _ => False) w w'
theorem BytesPost.nil {e : Int} {w w' : World} (h : Kept (fun _ => False) w w') : BytesPost ([], e) w (.returned (.tuple #[.slice none 0 0, .int .i64 e])) w' :=
  ⟨_, rfl, OwnL.nil _ _, h⟩
theorem encL_len (xs : List En) (hs : ∀ i, i < xs.length → (nthE xs i).nm.size ≤ 24) : ∀ j, j ≤ xs.length → (encL xs j).length ≤ 26 * j
  | 0, _ => by simp [encL]
  | j + 1, hj => by
    rw [encL_succ xs j (by omega)]
    unfold cat
    have := encL_len xs hs j (by omega)
    have := hs j (by omega)
    simp [sBytes_len]
    omega
set_option maxRecDepth 100000 in
set_option maxHeartbeats 8000000 in
theorem encode_any (salt : Nat → Byte) (a : Option Addr) (cap : Nat) (xs : List En) (w : World) (hk : KeysAt w) (h : ListE w a xs.length (nthE xs)) (hn : xs.length ≤ 140737488351232) (hs : ∀ i, i < xs.length → (nthE xs i).nm.size ≤ 140737488351232) :
    Calls Tryd.prog 20 #[.agg (Fs 16 salt), .slice a xs.length cap] w (BytesPost (encR salt xs) w) := by
  obtain ⟨z, hz⟩ : ∃ z, z = encR salt xs := ⟨_, rfl⟩
  rw [← hz]
  have HZ := Lib.hid hz
  clear hz
  go_enter Tryd.func20, Tryd.ntmps20
  go_upto_region 1 with fail
  have hS0 : Row (w.alloc (.cells (Fs 16 salt) 22)) w.heap.size 22 16 salt := Row.new w 22 16 salt
  have hK0 : Kept (fun _ => False) w (w.alloc (.cells (Fs 16 salt) 22)) := (Kept.refl _ w).alloc _
  generalize hw0 : w.alloc (.cells (Fs 16 salt) 22) = w0 at *
  obtain ⟨gs, hgs⟩ : ∃ gs, gs = w.heap.size := ⟨_, rfl⟩
  rw [← hgs] at hS0 ⊢
  clear hw0 hgs
  have hcon := check_any salt a xs.length cap (nthE xs) w0 (hk.kept hK0) (h.kept hK0) hn hs
  cases hr : rightB salt (nthE xs) xs.length
  · rw [hr] at hcon
    simp only [Bool.false_eq_true, if_false] at hcon
    have HC := Lib.hid hcon
    obtain rfl : z = ([], 3) := by rw [HZ.out]; unfold encR; rw [hr]; rfl
    clear hcon hr
    go_wp2_with (first | (refine wpList_load_row rfl 22 (.tmp 2) rfl gs rfl 22 (Fs 16 salt) (0, 0) _ hS0 Tryd.underlying22 rfl (info22F _) ?_) | ((with_reducible refine (HC.out).mono ?_); rintro r w1 ⟨rfl, k1⟩))
    go_ret2
    exact BytesPost.nil (hK0.trans k1 (fun _ _ h => h))
  rw [hr] at hcon
  simp only [if_true] at hcon
  have HC := Lib.hid hcon
  have HR := Lib.hid hr
  obtain ⟨l1, l2, l3⟩ := right_len hn hr
  obtain rfl : z = (encL xs xs.length, 0) := by rw [HZ.out]; unfold encR; rw [hr]; rfl
  have hsz : ∀ i, i < xs.length → (nthE xs i).nm.size ≤ 24 := fun i hi => (one_size (okTo_one salt (nthE xs) xs.length (rightB_ok hr) i hi)).2.1
  have HSZ := Lib.hid hsz
  have qa : (xs.length : Int) ≤ 440 := by omega
  clear hcon hr HZ hsz
  go_upto_region 4 with (first | (refine wpList_load_row rfl 22 (.tmp 2) rfl gs rfl 22 (Fs 16 salt) (0, 0) _ hS0 Tryd.underlying22 rfl (info22F _) ?_) | ((with_reducible refine (HC.out).mono ?_); rintro r w1 ⟨rfl, k1⟩; clear HC))
  have hK1 : Kept (fun _ => False) w w1 := hK0.trans k1 (fun _ _ h => h)
  clear k1 hS0 hK0
  go_upto_region 6 with fail
  go_loopg [7, 18] xs.length (fun k so si wr => ∃ (j : Nat) (v : Value), j + k = xs.length ∧ si = .int .i64 (j : Int) ∧ v = so ∧ OwnL wr w.heap.size v (encL xs j).length (encL xs j) ∧ Kept (fun _ => False) w wr)
  case atStart => exact ⟨0, _, by omega, rfl, rfl, OwnL.nil _ _, hK1⟩
  case round =>
    clear hK1
    obtain ⟨j, v, hj, rfl, rfl, hO0, hK0⟩ := hrel
    have Hj := Lib.hid hj
    have hjn : j ≤ xs.length := by omega
    have hz0 : w.heap.size ≤ wr.heap.size := hK0.size
    have hel := encL_len xs HSZ.out j hjn
    clear hj
    by_cases hlt : j < xs.length
    · have q1 : (j : Int) < xs.length := by omega
      have q2 : (0 : Int) ≤ j := by omega
      obtain ⟨g, o, rfl, hc⟩ := h.resolve_left (by omega)
      obtain ⟨_, b1, b2, b3⟩ := one_size (okTo_one salt (nthE xs) xs.length (rightB_ok HR.out) j hlt)
      obtain ⟨c0, c1⟩ := (hc j hlt).kept hK0
      have hF := encL_succ xs j hlt
      obtain ⟨x, hx⟩ : ∃ x, x = nthE xs j := ⟨_, rfl⟩
      rw [← hx] at b1 b2 b3 c0 c1 hF
      have HF := Lib.hid hF
      obtain ⟨L, hL⟩ : ∃ L, L = encL xs j := ⟨_, rfl⟩
      rw [← hL] at hO0 hel HF
      obtain ⟨l, hl⟩ : ∃ l, l = L.length := ⟨_, rfl⟩
      rw [← hl] at hO0 hel
      have HLL := Lib.hid hl
      clear hc hx hF hL hl
      obtain ⟨M, hM⟩ : ∃ M : List Byte, M = [BitVec.ofInt 8 x.ino, BitVec.ofInt 8 (x.nm.size : Int)] := ⟨_, rfl⟩
      rw [← hM] at HF
      have hml : M.length = 2 := by rw [hM]; rfl
      have HM := Lib.hid hM
      have HML := Lib.hid hml
      clear hM hml
      have b4 : (x.nm.size : Int) ≤ 24 := by omega
      go_upto_region 8 with fail
      generalize hwx : World.alloc wr _ = wx
      have hE : EAt wx wr.heap.size 0 x := by rw [← hwx]; exact newE' wr x
      have hOx : OwnL wx w.heap.size v l L := by rw [← hwx]; exact OwnL.alloc hO0 _
      have hKx : Kept (fun _ => False) w wx := by rw [← hwx]; exact hK0.alloc _
      have hzx : w.heap.size ≤ wx.heap.size := hKx.size
      have hvb : ∀ k, v.ownBlock = some k → k < wr.heap.size := fun k hk => (hO0.lt hk).2
      obtain ⟨d0, d1⟩ := hE
      have D := Lib.hid (show EAt wx wr.heap.size 0 x from ⟨d0, d1⟩)
      have HVB := Lib.hid hvb
      clear hvb
      generalize wr.heap.size = gx at *
      clear hwx hO0 hK0 c0 c1 hz0
      go_upto_region 9 with (first | (refine appL rfl (.tmp 22) (.tmp 30) rfl w.heap.size v l L (by rfl) (OwnL.alloc hOx _) ⟨wx.heap.size, 0, none⟩ 2 2 M (by rfl) HML.out (fun j b hj => newB2 wx x.ino x.nm.size (by omega) (by omega) (by omega) (by omega) j b (by rw [← HM.out]; exact hj)) (by omega) (by rw [size_alloc]; omega) ?_))
      intro v5 w5 hO5 k5
      have hK5 : Kept (fun _ => False) w w5 := kept_ownL (hKx.alloc _) (Nat.le_refl _) (OwnL.alloc hOx _) k5
      have hz5 : w.heap.size ≤ w5.heap.size := hK5.size
      have hE5 : EAt w5 gx 0 x := (EAt.kept D.out ((Kept.refl _ wx).alloc _)).keptBut k5 (fun h => by have := HVB.out gx h; omega)
      obtain ⟨d0, d1⟩ := hE5
      clear k5 hOx hKx
      go_upto_region 9 with fail
      go_wp2_with (first | (refine appStr rfl (.tmp 32) (.tmp 34) rfl w.heap.size v5 (l + 2) (cat L M) (by rfl) hO5 x.nm (by rfl) (by omega) (by omega) ?_))
      intro v6 w6 hO6 k6
      have hK6 : Kept (fun _ => False) w w6 := kept_ownL hK5 (Nat.le_refl _) hO5 k6
      clear k6 hO5 hK5
      go_wp2_with fail
      go_roundg (gk - 1)
      case measure => have := Hj.out; omega
      case rel =>
        have := Hj.out
        have hl6 := hO6.len
        exact ⟨j + 1, v6, by omega, by go_num, rfl, by rw [HF.out, ← hl6]; exact hO6, hK6⟩
    · obtain rfl : j = xs.length := by omega
      have q1 : ¬ (xs.length : Int) < xs.length := by omega
      have HO := Lib.hid hO0
      clear hO0
      go_wp2_with fail
      go_ret2
      exact ⟨_, rfl, HO.out, hK0⟩
set_option maxRecDepth 100000 in
set_option maxHeartbeats 8000000 in
theorem refBytes_any (salt : Nat → Byte) (a : Option Addr) (cap : Nat) (xs : List En) (w : World) (h : ListE w a xs.length (nthE xs)) (hn : xs.length ≤ 140737488351232) (hr : rightB salt (nthE xs) xs.length = true) :
    Calls Tryd.prog 33 #[.slice a xs.length cap] w fun r w' => ∃ v, r = .returned v ∧ OwnL w' w.heap.size v (encL xs xs.length).length (encL xs xs.length) ∧ Kept (fun _ => False) w w' := by
  have HR := Lib.hid hr
  obtain ⟨l1, l2, l3⟩ := right_len hn hr
  have hsz : ∀ i, i < xs.length → (nthE xs i).nm.size ≤ 24 := fun i hi => (one_size (okTo_one salt (nthE xs) xs.length (rightB_ok hr) i hi)).2.1
  have HSZ := Lib.hid hsz
  have qa : (xs.length : Int) ≤ 440 := by omega
  clear hr hsz
  go_enter Tryd.func33, Tryd.ntmps33
  go_upto_region 3 with fail
  go_loopg [3, 4] xs.length (fun k so si wr => ∃ (j : Nat) (v : Value), j + k = xs.length ∧ si = .int .i64 (j : Int) ∧ v = so ∧ OwnL wr w.heap.size v (encL xs j).length (encL xs j) ∧ Kept (fun _ => False) w wr)
  case atStart => exact ⟨0, _, by omega, rfl, rfl, OwnL.nil _ _, Kept.refl _ w⟩
  case round =>
    obtain ⟨j, v, hj, rfl, rfl, hO0, hK0⟩ := hrel
    have Hj := Lib.hid hj
    have hjn : j ≤ xs.length := by omega
    have hz0 : w.heap.size ≤ wr.heap.size := hK0.size
    have hel := encL_len xs HSZ.out j hjn
    clear hj
    by_cases hlt : j < xs.length
    · have q1 : (j : Int) < xs.length := by omega
      have q2 : (0 : Int) ≤ j := by omega
      obtain ⟨g, o, rfl, hc⟩ := h.resolve_left (by omega)
      obtain ⟨_, b1, b2, b3⟩ := one_size (okTo_one salt (nthE xs) xs.length (rightB_ok HR.out) j hlt)
      have hcj := hc j hlt
      have hF := encL_succ xs j hlt
      obtain ⟨x, hx⟩ : ∃ x, x = nthE xs j := ⟨_, rfl⟩
      rw [← hx] at b1 b2 b3 hcj hF
      have HF := Lib.hid hF
      have HCJ := Lib.hid hcj
      obtain ⟨c0, c1⟩ := hcj.kept hK0
      obtain ⟨L, hL⟩ : ∃ L, L = encL xs j := ⟨_, rfl⟩
      rw [← hL] at hO0 hel HF
      obtain ⟨l, hl⟩ : ∃ l, l = L.length := ⟨_, rfl⟩
      rw [← hl] at hO0 hel
      clear hc hx hF hL hl hcj
      obtain ⟨M, hM⟩ : ∃ M : List Byte, M = [BitVec.ofInt 8 x.ino, BitVec.ofInt 8 (x.nm.size : Int)] := ⟨_, rfl⟩
      rw [← hM] at HF
      have hml : M.length = 2 := by rw [hM]; rfl
      have HM := Lib.hid hM
      have HML := Lib.hid hml
      clear hM hml
      have b4 : (x.nm.size : Int) ≤ 24 := by omega
      go_upto_region 5 with fail
      refine region_perm (fun W => W.cell? ⟨g, o + j * 2, none⟩ = some (.string x.nm) ∧ W.cell? ⟨g, o + j * 2 + 1, none⟩ = some (.int .i64 x.ino)) [(0, true), (1, true), (2, true), (3, true), (4, true), (5, true), (6, true), (7, true), (8, true), (9, true), (10, true), (11, true), (12, false), (13, true), (14, false), (15, false), (16, true)] (by kernel_rfl) (by kernel_rfl) (by intro c a d v w h; cases d <;> exact h) ⟨c0, c1⟩ ?_
      repeat (first | (apply HeldSeq.take; (focus rfl); (focus rfl); (focus (intro W hS; obtain ⟨e0, e1⟩ := hS; go_simp; (try go_bits); rfl)); simp only [List.getElem_toArray]; (try simp only [List.getElem_cons_succ]); (try simp only [List.getElem_cons_zero]); simp only [Act.put, List.setIfInBounds_toArray]; (try simp only [List.set_cons_succ]); (try simp only [List.set_cons_zero])) | (apply HeldSeq.skip; (focus rfl); (focus rfl); simp only [List.getElem_toArray]; (try simp only [List.getElem_cons_succ]); (try simp only [List.getElem_cons_zero]); simp only [Act.put, List.setIfInBounds_toArray]; (try simp only [List.set_cons_succ]); (try simp only [List.set_cons_zero])))
      refine HeldSeq.run rfl rfl (fun K hK => ?_)
      go_simp
      refine hK _ _ ⟨c0, c1⟩ ?_
      clear hK K
      repeat (first | (apply HeldSeq.take; (focus rfl); (focus rfl); (focus (intro W hS; obtain ⟨e0, e1⟩ := hS; go_simp; (try go_bits); rfl)); simp only [List.getElem_toArray]; (try simp only [List.getElem_cons_succ]); (try simp only [List.getElem_cons_zero]); simp only [Act.put, List.setIfInBounds_toArray]; (try simp only [List.set_cons_succ]); (try simp only [List.set_cons_zero])) | (apply HeldSeq.skip; (focus rfl); (focus rfl); simp only [List.getElem_toArray]; (try simp only [List.getElem_cons_succ]); (try simp only [List.getElem_cons_zero]); simp only [Act.put, List.setIfInBounds_toArray]; (try simp only [List.set_cons_succ]); (try simp only [List.set_cons_zero])))
      refine HeldSeq.run rfl rfl (fun K hK => ?_)
      go_simp
      have hOx : OwnL (wr.alloc (.cells #[.int .u8 x.ino, .int .u8 (x.nm.size : Int)] 5)).drew w.heap.size v l L := OwnL.alloc hO0 _
      have hKx : Kept (fun _ => False) w (wr.alloc (.cells #[.int .u8 x.ino, .int .u8 (x.nm.size : Int)] 5)).drew := (hK0.alloc _).drew
      have hMx : ∀ j b, M[j]? = some b → (wr.alloc (.cells #[.int .u8 x.ino, .int .u8 (x.nm.size : Int)] 5)).drew.cell? ((⟨wr.heap.size, 0, none⟩ : Addr).add j) = some (B b) := fun j b hj => newB2 wr x.ino x.nm.size (by omega) (by omega) (by omega) (by omega) j b (by rw [← HM.out]; exact hj)
      generalize (wr.alloc (.cells #[.int .u8 x.ino, .int .u8 (x.nm.size : Int)] 5)).drew = wx at *
      obtain ⟨c0', c1'⟩ := HCJ.out.kept hKx
      have hzx : w.heap.size ≤ wx.heap.size := hKx.size
      refine hK _ _ ⟨c0', c1'⟩ ?_
      clear hK K c0 c1 hO0 hK0
      refine HeldSeq.run rfl rfl (fun K hK => ?_)
      refine wp_appL (.tmp 11) (.tmp 25) rfl w.heap.size v l L (by rfl) hOx ⟨wr.heap.size, 0, none⟩ 2 2 M (by rfl) HML.out hMx (by omega) hzx ?_
      intro v5 w5 hO5 k5
      have hK5 : Kept (fun _ => False) w w5 := kept_ownL hKx (Nat.le_refl _) hOx k5
      have hz5 : w.heap.size ≤ w5.heap.size := hK5.size
      obtain ⟨c0, c1⟩ := HCJ.out.kept hK5
      refine hK _ _ ⟨c0, c1⟩ ?_
      clear hK K k5 hOx hKx hMx c0' c1' hzx hz0
      repeat (first | (apply HeldSeq.take; (focus rfl); (focus rfl); (focus (intro W hS; obtain ⟨e0, e1⟩ := hS; go_simp; (try go_bits); rfl)); simp only [List.getElem_toArray]; (try simp only [List.getElem_cons_succ]); (try simp only [List.getElem_cons_zero]); simp only [Act.put, List.setIfInBounds_toArray]; (try simp only [List.set_cons_succ]); (try simp only [List.set_cons_zero])) | (apply HeldSeq.skip; (focus rfl); (focus rfl); simp only [List.getElem_toArray]; (try simp only [List.getElem_cons_succ]); (try simp only [List.getElem_cons_zero]); simp only [Act.put, List.setIfInBounds_toArray]; (try simp only [List.set_cons_succ]); (try simp only [List.set_cons_zero])))
      refine HeldSeq.done ?_
      obtain ⟨sc, w6, hr, hcap, hb, hk6, hz6⟩ := strSlice w5 x.nm
      have hO6 : OwnL w6 w.heap.size v5 (l + 2) (cat L M) := hO5.kept hk6 (fun _ _ h => h)
      have hK6 : Kept (fun _ => False) w w6 := hK5.trans hk6 (fun _ _ h => h)
      have hzz : w.heap.size ≤ w6.heap.size := hK6.size
      have hMs : ∀ j b, (sBytes x.nm)[j]? = some b → w6.cell? ((⟨w5.heap.size, 0, none⟩ : Addr).add j) = some (B b) := fun j b hj => by
        have hjl : j < x.nm.size := by have := (List.getElem?_eq_some_iff.1 hj).1; rwa [sBytes_len] at this
        rw [sBytes_get x.nm j hjl] at hj
        rcases hb with h0 | ⟨g2, o2, e, hx⟩
        · omega
        · simp only [Option.some.injEq, Addr.mk.injEq] at e
          obtain ⟨rfl, rfl, _⟩ := e
          rw [Addr.add_lit, hx j hjl, Option.some.inj hj]
      clear hb hk6 hz6 hO5 hK5 hcap
      go_upto_region 6 with fail
      go_wp2_with (first | (refine appL rfl (.tmp 27) (.tmp 33) rfl w.heap.size v5 (l + 2) (cat L M) (by rfl) hO6 ⟨w5.heap.size, 0, none⟩ x.nm.size sc (sBytes x.nm) (by rfl) (sBytes_len _) hMs (by omega) hzz ?_))
      intro v7 w7 hO7 k7
      have hK7 : Kept (fun _ => False) w w7 := kept_ownL hK6 (Nat.le_refl _) hO6 k7
      clear k7 hO6 hK6 hr hMs
      go_wp2_with fail
      go_roundg (gk - 1)
      case measure => have := Hj.out; omega
      case rel =>
        have := Hj.out
        have hl6 := hO7.len
        exact ⟨j + 1, v7, by omega, by go_num, rfl, by rw [HF.out, ← hl6]; exact hO7, hK7⟩
    · obtain rfl : j = xs.length := by omega
      have q1 : ¬ (xs.length : Int) < xs.length := by omega
      have HO := Lib.hid hO0
      clear hO0
      go_wp2_with fail
      go_ret
      exact ⟨_, rfl, HO.out, hK0⟩
end Go.Proofs.YtpekibadleghbaaDoor
namespace Go.Proofs.YtpekibadleghbaaDoor
open Go.RowKit
set_option linter.unusedVariables false
set_option linter.unusedSimpArgs false
def eA : En := ⟨⟨#[97]⟩, 3⟩
theorem putA : putR s1 [] ⟨#[97]⟩ 3 = ([eA], 0) := by kernel_rfl
theorem encA : encR s1 [eA] = ([3#8, 1#8, 97#8], 0) := by kernel_rfl
theorem strA : (strOf 3 (fun i => ([3#8, 1#8, 97#8] : List Byte).getD i 0#8)).toList = [3, 1, 97] := by decide +kernel
theorem eA_size : ∀ i, i < [eA].length → (nthE [eA] i).nm.size ≤ 140737488351232 := by
  intro i hi
  have h0 : i = 0 := by simp at hi; exact hi
  subst h0
  decide
theorem dirPutA (w : World) (hk : KeysAt w) : Calls Tryd.prog 19 #[.agg (Fs 16 s1), .slice none 0 0, .string ⟨#[97]⟩, .int .i64 3] w (ListPost (putR s1 [] ⟨#[97]⟩ 3) w) := put_any s1 none 0 [] ⟨#[97]⟩ 3 w hk (.inl rfl) (by simp) (fun i hi => by simp at hi) (by decide)
theorem OwnE.reads {w : World} {base : Nat} {v : Value} {xs : List En} (ho : w.ownsRow base 68 2 v xs.length (flat ecl xs)) : ∃ a c, v = .slice a xs.length c ∧ ListE w a xs.length (nthE xs) ∧ xs.length ≤ c ∧ c ≤ maxLen := by
  rcases ho.2 with ⟨rfl, h0⟩ | ⟨g, cap, cur, rfl, _⟩
  · exact ⟨none, 0, by rw [h0], .inl h0, by omega, by unfold maxLen; omega⟩
  · obtain ⟨rest, h1, h2, h3, h4, h5, h6⟩ := owns_blk ho
    exact ⟨_, _, rfl, .inr ⟨g, 0, rfl, fun i hi => by rw [Nat.zero_add]; exact h1.at hi⟩, h4, h5⟩
set_option maxRecDepth 100000 in
set_option maxHeartbeats 8000000 in
theorem dirFixed_any (w : World) (hk : KeysAt w) : Calls Tryd.prog 17 #[] w fun e w' => e = .returned (.bool true) ∧ Kept (fun _ => False) w w' := by
  go_enter Tryd.func17, Tryd.ntmps17
  go_wp2_with fail
  have h1 := dirPutA w hk
  rw [putA, Fs_s1] at h1
  refine h1.mono ?_
  rintro r w1 ⟨v1, rfl, ho1, k1⟩
  obtain ⟨a1, c1, rfl, hl1, _, _⟩ := OwnE.reads (xs := [eA]) ho1
  have h2 := encode_any s1 a1 c1 [eA] w1 (hk.kept k1) hl1 (by decide) eA_size
  rw [encA, Fs_s1] at h2
  have H2 := Lib.hid h2
  have HL := Lib.hid hl1
  clear h1 h2 ho1 hl1
  go_wp2_with fail
  refine (H2.out).mono ?_
  rintro r w2 ⟨v2, rfl, ho2, k2⟩
  obtain ⟨a2, c2, rfl, hb2, hn2, _⟩ := OwnL.reads (n := 3) (L := [3#8, 1#8, 97#8]) ho2
  have hK2 : Kept (fun _ => False) w w2 := k1.trans k2 (fun _ _ h => h)
  have hl2 := HL.out.kept k2
  have HB := Lib.hid hb2
  have HN := Lib.hid hn2
  have HL2 := Lib.hid hl2
  clear H2 HL ho2 hb2 hn2 hl2 k1 k2
  go_wp2_with fail
  have hnew : ListE (w2.alloc (.cells #[.string eA.nm, .int .i64 eA.ino] 68)) (some ⟨w2.heap.size, 0, none⟩) 1 (nthE [eA]) :=
    .inr ⟨w2.heap.size, 0, rfl, fun i hi => by
      obtain rfl : i = 0 := by omega
      exact newE' w2 eA⟩
  refine (same_any a1 (some ⟨w2.heap.size, 0, none⟩) 1 c1 1 (nthE [eA]) _ (HL2.out.kept ((Kept.refl _ w2).alloc _)) hnew (by omega)).mono ?_
  rintro r w3 ⟨rfl, k3⟩
  have hK3 : Kept (fun _ => False) w w3 := (hK2.alloc _).trans k3 (fun _ _ h => h)
  have hb3 : BytesAt w3 a2 3 (fun i => ([3#8, 1#8, 97#8] : List Byte).getD i 0#8) := (HB.out.kept ((Kept.refl _ w2).alloc _)).kept k3
  have hcv := conv_str w3 37 9 5 a2 3 c2 _ Tryd.underlying37 Tryd.underlying5 Tryd.underlying9 hb3 HN.out
  have hst := strA
  generalize strOf 3 (fun i => ([3#8, 1#8, 97#8] : List Byte).getD i 0#8) = st at *
  clear hb3 hnew HB HN HL2 k3 hK2
  go_wp2_with fail
  go_ret
  exact ⟨by simp, hK3⟩
end Go.Proofs.YtpekibadleghbaaDoor
