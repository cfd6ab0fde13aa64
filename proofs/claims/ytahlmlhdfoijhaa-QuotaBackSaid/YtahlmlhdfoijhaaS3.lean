/-
  slices.DeleteFunc with the closure that knows an owner.
-/
import Derived.Test.YtahlmlhdfoijhaaS2
namespace Go.Proofs.Ytahlmlhdfoijhaa
open Go.RowKit
theorem Blk.uat {w : World} {g : Nat} {xs : List U} {r : List Value} (h : Blk w g 29 (flat ucl xs ++ r)) {i : Nat} (hi : i < xs.length) : UAt w g (i * 5) (nth xs i) := by
  have key : ∀ j, j < 5 → w.cell? ⟨g, i * 5 + j, none⟩ = (ucl (nth xs i))[j]? := fun j hj => by
    rw [h.cell, flat_get ucl_len xs r i j hi hj, nth_eq xs i hi]
  exact ⟨key 0 (by omega), key 1 (by omega), key 2 (by omega), key 3 (by omega), key 4 (by omega)⟩
def others (xs : List U) (uid : Int) : List U := xs.filter fun x => !decide (x.uid = uid)
theorem take_snocU (xs : List U) (j : Nat) (h : j < xs.length) : xs.take (j + 1) = xs.take j ++ [nth xs j] := by
  rw [List.take_succ_eq_append_getElem h, nth_eq xs j h]
theorem others_take_yes (xs : List U) (uid : Int) (j : Nat) (h : j < xs.length) (hu : (nth xs j).uid = uid) : others (xs.take (j + 1)) uid = others (xs.take j) uid := by
  unfold others; rw [take_snocU xs j h, List.filter_append]; simp [hu]
theorem others_take_no (xs : List U) (uid : Int) (j : Nat) (h : j < xs.length) (hu : (nth xs j).uid ≠ uid) : others (xs.take (j + 1)) uid = others (xs.take j) uid ++ [nth xs j] := by
  unfold others; rw [take_snocU xs j h, List.filter_append]; simp [hu]
theorem others_none (xs : List U) (uid : Int) (h : ∀ j, j < xs.length → (nth xs j).uid ≠ uid) : others xs uid = xs := by
  unfold others
  rw [List.filter_eq_self]
  intro x hx
  obtain ⟨j, hj, rfl⟩ := List.getElem_of_mem hx
  have := h j hj
  rw [← nth_eq xs j hj] at this
  simp [this]
/-- The state of DeleteFunc's loop. -/
structure DelSt (xs ys : List U) (uid : Int) (i j : Nat) : Prop where
  len : ys.length = xs.length
  lt : i < j
  le : j ≤ xs.length
  kept : ys.take i = others (xs.take j) uid
  ahead : ∀ m, j ≤ m → m < xs.length → nth ys m = nth xs m
theorem DelSt.start (xs : List U) (uid : Int) (i : Nat) (hi : i < xs.length) (hu : (nth xs i).uid = uid) (hf : ∀ j, j < i → (nth xs j).uid ≠ uid) : DelSt xs xs uid i (i + 1) := by
  refine ⟨rfl, by omega, by omega, ?_, fun _ _ _ => rfl⟩
  rw [others_take_yes xs uid i hi hu]
  refine (others_none _ uid fun j hj => ?_).symm
  rw [List.length_take] at hj
  have : nth (xs.take i) j = nth xs j := by
    unfold nth; simp [List.getD, show j < i by omega]
  rw [this]; exact hf j (by omega)
theorem DelSt.yes {xs ys : List U} {uid : Int} {i j : Nat} (h : DelSt xs ys uid i j) (hj : j < xs.length) (hu : (nth xs j).uid = uid) : DelSt xs ys uid i (j + 1) :=
  ⟨h.len, by have := h.lt; omega, by omega, by rw [others_take_yes xs uid j hj hu]; exact h.kept, fun m hm hl => h.ahead m (by omega) hl⟩
theorem DelSt.no {xs ys : List U} {uid : Int} {i j : Nat} (h : DelSt xs ys uid i j) (hj : j < xs.length) (hu : (nth xs j).uid ≠ uid) : DelSt xs (ys.set i (nth xs j)) uid (i + 1) (j + 1) := by
  have hlt := h.lt
  have hlen := h.len
  refine ⟨by rw [List.length_set]; exact h.len, by omega, by omega, ?_, fun m hm hl => ?_⟩
  · rw [others_take_no xs uid j hj hu, ← h.kept, List.take_succ_eq_append_getElem (by rw [List.length_set]; omega), List.take_set_of_le (Nat.le_refl i)]
    simp
  · have := h.ahead m (by omega) hl
    rw [← this]
    unfold nth
    rw [List.getD_eq_getElem?_getD, List.getD_eq_getElem?_getD, List.getElem?_set_ne (by omega), List.getD_eq_getElem?_getD]
theorem spl_cut {α : Type} {cells : α → List Value} {k : Nat} (hk : ∀ x, (cells x).length = k) (ys : List α) (r zs : List Value) (i : Nat) (hi : i ≤ ys.length) (hz : zs.length = (ys.length - i) * k) :
    spl (flat cells ys ++ r) (i * k) zs = flat cells (ys.take i) ++ (zs ++ r) := by
  have h1 : i * k ≤ ys.length * k := Nat.mul_le_mul_right k hi
  have h2 : i * k + zs.length = (flat cells ys).length := by rw [hz, flat_length hk, Nat.sub_mul]; omega
  unfold spl
  rw [List.take_append_of_le_length (by rw [flat_length hk]; omega), flat_take hk, h2, List.drop_append_of_le_length (Nat.le_refl _), List.drop_length]
  simp
theorem zero_one (n : Nat) : ∀ v ∈ (Builtin.zeroCells (U.cs ⟨0, 0, 0, 0, 0⟩) n).toList, v.oneCell' = true := by
  intro v hv
  simp only [Builtin.zeroCells, Array.toList_map, List.mem_map] at hv
  obtain ⟨i, _, rfl⟩ := hv
  have h5 : i % (U.cs ⟨0, 0, 0, 0, 0⟩).size < 5 := Nat.mod_lt _ (by simp)
  generalize i % (U.cs ⟨0, 0, 0, 0, 0⟩).size = m at h5
  have : m = 0 ∨ m = 1 ∨ m = 2 ∨ m = 3 ∨ m = 4 := by omega
  rcases this with rfl | rfl | rfl | rfl | rfl <;> rfl
set_option maxHeartbeats 2000000 in
theorem delete_any (g cap : Nat) (xs : List U) (rest : List Value) (u : U) (gb : Nat) (w : World) (hB : Blk w g 29 (flat ucl xs ++ rest)) (hlen : (flat ucl xs ++ rest).length = cap * 5) (hx : xs.length ≤ cap) (hcap : cap ≤ 9223372036854775807) (hsm : xs.length ≤ 140737488351232)
    (hne : gb ≠ g) (hb : RowV w gb 29 u.cs) :
    Calls Try.prog 22 #[.slice (some ⟨g, 0, none⟩) xs.length cap, .func (.func 24) #[] #[.pointer (some ⟨gb, 0, none⟩)]] w fun r w' =>
      ∃ rest', r = .returned (.slice (some ⟨g, 0, none⟩) (others xs u.uid).length cap) ∧ Blk w' g 29 (flat ucl (others xs u.uid) ++ rest') ∧ (flat ucl (others xs u.uid) ++ rest').length = cap * 5 ∧ Kept (fun k => k = g) w w' := by
  have HB := Lib.hid hB
  have Hb := Lib.hid hb
  have Hlen := Lib.hid hlen
  clear hB hb hlen
  have hL : ListAt w (some ⟨g, 0, none⟩) xs.length (nth xs) := .inr ⟨g, 0, rfl, fun i hi => by rw [Nat.zero_add]; exact HB.out.uat hi⟩
  have hq : xs.length ≤ 140737488351232 := hsm
  go_enter Try.func22, Try.ntmps22
  go_upto_region 2 with (go_at_call 28; refine (index_any _ _ _ (nth xs) u gb _ hL hq Hb.out).mono ?_; rintro r w2 ⟨⟨i, hi, hu, hf, rfl⟩ | ⟨hf, rfl⟩, hk2⟩)
  · have Hf := Lib.hid hf
    have Hu := Lib.hid hu
    have HB2 := Lib.hid (HB.out.kept hk2 (fun h => h))
    have Hb2 := Lib.hid (Hb.out.kept hk2 (fun h => h))
    have HK2 := Lib.hid hk2
    clear hf hu hk2 hL
    have q1 : (0 : Int) ≤ i := by omega
    have q2 : (i : Int) < xs.length := by omega
    have q3 : (xs.length : Int) ≤ 140737488351232 := by omega
    go_wp2_with fail
    go_loopg [5, 6] (xs.length + 1) (fun k si sj wr => ∃ (i j : Nat) (ys : List U), xs.length + 1 ≤ j + k ∧ si = .int .i64 (i : Int) ∧ sj = .int .i64 (j : Int) ∧ DelSt xs ys u.uid i j ∧ Blk wr g 29 (flat ucl ys ++ rest) ∧ Kept (fun k => k = g) w wr)
    case atStart => exact ⟨i, i + 1, xs, by omega, rfl, by go_num, DelSt.start xs u.uid i hi Hu.out Hf.out, HB2.out, HK2.out.mono (fun _ _ h => h.elim)⟩
    case round =>
      clear Hf Hu HB2 Hb2 HK2 q1 q2
      obtain ⟨i, j, ys, hj, rfl, rfl, hD, hB, hK⟩ := hrel
      have Hj := Lib.hid hj
      have HD := Lib.hid hD
      have HB1 := Lib.hid hB
      have hlt := hD.lt
      have hle := hD.le
      have hlen := hD.len
      have Hlen2 := Lib.hid hlen
      clear hj hD hB hlen
      by_cases hjl : j < xs.length
      · have q4 : (j : Int) < xs.length := by omega
        have q5 : (i : Int) < xs.length := by omega
        obtain ⟨a0, a1, a2, a3, a4⟩ := HB1.out.uat (i := j) (by have := Hlen2.out; omega)
        rw [HD.out.ahead j (Nat.le_refl _) hjl] at a0 a1 a2 a3 a4
        go_upto_region 8 with fail
        generalize hw0 : World.alloc wr _ = w3
        have h7 : RowV w3 wr.heap.size 29 (nth xs j).cs := by rw [← hw0]; exact RowV.new wr _ _
        have hB3 : Blk w3 g 29 (flat ucl ys ++ rest) := by rw [← hw0]; exact HB1.out.alloc _
        have hK3 : Kept (fun k => k = g) w w3 := by rw [← hw0]; exact hK.alloc _
        have hglt := HB1.out.lt
        clear hw0 hK a0 a1 a2 a3 a4
        have hdlen := HD.out.len
        by_cases hu : (nth xs j).uid = u.uid
        · have hd : decide ((nth xs j).uid = u.uid) = true := decide_eq_true hu
          have Hu := Lib.hid hu
          clear hu hdlen
          obtain ⟨c0, c1, c2, c3, c4⟩ := h7.u
          go_wp2_with (go_at_call 24; refine (knows_any (nth xs j) u gb _ (Hb.out.kept hK3 (fun h => absurd h hne))).mono ?_; rw [hd]; rintro r w4 ⟨rfl, hk4⟩)
          go_roundg (gk - 1)
          case measure => have := Hj.out; omega
          case rel =>
            have := Hj.out
            exact ⟨i, j + 1, ys, by omega, rfl, by go_num, HD.out.yes hjl Hu.out, hB3.kept hk4 (fun h => h), hK3.trans hk4 (fun _ _ h => h.elim)⟩
        · have hd : decide ((nth xs j).uid = u.uid) = false := decide_eq_false hu
          have Hu := Lib.hid hu
          have hiy : i < ys.length := by omega
          have Hfit := Lib.hid (show i * 5 + (nth xs j).cs.size ≤ (flat ucl ys ++ rest).length by
            rw [List.length_append, flat_length ucl_len]; simp; omega)
          have Hset := Lib.hid (flat_set (cells := ucl) ucl_len ys rest i (nth xs j) hiy)
          have qi : (0 : Int) ≤ i := by omega
          clear hu hdlen hiy
          obtain ⟨c0, c1, c2, c3, c4⟩ := h7.u
          go_upto_region 9 with (go_at_call 24; refine (knows_any (nth xs j) u gb _ (Hb.out.kept hK3 (fun h => absurd h hne))).mono ?_; rw [hd]; rintro r w4 ⟨rfl, hk4⟩)
          have h7' : RowV w4 wr.heap.size 29 (nth xs j).cs := h7.kept hk4 (fun h => h)
          have hB4 : Blk w4 g 29 (flat ucl ys ++ rest) := hB3.kept hk4 (fun h => h)
          have hK4 : Kept (fun k => k = g) w w4 := hK3.trans hk4 (fun _ _ h => h.elim)
          clear c0 c1 c2 c3 c4 h7 hB3 hK3 hk4
          go_wp2_with (first | (refine wpList_load_row rfl 29 (.tmp 7) rfl wr.heap.size rfl 29 (nth xs j).cs (0, 0) _ h7' Try.underlying29 rfl (info29 _) ?_) | (refine wpList_storeK rfl 29 (.tmp 33) (.tmp 32) rfl g (i * 5) (nth xs j).cs (by rfl) (by rfl) 29 _ hB4 (info29 _) Hfit.out (one_cs _) ?_))
          go_roundg (gk - 1)
          case measure => have := Hj.out; omega
          case rel =>
            have := Hj.out
            refine ⟨i + 1, j + 1, ys.set i (nth xs j), by omega, by go_num, by go_num, HD.out.no hjl Hu.out, ?_, hK4.setRow (fun _ => rfl) _⟩
            rw [← Hset.out]
            exact hB4.row _
      · obtain rfl : j = xs.length := by omega
        have HO : Hid (ys.take i = others xs u.uid) := Lib.hid (by have := HD.out.kept; rwa [List.take_length] at this)
        have hdlen := HD.out.len
        have q4 : (i : Int) < xs.length := by omega
        have q0 : (0 : Int) ≤ i := by omega
        have q5 : (i : Int) ≤ cap := by omega
        have q6 : ¬ (cap = i) := by omega
        have q7 : (cap : Int) ≤ 9223372036854775807 := by omega
        have Hcl := fun (W : World) (h : Blk W g 29 (flat ucl ys ++ rest)) ty c => run_clearK (P := Try.prog) W 22 ty 29 (U.cs ⟨0, 0, 0, 0, 0⟩) 5 g (i * 5) (xs.length - i) c _ 29 Try.underlying22 (by kernel_rfl) rfl h (by omega) (by rw [List.length_append, flat_length ucl_len]; omega) (zero_one _)
        have HCL := Lib.hid Hcl
        clear Hcl hdlen
        go_wp2_with (refine wpList_clearK rfl (.tmp 38) 22 rfl (by rfl) (HCL.out _ HB1.out _ _) ?_)
        go_ret
        have hlen2 := HD.out.len
        have hL2 : (others xs u.uid).length = i := by rw [← HO.out, List.length_take]; omega
        have hz : (Builtin.zeroCells (U.cs ⟨0, 0, 0, 0, 0⟩) (xs.length - i)).toList.length = (ys.length - i) * 5 := by rw [Array.length_toList, size_zeroCells]; simp; omega
        have hs := spl_cut (cells := ucl) ucl_len ys rest _ i (by omega) hz
        refine ⟨(Builtin.zeroCells (U.cs ⟨0, 0, 0, 0, 0⟩) (xs.length - i)).toList ++ rest, by rw [hL2]; rfl, ?_, ?_, hK.setRow (fun _ => rfl) _⟩
        · have := HB1.out.row (spl (flat ucl ys ++ rest) (i * 5) (Builtin.zeroCells (U.cs ⟨0, 0, 0, 0, 0⟩) (xs.length - i)).toList)
          rw [hs, HO.out] at this
          rw [hs, HO.out]
          exact this
        · have h3 := Hlen.out
          rw [List.length_append, flat_length ucl_len] at h3 ⊢
          rw [List.length_append, hz, hL2]
          omega
  · have HO : Hid (others xs u.uid = xs) := Lib.hid (others_none xs u.uid hf)
    clear hf
    go_wp2_with fail
    go_ret
    exact ⟨rest, by rw [HO.out]; rfl, by rw [HO.out]; exact HB.out.kept hk2 (fun h => h), by rw [HO.out]; exact Hlen.out, hk2.mono (fun _ _ h => h.elim)⟩
end Go.Proofs.Ytahlmlhdfoijhaa
