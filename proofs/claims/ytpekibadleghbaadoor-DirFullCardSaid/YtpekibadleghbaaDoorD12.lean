/-
  The reference's After.
-/
import Derived.Test.YtpekibadleghbaaDoorD11
namespace Go.Proofs.YtpekibadleghbaaDoor
open Go.RowKit
set_option linter.unusedVariables false
set_option linter.unusedSimpArgs false
/-- The names of those among the first j that are behind a name. -/
def ftxt (p : En → Bool) (xs : List En) (j : Nat) : List ByteArray := ((xs.take j).filter p).map En.nm
theorem ftxt_zero (p : En → Bool) (xs : List En) : ftxt p xs 0 = [] := by simp [ftxt]
theorem ftxt_succ (p : En → Bool) (xs : List En) (j : Nat) (h : j < xs.length) : ftxt p xs (j + 1) = if p (nthE xs j) = true then ftxt p xs j ++ [(nthE xs j).nm] else ftxt p xs j := by
  unfold ftxt
  rw [take_snocE xs j h, List.filter_append, List.map_append, List.filter_cons, List.filter_nil]
  split <;> simp
theorem ftxt_le (p : En → Bool) (xs : List En) (j : Nat) : (ftxt p xs j).length ≤ j := by
  unfold ftxt
  have := List.length_filter_le p (xs.take j)
  simp at this ⊢
  omega
theorem ftxt_take (p : En → Bool) (xs : List En) (j : Nat) : ((xs.filter p).map En.nm).take (ftxt p xs j).length = ftxt p xs j := by
  have e : (xs.filter p).map En.nm = ftxt p xs j ++ ((xs.drop j).filter p).map En.nm := by
    unfold ftxt
    rw [← List.map_append, ← List.filter_append, List.take_append_drop]
  rw [e, List.take_left]
set_option maxRecDepth 100000 in
set_option maxHeartbeats 8000000 in
theorem refAfter_any (salt : Nat → Byte) (a : Option Addr) (cap : Nat) (xs : List En) (nm : ByteArray) (n : Int) (w : World) (hk : KeysRef w) (h : ListE w a xs.length (nthE xs)) (hn : xs.length ≤ 140737488351232) (hs : ∀ i, i < xs.length → (nthE xs i).nm.size ≤ 140737488351232) (h2 : nm.size ≤ 140737488351232) (hn1 : n ≤ 9223372036854775807) :
    Calls Tryd.prog 32 #[.agg (Fs 16 salt), .slice a xs.length cap, .string nm, .int .i64 n] w (TextsPost (afterR salt xs nm n) w) := by
  obtain ⟨z, hz⟩ : ∃ z, z = afterR salt xs nm n := ⟨_, rfl⟩
  rw [← hz]
  have HZ := Lib.hid hz
  clear hz
  have qa : (xs.length : Int) ≤ 140737488351232 := by omega
  go_enter Tryd.func32, Tryd.ntmps32
  go_upto_region 1 with fail
  have hS0 : Row (w.alloc (.cells (Fs 16 salt) 22)) w.heap.size 22 16 salt := Row.new w 22 16 salt
  have hK0 : Kept (fun _ => False) w (w.alloc (.cells (Fs 16 salt) 22)) := (Kept.refl _ w).alloc _
  generalize hw0 : w.alloc (.cells (Fs 16 salt) 22) = w0 at *
  obtain ⟨gs, hgs⟩ : ∃ gs, gs = w.heap.size := ⟨_, rfl⟩
  rw [← hgs] at hS0 ⊢
  have HGS := Lib.hid hgs
  clear hw0 hgs
  have hcon := refRight_any salt a xs.length cap (nthE xs) w0 (hk.kept hK0) (h.kept hK0) hn hs
  cases hr : rightB salt (nthE xs) xs.length
  · rw [hr] at hcon
    have HC := Lib.hid hcon
    obtain rfl : z = ([], 3) := by rw [HZ.out]; unfold afterR; rw [hr]; rfl
    clear hcon hr
    go_wp2_with (first | (refine wpList_load_row rfl 22 (.tmp 4) rfl gs rfl 22 (Fs 16 salt) (0, 0) _ hS0 Tryd.underlying22 rfl (info22F _) ?_) | ((with_reducible refine (HC.out).mono ?_); rintro r w1 ⟨rfl, k1⟩))
    go_ret2
    exact TextsPost.nil (hK0.trans k1 (fun _ _ h => h))
  rw [hr] at hcon
  have HC := Lib.hid hcon
  have HR := Lib.hid hr
  obtain ⟨l1, l2, l3⟩ := right_len hn hr
  clear hcon hr
  by_cases hneg : n < 0
  · obtain rfl : z = ([], 2) := by rw [HZ.out]; unfold afterR; rw [if_pos HR.out, if_pos hneg]
    go_wp2_with (first | (refine wpList_load_row rfl 22 (.tmp 4) rfl gs rfl 22 (Fs 16 salt) (0, 0) _ hS0 Tryd.underlying22 rfl (info22F _) ?_) | ((with_reducible refine (HC.out).mono ?_); rintro r w1 ⟨rfl, k1⟩))
    go_ret2
    exact TextsPost.nil (hK0.trans k1 (fun _ _ h => h))
  go_upto_region 5 with (first | (refine wpList_load_row rfl 22 (.tmp 4) rfl gs rfl 22 (Fs 16 salt) (0, 0) _ hS0 Tryd.underlying22 rfl (info22F _) ?_) | ((with_reducible refine (HC.out).mono ?_); rintro r w1 ⟨rfl, k1⟩; clear HC))
  have hS1 : Row w1 gs 22 16 salt := k1.at hS0 (fun h => h)
  have hK1 : Kept (fun _ => False) w w1 := hK0.trans k1 (fun _ _ h => h)
  clear k1 hS0 hK0
  obtain ⟨m, hm⟩ : ∃ m : Nat, n = m := ⟨n.toNat, by omega⟩
  subst hm
  obtain ⟨p, hp⟩ : ∃ p, p = aftB salt nm := ⟨_, rfl⟩
  have hz : z = (((xs.filter p).map En.nm).take m, 0) := by rw [HZ.out, hp]; unfold afterR; rw [if_pos HR.out, if_neg (by omega), Int.toNat_natCast]
  have HZ2 := Lib.hid hz
  have HP := Lib.hid hp
  clear hz HZ hneg hp
  go_upto_region 7 with fail
  go_loopg [10, 11] xs.length (fun k so si wr => ∃ (j l : Nat) (ad : Option Addr) (cp : Nat), j + k = xs.length ∧ si = .int .i64 (j : Int) ∧ so = .slice ad l cp ∧ l ≤ m ∧ (ftxt p xs j).length = l ∧ OwnS wr (w.heap.size + 1) (.slice ad l cp) l (ftxt p xs j) ∧ Row wr gs 22 16 salt ∧ Kept (fun _ => False) w wr)
  case atStart => exact ⟨0, 0, none, 0, by omega, rfl, rfl, by omega, by rw [ftxt_zero]; rfl, by rw [ftxt_zero]; exact OwnS.nil _ _, hS1, hK1⟩
  case round =>
    clear hS1 hK1
    obtain ⟨j, l, ad, cp, hj, rfl, rfl, hlm, hll, hO0, hS0, hK0⟩ := hrel
    have Hj := Lib.hid hj
    have hjn : j ≤ xs.length := by omega
    have hz0 : w.heap.size + 1 ≤ wr.heap.size := by have := hS0.lt; have := HGS.out; omega
    have hlj : l ≤ j := by rw [← hll]; exact ftxt_le p xs j
    have HLL := Lib.hid hll
    clear hj hll
    by_cases hlt : j < xs.length
    · have q1 : (j : Int) < xs.length := by omega
      have q2 : (0 : Int) ≤ j := by omega
      by_cases hm2 : l < m
      · have q3 : (l : Int) < m := by omega
        obtain ⟨g, o, rfl, hc⟩ := h.resolve_left (by omega)
        have hxs := (one_size (okTo_one salt (nthE xs) xs.length (rightB_ok HR.out) j hlt)).2.1
        have hcj := hc j hlt
        have hF := ftxt_succ p xs j hlt
        obtain ⟨x, hx⟩ : ∃ x, x = nthE xs j := ⟨_, rfl⟩
        rw [← hx] at hxs hcj hF
        have HF := Lib.hid hF
        have HCJ := Lib.hid hcj
        clear hc hx hF hcj
        obtain ⟨c0, c1⟩ := HCJ.out.kept hK0
        go_upto_region 9 with fail
        cases he : nm.toList.isEmpty
        · have he2 : nm.toList ≠ [] := fun e => by rw [e] at he; cases he
          have hpx : p x = decide (0 < orderOf salt x.nm nm) := by rw [HP.out]; unfold aftB; rw [he]; rfl
          obtain ⟨q, hq⟩ : ∃ q, q = orderOf salt x.nm nm := ⟨_, rfl⟩
          have hord := fun W hk => refOrder_any salt x.nm nm W hk (by omega) h2
          rw [← hq] at hord hpx
          have HPX := Lib.hid hpx
          have HORD := Lib.hid hord
          clear hord hq hpx
          refine region_perm (fun W => W.cell? ⟨g, o + j * 2, none⟩ = some (.string x.nm) ∧ Row W gs 22 16 salt) [(0, true), (1, true), (2, true), (3, true), (4, true), (5, true), (6, true), (7, true), (8, true), (9, true), (10, false), (11, true), (12, true)] (by kernel_rfl) (by kernel_rfl) (by intro c a d v w h; cases d <;> exact h) ⟨c0, hS0⟩ ?_
          repeat (first | (apply HeldSeq.take; (focus rfl); (focus rfl); (focus (intro W hS; obtain ⟨e0, _⟩ := hS; go_simp; (try go_bits); rfl)); simp only [List.getElem_toArray]; (try simp only [List.getElem_cons_succ]); (try simp only [List.getElem_cons_zero]); simp only [Act.put, List.setIfInBounds_toArray]; (try simp only [List.set_cons_succ]); (try simp only [List.set_cons_zero])) | (apply HeldSeq.skip; (focus rfl); (focus rfl); simp only [List.getElem_toArray]; (try simp only [List.getElem_cons_succ]); (try simp only [List.getElem_cons_zero]); simp only [Act.put, List.setIfInBounds_toArray]; (try simp only [List.set_cons_succ]); (try simp only [List.set_cons_zero])))
          refine HeldSeq.take rfl rfl (fun W hS => yields_row 22 (.tmp 4) rfl gs rfl 22 (Fs 16 salt) (0, 0) _ hS.2 Tryd.underlying22 rfl (info22F _)) ?_
          simp only [List.getElem_toArray]; (try simp only [List.getElem_cons_succ]); (try simp only [List.getElem_cons_zero]); simp only [Act.put, List.setIfInBounds_toArray]; (try simp only [List.set_cons_succ]); (try simp only [List.set_cons_zero])
          repeat (first | (apply HeldSeq.take; (focus rfl); (focus rfl); (focus (intro W hS; obtain ⟨e0, _⟩ := hS; go_simp; (try go_bits); rfl)); simp only [List.getElem_toArray]; (try simp only [List.getElem_cons_succ]); (try simp only [List.getElem_cons_zero]); simp only [Act.put, List.setIfInBounds_toArray]; (try simp only [List.set_cons_succ]); (try simp only [List.set_cons_zero])) | (apply HeldSeq.skip; (focus rfl); (focus rfl); simp only [List.getElem_toArray]; (try simp only [List.getElem_cons_succ]); (try simp only [List.getElem_cons_zero]); simp only [Act.put, List.setIfInBounds_toArray]; (try simp only [List.set_cons_succ]); (try simp only [List.set_cons_zero])))
          refine HeldSeq.run rfl rfl (fun K hK => ?_)
          go_simp
          refine (HORD.out wr.drew (hk.kept hK0.drew)).mono ?_
          rintro r w4 ⟨rfl, k4⟩
          have hS4 : Row w4 gs 22 16 salt := k4.at hS0 (fun h => h)
          have hO4 : OwnS w4 (w.heap.size + 1) (.slice ad l cp) l (ftxt p xs j) := owns_keptS (w := wr.drew) hO0 k4 (fun _ _ h => h)
          have hK4 : Kept (fun _ => False) w w4 := hK0.drew.trans k4 (fun _ _ h => h)
          have hz4 : w.heap.size + 1 ≤ w4.heap.size := by have := hS4.lt; have := HGS.out; omega
          have c4 : w4.cell? ⟨g, o + j * 2, none⟩ = some (.string x.nm) := k4.cell c0
          refine hK _ _ ⟨c4, hS4⟩ ?_
          clear hK K k4 hK0 hS0 hO0 c0 c1 hz0 c4
          by_cases hq0 : 0 < q
          · have hF2 : ftxt p xs (j + 1) = ftxt p xs j ++ [x.nm] := by rw [HF.out, HPX.out, decide_eq_true hq0]; rfl
            have HF2 := Lib.hid hF2
            clear hF2
            repeat (first | (apply HeldSeq.take; (focus rfl); (focus rfl); (focus (intro W hS; obtain ⟨e0, _⟩ := hS; go_simp; (try go_bits); rfl)); simp only [List.getElem_toArray]; (try simp only [List.getElem_cons_succ]); (try simp only [List.getElem_cons_zero]); simp only [Act.put, List.setIfInBounds_toArray]; (try simp only [List.set_cons_succ]); (try simp only [List.set_cons_zero])) | (apply HeldSeq.skip; (focus rfl); (focus rfl); simp only [List.getElem_toArray]; (try simp only [List.getElem_cons_succ]); (try simp only [List.getElem_cons_zero]); simp only [Act.put, List.setIfInBounds_toArray]; (try simp only [List.set_cons_succ]); (try simp only [List.set_cons_zero])))
            refine HeldSeq.done ?_
            obtain ⟨c0, c1⟩ := HCJ.out.kept hK4
            go_wp2_with (first | (refine appS rfl (.tmp 43) (.tmp 49) rfl (w.heap.size + 1) (.slice ad l cp) l (ftxt p xs j) (by rfl) (OwnS.alloc hO4 _) w4.heap.size 1 x.nm (by rfl) (by first | (simp; done) | (simp; rfl)) (by omega) (by rw [size_alloc]; omega) ?_))
            intro v6 w6 hO6 k6
            have hK6 : Kept (fun _ => False) w w6 := kept_ownS (hK4.alloc _) (Nat.le_succ _) (OwnS.alloc hO4 _) k6
            have hS6 : Row w6 gs 22 16 salt := k6.at (hS4.alloc _) (fun h => by have := (owns_ltS hO4 h).1; have := HGS.out; omega)
            obtain ⟨_, ad6, cp6, rfl, _⟩ := owns_readsS hO6
            clear k6 hO4 hK4 hS4
            go_wp2_with fail
            go_roundg (gk - 1)
            case measure => have := Hj.out; omega
            case rel =>
              have := Hj.out
              have hLL := HLL.out
              exact ⟨j + 1, l + 1, ad6, cp6, by omega, by go_num, rfl, by omega, by rw [HF2.out]; simp [hLL], by rw [HF2.out]; exact hO6, hS6, hK6⟩
          · have hF2 : ftxt p xs (j + 1) = ftxt p xs j := by rw [HF.out, HPX.out, decide_eq_false hq0]; rfl
            have HF2 := Lib.hid hF2
            clear hF2
            repeat (first | (apply HeldSeq.take; (focus rfl); (focus rfl); (focus (intro W hS; obtain ⟨e0, _⟩ := hS; go_simp; (try go_bits); rfl)); simp only [List.getElem_toArray]; (try simp only [List.getElem_cons_succ]); (try simp only [List.getElem_cons_zero]); simp only [Act.put, List.setIfInBounds_toArray]; (try simp only [List.set_cons_succ]); (try simp only [List.set_cons_zero])) | (apply HeldSeq.skip; (focus rfl); (focus rfl); simp only [List.getElem_toArray]; (try simp only [List.getElem_cons_succ]); (try simp only [List.getElem_cons_zero]); simp only [Act.put, List.setIfInBounds_toArray]; (try simp only [List.set_cons_succ]); (try simp only [List.set_cons_zero])))
            refine HeldSeq.done ?_
            go_wp2_with fail
            go_roundg (gk - 1)
            case measure => have := Hj.out; omega
            case rel =>
              have := Hj.out
              exact ⟨j + 1, l, ad, cp, by omega, by go_num, rfl, hlm, by rw [HF2.out]; exact HLL.out, by rw [HF2.out]; exact hO4, hS4, hK4⟩
        · have he2 : nm.toList = [] := by simpa using he
          have hpx : p x = true := by rw [HP.out]; unfold aftB; rw [he]; rfl
          have hF2 : ftxt p xs (j + 1) = ftxt p xs j ++ [x.nm] := by rw [HF.out, hpx]; rfl
          have HF2 := Lib.hid hF2
          clear hF2 hpx
          refine region_perm (fun W => W.cell? ⟨g, o + j * 2, none⟩ = some (.string x.nm)) [(0, true), (1, true), (2, true), (3, true), (4, true), (5, true), (6, true), (7, true), (8, true), (9, true), (10, false), (11, true), (12, true)] (by kernel_rfl) (by kernel_rfl) (by intro c a d v w h; cases d <;> exact h) c0 ?_
          repeat (first | (apply HeldSeq.take; (focus rfl); (focus rfl); (focus (intro W hS; obtain e0 := hS; go_simp; (try go_bits); rfl)); simp only [List.getElem_toArray]; (try simp only [List.getElem_cons_succ]); (try simp only [List.getElem_cons_zero]); simp only [Act.put, List.setIfInBounds_toArray]; (try simp only [List.set_cons_succ]); (try simp only [List.set_cons_zero])) | (apply HeldSeq.skip; (focus rfl); (focus rfl); simp only [List.getElem_toArray]; (try simp only [List.getElem_cons_succ]); (try simp only [List.getElem_cons_zero]); simp only [Act.put, List.setIfInBounds_toArray]; (try simp only [List.set_cons_succ]); (try simp only [List.set_cons_zero])))
          refine HeldSeq.pass rfl rfl c0 ?_
          repeat (first | (apply HeldSeq.take; (focus rfl); (focus rfl); (focus (intro W hS; obtain e0 := hS; go_simp; (try go_bits); rfl)); simp only [List.getElem_toArray]; (try simp only [List.getElem_cons_succ]); (try simp only [List.getElem_cons_zero]); simp only [Act.put, List.setIfInBounds_toArray]; (try simp only [List.set_cons_succ]); (try simp only [List.set_cons_zero])) | (apply HeldSeq.skip; (focus rfl); (focus rfl); simp only [List.getElem_toArray]; (try simp only [List.getElem_cons_succ]); (try simp only [List.getElem_cons_zero]); simp only [Act.put, List.setIfInBounds_toArray]; (try simp only [List.set_cons_succ]); (try simp only [List.set_cons_zero])))
          refine HeldSeq.done ?_
          have hO4 : OwnS wr.drew (w.heap.size + 1) (.slice ad l cp) l (ftxt p xs j) := hO0
          have hS4 : Row wr.drew gs 22 16 salt := hS0
          have hK4 : Kept (fun _ => False) w wr.drew := hK0.drew
          have hz4 : w.heap.size + 1 ≤ wr.drew.heap.size := hz0
          obtain ⟨w4, hw4⟩ : ∃ w4, w4 = wr.drew := ⟨_, rfl⟩
          rw [← hw4] at hO4 hS4 hK4 hz4 ⊢
          clear hw4 hO0 hS0 hK0 hz0 c0 c1
          obtain ⟨c0, c1⟩ := HCJ.out.kept hK4
          go_wp2_with (first | (refine appS rfl (.tmp 43) (.tmp 49) rfl (w.heap.size + 1) (.slice ad l cp) l (ftxt p xs j) (by rfl) (OwnS.alloc hO4 _) w4.heap.size 1 x.nm (by rfl) (by first | (simp; done) | (simp; rfl)) (by omega) (by rw [size_alloc]; omega) ?_))
          intro v6 w6 hO6 k6
          have hK6 : Kept (fun _ => False) w w6 := kept_ownS (hK4.alloc _) (Nat.le_succ _) (OwnS.alloc hO4 _) k6
          have hS6 : Row w6 gs 22 16 salt := k6.at (hS4.alloc _) (fun h => by have := (owns_ltS hO4 h).1; have := HGS.out; omega)
          obtain ⟨_, ad6, cp6, rfl, _⟩ := owns_readsS hO6
          clear k6 hO4 hK4 hS4
          go_wp2_with fail
          go_roundg (gk - 1)
          case measure => have := Hj.out; omega
          case rel =>
            have := Hj.out
            have hLL := HLL.out
            exact ⟨j + 1, l + 1, ad6, cp6, by omega, by go_num, rfl, by omega, by rw [HF2.out]; simp [hLL], by rw [HF2.out]; exact hO6, hS6, hK6⟩
      · obtain rfl : l = m := by omega
        have q3 : ¬ (l : Int) < l := by omega
        have hO := owns_lowerS hO0 (Nat.le_succ w.heap.size)
        have HO := Lib.hid hO
        have ht := ftxt_take p xs j
        rw [HLL.out] at ht
        obtain rfl : z = (ftxt p xs j, 0) := by rw [HZ2.out, ht]
        clear hO hO0 ht
        go_wp2_with fail
        go_ret2
        exact ⟨_, rfl, by show OwnS _ _ _ (ftxt p xs j).length _; rw [HLL.out]; exact HO.out, hK0⟩
    · obtain rfl : j = xs.length := by omega
      have q1 : ¬ (xs.length : Int) < xs.length := by omega
      have hO := owns_lowerS hO0 (Nat.le_succ w.heap.size)
      have HO := Lib.hid hO
      have ht : ((xs.filter p).map En.nm).take m = ftxt p xs xs.length := by
        have : (xs.filter p).map En.nm = ftxt p xs xs.length := by unfold ftxt; rw [List.take_length]
        rw [this, List.take_of_length_le (by rw [HLL.out]; exact hlm)]
      obtain rfl : z = (ftxt p xs xs.length, 0) := by rw [HZ2.out, ht]
      clear hO hO0 ht
      go_wp2_with fail
      go_ret2
      exact ⟨_, rfl, by show OwnS _ _ _ (ftxt p xs xs.length).length _; rw [HLL.out]; exact HO.out, hK0⟩
end Go.Proofs.YtpekibadleghbaaDoor
