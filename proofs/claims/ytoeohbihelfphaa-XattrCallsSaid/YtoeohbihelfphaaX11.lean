/-
  The law's copies; the reference's Index.
-/
import Derived.Test.YtoeohbihelfphaaX10
import Derived.Deep.Upon
namespace Go.Proofs.Ytoeohbihelfphaa
open Go.RowKit
set_option linter.unusedVariables false
set_option linter.unusedSimpArgs false
theorem run_push0X (w : World) (ty : TypeId) (x : Addr) (a : Option Addr) (c : Nat) : (Builtin.append_ #[24, 24] ty #[.slice (some x) 0 0, .slice a 0 c]).run Try.prog w = .ok (.slice (some x) 0 0) w := by
  refine run_append_nothing w 24 24 ty 5 _ Try.underlying24 info5L (some x) 0 0 (Nat.le_refl _) _ ?_
  cases a with
  | none => exact Src.ofNil w Try.underlying24 c
  | some y => exact Src.ofSlice w Try.underlying24 y 0 c [] (by simp) (fun j u h => by simp at h) (fun u h => by simp at h)
set_option maxRecDepth 100000 in
theorem wp_appB {o : Oper} {a : Act} {w : World} {K : Act → World → Prop} {Q : Exit → Act → World → Prop} (s x : Operand) (ho : o.op = .call { callee := .builtin .append, args := #[s, x], argTypes := #[24, 24] })
    (base g : Nat) (hs : a.eval s = .slice (some ⟨g, 0, none⟩) 0 0) (hown : OwnL w base (.slice (some ⟨g, 0, none⟩) 0 0) 0 []) (b : Option Addr) (m c : Nat) (val : List Byte) (hx : a.eval x = .slice b m c) (hl : val.length = m) (h0 : b = none → m = 0) (hb : BytesAt w b m (fun i => val.getD i 0#8)) (hn : m ≤ 140737488351232) (hbase : base ≤ w.heap.size)
    (h : ∀ v' w', OwnL w' base v' m val → Kept (fun k => k = g) w w' → K (a.put o.dst v') w') : o.wp Try.prog a w K Q := by
  rcases Nat.eq_zero_or_pos m with hm | hm
  · subst hm
    obtain rfl := List.eq_nil_of_length_eq_zero hl
    have hr := run_push0X w o.type ⟨g, 0, none⟩ b c
    unfold Oper.wp execOp
    simp only [ho, resolve, invoke, builtin, Sem.run_bind, Sem.run_pure, Result.andThen_ok, List.map_toArray, List.map_cons, List.map_nil, hs, hx, hr]
    exact h _ _ hown (Kept.refl _ w)
  · obtain ⟨g', o', rfl, hc⟩ := hb.resolve_left (by omega)
    obtain ⟨v', w', hr, h1, h2, _, _⟩ := run_append_own_at (P := Try.prog) w base 24 o.type 5 _ _ 1 1 Try.underlying24 info5L zero5L size5L bytes5L rfl (by omega) _ 0 [] hown ⟨g', o', none⟩ m c (val.map B) (by simp [hl]) (fun j u hj => by
      rw [List.getElem?_map] at hj
      cases hv : val[j]? with
      | none => rw [hv] at hj; cases hj
      | some z =>
        rw [hv] at hj
        have hjn : j < m := by have := (List.getElem?_eq_some_iff.1 hv).1; omega
        rw [Addr.add_lit, hc j hjn]
        simp at hj
        rw [← hj]
        simp [hv]) (fun u hu => by
      simp only [List.mem_map] at hu
      obtain ⟨z, _, rfl⟩ := hu
      rfl) (by unfold maxLen; omega) (by omega) hbase
    unfold Oper.wp execOp
    simp only [ho, resolve, invoke, builtin, Sem.run_bind, Sem.run_pure, Result.andThen_ok, List.map_toArray, List.map_cons, List.map_nil, hs, hx, hr]
    refine h v' w' ?_ ((Kept.grownX h2).mono (fun i _ e => by simpa [Value.ownBlock] using e.symm))
    rw [Nat.zero_add, List.nil_append] at h1
    exact h1
set_option maxRecDepth 100000 in
set_option maxHeartbeats 8000000 in
theorem lawCopied_any (a : Option Addr) (cap : Nat) (cs : List Xc) (xs : List Xa) (w : World) (h : XsAt w a cs xs) (hn : xs.length * 40 ≤ 140737488351232) (hv : ∀ i, i < xs.length → (nthA xs i).val.length ≤ 140737488351232) :
    Calls Try.prog 6 #[.slice a xs.length cap] w (CopyPost xs w) := by
  obtain ⟨n, hxn⟩ : ∃ n, n = xs.length := ⟨_, rfl⟩
  have HXN := Lib.hid hxn
  rw [← hxn] at hn ⊢
  have HAT := Lib.hid (fun (i : Nat) (hi : i < xs.length) W (k : Kept (fun _ => False) w W) => (h.kept k).at hi)
  have HV := Lib.hid hv
  have qn : (n : Int) ≤ 140737488351232 := by omega
  clear h hxn hv
  go_enter Try.func6, Try.ntmps6
  go_wp2_with fail
  go_loopg [3, 8] n (fun k s3 s8 wr => ∃ (j : Nat) (v : Value) (L : List Xc), j + k = n ∧ s8 = .int .i64 (j : Int) ∧ v = s3 ∧ CopyOk wr w.heap.size v L (xs.take j) ∧ Kept (fun _ => False) w wr)
  case atStart => exact ⟨0, _, [], by omega, rfl, rfl, CopyOk.nil _ _, Kept.refl _ w⟩
  case round =>
    obtain ⟨j, v, L, hj, rfl, rfl, hO, hK⟩ := hrel
    have Hj := Lib.hid hj
    have hjn : j ≤ n := by omega
    have hz : w.heap.size ≤ wr.heap.size := hK.size
    clear hj
    by_cases hlt : j < n
    · have q1 : (j : Int) < n := by omega
      have q2 : (0 : Int) ≤ j := by omega
      have hjx : j < xs.length := by rw [← HXN.out]; exact hlt
      obtain ⟨g, o, b, m, c, rfl, c0, c1, hm, hmc, _, hb0, hb⟩ := HAT.out j hjx wr hK
      have hvl := HV.out j hjx
      have HVA := Lib.hid (show ∀ W, Kept (fun _ => False) wr W → (nthA xs j).val.length = m ∧ (b = none → m = 0) ∧ BytesAt W b m (fun i => (nthA xs j).val.getD i 0#8) from fun W k => ⟨hm.symm, hb0, hb.kept k⟩)
      obtain ⟨nm, hnm⟩ : ∃ nm, nm = (nthA xs j).nm := ⟨_, rfl⟩
      rw [← hnm] at c0
      have HNM := Lib.hid hnm
      have HO := Lib.hid hO
      have hml : m ≤ 140737488351232 := by omega
      clear hnm hm hmc hb0 hb hvl hO
      go_upto_region 5 with fail
      obtain ⟨d0, d1⟩ := newX wr nm b m c
      have hvb : ∀ k, v.ownBlock = some k → k < wr.heap.size := fun k hk => (HO.out.own.blk hk).2.1
      have hk1 : Kept (fun _ => False) wr (wr.alloc (.cells #[.string nm, .slice b m c] 26)) := (Kept.refl _ wr).alloc _
      have hO1 := HO.out.moved hk1 (fun _ _ h => h) (fun _ _ _ h => h)
      replace HO := Lib.hid hO1
      generalize (wr.alloc (.cells #[.string nm, .slice b m c] 26)) = w1 at *
      generalize wr.heap.size = gx at *
      have HVB := Lib.hid hvb
      have HK1 := Lib.hid hk1
      have hgz : gx < w1.heap.size := block_lt_of_cell d0
      have hK1 : Kept (fun _ => False) w w1 := hK.trans hk1 (fun _ _ h => h)
      clear hO1 c0 c1 hk1 hK hvb
      refine region_perm (fun W => W.cell? ⟨gx, 0, none⟩ = some (.string nm) ∧ W.cell? ⟨gx, 1, none⟩ = some (.slice b m c)) [(0, true), (1, true), (2, true), (4, true), (5, true), (3, false), (6, false), (7, true), (8, false), (9, false), (10, true)] (by kernel_rfl) (by kernel_rfl) (by intro c a d v w h; cases d <;> exact h) ⟨d0, d1⟩ ?_
      repeat (first | (apply HeldSeq.take; (focus rfl); (focus rfl); (focus (intro W hS; obtain ⟨e0, e1⟩ := hS; go_simp; (try go_bits); rfl)); simp only [List.getElem_toArray]; (try simp only [List.getElem_cons_succ]); (try simp only [List.getElem_cons_zero]); simp only [Act.put, List.setIfInBounds_toArray]; (try simp only [List.set_cons_succ]); (try simp only [List.set_cons_zero])) | (apply HeldSeq.skip; (focus rfl); (focus rfl); simp only [List.getElem_toArray]; (try simp only [List.getElem_cons_succ]); (try simp only [List.getElem_cons_zero]); simp only [Act.put, List.setIfInBounds_toArray]; (try simp only [List.set_cons_succ]); (try simp only [List.set_cons_zero])))
      refine HeldSeq.run rfl rfl (fun K hK => ?_)
      go_simp
      have ka : Kept (fun _ => False) w1 (w1.alloc (.cells #[] 5)).drew := ((Kept.refl _ w1).alloc _).drew
      refine hK _ _ ⟨ka.cell d0, ka.cell d1⟩ ?_
      clear hK K
      have hwa : OwnL (w1.alloc (.cells #[] 5)).drew w1.heap.size (.slice (some ⟨w1.heap.size, 0, none⟩) 0 0) 0 [] := World.ownsRow_made w1 #[] 0 (Nat.le_refl _) (by unfold maxLen; omega) rfl
      have hza : w1.heap.size ≤ (w1.alloc (.cells #[] 5)).drew.heap.size := ka.size
      generalize (w1.alloc (.cells #[] 5)).drew = wa at *
      refine HeldSeq.run rfl rfl (fun K hK => ?_)
      obtain ⟨v1, v2, v3⟩ := HVA.out wa (HK1.out.trans ka (fun _ _ h => h))
      refine wp_appB (.tmp 15) (.tmp 17) rfl w1.heap.size w1.heap.size (by rfl) hwa b m c (nthA xs j).val (by rfl) v1 v2 v3 hml hza ?_
      intro u w2 hu k2
      obtain ⟨ua, uc, rfl, _⟩ := hu.reads
      have k12 : Kept (fun _ => False) w1 w2 := ka.trans k2 (fun i hi h => by omega)
      have e0' := k12.cell d0
      have e1' := k12.cell d1
      have hK2 : Kept (fun _ => False) w w2 := hK1.trans k12 (fun _ _ h => h)
      have hO2 := HO.out.moved k12 (fun _ _ h => h) (fun _ _ _ h => h)
      have hu2 : OwnL w2 w.heap.size (.slice ua m uc) m (nthA xs j).val := hu.lower hK1.size
      have HO2 := Lib.hid hO2
      have HU2 := Lib.hid hu2
      refine hK _ _ ⟨e0', e1'⟩ ?_
      clear hK K hu hu2 hO2 k2 k12 HO hK1 HVA d0 d1 HK1 ka hwa hza v1 v2 v3
      repeat (first | (apply HeldSeq.take; (focus rfl); (focus rfl); (focus (intro W hS; obtain ⟨e0, e1⟩ := hS; go_simp; (try go_bits); rfl)); simp only [List.getElem_toArray]; (try simp only [List.getElem_cons_succ]); (try simp only [List.getElem_cons_zero]); simp only [Act.put, List.setIfInBounds_toArray]; (try simp only [List.set_cons_succ]); (try simp only [List.set_cons_zero])) | (apply HeldSeq.skip; (focus rfl); (focus rfl); simp only [List.getElem_toArray]; (try simp only [List.getElem_cons_succ]); (try simp only [List.getElem_cons_zero]); simp only [Act.put, List.setIfInBounds_toArray]; (try simp only [List.set_cons_succ]); (try simp only [List.set_cons_zero])))
      refine HeldSeq.run rfl rfl (fun K hK => ?_)
      go_simp
      have hE3 : XAt (w2.alloc (.cells #[.string nm, .slice ua m uc] 26)) w2.heap.size 0 ⟨nm, ua, m, uc⟩ := newX w2 nm ua m uc
      have hk3 : Kept (fun _ => False) w2 (w2.alloc (.cells #[.string nm, .slice ua m uc] 26)) := (Kept.refl _ w2).alloc _
      have hO3 := HO2.out.moved hk3 (fun _ _ h => h) (fun _ _ _ h => h)
      have hu3 := HU2.out.kept hk3 (fun _ _ h => h)
      have f0 := hk3.cell e0'
      have f1 := hk3.cell e1'
      have hK3 : Kept (fun _ => False) w (w2.alloc (.cells #[.string nm, .slice ua m uc] 26)) := hK2.trans hk3 (fun _ _ h => h)
      have hz3 := hK3.size
      refine hK _ _ ⟨f0, f1⟩ ?_
      clear hK K hk3 HO2 HU2 hK2
      generalize (w2.alloc (.cells #[.string nm, .slice ua m uc] 26)) = w3 at *
      generalize w2.heap.size = g3 at *
      have hlj : L.length = j := by have := hO3.len; simp at this; omega
      have hown := hO3.own
      rw [show (xs.take j).length = j by simp; omega] at hown
      have HO3 := Lib.hid hO3
      have HU3 := Lib.hid hu3
      clear hO3 hu3
      refine HeldSeq.run rfl rfl (fun K hK => ?_)
      refine wp_appX (.tmp 12) (.tmp 20) rfl w.heap.size v j L (by rfl) hown g3 1 ⟨nm, ua, m, uc⟩ (by rfl) hE3 (by omega) hz3 ?_
      intro v4 w4 ho4 k4
      have hK4 : Kept (fun _ => False) w w4 := hK3.trans k4 (fun i hi h => by have := (hown.blk h).1; omega)
      have hval : ∀ i, i < j → OwnL w4 w.heap.size (.slice (nthC L i).a (nthC L i).n (nthC L i).c) (nthC L i).n (nthA xs i).val := fun i hi => by
        have h1 := HO3.out.val i (by simp; omega)
        rw [nthA_take xs _ _ hi] at h1
        exact h1.kept k4 (fun k hk h => apart_XL hown h1 h hk)
      have hnm2 : ∀ i, i < j → (nthC L i).nm = (nthA xs i).nm := fun i hi => by
        have h1 := HO3.out.nm i (by simp; omega)
        rw [nthA_take xs _ _ hi] at h1
        exact h1
      have hC4 := CopyOk.snoc hjx hlj hnm2 hval (x := ⟨nm, ua, m, uc⟩) ho4 HNM.out (HU3.out.kept k4 (fun k hk h => apart_XL hown HU3.out h hk))
      have HC4 := Lib.hid hC4
      have g0 : w4.cell? ⟨gx, 0, none⟩ = some (.string nm) := by
        rw [World.cell?_of_block (w := w3) (k4.block gx (block_lt_of_cell f0) (fun h => by have := HVB.out gx h; omega))]; exact f0
      have g1 : w4.cell? ⟨gx, 1, none⟩ = some (.slice b m c) := by
        rw [World.cell?_of_block (w := w3) (k4.block gx (block_lt_of_cell f0) (fun h => by have := HVB.out gx h; omega))]; exact f1
      refine hK _ _ ⟨g0, g1⟩ ?_
      clear hK K k4 ho4 hC4 hval hnm2 hown hE3 f0 f1 e0' e1' hlj
      repeat (first | (apply HeldSeq.take; (focus rfl); (focus rfl); (focus (intro W hS; obtain ⟨e0, e1⟩ := hS; go_simp; (try go_bits); rfl)); simp only [List.getElem_toArray]; (try simp only [List.getElem_cons_succ]); (try simp only [List.getElem_cons_zero]); simp only [Act.put, List.setIfInBounds_toArray]; (try simp only [List.set_cons_succ]); (try simp only [List.set_cons_zero])) | (apply HeldSeq.skip; (focus rfl); (focus rfl); simp only [List.getElem_toArray]; (try simp only [List.getElem_cons_succ]); (try simp only [List.getElem_cons_zero]); simp only [Act.put, List.setIfInBounds_toArray]; (try simp only [List.set_cons_succ]); (try simp only [List.set_cons_zero])))
      refine HeldSeq.done ?_
      go_wp2_with fail
      go_roundg (gk - 1)
      case measure => have := Hj.out; omega
      case rel => have := Hj.out; exact ⟨j + 1, v4, _, by omega, by go_num, rfl, HC4.out, hK4⟩
    · obtain rfl : n = j := by omega
      have q1 : ¬ (n : Int) < n := by omega
      have HO := Lib.hid hO
      clear hO
      go_wp2_with fail
      go_ret
      exact ⟨_, L, rfl, by have := HO.out; rw [HXN.out, List.take_length] at this; exact this, hK⟩
def XIndexPost (xs : List Xa) (nm : ByteArray) (w : World) (r : Ending) (w' : World) : Prop :=
  ∃ z : Int, r = .returned (.int .i64 z) ∧ ((z = -1 ∧ idxX (nthA xs) nm xs.length = none) ∨ ∃ i : Nat, z = i ∧ idxX (nthA xs) nm xs.length = some i) ∧ w' = w
set_option maxRecDepth 100000 in
set_option maxHeartbeats 4000000 in
theorem xrefIndex_any (a : Option Addr) (cap : Nat) (cs : List Xc) (xs : List Xa) (nm : ByteArray) (w : World) (h : XsAt w a cs xs) (hn : xs.length ≤ 140737488351232) :
    Calls Try.prog 8 #[.slice a xs.length cap, .string nm] w (XIndexPost xs nm w) := by
  obtain ⟨n, hxn⟩ : ∃ n, n = xs.length := ⟨_, rfl⟩
  have HXN := Lib.hid hxn
  rw [← hxn] at hn ⊢
  have q3 : (n : Int) ≤ 140737488351232 := by omega
  clear hxn
  go_enter Try.func8, Try.ntmps8
  go_wp2_with fail
  go_loopg [5] n (fun k i wr => ∃ j : Nat, j + k = n ∧ j ≤ n ∧ i = .int .i64 (j : Int) ∧ (∀ m, m < j → (nthA xs m).nm ≠ nm) ∧ wr = w)
  case atStart => exact ⟨0, by omega, by omega, rfl, fun m hm => by omega, rfl⟩
  case round =>
    obtain ⟨j, hj, hj2, rfl, hno, hw⟩ := hrel
    subst hw
    have Hj := Lib.hid hj
    have HN := Lib.hid hno
    clear hj hno
    by_cases hlt : j < n
    · have q1 : (j : Int) < n := by omega
      have q2 : (0 : Int) ≤ j := by omega
      have hjx : j < xs.length := by rw [← HXN.out]; exact hlt
      obtain ⟨g, o, b, m, c, rfl, c0, c1, hrest⟩ := h.at hjx
      clear hrest
      cases he : (nthA xs j).nm.toList == nm.toList
      · have HNE := Lib.hid (show (nthA xs j).nm ≠ nm from fun e => by rw [e] at he; simp at he)
        generalize (nthA xs j).nm = mn at c0 he
        go_wp2_with fail
        go_roundg (gk - 1)
        case measure => have := Hj.out; omega
        case rel =>
          have := Hj.out
          refine ⟨j + 1, by omega, by omega, by go_num, fun m hm => ?_, rfl⟩
          by_cases e : m = j
          · subst e; exact HNE.out
          · exact HN.out m (by omega)
      · have HEQ := Lib.hid (toListX (show (nthA xs j).nm.toList = nm.toList by simpa using he))
        have HJX := Lib.hid hjx
        clear hjx
        go_wp2_with fail
        go_ret
        exact ⟨_, rfl, .inr ⟨j, rfl, idxX_some HEQ.out HN.out _ HJX.out⟩, rfl⟩
    · obtain rfl : n = j := by omega
      have q1 : ¬ (n : Int) < n := by omega
      go_wp2_with fail
      go_ret
      exact ⟨_, rfl, .inl ⟨rfl, idxX_none _ (by rw [← HXN.out]; exact HN.out)⟩, rfl⟩
end Go.Proofs.Ytoeohbihelfphaa
