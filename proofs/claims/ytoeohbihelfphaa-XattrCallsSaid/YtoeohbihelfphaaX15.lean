/-
  The reference's Drop of attributes.
-/
import Derived.Test.YtoeohbihelfphaaX14
namespace Go.Proofs.Ytoeohbihelfphaa
open Go.RowKit
set_option linter.unusedVariables false
set_option linter.unusedSimpArgs false
set_option maxRecDepth 100000 in
theorem appX {ops : Array Oper} {rest : List Oper} {o : Oper} {a : Act} {w : World} {Q : Exit → Act → World → Prop} (hgd : o.guard = none) (s x : Operand) (ho : o.op = .call { callee := .builtin .append, args := #[s, x], argTypes := #[22, 22] })
    (base : Nat) (v : Value) (n : Nat) (L : List Xc) (hs : a.eval s = v) (hown : OwnX w base v n L) (g c : Nat) (e : Xc) (hx : a.eval x = .slice (some ⟨g, 0, none⟩) 1 c) (hc : XAt w g 0 e)
    (hn : n + 1 ≤ 1000000) (hbase : base ≤ w.heap.size)
    (h : ∀ v' w', OwnX w' base v' (n + 1) (L ++ [e]) → Kept (fun k => v.ownBlock = some k) w w' → wpList Try.prog ops Q rest (a.put o.dst v') w') : wpList Try.prog ops Q (o :: rest) a w := by
  refine wpList_append_own_at _ hgd s x 22 ho base 26 _ _ 2 40 Try.underlying22 infoX zeroX sizeX bytesX rfl (by omega) v n (flat xcl L) hs hown ⟨g, 0, none⟩ 1 c (xcl e) hx rfl (xcells hc) (xcl_one e) (by unfold maxLen; omega) (by omega) hbase ?_
  intro v' w2 h1 h2 _ _
  refine h v' w2 ?_ (Kept.grownX h2)
  unfold OwnX
  rw [flat_append, flat_cons, flat_nil, List.append_nil]
  exact h1
/-- A list that the reference made: its own row; its values lie where they lay. -/
structure RefOk (w0 w : World) (v : Value) (L : List Xc) (ys : List Xa) : Prop where
  len : L.length = ys.length
  own : OwnX w w0.heap.size v ys.length L
  nm : ∀ i, i < ys.length → (nthC L i).nm = (nthA ys i).nm
  val : ∀ i, i < ys.length → ValAt w0 (nthC L i) (nthA ys i).val
  kept : Kept (fun _ => False) w0 w
theorem RefOk.nil {w0 w : World} (h : Kept (fun _ => False) w0 w) : RefOk w0 w (.slice none 0 0) [] [] := ⟨rfl, OwnX.nil _ _, fun i hi => by simp at hi, fun i hi => by simp at hi, h⟩
theorem RefOk.moved {w0 w w' : World} {v : Value} {L : List Xc} {ys : List Xa} (h : RefOk w0 w v L ys) (k : Kept (fun _ => False) w w') : RefOk w0 w' v L ys :=
  ⟨h.len, h.own.keptX k (fun _ _ h => h), h.nm, h.val, h.kept.trans k (fun _ _ h => h)⟩
theorem nthA_snoc (ys : List Xa) (y : Xa) (i : Nat) : nthA (ys ++ [y]) i = if i < ys.length then nthA ys i else if i = ys.length then y else ⟨⟨#[]⟩, []⟩ := by
  unfold nthA
  rw [List.getD_eq_getElem?_getD, List.getD_eq_getElem?_getD]
  by_cases h : i < ys.length
  · rw [if_pos h, List.getElem?_append_left h]
  · rw [if_neg h, List.getElem?_append_right (by omega)]
    by_cases e : i = ys.length
    · rw [if_pos e, e]; simp
    · rw [if_neg e, List.getElem?_eq_none (by simp; omega)]; rfl
theorem RefOk.snoc {w0 w w' : World} {v v' : Value} {L : List Xc} {ys : List Xa} (h : RefOk w0 w v L ys) {x : Xc} {y : Xa} (hk : Kept (fun k => v.ownBlock = some k) w w') (ho : OwnX w' w0.heap.size v' (ys.length + 1) (L ++ [x])) (h1 : x.nm = y.nm) (h2 : ValAt w0 x y.val) : RefOk w0 w' v' (L ++ [x]) (ys ++ [y]) := by
  have hl := h.len
  refine ⟨by simp; omega, by simpa using ho, fun i hi => ?_, fun i hi => ?_, h.kept.trans hk (fun i hi k => by have := (h.own.blk k).1; omega)⟩
  all_goals
    have hi' : i < ys.length + 1 := by simpa using hi
    rw [nthC_snoc, nthA_snoc, hl]
    by_cases e : i < ys.length
    · rw [if_pos e, if_pos e]
      first | exact h.nm i e | exact h.val i e
    · have e2 : i = ys.length := by omega
      rw [if_neg e, if_neg e, if_pos e2, if_pos e2]
      first | exact h1 | exact h2
theorem RefOk.reads {w0 w : World} {v : Value} {L : List Xc} {ys : List Xa} (h : RefOk w0 w v L ys) : ∃ a c, v = .slice a ys.length c ∧ XsAt w a L ys := by
  obtain ⟨hl, a, c, rfl, _, _, hlist⟩ := h.own.form
  exact ⟨a, c, rfl, h.len, hlist, h.nm, fun i hi => (h.val i hi).kept h.kept⟩
def RefPost (R : List Xa × Int) (w : World) (r : Ending) (w' : World) : Prop :=
  ∃ v L, r = .returned (.tuple #[v, .int .i64 R.2]) ∧ RefOk w w' v L R.1
theorem RefPost.nil {e : Int} {w w' : World} (h : Kept (fun _ => False) w w') : RefPost ([], e) w (.returned (.tuple #[.slice none 0 0, .int .i64 e])) w' := ⟨_, [], rfl, RefOk.nil h⟩
theorem filter_succ (xs : List Xa) (p : Xa → Bool) (j : Nat) (h : j < xs.length) : (xs.take (j + 1)).filter p = (xs.take j).filter p ++ if p (nthA xs j) then [nthA xs j] else [] := by
  rw [List.take_succ_eq_append_getElem h, List.filter_append, nthA_eq xs j h]
  cases hp : p (nthA xs j) <;> simp [hp]
set_option maxRecDepth 100000 in
set_option maxHeartbeats 8000000 in
theorem xrefDrop_any (a : Option Addr) (cap : Nat) (cs : List Xc) (xs : List Xa) (nm : ByteArray) (w : World) (h : XsAt w a cs xs) (hn : xs.length ≤ 140737488351232) (hs : ∀ i, i < xs.length → (nthA xs i).nm.size ≤ 140737488351232) (hv : ∀ i, i < xs.length → (nthA xs i).val.length ≤ 140737488351232) :
    Calls Try.prog 14 #[.slice a xs.length cap, .string nm] w (RefPost (dropX xs nm) w) := by
  have HC := Lib.hid (xrefRight_any a cap cs xs w h hn hs hv)
  have HI := Lib.hid (show ∀ W, Kept (fun _ => False) w W → Calls Try.prog 8 #[.slice a xs.length cap, .string nm] W (XIndexPost xs nm W) from fun W k => xrefIndex_any a cap cs xs nm W (h.kept k) hn)
  obtain ⟨z, hz⟩ : ∃ z, z = dropX xs nm := ⟨_, rfl⟩
  rw [← hz]
  have HZ := Lib.hid hz
  obtain ⟨n, hxn⟩ : ∃ n, n = xs.length := ⟨_, rfl⟩
  have HXN := Lib.hid hxn
  have HAT := Lib.hid (fun (i : Nat) (hi : i < xs.length) W (k : Kept (fun _ => False) w W) => (h.kept k).at hi)
  have HVA := Lib.hid (fun (i : Nat) (hi : i < xs.length) => h.at hi)
  rw [← hxn]
  replace HI := Lib.hid (by have := HI.out; rw [← hxn] at this; exact this)
  cases hr : rightX (nthA xs) xs.length
  · have HC2 := Lib.hid (by have := HC.out; rw [hr] at this; rw [← hxn] at this; exact this)
    obtain rfl : z = ([], 3) := by rw [HZ.out]; unfold dropX; rw [hr]; rfl
    clear hr HC hz hs hv hn hxn h
    go_enter Try.func14, Try.ntmps14
    go_wp2_with (first | ((with_reducible refine (HC2.out).mono ?_); rintro r w1 ⟨rfl, k1⟩))
    go_ret2
    exact RefPost.nil k1
  · have HC2 := Lib.hid (by have := HC.out; rw [hr] at this; rw [← hxn] at this; exact this)
    have h4 : n ≤ 4 := by rw [hxn]; exact (rightX_ok hr).1
    have HD := Lib.hid (drop_casesX (xs := xs) hr nm)
    clear hr HC hz hs hv hn hxn h
    go_enter Try.func14, Try.ntmps14
    go_upto_region 3 with (first | ((with_reducible refine (HC2.out).mono ?_); rintro r w1 ⟨rfl, k1⟩))
    go_wp2_with fail
    refine (HI.out w1 k1).mono ?_
    rintro r w2 ⟨y, rfl, hy, rfl⟩
    rcases HD.out with ⟨hi, hd⟩ | ⟨i, hi, hd⟩
    · obtain rfl : y = -1 := by
        rcases hy with ⟨h1, _⟩ | ⟨i', h1, h2⟩
        · exact h1
        · rw [hi] at h2; cases h2
      obtain rfl : z = ([], 4) := by rw [HZ.out, hd]
      clear hy hi hd HD
      go_wp2_with fail
      go_ret2
      exact RefPost.nil k1
    · obtain ⟨i', rfl⟩ : ∃ i' : Nat, y = (i' : Int) := by
        rcases hy with ⟨_, h2⟩ | ⟨i', h1, _⟩
        · rw [hi] at h2; cases h2
        · exact ⟨i', h1⟩
      have p1 : ¬ (i' : Int) < 0 := by omega
      have HZ2 := Lib.hid (show z = (xs.filter (notA nm), 0) by rw [HZ.out, hd])
      clear hy hi hd HD HZ
      go_wp2_with fail
      go_loopg [6, 7] n (fun k s6 s7 wr => ∃ (j : Nat) (v : Value) (L : List Xc), j + k = n ∧ s7 = .int .i64 (j : Int) ∧ v = s6 ∧ RefOk w wr v L ((xs.take j).filter (notA nm)))
      case atStart => exact ⟨0, _, [], by omega, rfl, rfl, RefOk.nil k1⟩
      case round =>
        obtain ⟨j, v, L, hj, rfl, rfl, hO⟩ := hrel
        have Hj := Lib.hid hj
        have HO := Lib.hid hO
        have hjn : j ≤ n := by omega
        clear hj hO
        by_cases hlt : j < n
        · have q1 : (j : Int) < n := by omega
          have q2 : (0 : Int) ≤ j := by omega
          have hjx : j < xs.length := by rw [← HXN.out]; exact hlt
          obtain ⟨g, o, b, m, c, ha, c0, c1, hm, hmc, hc9, hb0, hb⟩ := HAT.out j hjx wr HO.out.kept
          obtain ⟨g', o', b', m', c', ha', c0', c1', hm', hmc', hc9', hb0', hb'⟩ := HVA.out j hjx
          rw [ha] at ha'
          obtain ⟨rfl, rfl⟩ : g = g' ∧ o = o' := by simpa using ha'
          have hsame := (HO.out.kept.cell c1').symm.trans c1
          obtain ⟨rfl, rfl, rfl⟩ : b' = b ∧ m' = m ∧ c' = c := by simpa using hsame
          have HVV := Lib.hid (show ValAt w ⟨(nthA xs j).nm, b', m', c'⟩ (nthA xs j).val from ⟨hm'.symm, hmc', hc9', hb0', hb'⟩)
          have HF := Lib.hid (filter_succ xs (notA nm) j hjx)
          subst ha
          clear hm hmc hc9 hb0 hb ha' c0' c1' hm' hmc' hc9' hb0' hb' hsame
          obtain ⟨x, hx⟩ : ∃ x, x = nthA xs j := ⟨_, rfl⟩
          rw [← hx] at c0
          replace HVV := Lib.hid (by have := HVV.out; rw [← hx] at this; exact this)
          replace HF := Lib.hid (by have := HF.out; rw [← hx] at this; exact this)
          obtain ⟨xn, xv⟩ := x
          dsimp only at c0
          clear hx
          cases he : xn.toList == nm.toList
          · have hz2 := HO.out.kept.size
            have HN := Lib.hid (show notA nm ⟨xn, xv⟩ = true by unfold notA; simp [he])
            have hlen : ((xs.take j).filter (notA nm)).length ≤ 4 := by
              have := List.length_filter_le (notA nm) (xs.take j); have h2 : (xs.take j).length ≤ j := by simp; omega
              omega
            have hk2 : Kept (fun _ => False) wr (wr.alloc (.cells #[.string xn, .slice b' m' c'] 26)) := (Kept.refl _ wr).alloc _
            have HO2 := Lib.hid (HO.out.moved hk2)
            have HE2 := Lib.hid (show XAt (wr.alloc (.cells #[.string xn, .slice b' m' c'] 26)) wr.heap.size 0 ⟨xn, b', m', c'⟩ from newX wr xn b' m' c')
            clear hk2
            go_wp2_with (first | (refine appX rfl (.tmp 28) (.tmp 33) rfl w.heap.size v ((xs.take j).filter (notA nm)).length L (by rfl) HO2.out.own wr.heap.size 1 ⟨xn, b', m', c'⟩ (by rfl) HE2.out (by omega) HO2.out.kept.size ?_))
            intro v2 w2 ho2 k2
            have HO3 := Lib.hid (HO2.out.snoc (y := ⟨xn, xv⟩) k2 ho2 rfl HVV.out)
            clear ho2 k2
            go_wp2_with fail
            go_roundg (gk - 1)
            case measure => have := Hj.out; omega
            case rel => have := Hj.out; exact ⟨j + 1, v2, _, by omega, by go_num, rfl, by rw [HF.out, HN.out]; exact HO3.out⟩
          · have HN := Lib.hid (show notA nm ⟨xn, xv⟩ = false by unfold notA; simp [he])
            go_wp2_with fail
            go_roundg (gk - 1)
            case measure => have := Hj.out; omega
            case rel => have := Hj.out; exact ⟨j + 1, v, L, by omega, by go_num, rfl, by rw [HF.out, HN.out]; simpa using HO.out⟩
        · obtain rfl : n = j := by omega
          have q1 : ¬ (n : Int) < n := by omega
          go_wp2_with fail
          go_ret2
          have hz9 := HZ2.out
          clear HZ2
          subst hz9
          exact ⟨_, L, rfl, by have := HO.out; rw [HXN.out, List.take_length] at this; exact this⟩
end Go.Proofs.Ytoeohbihelfphaa
