/-
  Attributes copied into new memory.
-/
import Derived.Test.YtoeohbihelfphaaX5
namespace Go.Proofs.Ytoeohbihelfphaa
open Go.RowKit
set_option linter.unusedVariables false
set_option linter.unusedSimpArgs false
theorem infoX : Try.prog.info? 26 = some ((Try.prog.info? 26).getD default) := by kernel_rfl
theorem zeroX : ((Try.prog.info? 26).getD default).zero = some (.agg #[.string ⟨#[]⟩, .slice none 0 0]) := by kernel_rfl
theorem sizeX : ((Try.prog.info? 26).getD default).size = 2 := by kernel_rfl
theorem bytesX : ((Try.prog.info? 26).getD default).bytes = 40 := by kernel_rfl
def OwnX (w : World) (base : Nat) (v : Value) (n : Nat) (L : List Xc) : Prop := w.ownsRow base 26 2 v n (flat xcl L)
theorem OwnX.nil (w : World) (base : Nat) : OwnX w base (.slice none 0 0) 0 [] := World.ownsRow_nil w base 26 2
theorem OwnX.alloc {w : World} {base : Nat} {v : Value} {n : Nat} {L : List Xc} (h : OwnX w base v n L) (o : Obj) : OwnX (w.alloc o) base v n L := World.ownsRow.alloc h o
theorem OwnX.blk {w : World} {b : Nat} {v : Value} {n : Nat} {L : List Xc} (h : OwnX w b v n L) {k : Nat} (hk : v.ownBlock = some k) : b ≤ k ∧ k < w.heap.size ∧ ∃ cur, w.heap[k]? = some (.cells cur 26 (0, 0)) := by
  rcases h.2 with ⟨rfl, _⟩ | ⟨g, cap, cur, rfl, hb, hh, _⟩
  · simp [Value.ownBlock] at hk
  · have e1 : g = k := by simpa [Value.ownBlock] using hk
    subst e1
    exact ⟨hb, lt_of_at hh, cur, hh⟩
theorem OwnL.blk {w : World} {b : Nat} {v : Value} {n : Nat} {L : List Byte} (h : OwnL w b v n L) {k : Nat} (hk : v.ownBlock = some k) : ∃ cur, w.heap[k]? = some (.cells cur 5 (0, 0)) := by
  rcases h.2 with ⟨rfl, _⟩ | ⟨g, cap, cur, rfl, hb, hh, _⟩
  · simp [Value.ownBlock] at hk
  · have e1 : g = k := by simpa [Value.ownBlock] using hk
    subst e1
    exact ⟨cur, hh⟩
theorem apart_XL {w : World} {b b' : Nat} {v u : Value} {n m : Nat} {L : List Xc} {M : List Byte} (hs : OwnX w b v n L) (hi : OwnL w b' u m M) {k : Nat} (h1 : v.ownBlock = some k) (h2 : u.ownBlock = some k) : False := by
  obtain ⟨_, _, cur, hh⟩ := hs.blk h1
  obtain ⟨cur', hh'⟩ := hi.blk h2
  rw [hh] at hh'
  have := Option.some.inj hh'
  injection this with _ h3 _
  exact absurd h3 (by decide)
theorem OwnX.keptX {w w' : World} {base : Nat} {v : Value} {n : Nat} {L : List Xc} {S : Nat → Prop} (ho : OwnX w base v n L) (hk : Kept S w w') (hn : ∀ k, v.ownBlock = some k → ¬ S k) : OwnX w' base v n L := by
  refine ⟨ho.1, ?_⟩
  rcases ho.2 with h | ⟨g, cap, cur, hv, hb, hh, r⟩
  · exact .inl h
  · exact .inr ⟨g, cap, cur, hv, hb, by rw [hk.block g (lt_of_at hh) (hn g (by rw [hv]; rfl))]; exact hh, r⟩
theorem OwnX.lower {w : World} {base base' : Nat} {v : Value} {n : Nat} {L : List Xc} (ho : OwnX w base v n L) (hb : base' ≤ base) : OwnX w base' v n L := by
  refine ⟨ho.1, ?_⟩
  rcases ho.2 with h | ⟨g, cap, cur, hv, hg, r⟩
  · exact .inl h
  · exact .inr ⟨g, cap, cur, hv, by omega, r⟩
theorem OwnX.form {w : World} {base : Nat} {v : Value} {n : Nat} {L : List Xc} (ho : OwnX w base v n L) : n = L.length ∧ ∃ a c, v = .slice a n c ∧ n ≤ c ∧ c ≤ maxLen ∧ ListC w a n (nthC L) := by
  have hl : n = L.length := by
    have h1 := ho.1
    rw [flat_length xcl_len] at h1; omega
  refine ⟨hl, ?_⟩
  rcases ho.2 with ⟨rfl, rfl⟩ | ⟨g, cap, cur, rfl, hb, hg, hn, hc, hs, ht⟩
  · exact ⟨_, _, rfl, Nat.le_refl _, by unfold maxLen; omega, .inl rfl⟩
  · refine ⟨_, _, rfl, hn, hc, .inr ⟨g, 0, rfl, fun i hi => ?_⟩⟩
    have key : ∀ j u, (flat xcl L)[j]? = some u → w.cell? ⟨g, j, none⟩ = some u := fun j u hj => by
      rw [cell_of_row w g j cur 26 _ hg]
      have e : (cur.toList.take (n * 2))[j]? = some u := by rw [ht]; exact hj
      rw [List.getElem?_take] at e
      split at e
      · simpa using e
      · cases e
    have hi' : i < L.length := by omega
    have f0 := flat_get xcl_len L [] i 0 hi' (by omega)
    have f1 := flat_get xcl_len L [] i 1 hi' (by omega)
    rw [nthC_eq L i hi', List.append_nil] at f0 f1
    refine ⟨key _ _ ?_, key _ _ ?_⟩
    · rw [Nat.zero_add]
      simpa [xcl] using f0
    · rw [Nat.zero_add]
      simpa [xcl] using f1
/-- Copies of attributes: rows and values of one's own. -/
structure CopyOk (w : World) (base : Nat) (v : Value) (L : List Xc) (xs : List Xa) : Prop where
  len : L.length = xs.length
  own : OwnX w base v xs.length L
  nm : ∀ i, i < xs.length → (nthC L i).nm = (nthA xs i).nm
  val : ∀ i, i < xs.length → OwnL w base (.slice (nthC L i).a (nthC L i).n (nthC L i).c) (nthC L i).n (nthA xs i).val
theorem CopyOk.nil (w : World) (base : Nat) : CopyOk w base (.slice none 0 0) [] [] := ⟨rfl, OwnX.nil _ _, fun i hi => by simp at hi, fun i hi => by simp at hi⟩
theorem xcells {w : World} {g : Nat} {x : Xc} (h : XAt w g 0 x) : ∀ j u, (xcl x)[j]? = some u → w.cell? ((⟨g, 0, none⟩ : Addr).add j) = some u := fun j u hj => by
  have hl : j < 2 := (List.getElem?_eq_some_iff.1 hj).1
  rw [Addr.add_lit]
  rcases j with _ | _ | j
  · have : u = .string x.nm := by simpa [xcl] using hj.symm
    rw [this]; exact h.1
  · have : u = .slice x.a x.n x.c := by simpa [xcl] using hj.symm
    rw [this]; exact h.2
  · omega
set_option maxRecDepth 100000 in
theorem wp_appX {o : Oper} {a : Act} {w : World} {K : Act → World → Prop} {Q : Exit → Act → World → Prop} (s x : Operand) (ho : o.op = .call { callee := .builtin .append, args := #[s, x], argTypes := #[22, 22] })
    (base : Nat) (v : Value) (n : Nat) (L : List Xc) (hs : a.eval s = v) (hown : OwnX w base v n L) (g c : Nat) (e : Xc) (hx : a.eval x = .slice (some ⟨g, 0, none⟩) 1 c) (hc : XAt w g 0 e)
    (hn : (n + 1) * 40 ≤ 140737488355328) (hbase : base ≤ w.heap.size)
    (h : ∀ v' w', OwnX w' base v' (n + 1) (L ++ [e]) → Kept (fun k => v.ownBlock = some k) w w' → K (a.put o.dst v') w') : o.wp Try.prog a w K Q := by
  obtain ⟨v', w', hr, h1, h2, _, _⟩ := run_append_own_at (P := Try.prog) w base 22 o.type 26 _ _ 2 40 Try.underlying22 infoX zeroX sizeX bytesX rfl (by omega) v n (flat xcl L) hown ⟨g, 0, none⟩ 1 c (xcl e) rfl (xcells hc) (xcl_one e) (by unfold maxLen; omega) (by omega) hbase
  unfold Oper.wp execOp
  simp only [ho, resolve, invoke, builtin, Sem.run_bind, Sem.run_pure, Result.andThen_ok, List.map_toArray, List.map_cons, List.map_nil, hs, hx, hr]
  refine h v' w' ?_ (Kept.grownX h2)
  unfold OwnX
  rw [flat_append, flat_cons, flat_nil, List.append_nil]
  exact h1
theorem nthC_snoc (L : List Xc) (x : Xc) (i : Nat) : nthC (L ++ [x]) i = if i < L.length then nthC L i else if i = L.length then x else ⟨⟨#[]⟩, none, 0, 0⟩ := by
  unfold nthC
  rw [List.getD_eq_getElem?_getD, List.getD_eq_getElem?_getD]
  by_cases h : i < L.length
  · rw [if_pos h, List.getElem?_append_left h]
  · rw [if_neg h, List.getElem?_append_right (by omega)]
    by_cases e : i = L.length
    · rw [if_pos e, e]; simp
    · rw [if_neg e, List.getElem?_eq_none (by simp; omega)]; rfl
theorem nthA_take (xs : List Xa) (j i : Nat) (h : i < j) : nthA (xs.take j) i = nthA xs i := by
  unfold nthA
  rw [List.getD_eq_getElem?_getD, List.getD_eq_getElem?_getD, List.getElem?_take, if_pos h]
theorem CopyOk.snoc {w : World} {base : Nat} {v : Value} {L : List Xc} {xs : List Xa} {j : Nat} (hj : j < xs.length) (hl : L.length = j) (hnm : ∀ i, i < j → (nthC L i).nm = (nthA xs i).nm)
    (hv : ∀ i, i < j → OwnL w base (.slice (nthC L i).a (nthC L i).n (nthC L i).c) (nthC L i).n (nthA xs i).val) {x : Xc} (ho : OwnX w base v (j + 1) (L ++ [x])) (h1 : x.nm = (nthA xs j).nm) (h2 : OwnL w base (.slice x.a x.n x.c) x.n (nthA xs j).val) : CopyOk w base v (L ++ [x]) (xs.take (j + 1)) := by
  have hlen : (xs.take (j + 1)).length = j + 1 := by simp; omega
  have key : ∀ i, i < j + 1 → (i < j ∧ nthC (L ++ [x]) i = nthC L i) ∨ (i = j ∧ nthC (L ++ [x]) i = x) := fun i hi => by
    rw [nthC_snoc]
    by_cases e : i < j
    · exact .inl ⟨e, by rw [if_pos (by omega)]⟩
    · exact .inr ⟨by omega, by rw [if_neg (by omega), if_pos (by omega)]⟩
  refine ⟨by simp; omega, by rw [hlen]; exact ho, fun i hi => ?_, fun i hi => ?_⟩
  · rw [hlen] at hi
    rw [nthA_take xs _ _ hi]
    rcases key i hi with ⟨e1, e2⟩ | ⟨rfl, e2⟩
    · rw [e2]; exact hnm i e1
    · rw [e2]; exact h1
  · rw [hlen] at hi
    rw [nthA_take xs _ _ hi]
    rcases key i hi with ⟨e1, e2⟩ | ⟨rfl, e2⟩
    · rw [e2]; exact hv i e1
    · rw [e2]; exact h2
theorem CopyOk.moved {w w' : World} {base : Nat} {v : Value} {L : List Xc} {xs : List Xa} {S : Nat → Prop} (h : CopyOk w base v L xs) (hk : Kept S w w') (hx : ∀ k, v.ownBlock = some k → ¬ S k) (hv : ∀ k cur, w.heap[k]? = some (.cells cur 5 (0, 0)) → ¬ S k) : CopyOk w' base v L xs :=
  ⟨h.len, h.own.keptX hk hx, h.nm, fun i hi => (h.val i hi).kept hk (fun k hk' => by obtain ⟨cur, hc⟩ := (h.val i hi).blk hk'; exact hv k cur hc)⟩
def CopyPost (xs : List Xa) (w : World) (r : Ending) (w' : World) : Prop := ∃ v L, r = .returned v ∧ CopyOk w' w.heap.size v L xs ∧ Kept (fun _ => False) w w'
set_option maxRecDepth 100000 in
set_option maxHeartbeats 8000000 in
theorem xcopied_any (a : Option Addr) (cap : Nat) (cs : List Xc) (xs : List Xa) (w : World) (h : XsAt w a cs xs) (hn : xs.length * 40 ≤ 140737488351232) (hv : ∀ i, i < xs.length → (nthA xs i).val.length ≤ 140737488351232) :
    Calls Try.prog 19 #[.slice a xs.length cap] w (CopyPost xs w) := by
  obtain ⟨n, hxn⟩ : ∃ n, n = xs.length := ⟨_, rfl⟩
  have HXN := Lib.hid hxn
  rw [← hxn] at hn ⊢
  have HAT := Lib.hid (fun (i : Nat) (hi : i < xs.length) W (k : Kept (fun _ => False) w W) => (h.kept k).at hi)
  have HV := Lib.hid hv
  have qn : (n : Int) ≤ 140737488351232 := by omega
  clear h hxn hv
  go_enter Try.func19, Try.ntmps19
  go_wp2_with fail
  go_loopg [3, 8] n (fun k s3 s8 wr => ∃ (j : Nat) (v : Value) (L : List Xc), j + k = n ∧ s8 = .int .i64 (j : Int) ∧ v = s3 ∧ CopyOk wr w.heap.size v L (xs.take j) ∧ Kept (fun _ => False) w wr)
  case atStart => exact ⟨0, _, [], by omega, rfl, rfl, CopyOk.nil _ _, Kept.refl _ w⟩
  case round =>
    obtain ⟨j, v, L, hj, rfl, rfl, hO, hK⟩ := hrel
    have Hj := Lib.hid hj
    have hjn : j ≤ n := by omega
    have hz : w.heap.size ≤ wr.heap.size := hK.size
    clear hj
    by_cases hlt : j < n
    · have q1 : (j : Int) < n := by omega
      have q2 : (0 : Int) ≤ j := by omega
      have hjx : j < xs.length := by rw [← HXN.out]; exact hlt
      obtain ⟨g, o, b, m, c, rfl, c0, c1, hm, hmc, _, hb0, hb⟩ := HAT.out j hjx wr hK
      have hvl := HV.out j hjx
      have HCL := Lib.hid (show ∀ W, Kept (fun _ => False) wr W → Calls Try.prog 21 #[.slice b m c] W (fun r w' => ∃ u, r = .returned u ∧ OwnL w' W.heap.size u m (nthA xs j).val ∧ Kept (fun _ => False) W w') from fun W k => cloneB_any b m c (nthA xs j).val W hm.symm hb0 (hb.kept k) (by omega))
      obtain ⟨nm, hnm⟩ : ∃ nm, nm = (nthA xs j).nm := ⟨_, rfl⟩
      rw [← hnm] at c0
      have HNM := Lib.hid hnm
      have HO := Lib.hid hO
      clear hnm hm hmc hb0 hb hvl hO
      go_upto_region 5 with fail
      obtain ⟨d0, d1⟩ := newX wr nm b m c
      have hvb : ∀ k, v.ownBlock = some k → k < wr.heap.size := fun k hk => (HO.out.own.blk hk).2.1
      have hk1 : Kept (fun _ => False) wr (wr.alloc (.cells #[.string nm, .slice b m c] 26)) := (Kept.refl _ wr).alloc _
      have hO1 := HO.out.moved hk1 (fun _ _ h => h) (fun _ _ _ h => h)
      replace HO := Lib.hid hO1
      generalize (wr.alloc (.cells #[.string nm, .slice b m c] 26)) = w1 at *
      generalize wr.heap.size = gx at *
      have HVB := Lib.hid hvb
      have HK1 := Lib.hid hk1
      have hgz : gx < w1.heap.size := block_lt_of_cell d0
      have hK1 : Kept (fun _ => False) w w1 := hK.trans hk1 (fun _ _ h => h)
      clear hO1 c0 c1 hk1 hK hvb
      refine region_perm (fun W => W.cell? ⟨gx, 0, none⟩ = some (.string nm) ∧ W.cell? ⟨gx, 1, none⟩ = some (.slice b m c)) [(0, true), (1, true), (2, true), (3, true), (4, true), (5, false), (6, true), (7, false), (8, false), (9, true)] (by kernel_rfl) (by kernel_rfl) (by intro c a d v w h; cases d <;> exact h) ⟨d0, d1⟩ ?_
      repeat (first | (apply HeldSeq.take; (focus rfl); (focus rfl); (focus (intro W hS; obtain ⟨e0, e1⟩ := hS; go_simp; (try go_bits); rfl)); simp only [List.getElem_toArray]; (try simp only [List.getElem_cons_succ]); (try simp only [List.getElem_cons_zero]); simp only [Act.put, List.setIfInBounds_toArray]; (try simp only [List.set_cons_succ]); (try simp only [List.set_cons_zero])) | (apply HeldSeq.skip; (focus rfl); (focus rfl); simp only [List.getElem_toArray]; (try simp only [List.getElem_cons_succ]); (try simp only [List.getElem_cons_zero]); simp only [Act.put, List.setIfInBounds_toArray]; (try simp only [List.set_cons_succ]); (try simp only [List.set_cons_zero])))
      refine HeldSeq.run rfl rfl (fun K hK => ?_)
      go_simp
      refine (HCL.out w1.drew HK1.out.drew).mono ?_
      rintro r w2 ⟨u, rfl, hu, k2⟩
      obtain ⟨ua, uc, rfl, _⟩ := hu.reads
      have k12 : Kept (fun _ => False) w1 w2 := (Kept.refl _ w1).drew.trans k2 (fun _ _ h => h)
      have e0' := k12.cell d0
      have e1' := k12.cell d1
      have hK2 : Kept (fun _ => False) w w2 := hK1.trans k12 (fun _ _ h => h)
      have hO2 := HO.out.moved k12 (fun _ _ h => h) (fun _ _ _ h => h)
      have hu2 : OwnL w2 w.heap.size (.slice ua m uc) m (nthA xs j).val := hu.lower (by show w.heap.size ≤ w1.heap.size; exact hK1.size)
      have HO2 := Lib.hid hO2
      have HU2 := Lib.hid hu2
      refine hK _ _ ⟨e0', e1'⟩ ?_
      clear hK K hu hu2 hO2 k2 k12 HO hK1 HCL d0 d1 HK1
      repeat (first | (apply HeldSeq.take; (focus rfl); (focus rfl); (focus (intro W hS; obtain ⟨e0, e1⟩ := hS; go_simp; (try go_bits); rfl)); simp only [List.getElem_toArray]; (try simp only [List.getElem_cons_succ]); (try simp only [List.getElem_cons_zero]); simp only [Act.put, List.setIfInBounds_toArray]; (try simp only [List.set_cons_succ]); (try simp only [List.set_cons_zero])) | (apply HeldSeq.skip; (focus rfl); (focus rfl); simp only [List.getElem_toArray]; (try simp only [List.getElem_cons_succ]); (try simp only [List.getElem_cons_zero]); simp only [Act.put, List.setIfInBounds_toArray]; (try simp only [List.set_cons_succ]); (try simp only [List.set_cons_zero])))
      refine HeldSeq.run rfl rfl (fun K hK => ?_)
      go_simp
      have hE3 : XAt (w2.alloc (.cells #[.string nm, .slice ua m uc] 26)) w2.heap.size 0 ⟨nm, ua, m, uc⟩ := newX w2 nm ua m uc
      have hk3 : Kept (fun _ => False) w2 (w2.alloc (.cells #[.string nm, .slice ua m uc] 26)) := (Kept.refl _ w2).alloc _
      have hO3 := HO2.out.moved hk3 (fun _ _ h => h) (fun _ _ _ h => h)
      have hu3 := HU2.out.kept hk3 (fun _ _ h => h)
      have f0 := hk3.cell e0'
      have f1 := hk3.cell e1'
      have hK3 : Kept (fun _ => False) w (w2.alloc (.cells #[.string nm, .slice ua m uc] 26)) := hK2.trans hk3 (fun _ _ h => h)
      have hz3 := hK3.size
      refine hK _ _ ⟨f0, f1⟩ ?_
      clear hK K hk3 HO2 HU2 hK2
      generalize (w2.alloc (.cells #[.string nm, .slice ua m uc] 26)) = w3 at *
      generalize w2.heap.size = g3 at *
      have hlj : L.length = j := by have := hO3.len; simp at this; omega
      have hown := hO3.own
      rw [show (xs.take j).length = j by simp; omega] at hown
      have HO3 := Lib.hid hO3
      have HU3 := Lib.hid hu3
      clear hO3 hu3
      refine HeldSeq.run rfl rfl (fun K hK => ?_)
      refine wp_appX (.tmp 12) (.tmp 19) rfl w.heap.size v j L (by rfl) hown g3 1 ⟨nm, ua, m, uc⟩ (by rfl) hE3 (by omega) hz3 ?_
      intro v4 w4 ho4 k4
      have hK4 : Kept (fun _ => False) w w4 := hK3.trans k4 (fun i hi h => by have := (hown.blk h).1; omega)
      have hval : ∀ i, i < j → OwnL w4 w.heap.size (.slice (nthC L i).a (nthC L i).n (nthC L i).c) (nthC L i).n (nthA xs i).val := fun i hi => by
        have h1 := HO3.out.val i (by simp; omega)
        rw [nthA_take xs _ _ hi] at h1
        exact h1.kept k4 (fun k hk h => apart_XL hown h1 h hk)
      have hnm2 : ∀ i, i < j → (nthC L i).nm = (nthA xs i).nm := fun i hi => by
        have h1 := HO3.out.nm i (by simp; omega)
        rw [nthA_take xs _ _ hi] at h1
        exact h1
      have hC4 := CopyOk.snoc hjx hlj hnm2 hval (x := ⟨nm, ua, m, uc⟩) ho4 HNM.out (HU3.out.kept k4 (fun k hk h => apart_XL hown HU3.out h hk))
      have HC4 := Lib.hid hC4
      have g0 : w4.cell? ⟨gx, 0, none⟩ = some (.string nm) := by
        rw [World.cell?_of_block (w := w3) (k4.block gx (block_lt_of_cell f0) (fun h => by have := HVB.out gx h; omega))]; exact f0
      have g1 : w4.cell? ⟨gx, 1, none⟩ = some (.slice b m c) := by
        rw [World.cell?_of_block (w := w3) (k4.block gx (block_lt_of_cell f0) (fun h => by have := HVB.out gx h; omega))]; exact f1
      refine hK _ _ ⟨g0, g1⟩ ?_
      clear hK K k4 ho4 hC4 hval hnm2 hown hE3 f0 f1 e0' e1' hlj
      repeat (first | (apply HeldSeq.take; (focus rfl); (focus rfl); (focus (intro W hS; obtain ⟨e0, e1⟩ := hS; go_simp; (try go_bits); rfl)); simp only [List.getElem_toArray]; (try simp only [List.getElem_cons_succ]); (try simp only [List.getElem_cons_zero]); simp only [Act.put, List.setIfInBounds_toArray]; (try simp only [List.set_cons_succ]); (try simp only [List.set_cons_zero])) | (apply HeldSeq.skip; (focus rfl); (focus rfl); simp only [List.getElem_toArray]; (try simp only [List.getElem_cons_succ]); (try simp only [List.getElem_cons_zero]); simp only [Act.put, List.setIfInBounds_toArray]; (try simp only [List.set_cons_succ]); (try simp only [List.set_cons_zero])))
      refine HeldSeq.done ?_
      go_wp2_with fail
      go_roundg (gk - 1)
      case measure => have := Hj.out; omega
      case rel => have := Hj.out; exact ⟨j + 1, v4, _, by omega, by go_num, rfl, HC4.out, hK4⟩
    · obtain rfl : n = j := by omega
      have q1 : ¬ (n : Int) < n := by omega
      have HO := Lib.hid hO
      clear hO
      go_wp2_with fail
      go_ret
      exact ⟨_, L, rfl, by have := HO.out; rw [HXN.out, List.take_length] at this; exact this, hK⟩
end Go.Proofs.Ytoeohbihelfphaa
