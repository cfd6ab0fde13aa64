/-
  Attributes as they lie in memory; bytes cloned; one and Check.
-/
import Derived.Test.YtoeohbihelfphaaX0
import Derived.Test.YtoeohbihelfphaaOwn
import Derived.Test.YtoeohbihelfphaaS0
import Derived.Test.YtoeohbihelfphaaShelf
import Derived.Lib.SliceRun
import Derived.Lib.AppendZeros
import Derived.WalkSpells
namespace Go.Proofs.Ytoeohbihelfphaa
open Go.RowKit
set_option linter.unusedVariables false
set_option linter.unusedSimpArgs false
/-- An attribute as it lies: its name, and where its value lies. -/
structure Xc where
  nm : ByteArray
  a : Option Addr
  n : Nat
  c : Nat
def xcl (x : Xc) : List Value := [.string x.nm, .slice x.a x.n x.c]
theorem xcl_len (x : Xc) : (xcl x).length = 2 := rfl
theorem xcl_one (x : Xc) : ∀ v ∈ xcl x, v.oneCell' = true := by
  intro v hv
  simp only [xcl, List.mem_cons, List.not_mem_nil, or_false] at hv
  rcases hv with rfl | rfl <;> rfl
def nthC (xs : List Xc) (i : Nat) : Xc := xs.getD i ⟨⟨#[]⟩, none, 0, 0⟩
theorem nthC_get (xs : List Xc) (i : Nat) (h : i < xs.length) : xs[i]? = some (nthC xs i) := by simp [nthC, h]
theorem nthC_eq (xs : List Xc) (i : Nat) (h : i < xs.length) : xs[i] = nthC xs i := by simp [nthC, h]
def XAt (w : World) (g o : Nat) (x : Xc) : Prop := w.cell? ⟨g, o, none⟩ = some (.string x.nm) ∧ w.cell? ⟨g, o + 1, none⟩ = some (.slice x.a x.n x.c)
def ListC (w : World) (a : Option Addr) (n : Nat) (f : Nat → Xc) : Prop := n = 0 ∨ ∃ g o, a = some ⟨g, o, none⟩ ∧ ∀ i, i < n → XAt w g (o + i * 2) (f i)
theorem XAt.kept {w w' : World} {g o : Nat} {x : Xc} (h : XAt w g o x) (k : Kept (fun _ => False) w w') : XAt w' g o x := ⟨k.cell h.1, k.cell h.2⟩
theorem ListC.kept {w w' : World} {a : Option Addr} {n : Nat} {f : Nat → Xc} (h : ListC w a n f) (k : Kept (fun _ => False) w w') : ListC w' a n f := by
  rcases h with h | ⟨g, o, h1, h2⟩
  · exact .inl h
  · exact .inr ⟨g, o, h1, fun i hi => (h2 i hi).kept k⟩
/-- Bytes that lie where x says. -/
structure ValAt (w : World) (x : Xc) (v : List Byte) : Prop where
  len : v.length = x.n
  cap : x.n ≤ x.c
  top : x.c ≤ 9223372036854775807
  none : x.a = none → x.n = 0
  bytes : BytesAt w x.a x.n (fun i => v.getD i 0#8)
theorem ValAt.kept {w w' : World} {x : Xc} {v : List Byte} (h : ValAt w x v) (k : Kept (fun _ => False) w w') : ValAt w' x v := ⟨h.len, h.cap, h.top, h.none, h.bytes.kept k⟩
/-- A slice that reads as attributes. -/
structure XsAt (w : World) (a : Option Addr) (cs : List Xc) (xs : List Xa) : Prop where
  len : cs.length = xs.length
  list : ListC w a xs.length (nthC cs)
  nm : ∀ i, i < xs.length → (nthC cs i).nm = (nthA xs i).nm
  val : ∀ i, i < xs.length → ValAt w (nthC cs i) (nthA xs i).val
theorem XsAt.kept {w w' : World} {a : Option Addr} {cs : List Xc} {xs : List Xa} (h : XsAt w a cs xs) (k : Kept (fun _ => False) w w') : XsAt w' a cs xs := ⟨h.len, h.list.kept k, h.nm, fun i hi => (h.val i hi).kept k⟩
theorem XsAt.nil (w : World) (a : Option Addr) : XsAt w a [] [] := ⟨rfl, .inl rfl, fun i hi => by simp at hi, fun i hi => by simp at hi⟩
/-- The cells of the i-th. -/
theorem XsAt.at {w : World} {a : Option Addr} {cs : List Xc} {xs : List Xa} (h : XsAt w a cs xs) {i : Nat} (hi : i < xs.length) : ∃ g o b m c, a = some ⟨g, o, none⟩ ∧ w.cell? ⟨g, o + i * 2, none⟩ = some (.string (nthA xs i).nm) ∧ w.cell? ⟨g, o + i * 2 + 1, none⟩ = some (.slice b m c) ∧ m = (nthA xs i).val.length ∧ m ≤ c ∧ c ≤ 9223372036854775807 ∧ (b = Option.none → m = 0) ∧ BytesAt w b m (fun j => (nthA xs i).val.getD j 0#8) := by
  obtain ⟨g, o, ha, hc⟩ := h.list.resolve_left (by omega)
  obtain ⟨h1, h2⟩ := hc i hi
  have v := h.val i hi
  exact ⟨g, o, _, _, _, ha, by rw [← h.nm i hi]; exact h1, h2, v.len.symm, v.cap, v.top, v.none, v.bytes⟩
/-- Bytes of one's own. -/
def OwnL (w : World) (base : Nat) (v : Value) (n : Nat) (L : List Byte) : Prop := w.ownsRow base 5 1 v n (L.map B)
theorem OwnL.nil (w : World) (base : Nat) : OwnL w base (.slice none 0 0) 0 [] := World.ownsRow_nil w base 5 1
theorem OwnL.alloc {w : World} {base : Nat} {v : Value} {n : Nat} {L : List Byte} (h : OwnL w base v n L) (o : Obj) : OwnL (w.alloc o) base v n L := World.ownsRow.alloc h o
theorem OwnL.lt {w : World} {base : Nat} {v : Value} {n : Nat} {L : List Byte} (ho : OwnL w base v n L) {k : Nat} (hk : v.ownBlock = some k) : base ≤ k ∧ k < w.heap.size := by
  rcases ho.2 with ⟨rfl, _⟩ | ⟨g, cap, cur, rfl, hg, hh, _⟩
  · simp [Value.ownBlock] at hk
  · have : g = k := by simpa [Value.ownBlock] using hk
    subst this
    exact ⟨hg, lt_of_at hh⟩
theorem OwnL.lower {w : World} {base base' : Nat} {v : Value} {n : Nat} {L : List Byte} (ho : OwnL w base v n L) (hb : base' ≤ base) : OwnL w base' v n L := by
  refine ⟨ho.1, ?_⟩
  rcases ho.2 with h | ⟨g, cap, cur, hv, hg, r⟩
  · exact .inl h
  · exact .inr ⟨g, cap, cur, hv, by omega, r⟩
theorem OwnL.kept {w w' : World} {base : Nat} {v : Value} {n : Nat} {L : List Byte} {S : Nat → Prop} (ho : OwnL w base v n L) (hk : Kept S w w') (hn : ∀ k, v.ownBlock = some k → ¬ S k) : OwnL w' base v n L := by
  refine ⟨ho.1, ?_⟩
  rcases ho.2 with h | ⟨g, cap, cur, hv, hb, hh, r⟩
  · exact .inl h
  · exact .inr ⟨g, cap, cur, hv, hb, by rw [hk.block g (lt_of_at hh) (hn g (by rw [hv]; rfl))]; exact hh, r⟩
theorem OwnL.len {w : World} {base : Nat} {v : Value} {n : Nat} {L : List Byte} (ho : OwnL w base v n L) : n = L.length := by have := ho.1; simp at this; omega
theorem OwnL.reads {w : World} {base : Nat} {v : Value} {n : Nat} {L : List Byte} (ho : OwnL w base v n L) : ∃ a c, v = .slice a n c ∧ BytesAt w a n (fun i => L.getD i 0#8) ∧ (a = none → n = 0) ∧ n ≤ c ∧ c ≤ 9223372036854775807 := by
  have hl := ho.len
  rcases ho.2 with ⟨rfl, h0⟩ | ⟨g, cap, cur, rfl, hb, hg, hn, hc, hs, ht⟩
  · exact ⟨none, 0, by rw [h0], .inl h0, fun _ => h0, by omega, by omega⟩
  · refine ⟨_, _, rfl, .inr ⟨g, 0, rfl, fun i hi => ?_⟩, (fun h => by cases h), hn, by unfold maxLen at hc; omega⟩
    rw [Nat.zero_add, cell_of_row w g i cur 5 _ hg]
    have h6 : cur.toList[i]? = some (B (L.getD i 0#8)) := by
      have e : (cur.toList.take (n * 1))[i]? = cur.toList[i]? := by rw [List.getElem?_take, if_pos (by omega)]
      rw [← e, ht]
      simp [show i < L.length by omega]
    simpa using h6
theorem kept_ownL {w0 w w' : World} {base : Nat} {v : Value} {n : Nat} {L : List Byte} (hK : Kept (fun _ => False) w0 w) (hb : w0.heap.size ≤ base) (ho : OwnL w base v n L) (hk : Kept (fun k => v.ownBlock = some k) w w') : Kept (fun _ => False) w0 w' :=
  hK.trans hk (fun j hj h => by have := (ho.lt h).1; omega)
theorem Kept.grownX {w w' : World} {row : Option Nat} (h : w.grownBy w' row) : Kept (fun k => row = some k) w w' :=
  ⟨h.os, h.tape, h.output, h.size, fun k hk hn => h.block k hk (fun e => hn e.symm)⟩
theorem info5L : Try.prog.info? 5 = some ((Try.prog.info? 5).getD default) := by kernel_rfl
theorem zero5L : ((Try.prog.info? 5).getD default).zero = some (.int .u8 0) := by kernel_rfl
theorem size5L : ((Try.prog.info? 5).getD default).size = 1 := by kernel_rfl
theorem bytes5L : ((Try.prog.info? 5).getD default).bytes = 1 := by kernel_rfl
theorem eqlL_nil (w : World) (a : Option Addr) (n c : Nat) : (binOp .eql 24 (.slice a n c) (.slice none 0 0)).run Try.prog w = .ok (.bool a.isNone) w := by
  simpa using Lib.run_eql_slice_nil (P := Try.prog) w 24 5 a n c 0 0 Try.underlying24
set_option maxRecDepth 100000 in
set_option maxHeartbeats 2000000 in
theorem cloneB_any (a : Option Addr) (n ca : Nat) (v : List Byte) (w : World) (hl : v.length = n) (h0 : a = none → n = 0) (hb : BytesAt w a n (fun i => v.getD i 0#8)) (hn : n ≤ 140737488351232) :
    Calls Try.prog 21 #[.slice a n ca] w fun r w' => ∃ u, r = .returned u ∧ OwnL w' w.heap.size u n v ∧ Kept (fun _ => False) w w' := by
  have hnil := eqlL_nil
  cases a with
  | none =>
    obtain rfl := h0 rfl
    obtain rfl := List.eq_nil_of_length_eq_zero hl
    go_enter Try.func21, Try.ntmps21
    go_wp2_with fail
    go_ret
    exact ⟨_, rfl, OwnL.nil _ _, Kept.refl _ w⟩
  | some p =>
    have hsrc : ∀ j u, (v.map B)[j]? = some u → w.cell? (p.add j) = some u := by
      intro j u hj
      rw [List.getElem?_map] at hj
      cases hv : v[j]? with
      | none => rw [hv] at hj; cases hj
      | some b =>
        rw [hv] at hj
        have hjn : j < n := by have := (List.getElem?_eq_some_iff.1 hv).1; omega
        obtain ⟨g, o, hp, hc⟩ := hb.resolve_left (by omega)
        injection hp with hp
        subst hp
        have := hc j hjn
        rw [Addr.add_lit, this]
        simp at hj
        rw [← hj]
        simp [hv]
    have hlen : (v.map B).length = n := by simp [hl]
    have h1 : ∀ u ∈ v.map B, u.oneCell' = true := by
      intro u hu
      simp only [List.mem_map] at hu
      obtain ⟨b, _, rfl⟩ := hu
      rfl
    have HL := Lib.hid hl
    obtain ⟨cs, hcs⟩ : ∃ cs, cs = v.map B := ⟨_, rfl⟩
    rw [← hcs] at hsrc hlen h1
    have HCS := Lib.hid hcs
    clear hcs hb h0 hl
    go_enter Try.func21, Try.ntmps21
    go_wp2_with (at_builtin; go_loud (refine wpList_append_own_at _ rfl (.tmp 5) (.tmp 6) 24 rfl w.heap.size 5 _ _ 1 1 Try.underlying24 info5L zero5L size5L bytes5L rfl (by omega) (.slice (some ⟨w.heap.size, 0, none⟩) 0 0) 0 [] (by rfl) (World.ownsRow_made w #[] 0 (Nat.le_refl _) (by unfold maxLen; omega) rfl) p n ca cs (by rfl) (by rw [hlen]; omega) (fun j u hj => (((Kept.refl (fun _ => False) w).alloc _).cell (hsrc j u hj))) h1 (by unfold maxLen; omega) (by omega) (by simp) ?_); intro v' w2 hown hgrow hnil2 hat)
    go_ret
    refine ⟨_, rfl, ?_, ((Kept.refl _ w).alloc _).trans (Kept.grownX hgrow) ?_⟩
    · unfold OwnL
      rw [← HCS.out]
      simpa using hown
    · intro i hi h
      simp [Value.ownBlock] at h
      omega
theorem contains_any (s : ByteArray) (w : World) : Calls Try.prog 27 #[.string s, .string ⟨#[0]⟩] w fun e w' => e = .returned (.bool (decide (0 ≤ Lib.indexByte s.data.toList 0))) ∧ w = w' :=
  (Try.strings_Contains_one s 0 w).mono fun _ _ ⟨h, k⟩ => ⟨h, k.symm⟩
set_option maxRecDepth 100000 in
set_option maxHeartbeats 2000000 in
theorem xone_any (nm : ByteArray) (a : Option Addr) (n c : Nat) (w : World) (h1 : nm.size ≤ 140737488351232) (h2 : n ≤ 140737488351232) :
    Calls Try.prog 20 #[.string nm, .slice a n c] w fun r w' => r = .returned (.bool (xoneB nm n)) ∧ w = w' := by
  have q1 : (nm.size : Int) ≤ 140737488351232 := by omega
  have q2 : (n : Int) ≤ 140737488351232 := by omega
  obtain ⟨z, hz⟩ : ∃ z, z = decide (0 ≤ Lib.indexByte nm.data.toList 0) := ⟨_, rfl⟩
  have HZ := Lib.hid (show xoneB nm n = (decide (1 ≤ nm.size) && decide (nm.size ≤ 12) && !z && decide (n ≤ 40)) by rw [hz]; rfl)
  have HC := Lib.hid (show ∀ w, Calls Try.prog 27 #[.string nm, .string ⟨#[0]⟩] w fun e w' => e = .returned (.bool z) ∧ w = w' by rw [hz]; exact fun w => contains_any nm w)
  clear hz
  go_enter Try.func20, Try.ntmps20
  by_cases c1 : 1 ≤ nm.size
  · have e1 : (1 : Int) ≤ nm.size := by omega
    by_cases c2 : nm.size ≤ 12
    · have e2 : (nm.size : Int) ≤ 12 := by omega
      by_cases c3 : n ≤ 40
      · have e3 : (n : Int) ≤ 40 := by omega
        have HR := Lib.hid (show xoneB nm n = !z by rw [HZ.out, decide_eq_true c1, decide_eq_true c2, decide_eq_true c3]; simp)
        clear HZ c1 c2 c3
        cases z
        all_goals
          go_wp2_with ((with_reducible refine (HC.out _).mono ?_); rintro r w1 ⟨rfl, rfl⟩)
          go_ret
          exact ⟨by rw [HR.out]; first | rfl | (show Ending.returned (.bool (decide ((n : Int) ≤ 40))) = Ending.returned (.bool _); first | rw [decide_eq_true e3] | rw [decide_eq_false (show ¬ (n : Int) ≤ 40 by omega)]), rfl⟩
      · have e3 : ¬ (n : Int) ≤ 40 := by omega
        have HR := Lib.hid (show xoneB nm n = false by rw [HZ.out, decide_eq_false c3]; simp)
        clear HZ c1 c2 c3
        cases z
        all_goals
          go_wp2_with ((with_reducible refine (HC.out _).mono ?_); rintro r w1 ⟨rfl, rfl⟩)
          go_ret
          exact ⟨by rw [HR.out]; first | rfl | (show Ending.returned (.bool (decide ((n : Int) ≤ 40))) = Ending.returned (.bool _); first | rw [decide_eq_true e3] | rw [decide_eq_false (show ¬ (n : Int) ≤ 40 by omega)]), rfl⟩
    · have e2 : ¬ (nm.size : Int) ≤ 12 := by omega
      have HR := Lib.hid (show xoneB nm n = false by rw [HZ.out, decide_eq_false c2]; simp)
      clear HZ c1 c2
      go_wp2_with fail
      go_ret
      exact ⟨by rw [HR.out]; rfl, rfl⟩
  · have e1 : ¬ (1 : Int) ≤ nm.size := by omega
    have HR := Lib.hid (show xoneB nm n = false by rw [HZ.out, decide_eq_false c1]; simp)
    clear HZ c1
    go_wp2_with fail
    go_ret
    exact ⟨by rw [HR.out]; rfl, rfl⟩
end Go.Proofs.Ytoeohbihelfphaa
