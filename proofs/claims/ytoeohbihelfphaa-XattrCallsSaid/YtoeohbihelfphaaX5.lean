/-
  xattr.Names; attributes copied.
-/
import Derived.Test.YtoeohbihelfphaaX4
import Derived.Test.YtoeohbihelfphaaReg
namespace Go.Proofs.Ytoeohbihelfphaa
open Go.RowKit
set_option linter.unusedVariables false
set_option linter.unusedSimpArgs false
theorem info9X : Try.prog.info? 9 = some ((Try.prog.info? 9).getD default) := by kernel_rfl
theorem zero9X : ((Try.prog.info? 9).getD default).zero = some (.string ⟨#[]⟩) := by kernel_rfl
theorem size9X : ((Try.prog.info? 9).getD default).size = 1 := by kernel_rfl
theorem bytes9X : ((Try.prog.info? 9).getD default).bytes = 16 := by kernel_rfl
/-- Texts of one's own. -/
def OwnS (w : World) (base : Nat) (v : Value) (n : Nat) (L : List ByteArray) : Prop := w.ownsRow base 9 1 v n (L.map Value.string)
theorem OwnS.nil (w : World) (base : Nat) : OwnS w base (.slice none 0 0) 0 [] := World.ownsRow_nil w base 9 1
theorem OwnS.lt {w : World} {base : Nat} {v : Value} {n : Nat} {L : List ByteArray} (ho : OwnS w base v n L) {k : Nat} (hk : v.ownBlock = some k) : base ≤ k ∧ k < w.heap.size := by
  rcases ho.2 with ⟨rfl, _⟩ | ⟨g, cap, cur, rfl, hg, hh, _⟩
  · simp [Value.ownBlock] at hk
  · have : g = k := by simpa [Value.ownBlock] using hk
    subst this
    exact ⟨hg, lt_of_at hh⟩
set_option maxRecDepth 100000 in
theorem appS {ops : Array Oper} {rest : List Oper} {o : Oper} {a : Act} {w : World} {Q : Exit → Act → World → Prop} (hgd : o.guard = none) (s x : Operand) (ho : o.op = .call { callee := .builtin .append, args := #[s, x], argTypes := #[41, 41] })
    (base : Nat) (v : Value) (n : Nat) (L : List ByteArray) (hs : a.eval s = v) (hown : OwnS w base v n L) (g c : Nat) (e : ByteArray) (hx : a.eval x = .slice (some ⟨g, 0, none⟩) 1 c) (hc : w.cell? ⟨g, 0, none⟩ = some (.string e))
    (hn : (n + 1) * 16 ≤ 140737488355328) (hbase : base ≤ w.heap.size)
    (h : ∀ v' w', OwnS w' base v' (n + 1) (L ++ [e]) → Kept (fun k => v.ownBlock = some k) w w' → wpList Try.prog ops Q rest (a.put o.dst v') w') : wpList Try.prog ops Q (o :: rest) a w := by
  refine wpList_append_own_at _ hgd s x 41 ho base 9 _ _ 1 16 Try.underlying41 info9X zero9X size9X bytes9X rfl (by omega) v n (L.map Value.string) hs hown ⟨g, 0, none⟩ 1 c [.string e] hx rfl ?_ ?_ (by unfold maxLen; omega) (by omega) hbase ?_
  · intro j u hj
    have hl : j < 1 := (List.getElem?_eq_some_iff.1 hj).1
    obtain rfl : j = 0 := by omega
    simp at hj
    rw [Addr.add_lit, ← hj]
    exact hc
  · intro u hu
    simp at hu
    subst hu
    rfl
  intro v' w2 h1 h2 _ _
  refine h v' w2 ?_ (Kept.grownX h2)
  unfold OwnS
  rw [List.map_append]
  exact h1
def xnm (xs : List Xa) (j : Nat) : List ByteArray := (xs.take j).map Xa.nm
theorem xnm_succ (xs : List Xa) (j : Nat) (h : j < xs.length) : xnm xs (j + 1) = xnm xs j ++ [(nthA xs j).nm] := by
  unfold xnm
  rw [List.take_succ_eq_append_getElem h, List.map_append, nthA_eq xs j h]; rfl
theorem xnm_len (xs : List Xa) (j : Nat) (h : j ≤ xs.length) : (xnm xs j).length = j := by unfold xnm; simp; omega
set_option maxRecDepth 100000 in
set_option maxHeartbeats 8000000 in
theorem xnames_any (a : Option Addr) (cap : Nat) (cs : List Xc) (xs : List Xa) (w : World) (h : XsAt w a cs xs) (hn : xs.length * 16 ≤ 140737488351232) :
    Calls Try.prog 16 #[.slice a xs.length cap] w fun r w' => ∃ v, r = .returned v ∧ OwnS w' w.heap.size v xs.length (xnm xs xs.length) ∧ Kept (fun _ => False) w w' := by
  obtain ⟨n, hxn⟩ : ∃ n, n = xs.length := ⟨_, rfl⟩
  have HXN := Lib.hid hxn
  rw [← hxn] at hn ⊢
  have HAT := Lib.hid (fun (i : Nat) (hi : i < xs.length) W (k : Kept (fun _ => False) w W) => (h.kept k).at hi)
  have qn : (n : Int) ≤ 140737488351232 := by omega
  clear h hxn
  go_enter Try.func16, Try.ntmps16
  go_wp2_with fail
  go_loopg [3, 8] n (fun k s3 s8 wr => ∃ (j : Nat) (v : Value), j + k = n ∧ s8 = .int .i64 (j : Int) ∧ v = s3 ∧ OwnS wr w.heap.size v j (xnm xs j) ∧ Kept (fun _ => False) w wr)
  case atStart => exact ⟨0, _, by omega, rfl, rfl, OwnS.nil _ _, Kept.refl _ w⟩
  case round =>
    obtain ⟨j, v, hj, rfl, rfl, hO, hK⟩ := hrel
    have Hj := Lib.hid hj
    have hjn : j ≤ n := by omega
    have hz : w.heap.size ≤ wr.heap.size := hK.size
    clear hj
    by_cases hlt : j < n
    · have q1 : (j : Int) < n := by omega
      have q2 : (0 : Int) ≤ j := by omega
      have hjx : j < xs.length := by rw [← HXN.out]; exact hlt
      obtain ⟨g, o, b, m, c, rfl, c0, c1, hrest⟩ := HAT.out j hjx wr hK
      have HF := Lib.hid (xnm_succ xs j hjx)
      obtain ⟨nm, hnm⟩ : ∃ nm, nm = (nthA xs j).nm := ⟨_, rfl⟩
      rw [← hnm] at c0
      replace HF := Lib.hid (by have := HF.out; rw [← hnm] at this; exact this)
      clear hrest hnm
      go_upto_region 5 with fail
      obtain ⟨d0, d1⟩ := newX wr nm b m c
      have hO1 : OwnS (wr.alloc (.cells #[.string nm, .slice b m c] 26)) w.heap.size v j (xnm xs j) := World.ownsRow.alloc hO _
      have hK1 : Kept (fun _ => False) w (wr.alloc (.cells #[.string nm, .slice b m c] 26)) := hK.alloc _
      have hz1 : w.heap.size ≤ (wr.alloc (.cells #[.string nm, .slice b m c] 26)).heap.size := hK1.size
      generalize (wr.alloc (.cells #[.string nm, .slice b m c] 26)) = w1 at *
      generalize wr.heap.size = gx at *
      clear hO hK c0 c1
      have hO2 : OwnS (w1.alloc (.cells #[.string nm] 9)) w.heap.size v j (xnm xs j) := World.ownsRow.alloc hO1 _
      have hK2 : Kept (fun _ => False) w (w1.alloc (.cells #[.string nm] 9)) := hK1.alloc _
      have hc2 : (w1.alloc (.cells #[.string nm] 9)).cell? ⟨w1.heap.size, 0, none⟩ = some (.string nm) := by rw [cell_of_row _ _ _ _ 9 _ (heap_alloc_new w1 _)]; rfl
      have HO2 := Lib.hid hO2
      have HK2 := Lib.hid hK2
      have HC2 := Lib.hid hc2
      clear hO1 hK1 hO2 hK2 hc2
      go_wp2_with (first | (refine appS rfl (.tmp 12) (.tmp 15) rfl w.heap.size v j (xnm xs j) (by rfl) HO2.out w1.heap.size 1 nm (by rfl) HC2.out (by omega) HK2.out.size ?_))
      intro v2 w2 ho2 k2
      have hK3 : Kept (fun _ => False) w w2 := HK2.out.trans k2 (fun i hi h => by have := (HO2.out.lt h).1; omega)
      have HO3 := Lib.hid ho2
      clear ho2 k2
      go_wp2_with fail
      go_roundg (gk - 1)
      case measure => have := Hj.out; omega
      case rel => have := Hj.out; exact ⟨j + 1, v2, by omega, by go_num, rfl, by rw [HF.out]; exact HO3.out, hK3⟩
    · obtain rfl : n = j := by omega
      have q1 : ¬ (n : Int) < n := by omega
      have HO := Lib.hid hO
      clear hO
      go_wp2_with fail
      go_ret
      exact ⟨_, rfl, HO.out, hK⟩
end Go.Proofs.Ytoeohbihelfphaa
