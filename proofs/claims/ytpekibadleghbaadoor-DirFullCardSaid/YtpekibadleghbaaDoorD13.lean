/-
  dir.Encode and the reference's Bytes.
-/
import Derived.Test.YtpekibadleghbaaDoorD12
import Derived.Lib.AppendStr
namespace Go.Proofs.YtpekibadleghbaaDoor
open Go.RowKit
set_option linter.unusedVariables false
set_option linter.unusedSimpArgs false
/-- A string's bytes. -/
def sBytes (s : ByteArray) : List Byte := s.data.toList.map fun b => BitVec.ofNat 8 b.toNat
theorem sBytes_len (s : ByteArray) : (sBytes s).length = s.size := by unfold sBytes; simp
theorem sBytes_cells (s : ByteArray) : (sBytes s).map B = s.data.toList.map fun b => Value.int .u8 (b.toNat : Int) := by
  unfold sBytes
  rw [List.map_map]
  apply List.map_congr_left
  intro b _
  show Value.int .u8 (iB (BitVec.ofNat 8 b.toNat)) = _
  unfold iB
  rw [BitVec.toNat_ofNat, Nat.mod_eq_of_lt (by have := UInt8.toNat_lt b; omega)]
theorem sBytes_get (s : ByteArray) (i : Nat) (h : i < s.size) : (sBytes s)[i]? = some (sB s i) := by
  have hi : i < s.data.size := h
  unfold sBytes sB
  rw [List.getElem?_map, Array.getElem?_toList, Array.getElem?_eq_getElem hi]
  rfl
/-- Bytes of one's own. -/
def OwnL (w : World) (base : Nat) (v : Value) (n : Nat) (L : List Byte) : Prop := w.ownsRow base 5 1 v n (L.map B)
theorem OwnL.nil (w : World) (base : Nat) : OwnL w base (.slice none 0 0) 0 [] := World.ownsRow_nil w base 5 1
theorem OwnL.alloc {w : World} {base : Nat} {v : Value} {n : Nat} {L : List Byte} (h : OwnL w base v n L) (o : Obj) : OwnL (w.alloc o) base v n L := World.ownsRow.alloc h o
theorem OwnL.lt {w : World} {base : Nat} {v : Value} {n : Nat} {L : List Byte} (ho : OwnL w base v n L) {k : Nat} (hk : v.ownBlock = some k) : base ≤ k ∧ k < w.heap.size := by
  rcases ho.2 with ⟨rfl, _⟩ | ⟨g, cap, cur, rfl, hg, hh, _⟩
  · simp [Value.ownBlock] at hk
  · have : g = k := by simpa [Value.ownBlock] using hk
    subst this
    exact ⟨hg, lt_of_at hh⟩
theorem OwnL.lower {w : World} {base base' : Nat} {v : Value} {n : Nat} {L : List Byte} (ho : OwnL w base v n L) (hb : base' ≤ base) : OwnL w base' v n L := by
  refine ⟨ho.1, ?_⟩
  rcases ho.2 with h | ⟨g, cap, cur, hv, hg, r⟩
  · exact .inl h
  · exact .inr ⟨g, cap, cur, hv, by omega, r⟩
theorem OwnL.kept {w w' : World} {base : Nat} {v : Value} {n : Nat} {L : List Byte} {S : Nat → Prop} (ho : OwnL w base v n L) (hk : Kept S w w') (hn : ∀ k, v.ownBlock = some k → ¬ S k) : OwnL w' base v n L := by
  refine ⟨ho.1, ?_⟩
  rcases ho.2 with h | ⟨g, cap, cur, hv, hb, hh, r⟩
  · exact .inl h
  · exact .inr ⟨g, cap, cur, hv, hb, by rw [hk.block g (lt_of_at hh) (hn g (by rw [hv]; rfl))]; exact hh, r⟩
theorem OwnL.len {w : World} {base : Nat} {v : Value} {n : Nat} {L : List Byte} (ho : OwnL w base v n L) : n = L.length := by have := ho.1; simp at this; omega
theorem OwnL.reads {w : World} {base : Nat} {v : Value} {n : Nat} {L : List Byte} (ho : OwnL w base v n L) : ∃ a c, v = .slice a n c ∧ BytesAt w a n (fun i => L.getD i 0#8) ∧ (a = none → n = 0) ∧ n ≤ c := by
  have hl := ho.len
  rcases ho.2 with ⟨rfl, h0⟩ | ⟨g, cap, cur, rfl, hb, hg, hn, hc, hs, ht⟩
  · exact ⟨none, 0, by rw [h0], .inl h0, fun _ => h0, by omega⟩
  · refine ⟨_, _, rfl, .inr ⟨g, 0, rfl, fun i hi => ?_⟩, (fun h => by cases h), hn⟩
    rw [Nat.zero_add, cell_of_row w g i cur 5 _ hg]
    have h6 : cur.toList[i]? = some (B (L.getD i 0#8)) := by
      have e : (cur.toList.take (n * 1))[i]? = cur.toList[i]? := by rw [List.getElem?_take, if_pos (by omega)]
      rw [← e, ht]
      simp [show i < L.length by omega]
    simpa using h6
theorem kept_ownL {w0 w w' : World} {base : Nat} {v : Value} {n : Nat} {L : List Byte} (hK : Kept (fun _ => False) w0 w) (hb : w0.heap.size ≤ base) (ho : OwnL w base v n L) (hk : Kept (fun k => v.ownBlock = some k) w w') : Kept (fun _ => False) w0 w' :=
  hK.trans hk (fun j hj h => by have := (ho.lt h).1; omega)
/-- Two rows of bytes, one behind the other. -/
def cat (L M : List Byte) : List Byte := L ++ M
theorem info5' : Tryd.prog.info? 5 = some ((Tryd.prog.info? 5).getD default) := by kernel_rfl
theorem zero5' : ((Tryd.prog.info? 5).getD default).zero = some (.int .u8 0) := by kernel_rfl
theorem size5' : ((Tryd.prog.info? 5).getD default).size = 1 := by kernel_rfl
theorem bytes5' : ((Tryd.prog.info? 5).getD default).bytes = 1 := by kernel_rfl
theorem B_one (L : List Byte) : ∀ u ∈ L.map B, u.oneCell' = true := by
  intro u hu
  obtain ⟨b, _, rfl⟩ := List.mem_map.1 hu
  rfl
set_option maxRecDepth 100000 in
/-- Bytes appended to bytes of one's own. -/
theorem appL {ops : Array Oper} {rest : List Oper} {o : Oper} {a : Act} {w : World} {Q : Exit → Act → World → Prop} (hgd : o.guard = none) (s x : Operand) (ho : o.op = .call { callee := .builtin .append, args := #[s, x], argTypes := #[37, 37] })
    (base : Nat) (v : Value) (n : Nat) (L : List Byte) (hs : a.eval s = v) (hown : OwnL w base v n L) (ad : Addr) (m c : Nat) (M : List Byte) (hx : a.eval x = .slice (some ad) m c) (hl : M.length = m) (hc : ∀ j b, M[j]? = some b → w.cell? (ad.add j) = some (B b))
    (hn : n + m ≤ 140737488355328) (hbase : base ≤ w.heap.size)
    (h : ∀ v' w', OwnL w' base v' (n + m) (cat L M) → Kept (fun k => v.ownBlock = some k) w w' → wpList Tryd.prog ops Q rest (a.put o.dst v') w') : wpList Tryd.prog ops Q (o :: rest) a w := by
  refine wpList_append_own_at _ hgd s x 37 ho base 5 _ _ 1 1 Tryd.underlying37 info5' zero5' size5' bytes5' rfl (by omega) v n (L.map B) hs hown ad m c (M.map B) hx (by simp [hl]) ?_ (B_one M) (by unfold maxLen; omega) (by omega) hbase ?_
  · intro j u hj
    rw [List.getElem?_map] at hj
    cases hb : M[j]? with
    | none => rw [hb] at hj; cases hj
    | some b => rw [hb] at hj; simp at hj; rw [← hj]; exact hc j b hb
  intro v' w2 h1 h2 _ _
  refine h v' w2 ?_ (Kept.grown h2)
  unfold OwnL cat
  rw [List.map_append]
  exact h1
set_option maxRecDepth 100000 in
theorem wp_appL {o : Oper} {a : Act} {w : World} {K : Act → World → Prop} {Q : Exit → Act → World → Prop} (s x : Operand) (ho : o.op = .call { callee := .builtin .append, args := #[s, x], argTypes := #[37, 37] })
    (base : Nat) (v : Value) (n : Nat) (L : List Byte) (hs : a.eval s = v) (hown : OwnL w base v n L) (ad : Addr) (m c : Nat) (M : List Byte) (hx : a.eval x = .slice (some ad) m c) (hl : M.length = m) (hc : ∀ j b, M[j]? = some b → w.cell? (ad.add j) = some (B b))
    (hn : n + m ≤ 140737488355328) (hbase : base ≤ w.heap.size)
    (h : ∀ v' w', OwnL w' base v' (n + m) (cat L M) → Kept (fun k => v.ownBlock = some k) w w' → K (a.put o.dst v') w') : o.wp Tryd.prog a w K Q := by
  obtain ⟨v', w', hr, h1, h2, _, _⟩ := run_append_own_at (P := Tryd.prog) w base 37 o.type 5 _ _ 1 1 Tryd.underlying37 info5' zero5' size5' bytes5' rfl (by omega) v n (L.map B) hown ad m c (M.map B) (by simp [hl]) (fun j u hj => by
    rw [List.getElem?_map] at hj
    cases hb : M[j]? with
    | none => rw [hb] at hj; cases hj
    | some b => rw [hb] at hj; simp at hj; rw [← hj]; exact hc j b hb) (B_one M) (by unfold maxLen; omega) (by omega) hbase
  unfold Oper.wp execOp
  simp only [ho, resolve, invoke, builtin, Sem.run_bind, Sem.run_pure, Result.andThen_ok, List.map_toArray, List.map_cons, List.map_nil, hs, hx, hr]
  refine h v' w' ?_ (Kept.grown h2)
  unfold OwnL cat
  rw [List.map_append]
  exact h1
set_option maxRecDepth 100000 in
theorem appStr {ops : Array Oper} {rest : List Oper} {o : Oper} {a : Act} {w : World} {Q : Exit → Act → World → Prop} (hgd : o.guard = none) (s x : Operand) (ho : o.op = .call { callee := .builtin .append, args := #[s, x], argTypes := #[37, 9] })
    (base : Nat) (v : Value) (n : Nat) (L : List Byte) (hs : a.eval s = v) (hown : OwnL w base v n L) (t : ByteArray) (hx : a.eval x = .string t)
    (hn : n + t.size ≤ 140737488355328) (hbase : base ≤ w.heap.size)
    (h : ∀ v' w', OwnL w' base v' (n + t.size) (cat L (sBytes t)) → Kept (fun k => v.ownBlock = some k) w w' → wpList Tryd.prog ops Q rest (a.put o.dst v') w') : wpList Tryd.prog ops Q (o :: rest) a w := by
  refine Lib.wpList_append_own_string _ hgd s x 37 9 ho base 5 _ Tryd.underlying37 Tryd.underlying9 info5' zero5' size5' bytes5' v n (L.map B) hs hown t hx (by unfold maxLen; omega) hn hbase ?_
  intro v' w2 h1 h2 _
  refine h v' w2 ?_ (Kept.grown h2)
  unfold OwnL cat
  rw [List.map_append, sBytes_cells]
  exact h1
def encE (e : En) : List Byte := BitVec.ofInt 8 e.ino :: BitVec.ofInt 8 (e.nm.size : Int) :: sBytes e.nm
def encL (xs : List En) (j : Nat) : List Byte := (xs.take j).flatMap encE
theorem encL_succ (xs : List En) (j : Nat) (h : j < xs.length) : encL xs (j + 1) = cat (cat (encL xs j) [BitVec.ofInt 8 (nthE xs j).ino, BitVec.ofInt 8 ((nthE xs j).nm.size : Int)]) (sBytes (nthE xs j).nm) := by
  unfold encL cat
  rw [take_snocE xs j h, List.flatMap_append]
  simp [encE]
theorem encE_len (e : En) : (encE e).length = 2 + e.nm.size := by unfold encE; simp [sBytes_len]; omega
theorem modB8 (b : Byte) : iB b % (256 : Int) = iB b := Int.emod_eq_of_lt (iB_ge b) (iB_lt b)
theorem ofInt_iB8 (b : Byte) : BitVec.ofInt 8 (iB b) = b := by unfold iB; simp
theorem EAt.keptBut {S : Nat → Prop} {w w' : World} {g o : Nat} {e : En} (h : EAt w g o e) (k : Kept S w w') (hn : ¬ S g) : EAt w' g o e := by
  have hb := k.block g (block_lt_of_cell h.1) hn
  exact ⟨by rw [World.cell?_of_block (w := w) hb]; exact h.1, by rw [World.cell?_of_block (w := w) hb]; exact h.2⟩
theorem ofInt8 (i : Int) (h1 : 0 ≤ i) (h2 : i < 256) : iB (BitVec.ofInt 8 i) = i := by
  unfold iB
  rw [BitVec.toNat_ofInt]
  omega
theorem newB2 (w : World) (x y : Int) (hx : 0 ≤ x) (hx2 : x < 256) (hy : 0 ≤ y) (hy2 : y < 256) : ∀ j b, ([BitVec.ofInt 8 x, BitVec.ofInt 8 y] : List Byte)[j]? = some b → (w.alloc (.cells #[.int .u8 x, .int .u8 y] 5)).cell? ((⟨w.heap.size, 0, none⟩ : Addr).add j) = some (B b) := by
  intro j b hj
  have hl : j < 2 := (List.getElem?_eq_some_iff.1 hj).1
  rw [Addr.add_lit, Nat.zero_add]
  obtain rfl | rfl : j = 0 ∨ j = 1 := by omega
  · simp at hj
    rw [cell_of_row _ w.heap.size 0 _ 5 _ (heap_alloc_new w _), ← hj]
    show some (Value.int .u8 x) = some (.int .u8 (iB (BitVec.ofInt 8 x)))
    rw [ofInt8 x hx hx2]
  · simp at hj
    rw [cell_of_row _ w.heap.size 1 _ 5 _ (heap_alloc_new w _), ← hj]
    show some (Value.int .u8 y) = some (.int .u8 (iB (BitVec.ofInt 8 y)))
    rw [ofInt8 y hy hy2]
def encR (salt : Nat → Byte) (xs : List En) : List Byte × Int := if rightB salt (nthE xs) xs.length = true then (encL xs xs.length, 0) else ([], 3)
def BytesPost (R : List Byte × Int) (w : World) (r : Ending) (w' : World) : Prop :=
  ∃ v, r = .returned (.tuple #[v, .int .i64 R.2]) ∧ OwnL w' w.heap.size v R.1.length R.1 ∧ Kept (fun _ => False) w w'
theorem BytesPost.nil {e : Int} {w w' : World} (h : Kept (fun _ => False) w w') : BytesPost ([], e) w (.returned (.tuple #[.slice none 0 0, .int .i64 e])) w' :=
  ⟨_, rfl, OwnL.nil _ _, h⟩
theorem encL_len (xs : List En) (hs : ∀ i, i < xs.length → (nthE xs i).nm.size ≤ 24) : ∀ j, j ≤ xs.length → (encL xs j).length ≤ 26 * j
  | 0, _ => by simp [encL]
  | j + 1, hj => by
    rw [encL_succ xs j (by omega)]
    unfold cat
    have := encL_len xs hs j (by omega)
    have := hs j (by omega)
    simp [sBytes_len]
    omega
set_option maxRecDepth 100000 in
set_option maxHeartbeats 8000000 in
theorem encode_any (salt : Nat → Byte) (a : Option Addr) (cap : Nat) (xs : List En) (w : World) (hk : KeysAt w) (h : ListE w a xs.length (nthE xs)) (hn : xs.length ≤ 140737488351232) (hs : ∀ i, i < xs.length → (nthE xs i).nm.size ≤ 140737488351232) :
    Calls Tryd.prog 20 #[.agg (Fs 16 salt), .slice a xs.length cap] w (BytesPost (encR salt xs) w) := by
  obtain ⟨z, hz⟩ : ∃ z, z = encR salt xs := ⟨_, rfl⟩
  rw [← hz]
  have HZ := Lib.hid hz
  clear hz
  go_enter Tryd.func20, Tryd.ntmps20
  go_upto_region 1 with fail
  have hS0 : Row (w.alloc (.cells (Fs 16 salt) 22)) w.heap.size 22 16 salt := Row.new w 22 16 salt
  have hK0 : Kept (fun _ => False) w (w.alloc (.cells (Fs 16 salt) 22)) := (Kept.refl _ w).alloc _
  generalize hw0 : w.alloc (.cells (Fs 16 salt) 22) = w0 at *
  obtain ⟨gs, hgs⟩ : ∃ gs, gs = w.heap.size := ⟨_, rfl⟩
  rw [← hgs] at hS0 ⊢
  clear hw0 hgs
  have hcon := check_any salt a xs.length cap (nthE xs) w0 (hk.kept hK0) (h.kept hK0) hn hs
  cases hr : rightB salt (nthE xs) xs.length
  · rw [hr] at hcon
    simp only [Bool.false_eq_true, if_false] at hcon
    have HC := Lib.hid hcon
    obtain rfl : z = ([], 3) := by rw [HZ.out]; unfold encR; rw [hr]; rfl
    clear hcon hr
    go_wp2_with (first | (refine wpList_load_row rfl 22 (.tmp 2) rfl gs rfl 22 (Fs 16 salt) (0, 0) _ hS0 Tryd.underlying22 rfl (info22F _) ?_) | ((with_reducible refine (HC.out).mono ?_); rintro r w1 ⟨rfl, k1⟩))
    go_ret2
    exact BytesPost.nil (hK0.trans k1 (fun _ _ h => h))
  rw [hr] at hcon
  simp only [if_true] at hcon
  have HC := Lib.hid hcon
  have HR := Lib.hid hr
  obtain ⟨l1, l2, l3⟩ := right_len hn hr
  obtain rfl : z = (encL xs xs.length, 0) := by rw [HZ.out]; unfold encR; rw [hr]; rfl
  have hsz : ∀ i, i < xs.length → (nthE xs i).nm.size ≤ 24 := fun i hi => (one_size (okTo_one salt (nthE xs) xs.length (rightB_ok hr) i hi)).2.1
  have HSZ := Lib.hid hsz
  have qa : (xs.length : Int) ≤ 440 := by omega
  clear hcon hr HZ hsz
  go_upto_region 4 with (first | (refine wpList_load_row rfl 22 (.tmp 2) rfl gs rfl 22 (Fs 16 salt) (0, 0) _ hS0 Tryd.underlying22 rfl (info22F _) ?_) | ((with_reducible refine (HC.out).mono ?_); rintro r w1 ⟨rfl, k1⟩; clear HC))
  have hK1 : Kept (fun _ => False) w w1 := hK0.trans k1 (fun _ _ h => h)
  clear k1 hS0 hK0
  go_upto_region 6 with fail
  go_loopg [7, 18] xs.length (fun k so si wr => ∃ (j : Nat) (v : Value), j + k = xs.length ∧ si = .int .i64 (j : Int) ∧ v = so ∧ OwnL wr w.heap.size v (encL xs j).length (encL xs j) ∧ Kept (fun _ => False) w wr)
  case atStart => exact ⟨0, _, by omega, rfl, rfl, OwnL.nil _ _, hK1⟩
  case round =>
    clear hK1
    obtain ⟨j, v, hj, rfl, rfl, hO0, hK0⟩ := hrel
    have Hj := Lib.hid hj
    have hjn : j ≤ xs.length := by omega
    have hz0 : w.heap.size ≤ wr.heap.size := hK0.size
    have hel := encL_len xs HSZ.out j hjn
    clear hj
    by_cases hlt : j < xs.length
    · have q1 : (j : Int) < xs.length := by omega
      have q2 : (0 : Int) ≤ j := by omega
      obtain ⟨g, o, rfl, hc⟩ := h.resolve_left (by omega)
      obtain ⟨_, b1, b2, b3⟩ := one_size (okTo_one salt (nthE xs) xs.length (rightB_ok HR.out) j hlt)
      obtain ⟨c0, c1⟩ := (hc j hlt).kept hK0
      have hF := encL_succ xs j hlt
      obtain ⟨x, hx⟩ : ∃ x, x = nthE xs j := ⟨_, rfl⟩
      rw [← hx] at b1 b2 b3 c0 c1 hF
      have HF := Lib.hid hF
      obtain ⟨L, hL⟩ : ∃ L, L = encL xs j := ⟨_, rfl⟩
      rw [← hL] at hO0 hel HF
      obtain ⟨l, hl⟩ : ∃ l, l = L.length := ⟨_, rfl⟩
      rw [← hl] at hO0 hel
      have HLL := Lib.hid hl
      clear hc hx hF hL hl
      obtain ⟨M, hM⟩ : ∃ M : List Byte, M = [BitVec.ofInt 8 x.ino, BitVec.ofInt 8 (x.nm.size : Int)] := ⟨_, rfl⟩
      rw [← hM] at HF
      have hml : M.length = 2 := by rw [hM]; rfl
      have HM := Lib.hid hM
      have HML := Lib.hid hml
      clear hM hml
      have b4 : (x.nm.size : Int) ≤ 24 := by omega
      go_upto_region 8 with fail
      generalize hwx : World.alloc wr _ = wx
      have hE : EAt wx wr.heap.size 0 x := by rw [← hwx]; exact newE' wr x
      have hOx : OwnL wx w.heap.size v l L := by rw [← hwx]; exact OwnL.alloc hO0 _
      have hKx : Kept (fun _ => False) w wx := by rw [← hwx]; exact hK0.alloc _
      have hzx : w.heap.size ≤ wx.heap.size := hKx.size
      have hvb : ∀ k, v.ownBlock = some k → k < wr.heap.size := fun k hk => (hO0.lt hk).2
      obtain ⟨d0, d1⟩ := hE
      have D := Lib.hid (show EAt wx wr.heap.size 0 x from ⟨d0, d1⟩)
      have HVB := Lib.hid hvb
      clear hvb
      generalize wr.heap.size = gx at *
      clear hwx hO0 hK0 c0 c1 hz0
      go_upto_region 9 with (first | (refine appL rfl (.tmp 22) (.tmp 30) rfl w.heap.size v l L (by rfl) (OwnL.alloc hOx _) ⟨wx.heap.size, 0, none⟩ 2 2 M (by rfl) HML.out (fun j b hj => newB2 wx x.ino x.nm.size (by omega) (by omega) (by omega) (by omega) j b (by rw [← HM.out]; exact hj)) (by omega) (by rw [size_alloc]; omega) ?_))
      intro v5 w5 hO5 k5
      have hK5 : Kept (fun _ => False) w w5 := kept_ownL (hKx.alloc _) (Nat.le_refl _) (OwnL.alloc hOx _) k5
      have hz5 : w.heap.size ≤ w5.heap.size := hK5.size
      have hE5 : EAt w5 gx 0 x := (EAt.kept D.out ((Kept.refl _ wx).alloc _)).keptBut k5 (fun h => by have := HVB.out gx h; omega)
      obtain ⟨d0, d1⟩ := hE5
      clear k5 hOx hKx
      go_upto_region 9 with fail
      go_wp2_with (first | (refine appStr rfl (.tmp 32) (.tmp 34) rfl w.heap.size v5 (l + 2) (cat L M) (by rfl) hO5 x.nm (by rfl) (by omega) (by omega) ?_))
      intro v6 w6 hO6 k6
      have hK6 : Kept (fun _ => False) w w6 := kept_ownL hK5 (Nat.le_refl _) hO5 k6
      clear k6 hO5 hK5
      go_wp2_with fail
      go_roundg (gk - 1)
      case measure => have := Hj.out; omega
      case rel =>
        have := Hj.out
        have hl6 := hO6.len
        exact ⟨j + 1, v6, by omega, by go_num, rfl, by rw [HF.out, ← hl6]; exact hO6, hK6⟩
    · obtain rfl : j = xs.length := by omega
      have q1 : ¬ (xs.length : Int) < xs.length := by omega
      have HO := Lib.hid hO0
      clear hO0
      go_wp2_with fail
      go_ret2
      exact ⟨_, rfl, HO.out, hK0⟩
set_option maxRecDepth 100000 in
set_option maxHeartbeats 8000000 in
theorem refBytes_any (salt : Nat → Byte) (a : Option Addr) (cap : Nat) (xs : List En) (w : World) (h : ListE w a xs.length (nthE xs)) (hn : xs.length ≤ 140737488351232) (hr : rightB salt (nthE xs) xs.length = true) :
    Calls Tryd.prog 33 #[.slice a xs.length cap] w fun r w' => ∃ v, r = .returned v ∧ OwnL w' w.heap.size v (encL xs xs.length).length (encL xs xs.length) ∧ Kept (fun _ => False) w w' := by
  have HR := Lib.hid hr
  obtain ⟨l1, l2, l3⟩ := right_len hn hr
  have hsz : ∀ i, i < xs.length → (nthE xs i).nm.size ≤ 24 := fun i hi => (one_size (okTo_one salt (nthE xs) xs.length (rightB_ok hr) i hi)).2.1
  have HSZ := Lib.hid hsz
  have qa : (xs.length : Int) ≤ 440 := by omega
  clear hr hsz
  go_enter Tryd.func33, Tryd.ntmps33
  go_upto_region 3 with fail
  go_loopg [3, 4] xs.length (fun k so si wr => ∃ (j : Nat) (v : Value), j + k = xs.length ∧ si = .int .i64 (j : Int) ∧ v = so ∧ OwnL wr w.heap.size v (encL xs j).length (encL xs j) ∧ Kept (fun _ => False) w wr)
  case atStart => exact ⟨0, _, by omega, rfl, rfl, OwnL.nil _ _, Kept.refl _ w⟩
  case round =>
    obtain ⟨j, v, hj, rfl, rfl, hO0, hK0⟩ := hrel
    have Hj := Lib.hid hj
    have hjn : j ≤ xs.length := by omega
    have hz0 : w.heap.size ≤ wr.heap.size := hK0.size
    have hel := encL_len xs HSZ.out j hjn
    clear hj
    by_cases hlt : j < xs.length
    · have q1 : (j : Int) < xs.length := by omega
      have q2 : (0 : Int) ≤ j := by omega
      obtain ⟨g, o, rfl, hc⟩ := h.resolve_left (by omega)
      obtain ⟨_, b1, b2, b3⟩ := one_size (okTo_one salt (nthE xs) xs.length (rightB_ok HR.out) j hlt)
      have hcj := hc j hlt
      have hF := encL_succ xs j hlt
      obtain ⟨x, hx⟩ : ∃ x, x = nthE xs j := ⟨_, rfl⟩
      rw [← hx] at b1 b2 b3 hcj hF
      have HF := Lib.hid hF
      have HCJ := Lib.hid hcj
      obtain ⟨c0, c1⟩ := hcj.kept hK0
      obtain ⟨L, hL⟩ : ∃ L, L = encL xs j := ⟨_, rfl⟩
      rw [← hL] at hO0 hel HF
      obtain ⟨l, hl⟩ : ∃ l, l = L.length := ⟨_, rfl⟩
      rw [← hl] at hO0 hel
      clear hc hx hF hL hl hcj
      obtain ⟨M, hM⟩ : ∃ M : List Byte, M = [BitVec.ofInt 8 x.ino, BitVec.ofInt 8 (x.nm.size : Int)] := ⟨_, rfl⟩
      rw [← hM] at HF
      have hml : M.length = 2 := by rw [hM]; rfl
      have HM := Lib.hid hM
      have HML := Lib.hid hml
      clear hM hml
      have b4 : (x.nm.size : Int) ≤ 24 := by omega
      go_upto_region 5 with fail
      refine region_perm (fun W => W.cell? ⟨g, o + j * 2, none⟩ = some (.string x.nm) ∧ W.cell? ⟨g, o + j * 2 + 1, none⟩ = some (.int .i64 x.ino)) [(0, true), (1, true), (2, true), (3, true), (4, true), (5, true), (6, true), (7, true), (8, true), (9, true), (10, true), (11, true), (12, false), (13, true), (14, false), (15, false), (16, true)] (by kernel_rfl) (by kernel_rfl) (by intro c a d v w h; cases d <;> exact h) ⟨c0, c1⟩ ?_
      repeat (first | (apply HeldSeq.take; (focus rfl); (focus rfl); (focus (intro W hS; obtain ⟨e0, e1⟩ := hS; go_simp; (try go_bits); rfl)); simp only [List.getElem_toArray]; (try simp only [List.getElem_cons_succ]); (try simp only [List.getElem_cons_zero]); simp only [Act.put, List.setIfInBounds_toArray]; (try simp only [List.set_cons_succ]); (try simp only [List.set_cons_zero])) | (apply HeldSeq.skip; (focus rfl); (focus rfl); simp only [List.getElem_toArray]; (try simp only [List.getElem_cons_succ]); (try simp only [List.getElem_cons_zero]); simp only [Act.put, List.setIfInBounds_toArray]; (try simp only [List.set_cons_succ]); (try simp only [List.set_cons_zero])))
      refine HeldSeq.run rfl rfl (fun K hK => ?_)
      go_simp
      refine hK _ _ ⟨c0, c1⟩ ?_
      clear hK K
      repeat (first | (apply HeldSeq.take; (focus rfl); (focus rfl); (focus (intro W hS; obtain ⟨e0, e1⟩ := hS; go_simp; (try go_bits); rfl)); simp only [List.getElem_toArray]; (try simp only [List.getElem_cons_succ]); (try simp only [List.getElem_cons_zero]); simp only [Act.put, List.setIfInBounds_toArray]; (try simp only [List.set_cons_succ]); (try simp only [List.set_cons_zero])) | (apply HeldSeq.skip; (focus rfl); (focus rfl); simp only [List.getElem_toArray]; (try simp only [List.getElem_cons_succ]); (try simp only [List.getElem_cons_zero]); simp only [Act.put, List.setIfInBounds_toArray]; (try simp only [List.set_cons_succ]); (try simp only [List.set_cons_zero])))
      refine HeldSeq.run rfl rfl (fun K hK => ?_)
      go_simp
      have hOx : OwnL (wr.alloc (.cells #[.int .u8 x.ino, .int .u8 (x.nm.size : Int)] 5)).drew w.heap.size v l L := OwnL.alloc hO0 _
      have hKx : Kept (fun _ => False) w (wr.alloc (.cells #[.int .u8 x.ino, .int .u8 (x.nm.size : Int)] 5)).drew := (hK0.alloc _).drew
      have hMx : ∀ j b, M[j]? = some b → (wr.alloc (.cells #[.int .u8 x.ino, .int .u8 (x.nm.size : Int)] 5)).drew.cell? ((⟨wr.heap.size, 0, none⟩ : Addr).add j) = some (B b) := fun j b hj => newB2 wr x.ino x.nm.size (by omega) (by omega) (by omega) (by omega) j b (by rw [← HM.out]; exact hj)
      generalize (wr.alloc (.cells #[.int .u8 x.ino, .int .u8 (x.nm.size : Int)] 5)).drew = wx at *
      obtain ⟨c0', c1'⟩ := HCJ.out.kept hKx
      have hzx : w.heap.size ≤ wx.heap.size := hKx.size
      refine hK _ _ ⟨c0', c1'⟩ ?_
      clear hK K c0 c1 hO0 hK0
      refine HeldSeq.run rfl rfl (fun K hK => ?_)
      refine wp_appL (.tmp 11) (.tmp 25) rfl w.heap.size v l L (by rfl) hOx ⟨wr.heap.size, 0, none⟩ 2 2 M (by rfl) HML.out hMx (by omega) hzx ?_
      intro v5 w5 hO5 k5
      have hK5 : Kept (fun _ => False) w w5 := kept_ownL hKx (Nat.le_refl _) hOx k5
      have hz5 : w.heap.size ≤ w5.heap.size := hK5.size
      obtain ⟨c0, c1⟩ := HCJ.out.kept hK5
      refine hK _ _ ⟨c0, c1⟩ ?_
      clear hK K k5 hOx hKx hMx c0' c1' hzx hz0
      repeat (first | (apply HeldSeq.take; (focus rfl); (focus rfl); (focus (intro W hS; obtain ⟨e0, e1⟩ := hS; go_simp; (try go_bits); rfl)); simp only [List.getElem_toArray]; (try simp only [List.getElem_cons_succ]); (try simp only [List.getElem_cons_zero]); simp only [Act.put, List.setIfInBounds_toArray]; (try simp only [List.set_cons_succ]); (try simp only [List.set_cons_zero])) | (apply HeldSeq.skip; (focus rfl); (focus rfl); simp only [List.getElem_toArray]; (try simp only [List.getElem_cons_succ]); (try simp only [List.getElem_cons_zero]); simp only [Act.put, List.setIfInBounds_toArray]; (try simp only [List.set_cons_succ]); (try simp only [List.set_cons_zero])))
      refine HeldSeq.done ?_
      obtain ⟨sc, w6, hr, hcap, hb, hk6, hz6⟩ := strSlice w5 x.nm
      have hO6 : OwnL w6 w.heap.size v5 (l + 2) (cat L M) := hO5.kept hk6 (fun _ _ h => h)
      have hK6 : Kept (fun _ => False) w w6 := hK5.trans hk6 (fun _ _ h => h)
      have hzz : w.heap.size ≤ w6.heap.size := hK6.size
      have hMs : ∀ j b, (sBytes x.nm)[j]? = some b → w6.cell? ((⟨w5.heap.size, 0, none⟩ : Addr).add j) = some (B b) := fun j b hj => by
        have hjl : j < x.nm.size := by have := (List.getElem?_eq_some_iff.1 hj).1; rwa [sBytes_len] at this
        rw [sBytes_get x.nm j hjl] at hj
        rcases hb with h0 | ⟨g2, o2, e, hx⟩
        · omega
        · simp only [Option.some.injEq, Addr.mk.injEq] at e
          obtain ⟨rfl, rfl, _⟩ := e
          rw [Addr.add_lit, hx j hjl, Option.some.inj hj]
      clear hb hk6 hz6 hO5 hK5 hcap
      go_upto_region 6 with fail
      go_wp2_with (first | (refine appL rfl (.tmp 27) (.tmp 33) rfl w.heap.size v5 (l + 2) (cat L M) (by rfl) hO6 ⟨w5.heap.size, 0, none⟩ x.nm.size sc (sBytes x.nm) (by rfl) (sBytes_len _) hMs (by omega) hzz ?_))
      intro v7 w7 hO7 k7
      have hK7 : Kept (fun _ => False) w w7 := kept_ownL hK6 (Nat.le_refl _) hO6 k7
      clear k7 hO6 hK6 hr hMs
      go_wp2_with fail
      go_roundg (gk - 1)
      case measure => have := Hj.out; omega
      case rel =>
        have := Hj.out
        have hl6 := hO7.len
        exact ⟨j + 1, v7, by omega, by go_num, rfl, by rw [HF.out, ← hl6]; exact hO7, hK7⟩
    · obtain rfl : j = xs.length := by omega
      have q1 : ¬ (xs.length : Int) < xs.length := by omega
      have HO := Lib.hid hO0
      clear hO0
      go_wp2_with fail
      go_ret
      exact ⟨_, rfl, HO.out, hK0⟩
end Go.Proofs.YtpekibadleghbaaDoor
