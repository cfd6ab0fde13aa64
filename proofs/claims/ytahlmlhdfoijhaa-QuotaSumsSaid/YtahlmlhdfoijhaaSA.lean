/-
  slices.Clone, IndexFunc, DeleteFunc and BinarySearchFunc of usages.
-/
import Derived.Test.YtahlmlhdfoijhaaQA
import Derived.Test.YtahlmlhdfoijhaaS0
import Derived.Lib.SliceRun
namespace Go.Proofs.Ytahlmlhdfoijhaa
open Go.RowKit
def ucl (u : U) : List Value := [.int .i64 u.uid, .int .i64 u.bl, .int .i64 u.ino, .int .i64 u.mb, .int .i64 u.mi]
theorem ucl_len (u : U) : (ucl u).length = 5 := rfl
theorem ucl_one (u : U) : ∀ v ∈ ucl u, v.oneCell' = true := by
  intro v hv
  simp only [ucl, List.mem_cons, List.not_mem_nil, or_false] at hv
  rcases hv with rfl | rfl | rfl | rfl | rfl <;> rfl
def nth (xs : List U) (i : Nat) : U := xs.getD i ⟨0, 0, 0, 0, 0⟩
theorem nth_get (xs : List U) (i : Nat) (h : i < xs.length) : xs[i]? = some (nth xs i) := by simp [nth, h]
theorem nth_eq (xs : List U) (i : Nat) (h : i < xs.length) : xs[i] = nth xs i := by simp [nth, h]
/-- A list's cells, as one row. -/
theorem ListAt.cells {w : World} {g o n : Nat} {xs : List U} (h : ∀ i, i < n → UAt w g (o + i * 5) (nth xs i)) (hn : xs.length = n) : ∀ j u, (flat ucl xs)[j]? = some u → w.cell? ((⟨g, o, none⟩ : Addr).add j) = some u := by
  intro j u hj
  rw [Addr.add_lit]
  have hlt : j < (flat ucl xs).length := (List.getElem?_eq_some_iff.1 hj).1
  rw [flat_length ucl_len] at hlt
  have hi : j / 5 < xs.length := by omega
  have hg := flat_get (cells := ucl) ucl_len xs [] (j / 5) (j % 5) hi (by omega)
  rw [List.append_nil, show j / 5 * 5 + j % 5 = j by omega, hj, nth_eq xs _ hi] at hg
  have hu := h (j / 5) (by omega)
  have : j % 5 = 0 ∨ j % 5 = 1 ∨ j % 5 = 2 ∨ j % 5 = 3 ∨ j % 5 = 4 := by omega
  rcases this with e | e | e | e | e <;> rw [e] at hg <;> simp [ucl] at hg <;> rw [show o + j = o + j / 5 * 5 + j % 5 by omega, e, hg]
  · exact hu.c0
  · exact hu.c1
  · exact hu.c2
  · exact hu.c3
  · exact hu.c4
theorem Kept.grown {w w' : World} {row : Option Nat} (h : w.grownBy w' row) : Kept (fun k => row = some k) w w' :=
  ⟨h.os, h.tape, h.output, h.size, fun k hk hn => h.block k hk (fun e => hn e.symm)⟩
theorem eql_nil (w : World) (a : Option Addr) (n c : Nat) : (binOp .eql 22 (.slice a n c) (.slice none 0 0)).run Try.prog w = .ok (.bool a.isNone) w := by
  simpa using Lib.run_eql_slice_nil (P := Try.prog) w 22 29 a n c 0 0 Try.underlying22
theorem info29i : Try.prog.info? 29 = some ((Try.prog.info? 29).getD default) := by kernel_rfl
theorem zero29 : ((Try.prog.info? 29).getD default).zero = some (.agg #[.int .i64 0, .int .i64 0, .int .i64 0, .int .i64 0, .int .i64 0]) := by kernel_rfl
theorem size29 : ((Try.prog.info? 29).getD default).size = 5 := by kernel_rfl
theorem bytes29 : ((Try.prog.info? 29).getD default).bytes = 40 := by kernel_rfl
set_option maxHeartbeats 1000000 in
theorem clone_any (a : Option Addr) (ca : Nat) (xs : List U) (w : World) (ha : ListAt w a xs.length (nth xs)) (hla : xs.length * 40 ≤ 140737488351232) :
    Calls Try.prog 23 #[.slice a xs.length ca] w fun r w' => ∃ v, r = .returned v ∧ w'.ownsRow w.heap.size 29 5 v xs.length (flat ucl xs) ∧ Kept (fun _ => False) w w' := by
  have hnil := eql_nil
  cases a with
  | none =>
    have h0 : xs.length = 0 := ha.resolve_right (fun ⟨_, _, h, _⟩ => by simp at h)
    go_enter Try.func23, Try.ntmps23
    go_wp2_with fail
    go_ret
    exact ⟨_, rfl, by rw [h0, List.eq_nil_of_length_eq_zero h0]; exact World.ownsRow_nil _ _ _ _, Kept.refl _ w⟩
  | some p =>
    have hsrc : ∀ j u, (flat ucl xs)[j]? = some u → w.cell? (p.add j) = some u := by
      intro j u hj
      rcases ha with h0 | ⟨g, o, hp, hc⟩
      · rw [List.eq_nil_of_length_eq_zero h0] at hj; simp at hj
      · injection hp with hp
        subst hp
        exact ListAt.cells hc rfl j u hj
    have hlen : (flat ucl xs).length = xs.length * 5 := flat_length ucl_len xs
    generalize hf : flat ucl xs = cs at *
    have h1 : ∀ u ∈ cs, u.oneCell' = true := by rw [← hf]; exact flat_one ucl_one xs
    clear hf ha
    go_enter Try.func23, Try.ntmps23
    go_wp2_with (at_builtin; go_loud (refine wpList_append_own_at _ rfl (.tmp 5) (.tmp 6) 22 rfl w.heap.size 29 _ _ 5 40 Try.underlying22 info29i zero29 size29 bytes29 rfl (by omega) (.slice (some ⟨w.heap.size, 0, none⟩) 0 0) 0 [] (by rfl) (World.ownsRow_made w #[] 0 (Nat.le_refl _) (by unfold maxLen; omega) rfl) p xs.length ca cs (by rfl) hlen (fun j u hj => (((Kept.refl (fun _ => False) w).alloc _).cell (hsrc j u hj))) h1 (by unfold maxLen; omega) (by omega) (by simp) ?_); intro v' w2 hown hgrow hnil hat)
    go_ret
    refine ⟨_, rfl, by simpa using hown, ((Kept.refl _ w).alloc _).trans (Kept.grown hgrow) ?_⟩
    intro i hi h
    simp [Value.ownBlock] at h
    omega
set_option maxHeartbeats 1000000 in
/-- The closure that knows an owner. -/
theorem knows_any (x u : U) (gb : Nat) (w : World) (hb : RowV w gb 29 u.cs) :
    Calls Try.prog 24 #[x.v, .pointer (some ⟨gb, 0, none⟩)] w fun r w' => r = .returned (.bool (decide (x.uid = u.uid))) ∧ Kept (fun _ => False) w w' := by
  have c0 := (hb.alloc (.cells #[.int .i64 x.uid, .int .i64 x.bl, .int .i64 x.ino, .int .i64 x.mb, .int .i64 x.mi] 29)).u.c0
  have hlt := hb.lt
  go_enter Try.func24, Try.ntmps24
  go_wp2_with fail
  go_ret
  exact ⟨by congr 2, (Kept.refl _ w).alloc _⟩
end Go.Proofs.Ytahlmlhdfoijhaa
namespace Go.Proofs.Ytahlmlhdfoijhaa
open Go.RowKit
def IdxPost (f : Nat → U) (n : Nat) (uid : Int) (w : World) (r : Ending) (w' : World) : Prop :=
  ((∃ i : Nat, i < n ∧ (f i).uid = uid ∧ (∀ j, j < i → (f j).uid ≠ uid) ∧ r = .returned (.int .i64 i)) ∨ ((∀ j, j < n → (f j).uid ≠ uid) ∧ r = .returned (.int .i64 (-1)))) ∧ Kept (fun _ => False) w w'
theorem RowV.kept {S : Nat → Prop} {w w' : World} {g : Nat} {t : TypeId} {cs : Array Value} (h : RowV w g t cs) (k : Kept S w w') (hn : ¬ S g) : RowV w' g t cs := k.at h hn
set_option maxHeartbeats 1000000 in
theorem index_any (a : Option Addr) (la ca : Nat) (f : Nat → U) (u : U) (gb : Nat) (w : World) (ha : ListAt w a la f) (hla : la ≤ 140737488351232) (hb : RowV w gb 29 u.cs) :
    Calls Try.prog 28 #[.slice a la ca, .func (.func 24) #[] #[.pointer (some ⟨gb, 0, none⟩)]] w (IdxPost f la u.uid w) := by
  have HB := Lib.hid hb
  clear hb
  go_enter Try.func28, Try.ntmps28
  go_wp2_with fail
  go_loopg [8] (la + 1) (fun k i wr => ∃ n : Nat, n + k = la + 1 ∧ n ≤ la ∧ i = .int .i64 (n : Int) ∧ (∀ j, j < n → (f j).uid ≠ u.uid) ∧ Kept (fun _ => False) w wr)
  case atStart => exact ⟨0, by omega, by omega, rfl, fun i hi => by omega, Kept.refl _ w⟩
  case round =>
    obtain ⟨n, hn, hnl, rfl, hf, hK⟩ := hrel
    have Hn := Lib.hid hn
    have Hf := Lib.hid hf
    clear hn hf
    by_cases hlt : n < la
    · have q : (n : Int) < la := by omega
      have qa : (la : Int) ≤ 140737488351232 := by omega
      obtain ⟨ga, oa, rfl, hca⟩ := ha.resolve_left (by omega)
      obtain ⟨a0, a1, a2, a3, a4⟩ := (hca n hlt).kept hK
      by_cases hu : (f n).uid = u.uid
      · have hd : decide ((f n).uid = u.uid) = true := decide_eq_true hu
        have Hu := Lib.hid hu
        clear hu
        go_wp2_with (go_at_call 24; refine (knows_any (f n) u gb _ (HB.out.kept hK (fun h => h))).mono ?_; rw [hd]; rintro r w2 ⟨rfl, hk2⟩)
        go_ret
        exact ⟨.inl ⟨n, hlt, Hu.out, Hf.out, rfl⟩, hK.trans hk2 (fun _ _ h => h)⟩
      · have hd : decide ((f n).uid = u.uid) = false := decide_eq_false hu
        have Hu := Lib.hid hu
        clear hu
        go_wp2_with (go_at_call 24; refine (knows_any (f n) u gb _ (HB.out.kept hK (fun h => h))).mono ?_; rw [hd]; rintro r w2 ⟨rfl, hk2⟩)
        go_roundg (gk - 1)
        case measure => have := Hn.out; omega
        case rel =>
          have := Hn.out
          refine ⟨n + 1, by omega, by omega, by go_num, fun i hi => ?_, hK.trans hk2 (fun _ _ h => h)⟩
          by_cases h : i = n
          · rw [h]; exact Hu.out
          · exact Hf.out i (by omega)
    · have q : (la : Int) ≤ n := by omega
      go_wp2_with fail
      go_ret
      exact ⟨.inr ⟨fun j hj => Hf.out j (by omega), rfl⟩, hK⟩
end Go.Proofs.Ytahlmlhdfoijhaa
namespace Go.Proofs.Ytahlmlhdfoijhaa
open Go.RowKit
theorem Blk.uat {w : World} {g : Nat} {xs : List U} {r : List Value} (h : Blk w g 29 (flat ucl xs ++ r)) {i : Nat} (hi : i < xs.length) : UAt w g (i * 5) (nth xs i) := by
  have key : ∀ j, j < 5 → w.cell? ⟨g, i * 5 + j, none⟩ = (ucl (nth xs i))[j]? := fun j hj => by
    rw [h.cell, flat_get ucl_len xs r i j hi hj, nth_eq xs i hi]
  exact ⟨key 0 (by omega), key 1 (by omega), key 2 (by omega), key 3 (by omega), key 4 (by omega)⟩
def others (xs : List U) (uid : Int) : List U := xs.filter fun x => !decide (x.uid = uid)
theorem take_snocU (xs : List U) (j : Nat) (h : j < xs.length) : xs.take (j + 1) = xs.take j ++ [nth xs j] := by
  rw [List.take_succ_eq_append_getElem h, nth_eq xs j h]
theorem others_take_yes (xs : List U) (uid : Int) (j : Nat) (h : j < xs.length) (hu : (nth xs j).uid = uid) : others (xs.take (j + 1)) uid = others (xs.take j) uid := by
  unfold others; rw [take_snocU xs j h, List.filter_append]; simp [hu]
theorem others_take_no (xs : List U) (uid : Int) (j : Nat) (h : j < xs.length) (hu : (nth xs j).uid ≠ uid) : others (xs.take (j + 1)) uid = others (xs.take j) uid ++ [nth xs j] := by
  unfold others; rw [take_snocU xs j h, List.filter_append]; simp [hu]
theorem others_none (xs : List U) (uid : Int) (h : ∀ j, j < xs.length → (nth xs j).uid ≠ uid) : others xs uid = xs := by
  unfold others
  rw [List.filter_eq_self]
  intro x hx
  obtain ⟨j, hj, rfl⟩ := List.getElem_of_mem hx
  have := h j hj
  rw [← nth_eq xs j hj] at this
  simp [this]
/-- The state of DeleteFunc's loop. -/
structure DelSt (xs ys : List U) (uid : Int) (i j : Nat) : Prop where
  len : ys.length = xs.length
  lt : i < j
  le : j ≤ xs.length
  kept : ys.take i = others (xs.take j) uid
  ahead : ∀ m, j ≤ m → m < xs.length → nth ys m = nth xs m
theorem DelSt.start (xs : List U) (uid : Int) (i : Nat) (hi : i < xs.length) (hu : (nth xs i).uid = uid) (hf : ∀ j, j < i → (nth xs j).uid ≠ uid) : DelSt xs xs uid i (i + 1) := by
  refine ⟨rfl, by omega, by omega, ?_, fun _ _ _ => rfl⟩
  rw [others_take_yes xs uid i hi hu]
  refine (others_none _ uid fun j hj => ?_).symm
  rw [List.length_take] at hj
  have : nth (xs.take i) j = nth xs j := by
    unfold nth; simp [List.getD, show j < i by omega]
  rw [this]; exact hf j (by omega)
theorem DelSt.yes {xs ys : List U} {uid : Int} {i j : Nat} (h : DelSt xs ys uid i j) (hj : j < xs.length) (hu : (nth xs j).uid = uid) : DelSt xs ys uid i (j + 1) :=
  ⟨h.len, by have := h.lt; omega, by omega, by rw [others_take_yes xs uid j hj hu]; exact h.kept, fun m hm hl => h.ahead m (by omega) hl⟩
theorem DelSt.no {xs ys : List U} {uid : Int} {i j : Nat} (h : DelSt xs ys uid i j) (hj : j < xs.length) (hu : (nth xs j).uid ≠ uid) : DelSt xs (ys.set i (nth xs j)) uid (i + 1) (j + 1) := by
  have hlt := h.lt
  have hlen := h.len
  refine ⟨by rw [List.length_set]; exact h.len, by omega, by omega, ?_, fun m hm hl => ?_⟩
  · rw [others_take_no xs uid j hj hu, ← h.kept, List.take_succ_eq_append_getElem (by rw [List.length_set]; omega), List.take_set_of_le (Nat.le_refl i)]
    simp
  · have := h.ahead m (by omega) hl
    rw [← this]
    unfold nth
    rw [List.getD_eq_getElem?_getD, List.getD_eq_getElem?_getD, List.getElem?_set_ne (by omega), List.getD_eq_getElem?_getD]
theorem spl_cut {α : Type} {cells : α → List Value} {k : Nat} (hk : ∀ x, (cells x).length = k) (ys : List α) (r zs : List Value) (i : Nat) (hi : i ≤ ys.length) (hz : zs.length = (ys.length - i) * k) :
    spl (flat cells ys ++ r) (i * k) zs = flat cells (ys.take i) ++ (zs ++ r) := by
  have h1 : i * k ≤ ys.length * k := Nat.mul_le_mul_right k hi
  have h2 : i * k + zs.length = (flat cells ys).length := by rw [hz, flat_length hk, Nat.sub_mul]; omega
  unfold spl
  rw [List.take_append_of_le_length (by rw [flat_length hk]; omega), flat_take hk, h2, List.drop_append_of_le_length (Nat.le_refl _), List.drop_length]
  simp
theorem zero_one (n : Nat) : ∀ v ∈ (Builtin.zeroCells (U.cs ⟨0, 0, 0, 0, 0⟩) n).toList, v.oneCell' = true := by
  intro v hv
  simp only [Builtin.zeroCells, Array.toList_map, List.mem_map] at hv
  obtain ⟨i, _, rfl⟩ := hv
  have h5 : i % (U.cs ⟨0, 0, 0, 0, 0⟩).size < 5 := Nat.mod_lt _ (by simp)
  generalize i % (U.cs ⟨0, 0, 0, 0, 0⟩).size = m at h5
  have : m = 0 ∨ m = 1 ∨ m = 2 ∨ m = 3 ∨ m = 4 := by omega
  rcases this with rfl | rfl | rfl | rfl | rfl <;> rfl
set_option maxHeartbeats 2000000 in
theorem delete_any (g cap : Nat) (xs : List U) (rest : List Value) (u : U) (gb : Nat) (w : World) (hB : Blk w g 29 (flat ucl xs ++ rest)) (hlen : (flat ucl xs ++ rest).length = cap * 5) (hx : xs.length ≤ cap) (hcap : cap ≤ 9223372036854775807) (hsm : xs.length ≤ 140737488351232)
    (hne : gb ≠ g) (hb : RowV w gb 29 u.cs) :
    Calls Try.prog 22 #[.slice (some ⟨g, 0, none⟩) xs.length cap, .func (.func 24) #[] #[.pointer (some ⟨gb, 0, none⟩)]] w fun r w' =>
      ∃ rest', r = .returned (.slice (some ⟨g, 0, none⟩) (others xs u.uid).length cap) ∧ Blk w' g 29 (flat ucl (others xs u.uid) ++ rest') ∧ (flat ucl (others xs u.uid) ++ rest').length = cap * 5 ∧ Kept (fun k => k = g) w w' := by
  have HB := Lib.hid hB
  have Hb := Lib.hid hb
  have Hlen := Lib.hid hlen
  clear hB hb hlen
  have hL : ListAt w (some ⟨g, 0, none⟩) xs.length (nth xs) := .inr ⟨g, 0, rfl, fun i hi => by rw [Nat.zero_add]; exact HB.out.uat hi⟩
  have hq : xs.length ≤ 140737488351232 := hsm
  go_enter Try.func22, Try.ntmps22
  go_upto_region 2 with (go_at_call 28; refine (index_any _ _ _ (nth xs) u gb _ hL hq Hb.out).mono ?_; rintro r w2 ⟨⟨i, hi, hu, hf, rfl⟩ | ⟨hf, rfl⟩, hk2⟩)
  · have Hf := Lib.hid hf
    have Hu := Lib.hid hu
    have HB2 := Lib.hid (HB.out.kept hk2 (fun h => h))
    have Hb2 := Lib.hid (Hb.out.kept hk2 (fun h => h))
    have HK2 := Lib.hid hk2
    clear hf hu hk2 hL
    have q1 : (0 : Int) ≤ i := by omega
    have q2 : (i : Int) < xs.length := by omega
    have q3 : (xs.length : Int) ≤ 140737488351232 := by omega
    go_wp2_with fail
    go_loopg [5, 6] (xs.length + 1) (fun k si sj wr => ∃ (i j : Nat) (ys : List U), xs.length + 1 ≤ j + k ∧ si = .int .i64 (i : Int) ∧ sj = .int .i64 (j : Int) ∧ DelSt xs ys u.uid i j ∧ Blk wr g 29 (flat ucl ys ++ rest) ∧ Kept (fun k => k = g) w wr)
    case atStart => exact ⟨i, i + 1, xs, by omega, rfl, by go_num, DelSt.start xs u.uid i hi Hu.out Hf.out, HB2.out, HK2.out.mono (fun _ _ h => h.elim)⟩
    case round =>
      clear Hf Hu HB2 Hb2 HK2 q1 q2
      obtain ⟨i, j, ys, hj, rfl, rfl, hD, hB, hK⟩ := hrel
      have Hj := Lib.hid hj
      have HD := Lib.hid hD
      have HB1 := Lib.hid hB
      have hlt := hD.lt
      have hle := hD.le
      have hlen := hD.len
      have Hlen2 := Lib.hid hlen
      clear hj hD hB hlen
      by_cases hjl : j < xs.length
      · have q4 : (j : Int) < xs.length := by omega
        have q5 : (i : Int) < xs.length := by omega
        obtain ⟨a0, a1, a2, a3, a4⟩ := HB1.out.uat (i := j) (by have := Hlen2.out; omega)
        rw [HD.out.ahead j (Nat.le_refl _) hjl] at a0 a1 a2 a3 a4
        go_upto_region 8 with fail
        generalize hw0 : World.alloc wr _ = w3
        have h7 : RowV w3 wr.heap.size 29 (nth xs j).cs := by rw [← hw0]; exact RowV.new wr _ _
        have hB3 : Blk w3 g 29 (flat ucl ys ++ rest) := by rw [← hw0]; exact HB1.out.alloc _
        have hK3 : Kept (fun k => k = g) w w3 := by rw [← hw0]; exact hK.alloc _
        have hglt := HB1.out.lt
        clear hw0 hK a0 a1 a2 a3 a4
        have hdlen := HD.out.len
        by_cases hu : (nth xs j).uid = u.uid
        · have hd : decide ((nth xs j).uid = u.uid) = true := decide_eq_true hu
          have Hu := Lib.hid hu
          clear hu hdlen
          obtain ⟨c0, c1, c2, c3, c4⟩ := h7.u
          go_wp2_with (go_at_call 24; refine (knows_any (nth xs j) u gb _ (Hb.out.kept hK3 (fun h => absurd h hne))).mono ?_; rw [hd]; rintro r w4 ⟨rfl, hk4⟩)
          go_roundg (gk - 1)
          case measure => have := Hj.out; omega
          case rel =>
            have := Hj.out
            exact ⟨i, j + 1, ys, by omega, rfl, by go_num, HD.out.yes hjl Hu.out, hB3.kept hk4 (fun h => h), hK3.trans hk4 (fun _ _ h => h.elim)⟩
        · have hd : decide ((nth xs j).uid = u.uid) = false := decide_eq_false hu
          have Hu := Lib.hid hu
          have hiy : i < ys.length := by omega
          have Hfit := Lib.hid (show i * 5 + (nth xs j).cs.size ≤ (flat ucl ys ++ rest).length by
            rw [List.length_append, flat_length ucl_len]; simp; omega)
          have Hset := Lib.hid (flat_set (cells := ucl) ucl_len ys rest i (nth xs j) hiy)
          have qi : (0 : Int) ≤ i := by omega
          clear hu hdlen hiy
          obtain ⟨c0, c1, c2, c3, c4⟩ := h7.u
          go_upto_region 9 with (go_at_call 24; refine (knows_any (nth xs j) u gb _ (Hb.out.kept hK3 (fun h => absurd h hne))).mono ?_; rw [hd]; rintro r w4 ⟨rfl, hk4⟩)
          have h7' : RowV w4 wr.heap.size 29 (nth xs j).cs := h7.kept hk4 (fun h => h)
          have hB4 : Blk w4 g 29 (flat ucl ys ++ rest) := hB3.kept hk4 (fun h => h)
          have hK4 : Kept (fun k => k = g) w w4 := hK3.trans hk4 (fun _ _ h => h.elim)
          clear c0 c1 c2 c3 c4 h7 hB3 hK3 hk4
          go_wp2_with (first | (refine wpList_load_row rfl 29 (.tmp 7) rfl wr.heap.size rfl 29 (nth xs j).cs (0, 0) _ h7' Try.underlying29 rfl (info29 _) ?_) | (refine wpList_storeK rfl 29 (.tmp 33) (.tmp 32) rfl g (i * 5) (nth xs j).cs (by rfl) (by rfl) 29 _ hB4 (info29 _) Hfit.out (one_cs _) ?_))
          go_roundg (gk - 1)
          case measure => have := Hj.out; omega
          case rel =>
            have := Hj.out
            refine ⟨i + 1, j + 1, ys.set i (nth xs j), by omega, by go_num, by go_num, HD.out.no hjl Hu.out, ?_, hK4.setRow (fun _ => rfl) _⟩
            rw [← Hset.out]
            exact hB4.row _
      · obtain rfl : j = xs.length := by omega
        have HO : Hid (ys.take i = others xs u.uid) := Lib.hid (by have := HD.out.kept; rwa [List.take_length] at this)
        have hdlen := HD.out.len
        have q4 : (i : Int) < xs.length := by omega
        have q0 : (0 : Int) ≤ i := by omega
        have q5 : (i : Int) ≤ cap := by omega
        have q6 : ¬ (cap = i) := by omega
        have q7 : (cap : Int) ≤ 9223372036854775807 := by omega
        have Hcl := fun (W : World) (h : Blk W g 29 (flat ucl ys ++ rest)) ty c => run_clearK (P := Try.prog) W 22 ty 29 (U.cs ⟨0, 0, 0, 0, 0⟩) 5 g (i * 5) (xs.length - i) c _ 29 Try.underlying22 (by kernel_rfl) rfl h (by omega) (by rw [List.length_append, flat_length ucl_len]; omega) (zero_one _)
        have HCL := Lib.hid Hcl
        clear Hcl hdlen
        go_wp2_with (refine wpList_clearK rfl (.tmp 38) 22 rfl (by rfl) (HCL.out _ HB1.out _ _) ?_)
        go_ret
        have hlen2 := HD.out.len
        have hL2 : (others xs u.uid).length = i := by rw [← HO.out, List.length_take]; omega
        have hz : (Builtin.zeroCells (U.cs ⟨0, 0, 0, 0, 0⟩) (xs.length - i)).toList.length = (ys.length - i) * 5 := by rw [Array.length_toList, size_zeroCells]; simp; omega
        have hs := spl_cut (cells := ucl) ucl_len ys rest _ i (by omega) hz
        refine ⟨(Builtin.zeroCells (U.cs ⟨0, 0, 0, 0, 0⟩) (xs.length - i)).toList ++ rest, by rw [hL2]; rfl, ?_, ?_, hK.setRow (fun _ => rfl) _⟩
        · have := HB1.out.row (spl (flat ucl ys ++ rest) (i * 5) (Builtin.zeroCells (U.cs ⟨0, 0, 0, 0, 0⟩) (xs.length - i)).toList)
          rw [hs, HO.out] at this
          rw [hs, HO.out]
          exact this
        · have h3 := Hlen.out
          rw [List.length_append, flat_length ucl_len] at h3 ⊢
          rw [List.length_append, hz, hL2]
          omega
  · have HO : Hid (others xs u.uid = xs) := Lib.hid (others_none xs u.uid hf)
    clear hf
    go_wp2_with fail
    go_ret
    exact ⟨rest, by rw [HO.out]; rfl, by rw [HO.out]; exact HB.out.kept hk2 (fun h => h), by rw [HO.out]; exact Hlen.out, hk2.mono (fun _ _ h => h.elim)⟩
end Go.Proofs.Ytahlmlhdfoijhaa
namespace Go.Proofs.Ytahlmlhdfoijhaa
open Go.RowKit
set_option maxHeartbeats 1000000 in
theorem less_any (x : U) (uid : Int) (w : World) (h0 : 0 ≤ x.uid) (h1 : x.uid ≤ 65535) (h2 : 0 ≤ uid) (h3 : uid ≤ 65535) :
    Calls Try.prog 26 #[x.v, .int .i64 uid] w fun r w' => r = .returned (.int .i64 (x.uid - uid)) ∧ Kept (fun _ => False) w w' := by
  go_enter Try.func26, Try.ntmps26
  go_wp2_with fail
  go_ret
  exact ⟨by first | rfl | congr 2, (Kept.refl _ w).alloc _⟩
structure Split (xs : List U) (uid : Int) (i j : Nat) : Prop where
  le : i ≤ j
  len : j ≤ xs.length
  low : ∀ m, m < i → (nth xs m).uid < uid
  high : ∀ m, j ≤ m → m < xs.length → uid ≤ (nth xs m).uid
def SearchPost (xs : List U) (uid : Int) (w : World) (r : Ending) (w' : World) : Prop := ∃ (i : Nat) (b : Bool), Split xs uid i i ∧ r = .returned (.tuple #[.int .i64 (i : Int), .bool b]) ∧ Kept (fun _ => False) w w'
set_option maxHeartbeats 2000000 in
theorem search_any (a : Option Addr) (xs : List U) (ca : Nat) (uid : Int) (w : World) (ha : ListAt w a xs.length (nth xs)) (hla : xs.length ≤ 1000) (h2 : 0 ≤ uid) (h3 : uid ≤ 65535)
    (hm : ∀ i j, i ≤ j → j < xs.length → (nth xs i).uid ≤ (nth xs j).uid) (hr : ∀ i, i < xs.length → 0 ≤ (nth xs i).uid ∧ (nth xs i).uid ≤ 65535) :
    Calls Try.prog 25 #[.slice a xs.length ca, .int .i64 uid, .func (.func 26) #[] #[]] w (SearchPost xs uid w) := by
  have HM := Lib.hid hm
  have HR := Lib.hid hr
  clear hm hr
  have qa : (xs.length : Int) ≤ 1000 := by omega
  go_enter Try.func25, Try.ntmps25
  go_wp2_with fail
  go_loopg [9, 10] (xs.length + 1) (fun k si sj wr => ∃ i j : Nat, j + 1 ≤ i + k ∧ si = .int .i64 (i : Int) ∧ sj = .int .i64 (j : Int) ∧ Split xs uid i j ∧ Kept (fun _ => False) w wr)
  case atStart => exact ⟨0, xs.length, by omega, rfl, rfl, ⟨by omega, by omega, fun m hm => by omega, fun m h1 h2 => by omega⟩, Kept.refl _ w⟩
  case round =>
    obtain ⟨i, j, hk, rfl, rfl, hS, hK⟩ := hrel
    have Hk := Lib.hid hk
    have HS := Lib.hid hS
    have hle := hS.le
    have hlen := hS.len
    clear hk hS
    by_cases hlt : i < j
    · have q : (i : Int) < j := by omega
      have q1 : (j : Int) ≤ 1000 := by omega
      obtain ⟨ga, oa, rfl, hca⟩ := ha.resolve_left (by omega)
      obtain ⟨h, hh⟩ : ∃ h : Nat, h = (i + j) / 2 := ⟨_, rfl⟩
      have qh1 : i ≤ h := by omega
      have qh2 : h < j := by omega
      have qh3 : ((i : Int) + j) / 2 = h := by omega
      clear hh
      go_upto_region 5 with fail
      clear qh3
      obtain ⟨a0, a1, a2, a3, a4⟩ := (hca h (by omega)).kept hK
      have qh4 : (h : Int) < xs.length := by omega
      have hr0 := HR.out h (by omega)
      by_cases hb : (nth xs h).uid < uid
      · have hd : decide ((nth xs h).uid - uid < 0) = true := decide_eq_true (by omega)
        have hd2 : (nth xs h).uid - uid < 0 := by omega
        have Hb := Lib.hid hb
        clear hb
        go_wp2_with (go_at_call 26; refine (less_any (nth xs h) uid _ hr0.1 hr0.2 h2 h3).mono ?_; rintro r w2 ⟨rfl, hk2⟩)
        go_roundg (gk - 1)
        case measure => have := Hk.out; omega
        case rel =>
          have := Hk.out
          refine ⟨h + 1, j, by omega, by go_num, rfl, ⟨by omega, hlen, fun m hm => ?_, HS.out.high⟩, hK.trans hk2 (fun _ _ h => h)⟩
          have := HM.out m h (by omega) (by omega)
          have := Hb.out
          omega
      · have hd : decide ((nth xs h).uid - uid < 0) = false := decide_eq_false (by omega)
        have hd2 : 0 ≤ (nth xs h).uid - uid := by omega
        have Hb := Lib.hid hb
        clear hb
        go_wp2_with (go_at_call 26; refine (less_any (nth xs h) uid _ hr0.1 hr0.2 h2 h3).mono ?_; rintro r w2 ⟨rfl, hk2⟩)
        go_roundg (gk - 1)
        case measure => have := Hk.out; omega
        case rel =>
          have := Hk.out
          refine ⟨i, h, by omega, rfl, rfl, ⟨by omega, by omega, HS.out.low, fun m hm hl => ?_⟩, hK.trans hk2 (fun _ _ h => h)⟩
          have := HM.out h m (by omega) (by omega)
          have := Hb.out
          omega
    · have hij : i = j := by omega
      subst hij
      have HS2 := HS
      by_cases hin : i < xs.length
      · have q : (i : Int) < xs.length := by omega
        have hd : decide ((i : Int) < xs.length) = true := decide_eq_true q
        obtain ⟨ga, oa, rfl, hca⟩ := ha.resolve_left (by omega)
        obtain ⟨a0, a1, a2, a3, a4⟩ := (hca i hin).kept hK
        have hr0 := HR.out i (by omega)
        go_wp2_with (go_at_call 26; refine (less_any (nth xs i) uid _ hr0.1 hr0.2 h2 h3).mono ?_; rintro r w2 ⟨rfl, hk2⟩)
        go_ret2
        exact ⟨i, _, HS2.out, rfl, hK.trans hk2 (fun _ _ h => h)⟩
      · have q : (xs.length : Int) ≤ i := by omega
        have hd : decide ((i : Int) < xs.length) = false := decide_eq_false (by omega)
        go_wp2_with fail
        go_ret2
        exact ⟨i, _, HS2.out, rfl, hK⟩
end Go.Proofs.Ytahlmlhdfoijhaa
