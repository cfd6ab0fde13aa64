/-
  DeleteFunc and Insert at slices of one's own; the walk of with.
-/
import Derived.Test.YtahlmlhdfoijhaaS6
namespace Go.Proofs.Ytahlmlhdfoijhaa
open Go.RowKit
def DelPost (xs : List U) (uid : Int) (base : Nat) (v : Value) (w : World) (r : Ending) (w' : World) : Prop :=
  ∃ v', r = .returned v' ∧ w'.ownsRow base 29 5 v' (others xs uid).length (flat ucl (others xs uid)) ∧ Kept (fun k => v.ownBlock = some k) w w' ∧ v'.ownBlock = v.ownBlock
theorem delete_own (v : Value) (xs : List U) (u : U) (base gb : Nat) (w : World) (ho : w.ownsRow base 29 5 v xs.length (flat ucl xs)) (hgb : gb < base) (hb : RowV w gb 29 u.cs) (hsm : xs.length ≤ 1000) :
    Calls Try.prog 22 #[v, .func (.func 24) #[] #[.pointer (some ⟨gb, 0, none⟩)]] w (DelPost xs u.uid base v w) := by
  rcases ho.2 with ⟨rfl, h0⟩ | ⟨g, cap, cur, rfl, _⟩
  · have he : xs = [] := List.eq_nil_of_length_eq_zero h0
    subst he
    have HB := Lib.hid hb
    clear ho h0 hb hsm
    have key : ∀ w', Kept (fun _ => False) w w' → DelPost [] u.uid base (.slice none 0 0) w (.returned (.slice none 0 0)) w' := fun w' hk =>
      ⟨_, rfl, World.ownsRow_nil _ _ _ _, hk.mono (fun _ _ h => h.elim), rfl⟩
    have KEY := Lib.hid key
    clear key
    go_enter Try.func22, Try.ntmps22
    go_wp2_with (go_at_call 28; refine (index_any none 0 0 (nth []) u gb _ (.inl rfl) (by omega) HB.out).mono ?_; rintro r w2 ⟨⟨i, hi, hu, hf, rfl⟩ | ⟨hf, rfl⟩, hk2⟩)
    · go_ret
      exact KEY.out _ hk2
  · obtain ⟨rest, h1, h2, h3, h4, h5, h6⟩ := owns_blk ho
    have hmx : cap ≤ 9223372036854775807 := by unfold maxLen at h5; omega
    refine (delete_any g cap xs rest u gb w h1 h2 h4 hmx (by omega) (by omega) hb).mono ?_
    rintro r w' ⟨rest', rfl, h7, h8, h9⟩
    have hlen : (others xs u.uid).length ≤ xs.length := by unfold others; exact List.length_filter_le _ _
    exact ⟨_, rfl, h7.owns (flat_length ucl_len _) h8 h6 (by omega) h5, h9.mono (fun k _ e => by subst e; rfl), rfl⟩
theorem insert_own (v : Value) (xs : List U) (u : U) (i base vb vc : Nat) (w : World) (ho : w.ownsRow base 29 5 v xs.length (flat ucl xs)) (hb : base ≤ w.heap.size) (hsm : xs.length ≤ 1000) (hi : i ≤ xs.length) (hv : Blk w vb 29 (ucl u)) (hne : v.ownBlock ≠ some vb) :
    Calls Try.prog 27 #[v, .int .i64 i, .slice (some ⟨vb, 0, none⟩) 1 vc] w (InsPost xs u i base v w) := by
  by_cases he : i = xs.length
  · subst he
    exact insert_end v xs u base vb vc w ho hb (by omega) hv
  · rcases ho.2 with ⟨rfl, h0⟩ | ⟨g, cap, cur, rfl, _⟩
    · omega
    · obtain ⟨rest, h1, h2, h3, h4, h5, h6⟩ := owns_blk ho
      have hmx : cap ≤ 9223372036854775807 := by unfold maxLen at h5; omega
      have hvg : vb ≠ g := fun h => hne (by subst h; rfl)
      by_cases hroom : xs.length + 1 ≤ cap
      · exact insert_shift g cap xs rest u i base vb vc w h1 h2 hmx hsm (by omega) hroom h6 hv hvg
      · exact insert_grow g cap xs rest u i base vb vc w h1 h4 (by omega) (by omega) (by omega) (by omega) hb hv
def insU (u : U) : List U → List U
  | [] => [u]
  | y :: r => if u.uid ≤ y.uid then u :: y :: r else y :: insU u r
theorem insU_split (u : U) : ∀ (ys : List U) (i : Nat), Split ys u.uid i i → insU u ys = ys.take i ++ u :: ys.drop i
  | [], i, h => by have := h.len; simp [insU]
  | y :: r, 0, h => by
    have := h.high 0 (Nat.le_refl _) (by simp)
    simp [nth] at this
    simp [insU, this]
  | y :: r, i + 1, h => by
    have h0 := h.low 0 (by omega)
    simp [nth] at h0
    have ih := insU_split u r i ⟨Nat.le_refl _, by have := h.len; simp at this; omega, fun m hm => by have := h.low (m + 1) (by omega); simpa [nth] using this, fun m hm hl => by have := h.high (m + 1) (by omega) (by simp; omega); simpa [nth] using this⟩
    simp only [insU, if_neg (show ¬ u.uid ≤ y.uid by omega), ih, List.take_succ_cons, List.drop_succ_cons, List.cons_append]
def withL (xs : List U) (u : U) : List U := if idleB u then others xs u.uid else insU u (others xs u.uid)
/-- A list in order, of owners that can be. -/
structure Ordered (xs : List U) : Prop where
  mono : ∀ i j, i ≤ j → j < xs.length → (nth xs i).uid ≤ (nth xs j).uid
  range : ∀ i, i < xs.length → 0 ≤ (nth xs i).uid ∧ (nth xs i).uid ≤ 65535
def WithPost (xs : List U) (u : U) (w : World) (r : Ending) (w' : World) : Prop :=
  ∃ v e, r = .returned (.tuple #[v, .int .i64 e]) ∧ ((withL xs u).length ≤ 8 ∧ e = 0 ∧ w'.ownsRow w.heap.size 29 5 v (withL xs u).length (flat ucl (withL xs u)) ∨ 8 < (withL xs u).length ∧ e = 5 ∧ v = .slice none 0 0) ∧ Kept (fun _ => False) w w'
theorem owns_reads {w : World} {base : Nat} {v : Value} {xs : List U} (ho : w.ownsRow base 29 5 v xs.length (flat ucl xs)) : ∃ a c, v = .slice a xs.length c ∧ ListAt w a xs.length (nth xs) := by
  rcases ho.2 with ⟨rfl, h0⟩ | ⟨g, cap, cur, rfl, _⟩
  · exact ⟨none, 0, by rw [h0], .inl h0⟩
  · obtain ⟨rest, h1, _⟩ := owns_blk ho
    exact ⟨_, _, rfl, .inr ⟨g, 0, rfl, fun i hi => by rw [Nat.zero_add]; exact h1.uat hi⟩⟩
theorem owns_kept {w w' : World} {base : Nat} {v : Value} {n : Nat} {xs : List Value} {S : Nat → Prop} (ho : w.ownsRow base 29 5 v n xs) (hk : Kept S w w') (hn : ∀ k, v.ownBlock = some k → ¬ S k) : w'.ownsRow base 29 5 v n xs := by
  refine ⟨ho.1, ?_⟩
  rcases ho.2 with h | ⟨g, cap, cur, hv, hb, hh, r⟩
  · exact .inl h
  · exact .inr ⟨g, cap, cur, hv, hb, by rw [hk.block g (lt_of_at hh) (hn g (by rw [hv]; rfl))]; exact hh, r⟩
theorem others_mem {xs : List U} {uid : Int} {i : Nat} (h : i < (others xs uid).length) : nth (others xs uid) i ∈ xs := by
  rw [← nth_eq _ i h]; exact (List.mem_filter.1 (List.getElem_mem h)).1
theorem Ordered.others {xs : List U} (h : Ordered xs) (uid : Int) : Ordered (others xs uid) := by
  have hp : xs.Pairwise (fun a b => a.uid ≤ b.uid) := by
    rw [List.pairwise_iff_getElem]
    intro i j hi hj hij
    rw [nth_eq xs i hi, nth_eq xs j hj]
    exact h.mono i j (by omega) hj
  have hp2 : (Go.Proofs.Ytahlmlhdfoijhaa.others xs uid).Pairwise (fun a b => a.uid ≤ b.uid) := hp.filter _
  rw [List.pairwise_iff_getElem] at hp2
  refine ⟨fun i j hij hj => ?_, fun i hi => ?_⟩
  · by_cases e : i = j
    · subst e; exact Int.le_refl _
    · have := hp2 i j (by omega) hj (by omega)
      rwa [nth_eq _ i (by omega), nth_eq _ j hj] at this
  · have hm := others_mem hi
    obtain ⟨j, hj, e⟩ := List.getElem_of_mem hm
    rw [← e, nth_eq xs j hj]
    exact h.range j hj
theorem owns_lower {w : World} {base base' : Nat} {v : Value} {n : Nat} {xs : List Value} (ho : w.ownsRow base 29 5 v n xs) (hb : base' ≤ base) : w.ownsRow base' 29 5 v n xs := by
  refine ⟨ho.1, ?_⟩
  rcases ho.2 with h | ⟨g, cap, cur, hv, hg, r⟩
  · exact .inl h
  · exact .inr ⟨g, cap, cur, hv, by omega, r⟩
theorem insU_length (u : U) (ys : List U) : (insU u ys).length = ys.length + 1 := by
  induction ys with
  | nil => rfl
  | cons y r ih => unfold insU; split <;> simp [ih]
set_option maxHeartbeats 2000000 in
theorem with_any (a : Option Addr) (ca : Nat) (xs : List U) (u : U) (w : World) (ha : ListAt w a xs.length (nth xs)) (hsm : xs.length ≤ 8) (hs : Ordered xs) (h0 : 0 ≤ u.uid) (h1 : u.uid ≤ 65535) :
    Calls Try.prog 19 #[.slice a xs.length ca, u.v] w (WithPost xs u w) := by
  go_enter Try.func19, Try.ntmps19
  go_upto_region 1 with fail
  generalize hw0 : World.alloc w _ = w1
  have hb1 : RowV w1 w.heap.size 29 u.cs := by rw [← hw0]; exact RowV.new w _ _
  have hk1 : Kept (fun _ => False) w w1 := by rw [← hw0]; exact (Kept.refl _ w).alloc _
  have hz1 : w1.heap.size = w.heap.size + 1 := by rw [← hw0]; exact size_alloc _ _
  have ha1 := ha.kept hk1
  have HB1 := Lib.hid hb1
  have HZ1 := Lib.hid hz1
  have HS := Lib.hid hs
  have q1 : xs.length * 40 ≤ 140737488351232 := by omega
  have q2 : xs.length ≤ 1000 := by omega
  have q3 : w.heap.size < w1.heap.size := by omega
  clear hw0 ha hb1 hz1 hs
  go_upto_region 2 with (first
    | (go_at_call 23; go_loud (refine (clone_any a ca xs w1 ha1 q1).mono ?_); rintro r w2 ⟨v1, rfl, ho1, hk2⟩)
    | (go_at_call 22; go_loud (refine (delete_own v1 xs u w1.heap.size w.heap.size w2 ho1 q3 (HB1.out.kept hk2 (fun h => h)) q2).mono ?_); rintro r w3 ⟨v2, rfl, ho2, hk3, hv2⟩))
  have hk4 : Kept (fun _ => False) w1 w3 := hk2.trans hk3 (fun k hk e => by
    have := ho1.lt k e
    omega)
  obtain ⟨ys, hys⟩ : ∃ ys, ys = others xs u.uid := ⟨_, rfl⟩
  rw [← hys] at ho2
  have HO : Ordered ys := by rw [hys]; exact HS.out.others u.uid
  have hly : ys.length ≤ 8 := by rw [hys]; have : (others xs u.uid).length ≤ xs.length := List.length_filter_le _ _; omega
  have hb3 : RowV w3 w.heap.size 29 u.cs := HB1.out.kept hk4 (fun h => h)
  have hk5 : Kept (fun _ => False) w w3 := hk1.trans hk4 (fun _ _ h => h)
  obtain ⟨a2, c2, rfl, hL2⟩ := owns_reads ho2
  have HW : Hid (withL xs u = if idleB u then ys else insU u ys) := Lib.hid (by rw [hys]; rfl)
  have HB3 := Lib.hid hb3
  have hsz : w1.heap.size ≤ w3.heap.size := hk4.size
  have HSZ := Lib.hid hsz
  clear ha1 q1 q2 q3 ho1 hk2 hk3 hk4 hv2 hys HB1 HS hk1 hsm
  obtain ⟨c0, c1, c2', c3, c4⟩ := hb3.u
  clear hb3
  cases hid : idleB u with
  | true =>
    rw [hid] at HW
    go_upto_region 5 with (go_at_call 17; refine (idle_any u _).mono ?_; rw [hid]; rintro r w4 ⟨rfl, hk6⟩)
    have q1 : (ys.length : Int) ≤ 8 := by omega
    go_wp2_with fail
    go_ret2
    refine ⟨_, _, rfl, .inl ⟨?_, rfl, ?_⟩, hk5.trans hk6 (fun _ _ h => h)⟩
    · rw [HW.out]; exact hly
    · rw [HW.out]; exact owns_lower (owns_kept ho2 hk6 (fun _ _ h => h)) (by rw [HZ1.out]; omega)
  | false =>
    rw [hid] at HW
    have hrn : ∀ i, i < ys.length → 0 ≤ (nth ys i).uid ∧ (nth ys i).uid ≤ 65535 := HO.range
    have hmo := HO.mono
    have HRN := Lib.hid hrn
    have HMO := Lib.hid hmo
    have hq : ys.length ≤ 1000 := by omega
    clear hrn hmo
    go_upto_region 3 with (go_at_call 17; refine (idle_any u _).mono ?_; rw [hid]; rintro r w4 ⟨rfl, hk6⟩)
    obtain ⟨c0, c1, c2', c3, c4⟩ := (HB3.out.kept hk6 (fun h => h)).u
    have ho4 := owns_kept ho2 hk6 (fun _ _ h => h)
    have hL4 := hL2.kept hk6
    have hb4 : RowV w4 w.heap.size 29 u.cs := HB3.out.kept hk6 (fun h => h)
    have hk7 : Kept (fun _ => False) w w4 := hk5.trans hk6 (fun _ _ h => h)
    have hsz4 : w1.heap.size ≤ w4.heap.size := Nat.le_trans HSZ.out hk6.size
    have HB4 := Lib.hid hb4
    have HSZ4 := Lib.hid hsz4
    clear ho2 hL2 hk5 hk6 hb4 hsz4 HB3 HSZ
    go_upto_region 4 with (go_at_call 25; go_loud (refine (search_any a2 ys c2 u.uid w4 hL4 hq h0 h1 HMO.out HRN.out).mono ?_); rintro r w5 ⟨i, fb, hS, rfl, hk8⟩)
    obtain ⟨c0, c1, c2', c3, c4⟩ := (HB4.out.kept hk8 (fun h => h)).u
    have ho5 := owns_kept ho4 hk8 (fun _ _ h => h)
    have hk9 : Kept (fun _ => False) w w5 := hk7.trans hk8 (fun _ _ h => h)
    have hsz5 : w1.heap.size ≤ w5.heap.size := Nat.le_trans HSZ4.out hk8.size
    have HS5 := Lib.hid hS
    have hi5 := hS.len
    clear ho4 hL4 hk7 hk8 hS HB4 HSZ4
    have hob : (Value.slice a2 ys.length c2).ownBlock ≠ some w5.heap.size := fun e => by
      have := ho5.lt _ e
      omega
    have hq2 : w1.heap.size ≤ (w5.alloc (.cells (ucl u).toArray 29)).heap.size := by rw [size_alloc]; omega
    have hoA := ho5.alloc (.cells (ucl u).toArray 29)
    have hkA : Kept (fun _ => False) w (w5.alloc (.cells (ucl u).toArray 29)) := hk9.alloc _
    have HK := Lib.hid hkA
    have HOB := Lib.hid ho5
    clear ho5 hk9 hsz5
    go_upto_region 5 with (go_at_call 27; go_loud (refine (insert_own (.slice a2 ys.length c2) ys u i w1.heap.size w5.heap.size 1 (w5.alloc (.cells (ucl u).toArray 29)) hoA hq2 hq hi5 (Blk.new w5 29 (ucl u)) hob).mono ?_); rintro r w6 ⟨v6, rfl, ho6, hk6⟩)
    rw [← insU_split u ys i HS5.out] at ho6
    have hkB : Kept (fun _ => False) w w6 := HK.out.trans hk6 (fun k hk e => by
      have := hoA.lt k e
      have := HZ1.out
      omega)
    have hil := insU_length u ys
    obtain ⟨zs, hzs⟩ : ∃ zs, zs = insU u ys := ⟨_, rfl⟩
    rw [← hzs] at ho6 hil
    rw [← hil] at ho6
    obtain ⟨a6, c6, rfl, hL6⟩ := owns_reads ho6
    have HO6 := Lib.hid (owns_lower ho6 (show w.heap.size ≤ w1.heap.size by rw [HZ1.out]; omega))
    have HW2 : Hid (withL xs u = zs) := Lib.hid (by rw [HW.out, hzs]; rfl)
    have q6 : (zs.length : Int) ≤ 9 := by omega
    clear c0 c1 c2' c3 c4 hob hq2 hoA HK HOB hk6 hil hzs hL6 ho6 HW hq hi5 HS5 HRN HMO hly HO
    by_cases h8 : zs.length ≤ 8
    · have q7 : (zs.length : Int) ≤ 8 := by omega
      go_wp2_with fail
      go_ret2
      exact ⟨_, _, rfl, .inl ⟨by rw [HW2.out]; exact h8, rfl, by rw [HW2.out]; exact HO6.out⟩, hkB⟩
    · have q7 : 8 < (zs.length : Int) := by omega
      go_wp2_with fail
      go_ret2
      exact ⟨_, _, rfl, .inr ⟨by rw [HW2.out]; omega, rfl, rfl⟩, hkB⟩
end Go.Proofs.Ytahlmlhdfoijhaa
