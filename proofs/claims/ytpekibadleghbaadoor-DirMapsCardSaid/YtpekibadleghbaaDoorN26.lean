/-
  The walk of the law NamesSalts.
-/
import Derived.Test.YtpekibadleghbaaDoorN25
import Derived.DeepKeys
namespace Go.Proofs.YtpekibadleghbaaDoor
open Go.RowKit
set_option linter.unusedVariables false
set_option linter.unusedSimpArgs false
theorem Fs_inj {n : Nat} {f g : Nat → Byte} (h : Fs n f = Fs n g) : ∀ i, i < n → f i = g i := fun i hi => by
  have h1 := Fs_get n f i hi
  have h2 := Fs_get n g i hi
  rw [h, h2] at h1
  simp only [Option.some.injEq, Value.int.injEq, true_and] at h1
  unfold iB at h1
  exact BitVec.eq_of_toNat_eq (by omega)
theorem hashOf_congr {f g : Nat → Byte} (s : ByteArray) (h : ∀ i, i < 16 → f i = g i) : hashOf f s = hashOf g s := by
  unfold hashOf
  rw [macOf_congr h (fun _ _ => rfl)]
theorem kt22 : Tryd.prog.keyTypeAt 2 22 = true := by kernel_rfl
theorem fm22 (a : Nat → Byte) : (Value.agg (Fs 16 a)).formed Tryd.prog 22 = true := by
  kernel_rfl
theorem mapM_some {α β : Type} {f : α → Option β} {g : α → β} : ∀ {l : List α}, (∀ i, i ∈ l → f i = some (g i)) → l.mapM f = some (l.map g)
  | [], _ => rfl
  | x :: l, h => by
    rw [List.mapM_cons, h x (by simp), mapM_some (fun i hi => h i (by simp [hi]))]
    rfl
theorem kl5 (x : Byte) : Tryd.prog.keyLits 1 5 [B x] = some [Lit.int .u8 (iB x)] := by
  have h1 := iB_ge x
  have h2 := iB_lt x
  have hw : (Lit.int .u8 (iB x)).wf = true := by
    simp [Lit.wf, IntKind.min, IntKind.max, IntKind.signed, IntKind.bits]
    omega
  simp [Program.keyLits, Tryd.underlying5, hw]
theorem kl22 (a : Nat → Byte) : Tryd.prog.keyLits 2 22 (Value.agg (Fs 16 a)).cells.toList = some ((List.range 16).map fun i => Lit.int .u8 (iB (a i))) := by
  have hc : (Value.agg (Fs 16 a)).cells.toList = (List.range 16).map fun i => B (a i) := rfl
  rw [hc]
  unfold Program.keyLits
  have h5 : Tryd.prog.cellsOf 5 = 1 := by kernel_rfl
  have h22 : Tryd.prog.cellsOf 22 = 16 := by kernel_rfl
  simp only [Tryd.underlying22]
  rw [if_pos (by rw [h22]; simp), h5, mapM_some (g := fun i => [Lit.int .u8 (iB (a i))])]
  · rfl
  · intro i hi
    have hi : i < 16 := by simpa using hi
    rw [Nat.mul_one, List.drop_eq_getElem_cons (by simpa using hi)]
    simp only [List.take_succ_cons, List.take_zero, List.getElem_map, List.getElem_range]
    exact kl5 _
theorem eq22 (a b : Nat → Byte) (w : World) : ∃ r : Bool, (Op.equalIn 10000 22 (.agg (Fs 16 a)) (.agg (Fs 16 b))).run Tryd.prog w = .ok r w ∧ (r = true ↔ ∀ i, i < 16 → a i = b i) := by
  obtain ⟨r, h1, h2⟩ := run_equalIn_deep (P := Tryd.prog) 9998 2 22 kt22 w 2 2 _ _ _ _ (fm22 a) (fm22 b) (kl22 a) (kl22 b)
  refine ⟨r, h1, h2.trans ⟨fun h i hi => ?_, fun h => List.map_congr_left fun i hi => by rw [h i (by simpa using hi)]⟩⟩
  have h3 : ((List.range 16).map fun i => Lit.int .u8 (iB (a i)))[i]? = ((List.range 16).map fun i => Lit.int .u8 (iB (b i)))[i]? := by rw [h]
  simp only [List.getElem?_map, List.getElem?_range hi, Option.map_some, Option.some.injEq, Lit.int.injEq, true_and] at h3
  unfold iB at h3
  exact BitVec.eq_of_toNat_eq (by omega)
theorem load_row_g {P : Program} {ops : Array Oper} {rest : List Oper} {o : Oper} {a : Act} {w : World} {Q : Exit → Act → World → Prop} (hwd : Region.wanted o (yielded ops a.tmps) = true) (ty : TypeId) (x : Operand) (ho : o.op = .load ty x)
    (g : Nat) (hx : a.eval x = .pointer (some ⟨g, 0, none⟩)) (t : TypeId) (cs : Array Value) (fr : Nat × Nat) (d : TypeDesc) (hg : w.heap[g]? = some (.cells cs t fr))
    (hu : P.underlying ty = some d) (hd : (match d with | .struct _ | .array _ _ => true | _ => false) = true) (hi : (P.info? ty).map (·.size) = some cs.size)
    (h : wpList P ops Q rest (a.put o.dst (.agg cs)) w) : wpList P ops Q (o :: rest) a w :=
  wpList_step fun K hK => by
    simp only [hwd, if_true]
    exact wp_load_row ty x ho g hx t cs fr d hg hu hd hi (hK _ _ h)
set_option maxRecDepth 100000 in
set_option maxHeartbeats 8000000 in
theorem namesSalts_any (a b : Nat → Byte) (s : ByteArray) (w : World) (hk : KeysAt w) (hr : KeysRef w) (hs : s.size ≤ 140737488351232) :
    Calls Tryd.prog 3 #[.agg (Fs 16 a), .agg (Fs 16 b), .string s] w fun e w' => e = .returned (.bool true) ∧ Kept (fun _ => False) w w' := by
  go_enter Tryd.func3, Tryd.ntmps3
  go_upto_region 1 with fail
  have hA0 : Row ((w.alloc (.cells (Fs 16 a) 22)).alloc (.cells (Fs 16 b) 22)) w.heap.size 22 16 a := (Row.new w 22 16 a).alloc _
  have hB0 : Row ((w.alloc (.cells (Fs 16 a) 22)).alloc (.cells (Fs 16 b) 22)) (w.heap.size + 1) 22 16 b := by
    have := Row.new (w.alloc (.cells (Fs 16 a) 22)) 22 16 b
    rwa [size_alloc] at this
  have hK0 : Kept (fun _ => False) w ((w.alloc (.cells (Fs 16 a) 22)).alloc (.cells (Fs 16 b) 22)) := ((Kept.refl _ w).alloc _).alloc _
  generalize hw0 : (w.alloc (.cells (Fs 16 a) 22)).alloc (.cells (Fs 16 b) 22) = w0 at *
  clear hw0
  refine region_perm (fun W => Row W w.heap.size 22 16 a ∧ Row W (w.heap.size + 1) 22 16 b) [(0, true), (1, true), (3, true), (4, true), (2, false), (5, false), (6, true), (7, true)] (by kernel_rfl) (by kernel_rfl) (by intro c a d v w h; cases d <;> exact h) ⟨hA0, hB0⟩ ?_
  refine HeldSeq.take rfl rfl (fun W hS => yields_row 22 (.tmp 3) rfl w.heap.size rfl 22 (Fs 16 a) (0, 0) _ hS.1 Tryd.underlying22 rfl (info22F _)) ?_
  simp only [List.getElem_toArray]; (try simp only [List.getElem_cons_succ]); (try simp only [List.getElem_cons_zero]); simp only [Act.put, List.setIfInBounds_toArray]; (try simp only [List.set_cons_succ]); (try simp only [List.set_cons_zero])
  repeat (apply HeldSeq.take; (focus rfl); (focus rfl); (focus (intro W _; go_simp; (try go_bits); rfl)); simp only [List.getElem_toArray, List.getElem_cons_zero, List.getElem_cons_succ, Act.put, List.setIfInBounds_toArray, List.set_cons_zero, List.set_cons_succ])
  refine HeldSeq.take rfl rfl (fun W hS => yields_row 22 (.tmp 4) rfl (w.heap.size + 1) rfl 22 (Fs 16 b) (0, 0) _ hS.2 Tryd.underlying22 rfl (info22F _)) ?_
  simp only [List.getElem_toArray]; (try simp only [List.getElem_cons_succ]); (try simp only [List.getElem_cons_zero]); simp only [Act.put, List.setIfInBounds_toArray]; (try simp only [List.set_cons_succ]); (try simp only [List.set_cons_zero])
  repeat (apply HeldSeq.take; (focus rfl); (focus rfl); (focus (intro W _; go_simp; (try go_bits); rfl)); simp only [List.getElem_toArray, List.getElem_cons_zero, List.getElem_cons_succ, Act.put, List.setIfInBounds_toArray, List.set_cons_zero, List.set_cons_succ])
  refine HeldSeq.run rfl rfl (fun K hK => ?_)
  go_simp
  refine (hash_any a s w0.drew (hk.kept hK0.drew) hs).mono ?_
  rintro r w1 ⟨rfl, k1⟩
  have hA1 : Row w1 w.heap.size 22 16 a := k1.at hA0 (fun h => h)
  have hB1 : Row w1 (w.heap.size + 1) 22 16 b := k1.at hB0 (fun h => h)
  have hK1 : Kept (fun _ => False) w w1 := hK0.drew.trans k1 (fun _ _ h => h)
  refine hK _ _ ⟨hA1, hB1⟩ ?_
  clear hK k1 hA0 hB0 hK0 K
  refine HeldSeq.run rfl rfl (fun K hK => ?_)
  go_simp
  refine (hash_any b s w1 (hk.kept hK1) hs).mono ?_
  rintro r w2 ⟨rfl, k2⟩
  have hA2 : Row w2 w.heap.size 22 16 a := k2.at hA1 (fun h => h)
  have hB2 : Row w2 (w.heap.size + 1) 22 16 b := k2.at hB1 (fun h => h)
  have hK2 : Kept (fun _ => False) w w2 := hK1.trans k2 (fun _ _ h => h)
  refine hK _ _ ⟨hA2, hB2⟩ ?_
  clear hK k2 hA1 hB1 hK1 K
  repeat (apply HeldSeq.take; (focus rfl); (focus rfl); (focus (intro W _; go_simp; (try go_bits); rfl)); simp only [List.getElem_toArray, List.getElem_cons_zero, List.getElem_cons_succ, Act.put, List.setIfInBounds_toArray, List.set_cons_zero, List.set_cons_succ])
  refine HeldSeq.done ?_
  go_wp2_with fail
  refine (namesFixed_any _ (hk.kept hK2) (hr.kept hK2)).mono ?_
  rintro r w3 ⟨rfl, k3⟩
  have hA3 : Row w3 w.heap.size 22 16 a := k3.at hA2 (fun h => h)
  have hB3 : Row w3 (w.heap.size + 1) 22 16 b := k3.at hB2 (fun h => h)
  have hK3 : Kept (fun _ => False) w w3 := hK2.trans k3 (fun _ _ h => h)
  clear k3 hA2 hB2 hK2
  go_wp2_with (first | (refine load_row_g rfl 22 (.tmp 3) rfl w.heap.size rfl 22 (Fs 16 a) (0, 0) _ hA3 Tryd.underlying22 rfl (info22F _) ?_))
  refine (refHash_any a s _ (hr.kept hK3) hs).mono ?_
  rintro r w4 ⟨rfl, k4⟩
  have hA4 : Row w4 w.heap.size 22 16 a := k4.at hA3 (fun h => h)
  have hB4 : Row w4 (w.heap.size + 1) 22 16 b := k4.at hB3 (fun h => h)
  have hK4 : Kept (fun _ => False) w w4 := hK3.trans k4 (fun _ _ h => h)
  clear k4 hA3 hB3 hK3
  go_wp2_with (first | (refine load_row_g rfl 22 (.tmp 4) rfl (w.heap.size + 1) rfl 22 (Fs 16 b) (0, 0) _ hB4 Tryd.underlying22 rfl (info22F _) ?_))
  refine (refHash_any b s _ (hr.kept hK4) hs).mono ?_
  rintro r w5 ⟨rfl, k5⟩
  have hA5 : Row w5 w.heap.size 22 16 a := k5.at hA4 (fun h => h)
  have hB5 : Row w5 (w.heap.size + 1) 22 16 b := k5.at hB4 (fun h => h)
  have hK5 : Kept (fun _ => False) w w5 := hK4.trans k5 (fun _ _ h => h)
  clear k5 hA4 hB4 hK4
  go_wp2_with (first | (refine load_row_g rfl 22 (.tmp 3) rfl w.heap.size rfl 22 (Fs 16 a) (0, 0) _ hA5 Tryd.underlying22 rfl (info22F _) ?_))
  refine (hash_any a s _ (hk.kept hK5) hs).mono ?_
  rintro r w6 ⟨rfl, k6⟩
  have hA6 : Row w6 w.heap.size 22 16 a := k6.at hA5 (fun h => h)
  have hB6 : Row w6 (w.heap.size + 1) 22 16 b := k6.at hB5 (fun h => h)
  have hK6 : Kept (fun _ => False) w w6 := hK5.trans k6 (fun _ _ h => h)
  clear k6 hA5 hB5 hK5
  go_wp2_with (first | (refine load_row_g rfl 22 (.tmp 3) rfl w.heap.size rfl 22 (Fs 16 a) (0, 0) _ hA6 Tryd.underlying22 rfl (info22F _) ?_) | (refine load_row_g rfl 22 (.tmp 4) rfl (w.heap.size + 1) rfl 22 (Fs 16 b) (0, 0) _ hB6 Tryd.underlying22 rfl (info22F _) ?_))
  obtain ⟨q, hq, hiff⟩ := eq22 a b w6
  cases q
  · have H := Lib.hid hiff
    clear hiff
    rw [hq]
    clear hq
    go_simp
    go_wp2_with fail
    go_ret
    exact ⟨rfl, hK6⟩
  · have he : hashOf b s = hashOf a s := (hashOf_congr s (hiff.1 rfl)).symm
    have H := Lib.hid hiff
    rw [he]
    clear hiff he
    go_wp2_with fail
    go_ret
    exact ⟨by simp, hK6⟩
end Go.Proofs.YtpekibadleghbaaDoor
