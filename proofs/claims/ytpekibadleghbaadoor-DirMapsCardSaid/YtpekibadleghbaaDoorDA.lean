/-
  Entries of a directory; their sizes, their rules, their search and what Find answers.
-/
import Derived.Test.YtpekibadleghbaaDoorN28
namespace Go.Proofs.YtpekibadleghbaaDoor
open Go.RowKit
set_option linter.unusedVariables false
set_option linter.unusedSimpArgs false
structure En where
  nm : ByteArray
  ino : Int
def ecl (e : En) : List Value := [.string e.nm, .int .i64 e.ino]
theorem ecl_len (e : En) : (ecl e).length = 2 := rfl
theorem ecl_one (e : En) : ∀ v ∈ ecl e, v.oneCell' = true := by
  intro v hv
  simp only [ecl, List.mem_cons, List.not_mem_nil, or_false] at hv
  rcases hv with rfl | rfl <;> rfl
def nthE (xs : List En) (i : Nat) : En := xs.getD i ⟨⟨#[]⟩, 0⟩
theorem nthE_get (xs : List En) (i : Nat) (h : i < xs.length) : xs[i]? = some (nthE xs i) := by simp [nthE, h]
theorem nthE_eq (xs : List En) (i : Nat) (h : i < xs.length) : xs[i] = nthE xs i := by simp [nthE, h]
/-- An entry at a place. -/
def EAt (w : World) (g o : Nat) (e : En) : Prop := w.cell? ⟨g, o, none⟩ = some (.string e.nm) ∧ w.cell? ⟨g, o + 1, none⟩ = some (.int .i64 e.ino)
/-- n entries that a slice leads to. -/
def ListE (w : World) (a : Option Addr) (n : Nat) (f : Nat → En) : Prop := n = 0 ∨ ∃ g o, a = some ⟨g, o, none⟩ ∧ ∀ i, i < n → EAt w g (o + i * 2) (f i)
theorem EAt.kept {w w' : World} {g o : Nat} {e : En} (h : EAt w g o e) (k : Kept (fun _ => False) w w') : EAt w' g o e := ⟨k.cell h.1, k.cell h.2⟩
theorem ListE.kept {w w' : World} {a : Option Addr} {n : Nat} {f : Nat → En} (h : ListE w a n f) (k : Kept (fun _ => False) w w') : ListE w' a n f := by
  rcases h with h | ⟨g, o, ha, hc⟩
  · exact .inl h
  · exact .inr ⟨g, o, ha, fun i hi => (hc i hi).kept k⟩
/-- The entries' bytes, as int64 sums them. -/
def szE (f : Nat → En) : Nat → Int
  | 0 => 0
  | n + 1 => wrap64 (szE f n + (2 + ((f n).nm.size : Int)))
def oneB (nm : ByteArray) (ino : Int) : Bool := validB nm && decide (1 ≤ ino) && decide (ino ≤ 24)
def okTo (salt : Nat → Byte) (f : Nat → En) : Nat → Bool
  | 0 => true
  | n + 1 => okTo salt f n && (oneB (f n).nm (f n).ino && (n == 0 || decide (orderOf salt (f (n - 1)).nm (f n).nm < 0)))
def rightB (salt : Nat → Byte) (f : Nat → En) (n : Nat) : Bool := decide (szE f n ≤ 1320) && okTo salt f n
theorem okTo_false (salt : Nat → Byte) (f : Nat → En) (i : Nat) (h : (oneB (f i).nm (f i).ino && (i == 0 || decide (orderOf salt (f (i - 1)).nm (f i).nm < 0))) = false) : ∀ n, i < n → okTo salt f n = false
  | 0, hi => by omega
  | n + 1, hi => by
    unfold okTo
    by_cases e : i = n
    · subst e; rw [h, Bool.and_false]
    · rw [okTo_false salt f i h n (by omega), Bool.false_and]
theorem valid_size (s : ByteArray) (h : validB s = true) : 1 ≤ s.size ∧ s.size ≤ 24 := by
  unfold validB at h
  simp only [Bool.and_eq_true, Bool.not_eq_true', Bool.or_eq_false_iff, decide_eq_false_iff_not] at h
  omega
theorem okTo_one (salt : Nat → Byte) (f : Nat → En) : ∀ n, okTo salt f n = true → ∀ i, i < n → oneB (f i).nm (f i).ino = true
  | 0, _, i, hi => by omega
  | n + 1, h, i, hi => by
    unfold okTo at h
    simp only [Bool.and_eq_true] at h
    by_cases e : i = n
    · subst e; exact h.2.1
    · exact okTo_one salt f n h.1 i (by omega)
theorem okTo_ord (salt : Nat → Byte) (f : Nat → En) : ∀ n, okTo salt f n = true → ∀ i, i + 1 < n → orderOf salt (f i).nm (f (i + 1)).nm < 0
  | 0, _, i, hi => by omega
  | n + 1, h, i, hi => by
    unfold okTo at h
    simp only [Bool.and_eq_true, Bool.or_eq_true, decide_eq_true_eq, beq_iff_eq] at h
    by_cases e : i + 1 = n
    · subst e
      rcases h.2.2 with h1 | h1
      · omega
      · exact h1
    · exact okTo_ord salt f n h.1 i (by omega)
theorem one_size {nm : ByteArray} {ino : Int} (h : oneB nm ino = true) : 1 ≤ nm.size ∧ nm.size ≤ 24 ∧ 1 ≤ ino ∧ ino ≤ 24 := by
  unfold oneB at h
  simp only [Bool.and_eq_true, decide_eq_true_eq] at h
  have := valid_size nm h.1.1
  omega
theorem newE (w : World) (nm : ByteArray) (ino : Int) : EAt (w.alloc (.cells #[.string nm, .int .i64 ino] 68)) w.heap.size 0 ⟨nm, ino⟩ :=
  ⟨cell_of_row _ w.heap.size 0 _ 68 _ (heap_alloc_new w _), cell_of_row _ w.heap.size 1 _ 68 _ (heap_alloc_new w _)⟩
section
variable {P : Program} {ops : Array Oper} {Q : Exit → Act → World → Prop} {S : World → Prop}
/-- One in the chain whose guard denies it. -/
theorem HeldSeq.pass {i : Nat} {r : List (Nat × Bool)} {a : Act} {w : World} {o : Oper} (ho : ops[i]? = some o) (hg : Region.wanted o (yielded ops a.tmps) = false)
    (hS : S w) (h : HeldSeq P ops S Q r (a.put o.dst undef) w) : HeldSeq P ops S Q ((i, false) :: r) a w := by
  show wpOp P ops Q i _ a w
  unfold wpOp
  simp only [ho, hg]
  exact ⟨hS, h⟩
end
end Go.Proofs.YtpekibadleghbaaDoor
namespace Go.Proofs.YtpekibadleghbaaDoor
open Go.RowKit
set_option linter.unusedVariables false
set_option linter.unusedSimpArgs false
set_option maxRecDepth 100000 in
set_option maxHeartbeats 4000000 in
theorem size_any (a : Option Addr) (n cap : Nat) (f : Nat → En) (w : World) (h : ListE w a n f) (hn : n ≤ 140737488351232) (hs : ∀ i, i < n → (f i).nm.size ≤ 140737488351232) :
    Calls Tryd.prog 18 #[.slice a n cap] w fun r w' => r = .returned (.int .i64 (szE f n)) ∧ Kept (fun _ => False) w w' := by
  go_enter Tryd.func18, Tryd.ntmps18
  go_wp2_with fail
  go_loopg [3, 8] n (fun k s i wr => ∃ j : Nat, j + k = n ∧ j ≤ n ∧ i = .int .i64 (j : Int) ∧ s = .int .i64 (szE f j) ∧ Kept (fun _ => False) w wr)
  case atStart => exact ⟨0, by omega, by omega, rfl, rfl, Kept.refl _ w⟩
  case round =>
    obtain ⟨j, hj, hj2, rfl, rfl, hK⟩ := hrel
    have Hj := Lib.hid hj
    clear hj
    by_cases hlt : j < n
    · have q1 : (j : Int) < n := by omega
      have q2 : (0 : Int) ≤ j := by omega
      have q3 : (n : Int) ≤ 140737488351232 := by omega
      have hsj := hs j hlt
      obtain ⟨g, o, rfl, hc⟩ := h.resolve_left (by omega)
      obtain ⟨c0, c1⟩ := (hc j hlt).kept hK
      have hS : szE f (j + 1) = wrap64 (szE f j + (2 + ((f j).nm.size : Int))) := rfl
      have HS := Lib.hid hS
      clear hS hc
      generalize (f j).nm = nm at *
      generalize (f j).ino = ino at *
      generalize szE f j = z at *
      have q4 : (nm.size : Int) ≤ 140737488351232 := by omega
      go_wp2_with fail
      go_roundg (gk - 1)
      case measure => have := Hj.out; omega
      case rel =>
        have := Hj.out
        exact ⟨j + 1, by omega, by omega, by go_num, by rw [HS.out], hK.alloc _⟩
    · obtain rfl : n = j := by omega
      have q1 : ¬ (n : Int) < n := by omega
      go_wp2_with fail
      go_ret
      exact ⟨rfl, hK⟩
set_option maxRecDepth 100000 in
set_option maxHeartbeats 4000000 in
theorem one_any (nm : ByteArray) (ino : Int) (w : World) : Calls Tryd.prog 43 #[.string nm, .int .i64 ino] w fun r w' => r = .returned (.bool (oneB nm ino)) ∧ Kept (fun _ => False) w w' := by
  obtain ⟨z, hz⟩ : ∃ z, z = oneB nm ino := ⟨_, rfl⟩
  obtain ⟨v, hv⟩ : ∃ v, v = validB nm := ⟨_, rfl⟩
  have hc := valid_any nm w
  rw [← hz]
  rw [← hv] at hc
  unfold oneB at hz
  rw [← hv] at hz
  have HC := Lib.hid hc
  have HZ := Lib.hid hz
  clear hc hz hv
  go_enter Tryd.func43, Tryd.ntmps43
  go_wp2_with fail
  refine (HC.out).mono ?_
  rintro r w1 ⟨rfl, hk⟩
  clear HC
  cases v
  · obtain rfl : z = false := HZ.out
    clear HZ
    go_wp2_with fail
    go_ret
    exact ⟨rfl, hk⟩
  · by_cases h1 : 1 ≤ ino
    · by_cases h2 : ino ≤ 24
      · obtain rfl : z = true := by rw [HZ.out]; simp [h1, h2]
        clear HZ
        go_wp2_with fail
        go_ret
        exact ⟨by simp, hk⟩
      · obtain rfl : z = false := by rw [HZ.out]; simp [h2]
        clear HZ
        go_wp2_with fail
        go_ret
        exact ⟨by simp; omega, hk⟩
    · obtain rfl : z = false := by rw [HZ.out]; simp [h1]
      clear HZ
      go_wp2_with fail
      go_ret
      exact ⟨by simp, hk⟩
set_option maxRecDepth 100000 in
set_option maxHeartbeats 16000000 in
theorem check_any (salt : Nat → Byte) (a : Option Addr) (n cap : Nat) (f : Nat → En) (w : World) (hk : KeysAt w) (h : ListE w a n f) (hn : n ≤ 140737488351232) (hs : ∀ i, i < n → (f i).nm.size ≤ 140737488351232) :
    Calls Tryd.prog 21 #[.agg (Fs 16 salt), .slice a n cap] w fun r w' => r = .returned (.int .i64 (if rightB salt f n = true then 0 else 3)) ∧ Kept (fun _ => False) w w' := by
  obtain ⟨z, hz⟩ : ∃ z, z = rightB salt f n := ⟨_, rfl⟩
  rw [← hz]
  have HZ := Lib.hid hz
  clear hz
  go_enter Tryd.func21, Tryd.ntmps21
  go_upto_region 1 with fail
  have hS0 : Row (w.alloc (.cells (Fs 16 salt) 22)) w.heap.size 22 16 salt := Row.new w 22 16 salt
  have hK0 : Kept (fun _ => False) w (w.alloc (.cells (Fs 16 salt) 22)) := (Kept.refl _ w).alloc _
  generalize hw0 : w.alloc (.cells (Fs 16 salt) 22) = w0 at *
  clear hw0
  obtain ⟨sz, hsz⟩ : ∃ sz, sz = szE f n := ⟨_, rfl⟩
  have hcs := size_any a n cap f w0 (h.kept hK0) hn hs
  rw [← hsz] at hcs
  have HS := Lib.hid hsz
  have HC := Lib.hid hcs
  clear hsz hcs
  by_cases hbig : 1320 < sz
  · obtain rfl : z = false := by rw [HZ.out]; unfold rightB; rw [← HS.out, decide_eq_false (by omega)]; rfl
    go_wp2_with (first | ((with_reducible refine (HC.out).mono ?_); rintro r w1 ⟨rfl, k1⟩))
    go_ret
    exact ⟨rfl, hK0.trans k1 (fun _ _ h => h)⟩
  have hz : z = okTo salt f n := by rw [HZ.out]; unfold rightB; rw [← HS.out, decide_eq_true (by omega)]; rfl
  have HZ2 := Lib.hid hz
  clear hz HZ
  go_wp2_with (first | ((with_reducible refine (HC.out).mono ?_); rintro r w1 ⟨rfl, k1⟩))
  have hS1 : Row w1 w.heap.size 22 16 salt := k1.at hS0 (fun h => h)
  have hK1 : Kept (fun _ => False) w w1 := hK0.trans k1 (fun _ _ h => h)
  clear k1 hS0 hK0 HC HS
  go_loopg [12] n (fun k i wr => ∃ j : Nat, j + k = n ∧ j ≤ n ∧ i = .int .i64 (j : Int) ∧ okTo salt f j = true ∧ Row wr w.heap.size 22 16 salt ∧ Kept (fun _ => False) w wr)
  case atStart => exact ⟨0, by omega, by omega, rfl, rfl, hS1, hK1⟩
  case round =>
    clear hS1 hK1
    obtain ⟨j, hj, hj2, rfl, hok, hS, hK⟩ := hrel
    have Hj := Lib.hid hj
    have HO := Lib.hid hok
    clear hj hok
    by_cases hlt : j < n
    · have q1 : (j : Int) < n := by omega
      have q2 : (0 : Int) ≤ j := by omega
      have q3 : (n : Int) ≤ 140737488351232 := by omega
      obtain ⟨g, o, rfl, hc⟩ := h.resolve_left (by omega)
      obtain ⟨c0, c1⟩ := (hc j hlt).kept hK
      have hF : okTo salt f (j + 1) = (okTo salt f j && (oneB (f j).nm (f j).ino && (j == 0 || decide (orderOf salt (f (j - 1)).nm (f j).nm < 0)))) := rfl
      have hN := okTo_false salt f j
      have HF := Lib.hid hF
      have HN := Lib.hid hN
      clear hF hN
      obtain ⟨nm, hnm⟩ : ∃ nm, nm = (f j).nm := ⟨_, rfl⟩
      obtain ⟨ino, hino⟩ : ∃ ino, ino = (f j).ino := ⟨_, rfl⟩
      rw [← hnm] at c0 HF HN
      rw [← hino] at c1 HF HN
      have HNM := Lib.hid hnm
      clear hnm hino
      go_upto_region 6 with fail
      generalize hw6 : World.alloc wr _ = w6
      have hz6 : wr.heap.size < w6.heap.size := by rw [← hw6, size_alloc]; omega
      have d0 : w6.cell? ⟨wr.heap.size, 0, none⟩ = some (.string nm) := by rw [← hw6]; exact (newE wr nm ino).1
      have d1 : w6.cell? ⟨wr.heap.size, 1, none⟩ = some (.int .i64 ino) := by rw [← hw6]; exact (newE wr nm ino).2
      have hS6 : Row w6 w.heap.size 22 16 salt := by rw [← hw6]; exact hS.alloc _
      have hK6 : Kept (fun _ => False) w w6 := by rw [← hw6]; exact hK.alloc _
      generalize hgx : wr.heap.size = gx at *
      clear hw6 hgx hS hK c0 c1 hz6
      cases h1 : oneB nm ino
      · obtain rfl : z = false := by
          rw [HZ2.out]; exact HN.out (by rw [h1]; rfl) n hlt
        have hone := fun W => one_any nm ino W
        rw [h1] at hone
        have HONE := Lib.hid hone
        clear hone h1
        refine region_perm (fun W => W.cell? ⟨gx, 0, none⟩ = some (.string nm) ∧ W.cell? ⟨gx, 1, none⟩ = some (.int .i64 ino)) [(0, true), (1, true), (2, true), (3, true), (4, false), (5, true), (6, true), (7, true), (8, true), (9, true), (10, true), (11, true), (12, true), (13, true), (14, true), (15, true), (16, true), (17, true), (18, true), (19, false), (20, true), (21, true), (22, true)] (by kernel_rfl) (by kernel_rfl) (by intro c a d v w h; cases d <;> exact h) ⟨d0, d1⟩ ?_
        repeat (first | (apply HeldSeq.take; (focus rfl); (focus rfl); (focus (intro W hS; obtain ⟨e0, e1⟩ := hS; go_simp; (try go_bits); rfl)); simp only [List.getElem_toArray]; (try simp only [List.getElem_cons_succ]); (try simp only [List.getElem_cons_zero]); simp only [Act.put, List.setIfInBounds_toArray]; (try simp only [List.set_cons_succ]); (try simp only [List.set_cons_zero])) | (apply HeldSeq.skip; (focus rfl); (focus rfl); simp only [List.getElem_toArray]; (try simp only [List.getElem_cons_succ]); (try simp only [List.getElem_cons_zero]); simp only [Act.put, List.setIfInBounds_toArray]; (try simp only [List.set_cons_succ]); (try simp only [List.set_cons_zero])))
        refine HeldSeq.run rfl rfl (fun K hK => ?_)
        go_simp
        refine (HONE.out w6.drew).mono ?_
        rintro r w7 ⟨rfl, k7⟩
        have d0' : w7.cell? ⟨gx, 0, none⟩ = some (.string nm) := k7.cell d0
        have d1' : w7.cell? ⟨gx, 1, none⟩ = some (.int .i64 ino) := k7.cell d1
        have hK7 : Kept (fun _ => False) w w7 := hK6.drew.trans k7 (fun _ _ h => h)
        refine hK _ _ ⟨d0', d1'⟩ ?_
        clear hK K
        repeat (first | (apply HeldSeq.take; (focus rfl); (focus rfl); (focus (intro W hS; obtain ⟨e0, e1⟩ := hS; go_simp; (try go_bits); rfl)); simp only [List.getElem_toArray]; (try simp only [List.getElem_cons_succ]); (try simp only [List.getElem_cons_zero]); simp only [Act.put, List.setIfInBounds_toArray]; (try simp only [List.set_cons_succ]); (try simp only [List.set_cons_zero])) | (apply HeldSeq.skip; (focus rfl); (focus rfl); simp only [List.getElem_toArray]; (try simp only [List.getElem_cons_succ]); (try simp only [List.getElem_cons_zero]); simp only [Act.put, List.setIfInBounds_toArray]; (try simp only [List.set_cons_succ]); (try simp only [List.set_cons_zero])))
        refine HeldSeq.pass rfl rfl ⟨d0', d1'⟩ ?_
        repeat (first | (apply HeldSeq.take; (focus rfl); (focus rfl); (focus (intro W hS; obtain ⟨e0, e1⟩ := hS; go_simp; (try go_bits); rfl)); simp only [List.getElem_toArray]; (try simp only [List.getElem_cons_succ]); (try simp only [List.getElem_cons_zero]); simp only [Act.put, List.setIfInBounds_toArray]; (try simp only [List.set_cons_succ]); (try simp only [List.set_cons_zero])) | (apply HeldSeq.skip; (focus rfl); (focus rfl); simp only [List.getElem_toArray]; (try simp only [List.getElem_cons_succ]); (try simp only [List.getElem_cons_zero]); simp only [Act.put, List.setIfInBounds_toArray]; (try simp only [List.set_cons_succ]); (try simp only [List.set_cons_zero])))
        refine HeldSeq.done ?_
        go_wp2_with fail
        go_ret
        exact ⟨rfl, hK7⟩
      · have hone := fun W => one_any nm ino W
        rw [h1] at hone
        have HONE := Lib.hid hone
        have H1 := Lib.hid h1
        clear hone h1
        by_cases hj0 : j = 0
        · subst hj0
          have hOK : okTo salt f (0 + 1) = true := by rw [HF.out, HO.out, H1.out]; rfl
          have HOK := Lib.hid hOK
          clear hOK
          refine region_perm (fun W => W.cell? ⟨gx, 0, none⟩ = some (.string nm) ∧ W.cell? ⟨gx, 1, none⟩ = some (.int .i64 ino)) [(0, true), (1, true), (2, true), (3, true), (4, false), (5, true), (6, true), (7, true), (8, true), (9, true), (10, true), (11, true), (12, true), (13, true), (14, true), (15, true), (16, true), (17, true), (18, true), (19, false), (20, true), (21, true), (22, true)] (by kernel_rfl) (by kernel_rfl) (by intro c a d v w h; cases d <;> exact h) ⟨d0, d1⟩ ?_
          repeat (first | (apply HeldSeq.take; (focus rfl); (focus rfl); (focus (intro W hS; obtain ⟨e0, e1⟩ := hS; go_simp; (try go_bits); rfl)); simp only [List.getElem_toArray]; (try simp only [List.getElem_cons_succ]); (try simp only [List.getElem_cons_zero]); simp only [Act.put, List.setIfInBounds_toArray]; (try simp only [List.set_cons_succ]); (try simp only [List.set_cons_zero])) | (apply HeldSeq.skip; (focus rfl); (focus rfl); simp only [List.getElem_toArray]; (try simp only [List.getElem_cons_succ]); (try simp only [List.getElem_cons_zero]); simp only [Act.put, List.setIfInBounds_toArray]; (try simp only [List.set_cons_succ]); (try simp only [List.set_cons_zero])))
          refine HeldSeq.run rfl rfl (fun K hK => ?_)
          go_simp
          refine (HONE.out w6.drew).mono ?_
          rintro r w7 ⟨rfl, k7⟩
          have d0' : w7.cell? ⟨gx, 0, none⟩ = some (.string nm) := k7.cell d0
          have d1' : w7.cell? ⟨gx, 1, none⟩ = some (.int .i64 ino) := k7.cell d1
          have hK7 : Kept (fun _ => False) w w7 := hK6.drew.trans k7 (fun _ _ h => h)
          have hS7 : Row w7 w.heap.size 22 16 salt := k7.at hS6 (fun h => h)
          refine hK _ _ ⟨d0', d1'⟩ ?_
          clear hK K
          repeat (first | (apply HeldSeq.take; (focus rfl); (focus rfl); (focus (intro W hS; obtain ⟨e0, e1⟩ := hS; go_simp; (try go_bits); rfl)); simp only [List.getElem_toArray]; (try simp only [List.getElem_cons_succ]); (try simp only [List.getElem_cons_zero]); simp only [Act.put, List.setIfInBounds_toArray]; (try simp only [List.set_cons_succ]); (try simp only [List.set_cons_zero])) | (apply HeldSeq.skip; (focus rfl); (focus rfl); simp only [List.getElem_toArray]; (try simp only [List.getElem_cons_succ]); (try simp only [List.getElem_cons_zero]); simp only [Act.put, List.setIfInBounds_toArray]; (try simp only [List.set_cons_succ]); (try simp only [List.set_cons_zero])))
          refine HeldSeq.pass rfl rfl ⟨d0', d1'⟩ ?_
          repeat (first | (apply HeldSeq.take; (focus rfl); (focus rfl); (focus (intro W hS; obtain ⟨e0, e1⟩ := hS; go_simp; (try go_bits); rfl)); simp only [List.getElem_toArray]; (try simp only [List.getElem_cons_succ]); (try simp only [List.getElem_cons_zero]); simp only [Act.put, List.setIfInBounds_toArray]; (try simp only [List.set_cons_succ]); (try simp only [List.set_cons_zero])) | (apply HeldSeq.skip; (focus rfl); (focus rfl); simp only [List.getElem_toArray]; (try simp only [List.getElem_cons_succ]); (try simp only [List.getElem_cons_zero]); simp only [Act.put, List.setIfInBounds_toArray]; (try simp only [List.set_cons_succ]); (try simp only [List.set_cons_zero])))
          refine HeldSeq.done ?_
          go_wp2_with fail
          go_roundg (gk - 1)
          case measure => have := Hj.out; omega
          case rel =>
            have := Hj.out
            exact ⟨1, by omega, by omega, rfl, HOK.out, hS7, hK7⟩
        · have t1 : ((j : Int) - 1).toNat = j - 1 := by omega
          have t2 : (1 : Int) ≤ j := by omega
          have t3 : (0 : Int) ≤ (j : Int) - 1 := by omega
          have t4 : (j : Int) - 1 < n := by omega
          have t5 : 0 < j := by omega
          obtain ⟨p0, _⟩ := (hc (j - 1) (by omega)).kept hK6
          have hps := (one_size (okTo_one salt f j HO.out (j - 1) (by omega))).2.1
          have hns := (one_size H1.out).2.1
          obtain ⟨pnm, hpnm⟩ : ∃ pnm, pnm = (f (j - 1)).nm := ⟨_, rfl⟩
          rw [← hpnm] at p0 hps HF HN
          have hord := fun W hk => order_any salt pnm nm W hk (by omega) (by omega)
          obtain ⟨q, hq⟩ : ∃ q, q = orderOf salt pnm nm := ⟨_, rfl⟩
          rw [← hq] at hord HF HN
          have HORD := Lib.hid hord
          have J0 := Lib.hid hj0
          clear hord hq hpnm hc hj0
          refine region_perm (fun W => W.cell? ⟨gx, 0, none⟩ = some (.string nm) ∧ W.cell? ⟨gx, 1, none⟩ = some (.int .i64 ino) ∧ W.cell? ⟨g, o + (j - 1) * 2, none⟩ = some (.string pnm) ∧ Row W w.heap.size 22 16 salt) [(0, true), (1, true), (2, true), (3, true), (4, false), (5, true), (6, true), (7, true), (8, true), (9, true), (10, true), (11, true), (12, true), (13, true), (14, true), (15, true), (16, true), (17, true), (18, true), (19, false), (20, true), (21, true), (22, true)] (by kernel_rfl) (by kernel_rfl) (by intro c a d v w h; cases d <;> exact h) ⟨d0, d1, p0, hS6⟩ ?_
          repeat (first | (apply HeldSeq.take; (focus rfl); (focus rfl); (focus (intro W hS; obtain ⟨e0, e1, e2, _⟩ := hS; go_simp; (try go_bits); rfl)); simp only [List.getElem_toArray]; (try simp only [List.getElem_cons_succ]); (try simp only [List.getElem_cons_zero]); simp only [Act.put, List.setIfInBounds_toArray]; (try simp only [List.set_cons_succ]); (try simp only [List.set_cons_zero])) | (apply HeldSeq.skip; (focus rfl); (focus rfl); simp only [List.getElem_toArray]; (try simp only [List.getElem_cons_succ]); (try simp only [List.getElem_cons_zero]); simp only [Act.put, List.setIfInBounds_toArray]; (try simp only [List.set_cons_succ]); (try simp only [List.set_cons_zero])))
          refine HeldSeq.run rfl rfl (fun K hK => ?_)
          go_simp
          refine (HONE.out w6.drew).mono ?_
          rintro r w7 ⟨rfl, k7⟩
          have d0' : w7.cell? ⟨gx, 0, none⟩ = some (.string nm) := k7.cell d0
          have d1' : w7.cell? ⟨gx, 1, none⟩ = some (.int .i64 ino) := k7.cell d1
          have p0' : w7.cell? ⟨g, o + (j - 1) * 2, none⟩ = some (.string pnm) := k7.cell p0
          have hK7 : Kept (fun _ => False) w w7 := hK6.drew.trans k7 (fun _ _ h => h)
          have hS7 : Row w7 w.heap.size 22 16 salt := k7.at hS6 (fun h => h)
          refine hK _ _ ⟨d0', d1', p0', hS7⟩ ?_
          clear hK K k7 hK6 hS6 d0 d1 p0
          repeat (first | (apply HeldSeq.take; (focus rfl); (focus rfl); (focus (intro W hS; obtain ⟨e0, e1, e2, _⟩ := hS; go_simp; (try go_bits); rfl)); simp only [List.getElem_toArray]; (try simp only [List.getElem_cons_succ]); (try simp only [List.getElem_cons_zero]); simp only [Act.put, List.setIfInBounds_toArray]; (try simp only [List.set_cons_succ]); (try simp only [List.set_cons_zero])) | (apply HeldSeq.skip; (focus rfl); (focus rfl); simp only [List.getElem_toArray]; (try simp only [List.getElem_cons_succ]); (try simp only [List.getElem_cons_zero]); simp only [Act.put, List.setIfInBounds_toArray]; (try simp only [List.set_cons_succ]); (try simp only [List.set_cons_zero])))
          refine HeldSeq.take rfl rfl (fun W hS => yields_row 22 (.tmp 2) rfl w.heap.size rfl 22 (Fs 16 salt) (0, 0) _ hS.2.2.2 Tryd.underlying22 rfl (info22F _)) ?_
          simp only [List.getElem_toArray]; (try simp only [List.getElem_cons_succ]); (try simp only [List.getElem_cons_zero]); simp only [Act.put, List.setIfInBounds_toArray]; (try simp only [List.set_cons_succ]); (try simp only [List.set_cons_zero])
          repeat (first | (apply HeldSeq.take; (focus rfl); (focus rfl); (focus (intro W hS; obtain ⟨e0, e1, e2, _⟩ := hS; go_simp; (try go_bits); rfl)); simp only [List.getElem_toArray]; (try simp only [List.getElem_cons_succ]); (try simp only [List.getElem_cons_zero]); simp only [Act.put, List.setIfInBounds_toArray]; (try simp only [List.set_cons_succ]); (try simp only [List.set_cons_zero])) | (apply HeldSeq.skip; (focus rfl); (focus rfl); simp only [List.getElem_toArray]; (try simp only [List.getElem_cons_succ]); (try simp only [List.getElem_cons_zero]); simp only [Act.put, List.setIfInBounds_toArray]; (try simp only [List.set_cons_succ]); (try simp only [List.set_cons_zero])))
          refine HeldSeq.run rfl rfl (fun K hK => ?_)
          go_simp
          refine (HORD.out w7 (hk.kept hK7)).mono ?_
          rintro r w8 ⟨rfl, k8⟩
          have d0 : w8.cell? ⟨gx, 0, none⟩ = some (.string nm) := k8.cell d0'
          have d1 : w8.cell? ⟨gx, 1, none⟩ = some (.int .i64 ino) := k8.cell d1'
          have p0 : w8.cell? ⟨g, o + (j - 1) * 2, none⟩ = some (.string pnm) := k8.cell p0'
          have hK8 : Kept (fun _ => False) w w8 := hK7.trans k8 (fun _ _ h => h)
          have hS8 : Row w8 w.heap.size 22 16 salt := k8.at hS7 (fun h => h)
          refine hK _ _ ⟨d0, d1, p0, hS8⟩ ?_
          clear hK K k8 hK7 hS7 d0' d1' p0'
          by_cases hq0 : q < 0
          · have hOK : okTo salt f (j + 1) = true := by rw [HF.out, HO.out, H1.out, decide_eq_true hq0]; simp
            have HOK := Lib.hid hOK
            have hqb : decide (0 ≤ q) = false := decide_eq_false (by omega)
            clear hOK
            repeat (first | (apply HeldSeq.take; (focus rfl); (focus rfl); (focus (intro W hS; obtain ⟨e0, e1, e2, _⟩ := hS; go_simp; (try go_bits); rfl)); simp only [List.getElem_toArray]; (try simp only [List.getElem_cons_succ]); (try simp only [List.getElem_cons_zero]); simp only [Act.put, List.setIfInBounds_toArray]; (try simp only [List.set_cons_succ]); (try simp only [List.set_cons_zero])) | (apply HeldSeq.skip; (focus rfl); (focus rfl); simp only [List.getElem_toArray]; (try simp only [List.getElem_cons_succ]); (try simp only [List.getElem_cons_zero]); simp only [Act.put, List.setIfInBounds_toArray]; (try simp only [List.set_cons_succ]); (try simp only [List.set_cons_zero])))
            refine HeldSeq.done ?_
            go_wp2_with fail
            go_roundg (gk - 1)
            case measure => have := Hj.out; omega
            case rel =>
              have := Hj.out
              exact ⟨j + 1, by omega, by omega, by go_num, HOK.out, hS8, hK8⟩
          · obtain rfl : z = false := by
              rw [HZ2.out]; exact HN.out (by rw [H1.out, decide_eq_false hq0]; simp [J0.out]) n hlt
            have hqb : decide (0 ≤ q) = true := decide_eq_true (by omega)
            repeat (first | (apply HeldSeq.take; (focus rfl); (focus rfl); (focus (intro W hS; obtain ⟨e0, e1, e2, _⟩ := hS; go_simp; (try go_bits); rfl)); simp only [List.getElem_toArray]; (try simp only [List.getElem_cons_succ]); (try simp only [List.getElem_cons_zero]); simp only [Act.put, List.setIfInBounds_toArray]; (try simp only [List.set_cons_succ]); (try simp only [List.set_cons_zero])) | (apply HeldSeq.skip; (focus rfl); (focus rfl); simp only [List.getElem_toArray]; (try simp only [List.getElem_cons_succ]); (try simp only [List.getElem_cons_zero]); simp only [Act.put, List.setIfInBounds_toArray]; (try simp only [List.set_cons_succ]); (try simp only [List.set_cons_zero])))
            refine HeldSeq.done ?_
            go_wp2_with fail
            go_ret
            exact ⟨rfl, hK8⟩
    · obtain rfl : n = j := by omega
      have q1 : ¬ (n : Int) < n := by omega
      obtain rfl : z = true := by rw [HZ2.out]; exact HO.out
      go_wp2_with fail
      go_ret
      exact ⟨rfl, hK⟩
end Go.Proofs.YtpekibadleghbaaDoor
namespace Go.Proofs.YtpekibadleghbaaDoor
open Go.RowKit
set_option linter.unusedVariables false
set_option linter.unusedSimpArgs false
set_option maxRecDepth 100000 in
set_option maxHeartbeats 4000000 in
theorem refSize_any (a : Option Addr) (n cap : Nat) (f : Nat → En) (w : World) (h : ListE w a n f) (hn : n ≤ 140737488351232) (hs : ∀ i, i < n → (f i).nm.size ≤ 140737488351232) :
    Calls Tryd.prog 34 #[.slice a n cap] w fun r w' => r = .returned (.int .i64 (szE f n)) ∧ Kept (fun _ => False) w w' := by
  go_enter Tryd.func34, Tryd.ntmps34
  go_wp2_with fail
  go_loopg [3, 4] n (fun k s i wr => ∃ j : Nat, j + k = n ∧ j ≤ n ∧ i = .int .i64 (j : Int) ∧ s = .int .i64 (szE f j) ∧ Kept (fun _ => False) w wr)
  case atStart => exact ⟨0, by omega, by omega, rfl, rfl, Kept.refl _ w⟩
  case round =>
    obtain ⟨j, hj, hj2, rfl, rfl, hK⟩ := hrel
    have Hj := Lib.hid hj
    clear hj
    by_cases hlt : j < n
    · have q1 : (j : Int) < n := by omega
      have q2 : (0 : Int) ≤ j := by omega
      have q3 : (n : Int) ≤ 140737488351232 := by omega
      have hsj := hs j hlt
      obtain ⟨g, o, rfl, hc⟩ := h.resolve_left (by omega)
      obtain ⟨c0, c1⟩ := (hc j hlt).kept hK
      have hS : szE f (j + 1) = wrap64 (szE f j + (2 + ((f j).nm.size : Int))) := rfl
      have HS := Lib.hid hS
      clear hS hc
      generalize (f j).nm = nm at *
      generalize (f j).ino = ino at *
      generalize szE f j = z at *
      have q4 : (nm.size : Int) ≤ 140737488351232 := by omega
      go_wp2_with fail
      go_roundg (gk - 1)
      case measure => have := Hj.out; omega
      case rel =>
        have := Hj.out
        exact ⟨j + 1, by omega, by omega, by go_num, by rw [HS.out], hK⟩
    · obtain rfl : n = j := by omega
      have q1 : ¬ (n : Int) < n := by omega
      go_wp2_with fail
      go_ret
      exact ⟨rfl, hK⟩
set_option maxRecDepth 100000 in
set_option maxHeartbeats 16000000 in
theorem refRight_any (salt : Nat → Byte) (a : Option Addr) (n cap : Nat) (f : Nat → En) (w : World) (hk : KeysRef w) (h : ListE w a n f) (hn : n ≤ 140737488351232) (hs : ∀ i, i < n → (f i).nm.size ≤ 140737488351232) :
    Calls Tryd.prog 25 #[.agg (Fs 16 salt), .slice a n cap] w fun r w' => r = .returned (.bool (rightB salt f n)) ∧ Kept (fun _ => False) w w' := by
  obtain ⟨z, hz⟩ : ∃ z, z = rightB salt f n := ⟨_, rfl⟩
  rw [← hz]
  have HZ := Lib.hid hz
  clear hz
  go_enter Tryd.func25, Tryd.ntmps25
  go_upto_region 1 with fail
  have hS0 : Row (w.alloc (.cells (Fs 16 salt) 22)) w.heap.size 22 16 salt := Row.new w 22 16 salt
  have hK0 : Kept (fun _ => False) w (w.alloc (.cells (Fs 16 salt) 22)) := (Kept.refl _ w).alloc _
  generalize hw0 : w.alloc (.cells (Fs 16 salt) 22) = w0 at *
  clear hw0
  obtain ⟨sz, hsz⟩ : ∃ sz, sz = szE f n := ⟨_, rfl⟩
  have hcs := refSize_any a n cap f w0 (h.kept hK0) hn hs
  rw [← hsz] at hcs
  have HS := Lib.hid hsz
  have HC := Lib.hid hcs
  clear hsz hcs
  by_cases hbig : 1320 < sz
  · obtain rfl : z = false := by rw [HZ.out]; unfold rightB; rw [← HS.out, decide_eq_false (by omega)]; rfl
    go_wp2_with (first | ((with_reducible refine (HC.out).mono ?_); rintro r w1 ⟨rfl, k1⟩))
    go_ret
    exact ⟨rfl, hK0.trans k1 (fun _ _ h => h)⟩
  have hz : z = okTo salt f n := by rw [HZ.out]; unfold rightB; rw [← HS.out, decide_eq_true (by omega)]; rfl
  have HZ2 := Lib.hid hz
  clear hz HZ
  go_wp2_with (first | ((with_reducible refine (HC.out).mono ?_); rintro r w1 ⟨rfl, k1⟩))
  have hS1 : Row w1 w.heap.size 22 16 salt := k1.at hS0 (fun h => h)
  have hK1 : Kept (fun _ => False) w w1 := hK0.trans k1 (fun _ _ h => h)
  clear k1 hS0 hK0 HC HS
  go_loopg [5] n (fun k i wr => ∃ j : Nat, j + k = n ∧ j ≤ n ∧ i = .int .i64 (j : Int) ∧ okTo salt f j = true ∧ Row wr w.heap.size 22 16 salt ∧ Kept (fun _ => False) w wr)
  case atStart => exact ⟨0, by omega, by omega, rfl, rfl, hS1, hK1⟩
  case round =>
    clear hS1 hK1
    obtain ⟨j, hj, hj2, rfl, hok, hS6, hK6⟩ := hrel
    have Hj := Lib.hid hj
    have HO := Lib.hid hok
    clear hj hok
    by_cases hlt : j < n
    · have q1 : (j : Int) < n := by omega
      have q2 : (0 : Int) ≤ j := by omega
      have q3 : (n : Int) ≤ 140737488351232 := by omega
      obtain ⟨g, o, rfl, hc⟩ := h.resolve_left (by omega)
      obtain ⟨d0, d1⟩ := (hc j hlt).kept hK6
      have hF : okTo salt f (j + 1) = (okTo salt f j && (oneB (f j).nm (f j).ino && (j == 0 || decide (orderOf salt (f (j - 1)).nm (f j).nm < 0)))) := rfl
      have hN := okTo_false salt f j
      have HF := Lib.hid hF
      have HN := Lib.hid hN
      clear hF hN
      obtain ⟨nm, hnm⟩ : ∃ nm, nm = (f j).nm := ⟨_, rfl⟩
      obtain ⟨ino, hino⟩ : ∃ ino, ino = (f j).ino := ⟨_, rfl⟩
      rw [← hnm] at d0 HF HN
      rw [← hino] at d1 HF HN
      clear hnm hino
      obtain ⟨v, hv⟩ : ∃ v, v = validB nm := ⟨_, rfl⟩
      have hval := fun W => refValid_any nm W
      rw [← hv] at hval
      have HV := Lib.hid hv
      have HVAL := Lib.hid hval
      clear hv hval
      go_upto_region 6 with fail
      cases v
      · obtain rfl : z = false := by
          rw [HZ2.out]; exact HN.out (by unfold oneB; rw [← HV.out]; rfl) n hlt
        refine region_perm (fun W => W.cell? ⟨g, o + j * 2, none⟩ = some (.string nm) ∧ W.cell? ⟨g, o + j * 2 + 1, none⟩ = some (.int .i64 ino)) [(0, true), (1, true), (2, true), (3, true), (4, true), (5, false), (6, true), (7, true), (8, true), (9, true), (10, true), (11, true), (12, true), (13, true), (14, true), (15, true), (16, true), (17, true), (18, true), (19, true), (20, true), (21, true), (22, true), (23, true), (24, true), (25, true), (26, true), (27, true), (28, true), (29, true), (30, true), (31, true), (32, true), (33, true), (34, true), (35, true), (36, true), (37, true), (38, true), (39, false), (40, true), (41, true), (42, true)] (by kernel_rfl) (by kernel_rfl) (by intro c a d v w h; cases d <;> exact h) ⟨d0, d1⟩ ?_
        repeat (first | (apply HeldSeq.take; (focus rfl); (focus rfl); (focus (intro W hS; obtain ⟨e0, e1⟩ := hS; go_simp; (try go_bits); rfl)); simp only [List.getElem_toArray]; (try simp only [List.getElem_cons_succ]); (try simp only [List.getElem_cons_zero]); simp only [Act.put, List.setIfInBounds_toArray]; (try simp only [List.set_cons_succ]); (try simp only [List.set_cons_zero])) | (apply HeldSeq.skip; (focus rfl); (focus rfl); simp only [List.getElem_toArray]; (try simp only [List.getElem_cons_succ]); (try simp only [List.getElem_cons_zero]); simp only [Act.put, List.setIfInBounds_toArray]; (try simp only [List.set_cons_succ]); (try simp only [List.set_cons_zero])))
        refine HeldSeq.run rfl rfl (fun K hK => ?_)
        go_simp
        refine (HVAL.out wr.drew).mono ?_
        rintro r w7 ⟨rfl, k7⟩
        have d0' : w7.cell? ⟨g, o + j * 2, none⟩ = some (.string nm) := k7.cell d0
        have d1' : w7.cell? ⟨g, o + j * 2 + 1, none⟩ = some (.int .i64 ino) := k7.cell d1
        have hK7 : Kept (fun _ => False) w w7 := hK6.drew.trans k7 (fun _ _ h => h)
        have hS7 : Row w7 w.heap.size 22 16 salt := k7.at hS6 (fun h => h)
        refine hK _ _ ⟨d0', d1'⟩ ?_
        clear hK K k7 hK6 hS6 d0 d1
        repeat (first | (apply HeldSeq.take; (focus rfl); (focus rfl); (focus (intro W hS; obtain ⟨e0, e1⟩ := hS; go_simp; (try go_bits); rfl)); simp only [List.getElem_toArray]; (try simp only [List.getElem_cons_succ]); (try simp only [List.getElem_cons_zero]); simp only [Act.put, List.setIfInBounds_toArray]; (try simp only [List.set_cons_succ]); (try simp only [List.set_cons_zero])) | (apply HeldSeq.skip; (focus rfl); (focus rfl); simp only [List.getElem_toArray]; (try simp only [List.getElem_cons_succ]); (try simp only [List.getElem_cons_zero]); simp only [Act.put, List.setIfInBounds_toArray]; (try simp only [List.set_cons_succ]); (try simp only [List.set_cons_zero])))
        refine HeldSeq.pass rfl rfl ⟨d0', d1'⟩ ?_
        repeat (first | (apply HeldSeq.take; (focus rfl); (focus rfl); (focus (intro W hS; obtain ⟨e0, e1⟩ := hS; go_simp; (try go_bits); rfl)); simp only [List.getElem_toArray]; (try simp only [List.getElem_cons_succ]); (try simp only [List.getElem_cons_zero]); simp only [Act.put, List.setIfInBounds_toArray]; (try simp only [List.set_cons_succ]); (try simp only [List.set_cons_zero])) | (apply HeldSeq.skip; (focus rfl); (focus rfl); simp only [List.getElem_toArray]; (try simp only [List.getElem_cons_succ]); (try simp only [List.getElem_cons_zero]); simp only [Act.put, List.setIfInBounds_toArray]; (try simp only [List.set_cons_succ]); (try simp only [List.set_cons_zero])))
        refine HeldSeq.done ?_
        go_wp2_with fail
        go_ret
        exact ⟨rfl, hK7⟩
      · by_cases h1 : ino < 1
        · obtain rfl : z = false := by
            rw [HZ2.out]; exact HN.out (by unfold oneB; rw [← HV.out, decide_eq_false (by omega : ¬ 1 ≤ ino)]; rfl) n hlt
          have b1 : decide (ino < 1) = true := decide_eq_true h1
          refine region_perm (fun W => W.cell? ⟨g, o + j * 2, none⟩ = some (.string nm) ∧ W.cell? ⟨g, o + j * 2 + 1, none⟩ = some (.int .i64 ino)) [(0, true), (1, true), (2, true), (3, true), (4, true), (5, false), (6, true), (7, true), (8, true), (9, true), (10, true), (11, true), (12, true), (13, true), (14, true), (15, true), (16, true), (17, true), (18, true), (19, true), (20, true), (21, true), (22, true), (23, true), (24, true), (25, true), (26, true), (27, true), (28, true), (29, true), (30, true), (31, true), (32, true), (33, true), (34, true), (35, true), (36, true), (37, true), (38, true), (39, false), (40, true), (41, true), (42, true)] (by kernel_rfl) (by kernel_rfl) (by intro c a d v w h; cases d <;> exact h) ⟨d0, d1⟩ ?_
          repeat (first | (apply HeldSeq.take; (focus rfl); (focus rfl); (focus (intro W hS; obtain ⟨e0, e1⟩ := hS; go_simp; (try go_bits); rfl)); simp only [List.getElem_toArray]; (try simp only [List.getElem_cons_succ]); (try simp only [List.getElem_cons_zero]); simp only [Act.put, List.setIfInBounds_toArray]; (try simp only [List.set_cons_succ]); (try simp only [List.set_cons_zero])) | (apply HeldSeq.skip; (focus rfl); (focus rfl); simp only [List.getElem_toArray]; (try simp only [List.getElem_cons_succ]); (try simp only [List.getElem_cons_zero]); simp only [Act.put, List.setIfInBounds_toArray]; (try simp only [List.set_cons_succ]); (try simp only [List.set_cons_zero])))
          refine HeldSeq.run rfl rfl (fun K hK => ?_)
          go_simp
          refine (HVAL.out wr.drew).mono ?_
          rintro r w7 ⟨rfl, k7⟩
          have d0' : w7.cell? ⟨g, o + j * 2, none⟩ = some (.string nm) := k7.cell d0
          have d1' : w7.cell? ⟨g, o + j * 2 + 1, none⟩ = some (.int .i64 ino) := k7.cell d1
          have hK7 : Kept (fun _ => False) w w7 := hK6.drew.trans k7 (fun _ _ h => h)
          have hS7 : Row w7 w.heap.size 22 16 salt := k7.at hS6 (fun h => h)
          refine hK _ _ ⟨d0', d1'⟩ ?_
          clear hK K k7 hK6 hS6 d0 d1
          repeat (first | (apply HeldSeq.take; (focus rfl); (focus rfl); (focus (intro W hS; obtain ⟨e0, e1⟩ := hS; go_simp; (try go_bits); rfl)); simp only [List.getElem_toArray]; (try simp only [List.getElem_cons_succ]); (try simp only [List.getElem_cons_zero]); simp only [Act.put, List.setIfInBounds_toArray]; (try simp only [List.set_cons_succ]); (try simp only [List.set_cons_zero])) | (apply HeldSeq.skip; (focus rfl); (focus rfl); simp only [List.getElem_toArray]; (try simp only [List.getElem_cons_succ]); (try simp only [List.getElem_cons_zero]); simp only [Act.put, List.setIfInBounds_toArray]; (try simp only [List.set_cons_succ]); (try simp only [List.set_cons_zero])))
          refine HeldSeq.pass rfl rfl ⟨d0', d1'⟩ ?_
          repeat (first | (apply HeldSeq.take; (focus rfl); (focus rfl); (focus (intro W hS; obtain ⟨e0, e1⟩ := hS; go_simp; (try go_bits); rfl)); simp only [List.getElem_toArray]; (try simp only [List.getElem_cons_succ]); (try simp only [List.getElem_cons_zero]); simp only [Act.put, List.setIfInBounds_toArray]; (try simp only [List.set_cons_succ]); (try simp only [List.set_cons_zero])) | (apply HeldSeq.skip; (focus rfl); (focus rfl); simp only [List.getElem_toArray]; (try simp only [List.getElem_cons_succ]); (try simp only [List.getElem_cons_zero]); simp only [Act.put, List.setIfInBounds_toArray]; (try simp only [List.set_cons_succ]); (try simp only [List.set_cons_zero])))
          refine HeldSeq.done ?_
          go_wp2_with fail
          go_ret
          exact ⟨rfl, hK7⟩
        · have b1 : decide (ino < 1) = false := decide_eq_false h1
          by_cases h2 : 24 < ino
          · obtain rfl : z = false := by
              rw [HZ2.out]; exact HN.out (by unfold oneB; rw [← HV.out, decide_eq_false (by omega : ¬ ino ≤ 24)]; simp) n hlt
            have b2 : decide (24 < ino) = true := decide_eq_true h2
            refine region_perm (fun W => W.cell? ⟨g, o + j * 2, none⟩ = some (.string nm) ∧ W.cell? ⟨g, o + j * 2 + 1, none⟩ = some (.int .i64 ino)) [(0, true), (1, true), (2, true), (3, true), (4, true), (5, false), (6, true), (7, true), (8, true), (9, true), (10, true), (11, true), (12, true), (13, true), (14, true), (15, true), (16, true), (17, true), (18, true), (19, true), (20, true), (21, true), (22, true), (23, true), (24, true), (25, true), (26, true), (27, true), (28, true), (29, true), (30, true), (31, true), (32, true), (33, true), (34, true), (35, true), (36, true), (37, true), (38, true), (39, false), (40, true), (41, true), (42, true)] (by kernel_rfl) (by kernel_rfl) (by intro c a d v w h; cases d <;> exact h) ⟨d0, d1⟩ ?_
            repeat (first | (apply HeldSeq.take; (focus rfl); (focus rfl); (focus (intro W hS; obtain ⟨e0, e1⟩ := hS; go_simp; (try go_bits); rfl)); simp only [List.getElem_toArray]; (try simp only [List.getElem_cons_succ]); (try simp only [List.getElem_cons_zero]); simp only [Act.put, List.setIfInBounds_toArray]; (try simp only [List.set_cons_succ]); (try simp only [List.set_cons_zero])) | (apply HeldSeq.skip; (focus rfl); (focus rfl); simp only [List.getElem_toArray]; (try simp only [List.getElem_cons_succ]); (try simp only [List.getElem_cons_zero]); simp only [Act.put, List.setIfInBounds_toArray]; (try simp only [List.set_cons_succ]); (try simp only [List.set_cons_zero])))
            refine HeldSeq.run rfl rfl (fun K hK => ?_)
            go_simp
            refine (HVAL.out wr.drew).mono ?_
            rintro r w7 ⟨rfl, k7⟩
            have d0' : w7.cell? ⟨g, o + j * 2, none⟩ = some (.string nm) := k7.cell d0
            have d1' : w7.cell? ⟨g, o + j * 2 + 1, none⟩ = some (.int .i64 ino) := k7.cell d1
            have hK7 : Kept (fun _ => False) w w7 := hK6.drew.trans k7 (fun _ _ h => h)
            have hS7 : Row w7 w.heap.size 22 16 salt := k7.at hS6 (fun h => h)
            refine hK _ _ ⟨d0', d1'⟩ ?_
            clear hK K k7 hK6 hS6 d0 d1
            repeat (first | (apply HeldSeq.take; (focus rfl); (focus rfl); (focus (intro W hS; obtain ⟨e0, e1⟩ := hS; go_simp; (try go_bits); rfl)); simp only [List.getElem_toArray]; (try simp only [List.getElem_cons_succ]); (try simp only [List.getElem_cons_zero]); simp only [Act.put, List.setIfInBounds_toArray]; (try simp only [List.set_cons_succ]); (try simp only [List.set_cons_zero])) | (apply HeldSeq.skip; (focus rfl); (focus rfl); simp only [List.getElem_toArray]; (try simp only [List.getElem_cons_succ]); (try simp only [List.getElem_cons_zero]); simp only [Act.put, List.setIfInBounds_toArray]; (try simp only [List.set_cons_succ]); (try simp only [List.set_cons_zero])))
            refine HeldSeq.pass rfl rfl ⟨d0', d1'⟩ ?_
            repeat (first | (apply HeldSeq.take; (focus rfl); (focus rfl); (focus (intro W hS; obtain ⟨e0, e1⟩ := hS; go_simp; (try go_bits); rfl)); simp only [List.getElem_toArray]; (try simp only [List.getElem_cons_succ]); (try simp only [List.getElem_cons_zero]); simp only [Act.put, List.setIfInBounds_toArray]; (try simp only [List.set_cons_succ]); (try simp only [List.set_cons_zero])) | (apply HeldSeq.skip; (focus rfl); (focus rfl); simp only [List.getElem_toArray]; (try simp only [List.getElem_cons_succ]); (try simp only [List.getElem_cons_zero]); simp only [Act.put, List.setIfInBounds_toArray]; (try simp only [List.set_cons_succ]); (try simp only [List.set_cons_zero])))
            refine HeldSeq.done ?_
            go_wp2_with fail
            go_ret
            exact ⟨rfl, hK7⟩
          · have b2 : decide (24 < ino) = false := decide_eq_false h2
            have hone : oneB nm ino = true := by unfold oneB; rw [← HV.out, decide_eq_true (by omega : 1 ≤ ino), decide_eq_true (by omega : ino ≤ 24)]; rfl
            have H1 := Lib.hid hone
            clear hone
            by_cases hj0 : j = 0
            · have hOK : okTo salt f (j + 1) = true := by rw [HF.out, HO.out, H1.out]; simp [hj0]
              have HOK := Lib.hid hOK
              have t5 : ¬ 0 < j := by omega
              clear hOK hj0
              refine region_perm (fun W => W.cell? ⟨g, o + j * 2, none⟩ = some (.string nm) ∧ W.cell? ⟨g, o + j * 2 + 1, none⟩ = some (.int .i64 ino)) [(0, true), (1, true), (2, true), (3, true), (4, true), (5, false), (6, true), (7, true), (8, true), (9, true), (10, true), (11, true), (12, true), (13, true), (14, true), (15, true), (16, true), (17, true), (18, true), (19, true), (20, true), (21, true), (22, true), (23, true), (24, true), (25, true), (26, true), (27, true), (28, true), (29, true), (30, true), (31, true), (32, true), (33, true), (34, true), (35, true), (36, true), (37, true), (38, true), (39, false), (40, true), (41, true), (42, true)] (by kernel_rfl) (by kernel_rfl) (by intro c a d v w h; cases d <;> exact h) ⟨d0, d1⟩ ?_
              repeat (first | (apply HeldSeq.take; (focus rfl); (focus rfl); (focus (intro W hS; obtain ⟨e0, e1⟩ := hS; go_simp; (try go_bits); rfl)); simp only [List.getElem_toArray]; (try simp only [List.getElem_cons_succ]); (try simp only [List.getElem_cons_zero]); simp only [Act.put, List.setIfInBounds_toArray]; (try simp only [List.set_cons_succ]); (try simp only [List.set_cons_zero])) | (apply HeldSeq.skip; (focus rfl); (focus rfl); simp only [List.getElem_toArray]; (try simp only [List.getElem_cons_succ]); (try simp only [List.getElem_cons_zero]); simp only [Act.put, List.setIfInBounds_toArray]; (try simp only [List.set_cons_succ]); (try simp only [List.set_cons_zero])))
              refine HeldSeq.run rfl rfl (fun K hK => ?_)
              go_simp
              refine (HVAL.out wr.drew).mono ?_
              rintro r w7 ⟨rfl, k7⟩
              have d0' : w7.cell? ⟨g, o + j * 2, none⟩ = some (.string nm) := k7.cell d0
              have d1' : w7.cell? ⟨g, o + j * 2 + 1, none⟩ = some (.int .i64 ino) := k7.cell d1
              have hK7 : Kept (fun _ => False) w w7 := hK6.drew.trans k7 (fun _ _ h => h)
              have hS7 : Row w7 w.heap.size 22 16 salt := k7.at hS6 (fun h => h)
              refine hK _ _ ⟨d0', d1'⟩ ?_
              clear hK K k7 hK6 hS6 d0 d1
              repeat (first | (apply HeldSeq.take; (focus rfl); (focus rfl); (focus (intro W hS; obtain ⟨e0, e1⟩ := hS; go_simp; (try go_bits); rfl)); simp only [List.getElem_toArray]; (try simp only [List.getElem_cons_succ]); (try simp only [List.getElem_cons_zero]); simp only [Act.put, List.setIfInBounds_toArray]; (try simp only [List.set_cons_succ]); (try simp only [List.set_cons_zero])) | (apply HeldSeq.skip; (focus rfl); (focus rfl); simp only [List.getElem_toArray]; (try simp only [List.getElem_cons_succ]); (try simp only [List.getElem_cons_zero]); simp only [Act.put, List.setIfInBounds_toArray]; (try simp only [List.set_cons_succ]); (try simp only [List.set_cons_zero])))
              refine HeldSeq.pass rfl rfl ⟨d0', d1'⟩ ?_
              repeat (first | (apply HeldSeq.take; (focus rfl); (focus rfl); (focus (intro W hS; obtain ⟨e0, e1⟩ := hS; go_simp; (try go_bits); rfl)); simp only [List.getElem_toArray]; (try simp only [List.getElem_cons_succ]); (try simp only [List.getElem_cons_zero]); simp only [Act.put, List.setIfInBounds_toArray]; (try simp only [List.set_cons_succ]); (try simp only [List.set_cons_zero])) | (apply HeldSeq.skip; (focus rfl); (focus rfl); simp only [List.getElem_toArray]; (try simp only [List.getElem_cons_succ]); (try simp only [List.getElem_cons_zero]); simp only [Act.put, List.setIfInBounds_toArray]; (try simp only [List.set_cons_succ]); (try simp only [List.set_cons_zero])))
              refine HeldSeq.done ?_
              go_wp2_with fail
              go_roundg (gk - 1)
              case measure => have := Hj.out; omega
              case rel =>
                have := Hj.out
                exact ⟨j + 1, by omega, by omega, by go_num, HOK.out, hS7, hK7⟩
            · have t1 : ((j : Int) - 1).toNat = j - 1 := by omega
              have t2 : (1 : Int) ≤ j := by omega
              have t3 : (0 : Int) ≤ (j : Int) - 1 := by omega
              have t4 : (j : Int) - 1 < n := by omega
              have t5 : 0 < j := by omega
              obtain ⟨p0, _⟩ := (hc (j - 1) (by omega)).kept hK6
              have hps := (one_size (okTo_one salt f j HO.out (j - 1) (by omega))).2.1
              have hns := (one_size H1.out).2.1
              obtain ⟨pnm, hpnm⟩ : ∃ pnm, pnm = (f (j - 1)).nm := ⟨_, rfl⟩
              rw [← hpnm] at p0 hps HF HN
              have hord := fun W hk => refOrder_any salt pnm nm W hk (by omega) (by omega)
              have hqr := ord_range salt pnm nm
              obtain ⟨q, hq⟩ : ∃ q, q = orderOf salt pnm nm := ⟨_, rfl⟩
              rw [← hq] at hord HF HN hqr
              have HQR := Lib.hid hqr
              have HORD := Lib.hid hord
              have J0 := Lib.hid hj0
              clear hord hq hpnm hc hj0 hqr
              refine region_perm (fun W => W.cell? ⟨g, o + j * 2, none⟩ = some (.string nm) ∧ W.cell? ⟨g, o + j * 2 + 1, none⟩ = some (.int .i64 ino) ∧ W.cell? ⟨g, o + (j - 1) * 2, none⟩ = some (.string pnm) ∧ Row W w.heap.size 22 16 salt) [(0, true), (1, true), (2, true), (3, true), (4, true), (5, false), (6, true), (7, true), (8, true), (9, true), (10, true), (11, true), (12, true), (13, true), (14, true), (15, true), (16, true), (17, true), (18, true), (19, true), (20, true), (21, true), (22, true), (23, true), (24, true), (25, true), (26, true), (27, true), (28, true), (29, true), (30, true), (31, true), (32, true), (33, true), (34, true), (35, true), (36, true), (37, true), (38, true), (39, false), (40, true), (41, true), (42, true)] (by kernel_rfl) (by kernel_rfl) (by intro c a d v w h; cases d <;> exact h) ⟨d0, d1, p0, hS6⟩ ?_
              repeat (first | (apply HeldSeq.take; (focus rfl); (focus rfl); (focus (intro W hS; obtain ⟨e0, e1, e2, _⟩ := hS; go_simp; (try go_bits); rfl)); simp only [List.getElem_toArray]; (try simp only [List.getElem_cons_succ]); (try simp only [List.getElem_cons_zero]); simp only [Act.put, List.setIfInBounds_toArray]; (try simp only [List.set_cons_succ]); (try simp only [List.set_cons_zero])) | (apply HeldSeq.skip; (focus rfl); (focus rfl); simp only [List.getElem_toArray]; (try simp only [List.getElem_cons_succ]); (try simp only [List.getElem_cons_zero]); simp only [Act.put, List.setIfInBounds_toArray]; (try simp only [List.set_cons_succ]); (try simp only [List.set_cons_zero])))
              refine HeldSeq.run rfl rfl (fun K hK => ?_)
              go_simp
              refine (HVAL.out wr.drew).mono ?_
              rintro r w7 ⟨rfl, k7⟩
              have d0' : w7.cell? ⟨g, o + j * 2, none⟩ = some (.string nm) := k7.cell d0
              have d1' : w7.cell? ⟨g, o + j * 2 + 1, none⟩ = some (.int .i64 ino) := k7.cell d1
              have p0' : w7.cell? ⟨g, o + (j - 1) * 2, none⟩ = some (.string pnm) := k7.cell p0
              have hK7 : Kept (fun _ => False) w w7 := hK6.drew.trans k7 (fun _ _ h => h)
              have hS7 : Row w7 w.heap.size 22 16 salt := k7.at hS6 (fun h => h)
              refine hK _ _ ⟨d0', d1', p0', hS7⟩ ?_
              clear hK K k7 hK6 hS6 d0 d1 p0
              repeat (first | (apply HeldSeq.take; (focus rfl); (focus rfl); (focus (intro W hS; obtain ⟨e0, e1, e2, _⟩ := hS; go_simp; (try go_bits); rfl)); simp only [List.getElem_toArray]; (try simp only [List.getElem_cons_succ]); (try simp only [List.getElem_cons_zero]); simp only [Act.put, List.setIfInBounds_toArray]; (try simp only [List.set_cons_succ]); (try simp only [List.set_cons_zero])) | (apply HeldSeq.skip; (focus rfl); (focus rfl); simp only [List.getElem_toArray]; (try simp only [List.getElem_cons_succ]); (try simp only [List.getElem_cons_zero]); simp only [Act.put, List.setIfInBounds_toArray]; (try simp only [List.set_cons_succ]); (try simp only [List.set_cons_zero])))
              refine HeldSeq.take rfl rfl (fun W hS => yields_row 22 (.tmp 2) rfl w.heap.size rfl 22 (Fs 16 salt) (0, 0) _ hS.2.2.2 Tryd.underlying22 rfl (info22F _)) ?_
              simp only [List.getElem_toArray]; (try simp only [List.getElem_cons_succ]); (try simp only [List.getElem_cons_zero]); simp only [Act.put, List.setIfInBounds_toArray]; (try simp only [List.set_cons_succ]); (try simp only [List.set_cons_zero])
              repeat (first | (apply HeldSeq.take; (focus rfl); (focus rfl); (focus (intro W hS; obtain ⟨e0, e1, e2, _⟩ := hS; go_simp; (try go_bits); rfl)); simp only [List.getElem_toArray]; (try simp only [List.getElem_cons_succ]); (try simp only [List.getElem_cons_zero]); simp only [Act.put, List.setIfInBounds_toArray]; (try simp only [List.set_cons_succ]); (try simp only [List.set_cons_zero])) | (apply HeldSeq.skip; (focus rfl); (focus rfl); simp only [List.getElem_toArray]; (try simp only [List.getElem_cons_succ]); (try simp only [List.getElem_cons_zero]); simp only [Act.put, List.setIfInBounds_toArray]; (try simp only [List.set_cons_succ]); (try simp only [List.set_cons_zero])))
              refine HeldSeq.run rfl rfl (fun K hK => ?_)
              go_simp
              refine (HORD.out w7 (hk.kept hK7)).mono ?_
              rintro r w8 ⟨rfl, k8⟩
              have d0 : w8.cell? ⟨g, o + j * 2, none⟩ = some (.string nm) := k8.cell d0'
              have d1 : w8.cell? ⟨g, o + j * 2 + 1, none⟩ = some (.int .i64 ino) := k8.cell d1'
              have p0 : w8.cell? ⟨g, o + (j - 1) * 2, none⟩ = some (.string pnm) := k8.cell p0'
              have hK8 : Kept (fun _ => False) w w8 := hK7.trans k8 (fun _ _ h => h)
              have hS8 : Row w8 w.heap.size 22 16 salt := k8.at hS7 (fun h => h)
              refine hK _ _ ⟨d0, d1, p0, hS8⟩ ?_
              clear hK K k8 hK7 hS7 d0' d1' p0'
              by_cases hq0 : q = -1
              · have hOK : okTo salt f (j + 1) = true := by rw [HF.out, HO.out, H1.out, decide_eq_true (by omega)]; simp
                have HOK := Lib.hid hOK
                clear hOK
                subst hq0
                repeat (first | (apply HeldSeq.take; (focus rfl); (focus rfl); (focus (intro W hS; obtain ⟨e0, e1, e2, _⟩ := hS; go_simp; (try go_bits); rfl)); simp only [List.getElem_toArray]; (try simp only [List.getElem_cons_succ]); (try simp only [List.getElem_cons_zero]); simp only [Act.put, List.setIfInBounds_toArray]; (try simp only [List.set_cons_succ]); (try simp only [List.set_cons_zero])) | (apply HeldSeq.skip; (focus rfl); (focus rfl); simp only [List.getElem_toArray]; (try simp only [List.getElem_cons_succ]); (try simp only [List.getElem_cons_zero]); simp only [Act.put, List.setIfInBounds_toArray]; (try simp only [List.set_cons_succ]); (try simp only [List.set_cons_zero])))
                refine HeldSeq.done ?_
                go_wp2_with fail
                go_roundg (gk - 1)
                case measure => have := Hj.out; omega
                case rel =>
                  have := Hj.out
                  exact ⟨j + 1, by omega, by omega, by go_num, HOK.out, hS8, hK8⟩
              · obtain rfl : z = false := by
                  rw [HZ2.out]; exact HN.out (by rw [H1.out, decide_eq_false (by have := HQR.out; omega)]; simp [J0.out]) n hlt
                have hqb : (q != -1) = true := by simpa using hq0
                repeat (first | (apply HeldSeq.take; (focus rfl); (focus rfl); (focus (intro W hS; obtain ⟨e0, e1, e2, _⟩ := hS; go_simp; (try go_bits); rfl)); simp only [List.getElem_toArray]; (try simp only [List.getElem_cons_succ]); (try simp only [List.getElem_cons_zero]); simp only [Act.put, List.setIfInBounds_toArray]; (try simp only [List.set_cons_succ]); (try simp only [List.set_cons_zero])) | (apply HeldSeq.skip; (focus rfl); (focus rfl); simp only [List.getElem_toArray]; (try simp only [List.getElem_cons_succ]); (try simp only [List.getElem_cons_zero]); simp only [Act.put, List.setIfInBounds_toArray]; (try simp only [List.set_cons_succ]); (try simp only [List.set_cons_zero])))
                refine HeldSeq.done ?_
                go_wp2_with fail
                go_ret
                exact ⟨rfl, hK8⟩
    · obtain rfl : n = j := by omega
      have q1 : ¬ (n : Int) < n := by omega
      obtain rfl : z = true := by rw [HZ2.out]; exact HO.out
      go_wp2_with fail
      go_ret
      exact ⟨rfl, hK6⟩
end Go.Proofs.YtpekibadleghbaaDoor
namespace Go.Proofs.YtpekibadleghbaaDoor
open Go.RowKit
set_option linter.unusedVariables false
set_option linter.unusedSimpArgs false
theorem ord_lt_le (salt : Nat → Byte) {a b c : ByteArray} (h : orderOf salt a b < 0) (k : orderOf salt b c ≤ 0) : orderOf salt a c < 0 := by
  have h1 := ord_trans salt a b c (by omega) k
  by_cases e : orderOf salt a c = 0
  · have h2 := ord_zero salt a c
    rw [e] at h2
    have e2 : a.toList = c.toList := by simpa using h2
    obtain rfl := toList_inj e2
    have h3 := ord_neg salt a b
    omega
  · omega
theorem ord_self (salt : Nat → Byte) (a : ByteArray) : orderOf salt a a = 0 := by
  have := ord_zero salt a a
  rw [show (a.toList == a.toList) = true by simp] at this
  simpa using this.symm
theorem ord_eq (salt : Nat → Byte) {a b : ByteArray} (h : orderOf salt a b = 0) : a = b := by
  have h2 := ord_zero salt a b
  rw [h] at h2
  exact toList_inj (by simpa using h2)
/-- The entries are in order. -/
def Sorted (salt : Nat → Byte) (f : Nat → En) (n : Nat) : Prop := ∀ i j, i < j → j < n → orderOf salt (f i).nm (f j).nm < 0
theorem okTo_sorted (salt : Nat → Byte) (f : Nat → En) (n : Nat) (h : okTo salt f n = true) : Sorted salt f n := by
  intro i j hij hj
  induction j with
  | zero => omega
  | succ j ih =>
    have h1 := okTo_ord salt f n h j hj
    by_cases e : i = j
    · subst e; exact h1
    · exact ord_lt_le salt (ih (by omega) (by omega)) (by omega)
/-- Where a name is looked for: before i the names are less, from j on they are not. -/
structure Split (salt : Nat → Byte) (f : Nat → En) (n : Nat) (nm : ByteArray) (i j : Nat) : Prop where
  le : i ≤ j
  len : j ≤ n
  low : ∀ m, m < i → orderOf salt (f m).nm nm < 0
  high : ∀ m, j ≤ m → m < n → 0 ≤ orderOf salt (f m).nm nm
theorem Split.up {salt : Nat → Byte} {f : Nat → En} {n : Nat} {nm : ByteArray} {i j h : Nat} (s : Split salt f n nm i j) (hs : Sorted salt f n) (h2 : h < j) (hb : orderOf salt (f h).nm nm < 0) : Split salt f n nm (h + 1) j :=
  ⟨h2, s.len, fun m hm => by
    by_cases e : m = h
    · subst e; exact hb
    · exact ord_lt_le salt (hs m h (by omega) (by have := s.len; omega)) (by omega), s.high⟩
theorem Split.down {salt : Nat → Byte} {f : Nat → En} {n : Nat} {nm : ByteArray} {i j h : Nat} (s : Split salt f n nm i j) (hs : Sorted salt f n) (h1 : i ≤ h) (h2 : h < j) (hb : 0 ≤ orderOf salt (f h).nm nm) : Split salt f n nm i h :=
  ⟨h1, by have := s.len; omega, s.low, fun m hm hn => by
    by_cases e : m = h
    · subst e; exact hb
    · have h3 := hs h m (by omega) hn
      have h4 := ord_neg salt (f h).nm (f m).nm
      have h5 := ord_trans_ge salt (f m).nm (f h).nm nm (by omega) hb
      exact h5⟩
set_option maxRecDepth 100000 in
set_option maxHeartbeats 4000000 in
theorem less_any (salt : Nat → Byte) (gs : Nat) (e : En) (nm : ByteArray) (w : World) (hk : KeysAt w) (hS : Row w gs 22 16 salt) (h1 : e.nm.size ≤ 140737488351232) (h2 : nm.size ≤ 140737488351232) :
    Calls Tryd.prog 58 #[.agg #[.string e.nm, .int .i64 e.ino], .string nm, .pointer (some ⟨gs, 0, none⟩)] w fun r w' => r = .returned (.int .i64 (orderOf salt e.nm nm)) ∧ Kept (fun _ => False) w w' := by
  obtain ⟨en, ei⟩ := e
  go_enter Tryd.func58, Tryd.ntmps58
  go_upto_region 1 with fail
  generalize hw0 : World.alloc w _ = w0
  have hE : EAt w0 w.heap.size 0 ⟨en, ei⟩ := by rw [← hw0]; exact newE w en ei
  have hS0 : Row w0 gs 22 16 salt := by rw [← hw0]; exact hS.alloc _
  have hK0 : Kept (fun _ => False) w w0 := by rw [← hw0]; exact (Kept.refl _ w).alloc _
  obtain ⟨c0, c1⟩ := hE
  generalize w.heap.size = gx at *
  clear hw0
  go_wp2_with (first | (refine wpList_load_row rfl 22 (.tmp 2) rfl gs rfl 22 (Fs 16 salt) (0, 0) _ hS0 Tryd.underlying22 rfl (info22F _) ?_) | ((with_reducible refine (order_any salt _ _ _ (hk.kept hK0) h1 h2).mono ?_); rintro r w1 ⟨rfl, k1⟩))
  go_ret
  exact ⟨rfl, hK0.trans k1 (fun _ _ h => h)⟩
def SearchPost (salt : Nat → Byte) (f : Nat → En) (n : Nat) (nm : ByteArray) (w : World) (r : Ending) (w' : World) : Prop :=
  ∃ i : Nat, Split salt f n nm i i ∧ r = .returned (.tuple #[.int .i64 (i : Int), .bool (decide (i < n) && decide (orderOf salt (f i).nm nm = 0))]) ∧ Kept (fun _ => False) w w'
set_option maxRecDepth 100000 in
set_option maxHeartbeats 8000000 in
theorem search_any (salt : Nat → Byte) (gs : Nat) (a : Option Addr) (n cap : Nat) (f : Nat → En) (nm : ByteArray) (w : World) (hk : KeysAt w) (hS : Row w gs 22 16 salt) (h : ListE w a n f) (hn : n ≤ 140737488351232) (hs : ∀ i, i < n → (f i).nm.size ≤ 140737488351232) (hso : Sorted salt f n) (h2 : nm.size ≤ 140737488351232) :
    Calls Tryd.prog 57 #[.slice a n cap, .string nm, .func (.func 58) #[] #[.pointer (some ⟨gs, 0, none⟩)]] w (SearchPost salt f n nm w) := by
  have HSO := Lib.hid hso
  clear hso
  have qa : (n : Int) ≤ 140737488351232 := by omega
  go_enter Tryd.func57, Tryd.ntmps57
  go_wp2_with fail
  go_loopg [9, 10] (n + 1) (fun k si sj wr => ∃ i j : Nat, j + 1 ≤ i + k ∧ si = .int .i64 (i : Int) ∧ sj = .int .i64 (j : Int) ∧ Split salt f n nm i j ∧ Kept (fun _ => False) w wr)
  case atStart => exact ⟨0, n, by omega, rfl, rfl, ⟨by omega, by omega, fun m hm => by omega, fun m h1 h2 => by omega⟩, Kept.refl _ w⟩
  case round =>
    obtain ⟨i, j, hkk, rfl, rfl, hSp, hK⟩ := hrel
    have Hk := Lib.hid hkk
    have HS := Lib.hid hSp
    have hle := hSp.le
    have hlen := hSp.len
    clear hkk hSp
    by_cases hlt : i < j
    · have q : (i : Int) < j := by omega
      have q1 : (j : Int) ≤ 140737488351232 := by omega
      obtain ⟨ga, oa, rfl, hca⟩ := h.resolve_left (by omega)
      obtain ⟨m, hh⟩ : ∃ m : Nat, m = (i + j) / 2 := ⟨_, rfl⟩
      have qh1 : i ≤ m := by omega
      have qh2 : m < j := by omega
      have qh3 : ((i : Int) + j) / 2 = m := by omega
      clear hh
      go_upto_region 5 with fail
      clear qh3
      obtain ⟨a0, a1⟩ := (hca m (by omega)).kept hK
      have qh4 : (m : Int) < n := by omega
      have hsz := hs m (by omega)
      have hcon := fun W hk hS => less_any salt gs (f m) nm W hk hS hsz h2
      obtain ⟨v, hv⟩ : ∃ v, v = orderOf salt (f m).nm nm := ⟨_, rfl⟩
      rw [← hv] at hcon
      have HC := Lib.hid hcon
      have HV := Lib.hid hv
      clear hcon hv
      have hkw : KeysAt wr := hk.kept hK
      have hSw : Row wr gs 22 16 salt := hK.at hS (fun h => h)
      generalize hnmm : (f m).nm = mn at a0 a1 HC hsz
      generalize himm : (f m).ino = mi at a0 a1 HC
      clear hnmm himm
      by_cases hb : v < 0
      · have hup := HS.out.up HSO.out (h := m) (by omega) (by rw [← HV.out]; exact hb)
        have HUP := Lib.hid hup
        clear hup
        go_wp2_with fail
        refine (HC.out _ hkw hSw).mono ?_
        rintro r w2 ⟨rfl, k2⟩
        clear HC
        go_wp2_with fail
        go_roundg (gk - 1)
        case measure => have := Hk.out; omega
        case rel =>
          have := Hk.out
          exact ⟨m + 1, j, by omega, by go_num, rfl, HUP.out, hK.trans k2 (fun _ _ h => h)⟩
      · have hdn := HS.out.down HSO.out (h := m) qh1 qh2 (by rw [← HV.out]; omega)
        have HDN := Lib.hid hdn
        clear hdn
        go_wp2_with fail
        refine (HC.out _ hkw hSw).mono ?_
        rintro r w2 ⟨rfl, k2⟩
        clear HC
        go_wp2_with fail
        go_roundg (gk - 1)
        case measure => have := Hk.out; omega
        case rel =>
          have := Hk.out
          exact ⟨i, m, by omega, rfl, rfl, HDN.out, hK.trans k2 (fun _ _ h => h)⟩
    · obtain rfl : i = j := by omega
      have q : ¬ (i : Int) < i := by omega
      by_cases hin : i < n
      · have q1 : (i : Int) < n := by omega
        obtain ⟨ga, oa, rfl, hca⟩ := h.resolve_left (by omega)
        obtain ⟨a0, a1⟩ := (hca i hin).kept hK
        have hsz := hs i hin
        have hcon := fun W hk hS => less_any salt gs (f i) nm W hk hS hsz h2
        obtain ⟨v, hv⟩ : ∃ v, v = orderOf salt (f i).nm nm := ⟨_, rfl⟩
        rw [← hv] at hcon
        have HC := Lib.hid hcon
        have HV := Lib.hid hv
        have HIN := Lib.hid hin
        clear hcon hv
        have hkw : KeysAt wr := hk.kept hK
        have hSw : Row wr gs 22 16 salt := hK.at hS (fun h => h)
        generalize hnmm : (f i).nm = mn at a0 a1 HC hsz
        generalize himm : (f i).ino = mi at a0 a1 HC
        clear hnmm himm hca
        go_wp2_with fail
        refine (HC.out _ hkw hSw).mono ?_
        rintro r w2 ⟨rfl, k2⟩
        clear HC
        go_wp2_with fail
        go_ret2
        refine ⟨i, HS.out, ?_, hK.trans k2 (fun _ _ h => h)⟩
        rw [← HV.out, decide_eq_true HIN.out]
        simp
        rfl
      · have q1 : ¬ (i : Int) < n := by omega
        have HIN := Lib.hid hin
        go_wp2_with fail
        go_ret2
        exact ⟨i, HS.out, by rw [decide_eq_false HIN.out]; rfl, hK⟩
set_option maxRecDepth 100000 in
set_option maxHeartbeats 4000000 in
theorem at_any (salt : Nat → Byte) (a : Option Addr) (n cap : Nat) (f : Nat → En) (nm : ByteArray) (w : World) (hk : KeysAt w) (h : ListE w a n f) (hn : n ≤ 140737488351232) (hs : ∀ i, i < n → (f i).nm.size ≤ 140737488351232) (hso : Sorted salt f n) (h2 : nm.size ≤ 140737488351232) :
    Calls Tryd.prog 42 #[.agg (Fs 16 salt), .slice a n cap, .string nm] w (SearchPost salt f n nm w) := by
  have HSO := Lib.hid hso
  clear hso
  go_enter Tryd.func42, Tryd.ntmps42
  go_upto_region 1 with fail
  have hS0 : Row (w.alloc (.cells (Fs 16 salt) 22)) w.heap.size 22 16 salt := Row.new w 22 16 salt
  have hK0 : Kept (fun _ => False) w (w.alloc (.cells (Fs 16 salt) 22)) := (Kept.refl _ w).alloc _
  generalize hw0 : w.alloc (.cells (Fs 16 salt) 22) = w0 at *
  generalize w.heap.size = gs at *
  clear hw0
  go_wp2_with (first | ((with_reducible refine (search_any salt _ _ _ _ f _ _ (hk.kept hK0) hS0 (h.kept hK0) hn hs HSO.out h2).mono ?_); rintro r w1 ⟨i, hsp, rfl, k1⟩; have HSP := Lib.hid hsp; clear hsp))
  go_ret2
  exact ⟨i, HSP.out, rfl, hK0.trans k1 (fun _ _ h => h)⟩
/-- The first of n that has the name; -1: none. -/
def IndexPost (f : Nat → En) (n : Nat) (nm : ByteArray) (w : World) (r : Ending) (w' : World) : Prop :=
  ∃ z : Int, r = .returned (.int .i64 z) ∧ ((z = -1 ∧ ∀ i, i < n → (f i).nm ≠ nm) ∨ ∃ i : Nat, z = i ∧ i < n ∧ (f i).nm = nm ∧ ∀ m, m < i → (f m).nm ≠ nm) ∧ w' = w
set_option maxRecDepth 100000 in
set_option maxHeartbeats 4000000 in
theorem refIndex_any (a : Option Addr) (n cap : Nat) (f : Nat → En) (nm : ByteArray) (w : World) (h : ListE w a n f) (hn : n ≤ 140737488351232) :
    Calls Tryd.prog 46 #[.slice a n cap, .string nm] w (IndexPost f n nm w) := by
  go_enter Tryd.func46, Tryd.ntmps46
  go_wp2_with fail
  go_loopg [5] n (fun k i wr => ∃ j : Nat, j + k = n ∧ j ≤ n ∧ i = .int .i64 (j : Int) ∧ (∀ m, m < j → (f m).nm ≠ nm) ∧ wr = w)
  case atStart => exact ⟨0, by omega, by omega, rfl, fun m hm => by omega, rfl⟩
  case round =>
    obtain ⟨j, hj, hj2, rfl, hno, hw⟩ := hrel
    subst hw
    have Hj := Lib.hid hj
    have HN := Lib.hid hno
    clear hj hno
    by_cases hlt : j < n
    · have q1 : (j : Int) < n := by omega
      have q2 : (0 : Int) ≤ j := by omega
      have q3 : (n : Int) ≤ 140737488351232 := by omega
      obtain ⟨g, o, rfl, hc⟩ := h.resolve_left (by omega)
      obtain ⟨c0, c1⟩ := hc j hlt
      cases he : (f j).nm.toList == nm.toList
      · have hne : (f j).nm ≠ nm := fun e => by rw [e] at he; simp at he
        have HNE := Lib.hid hne
        clear hne hc
        generalize (f j).nm = mn at c0 he
        go_wp2_with fail
        go_roundg (gk - 1)
        case measure => have := Hj.out; omega
        case rel =>
          have := Hj.out
          refine ⟨j + 1, by omega, by omega, by go_num, fun m hm => ?_, rfl⟩
          by_cases e : m = j
          · subst e; exact HNE.out
          · exact HN.out m (by omega)
      · have heq : (f j).nm = nm := toList_inj (by simpa using he)
        have HEQ := Lib.hid heq
        clear heq hc
        go_wp2_with fail
        go_ret
        exact ⟨_, rfl, .inr ⟨j, rfl, hlt, HEQ.out, HN.out⟩, rfl⟩
    · obtain rfl : n = j := by omega
      have q1 : ¬ (n : Int) < n := by omega
      go_wp2_with fail
      go_ret
      exact ⟨_, rfl, .inl ⟨rfl, HN.out⟩, rfl⟩
end Go.Proofs.YtpekibadleghbaaDoor
namespace Go.Proofs.YtpekibadleghbaaDoor
open Go.RowKit
set_option linter.unusedVariables false
set_option linter.unusedSimpArgs false
/-- The first of n entries that has the name. -/
def idxOf (f : Nat → En) (nm : ByteArray) : Nat → Option Nat
  | 0 => none
  | k + 1 => match idxOf f nm k with
    | some i => some i
    | none => if (f k).nm.toList == nm.toList then some k else none
theorem idxOf_none (f : Nat → En) (nm : ByteArray) : ∀ n, (∀ i, i < n → (f i).nm ≠ nm) → idxOf f nm n = none
  | 0, _ => rfl
  | n + 1, h => by
    unfold idxOf
    rw [idxOf_none f nm n (fun i hi => h i (by omega))]
    have : ((f n).nm.toList == nm.toList) = false := by
      cases e : (f n).nm.toList == nm.toList
      · rfl
      · exact absurd (toList_inj (by simpa using e)) (h n (by omega))
    simp [this]
theorem idxOf_some (f : Nat → En) (nm : ByteArray) (i : Nat) (hi : (f i).nm = nm) (hlt : ∀ m, m < i → (f m).nm ≠ nm) : ∀ n, i < n → idxOf f nm n = some i
  | 0, h => by omega
  | n + 1, h => by
    unfold idxOf
    by_cases e : i = n
    · subst e
      rw [idxOf_none f nm i hlt]
      simp [hi]
    · rw [idxOf_some f nm i hi hlt n (by omega)]
def findR (salt : Nat → Byte) (f : Nat → En) (n : Nat) (nm : ByteArray) : Int × Int :=
  if rightB salt f n = true then match idxOf f nm n with | some i => ((f i).ino, 0) | none => (0, 4) else (0, 3)
theorem rightB_ok {salt : Nat → Byte} {f : Nat → En} {n : Nat} (h : rightB salt f n = true) : okTo salt f n = true := by
  unfold rightB at h
  simp only [Bool.and_eq_true] at h
  exact h.2
theorem there_yes {salt : Nat → Byte} {f : Nat → En} {n i : Nat} {nm : ByteArray} (h : (decide (i < n) && decide (orderOf salt (f i).nm nm = 0)) = true) : i < n ∧ (f i).nm = nm := by
  simp only [Bool.and_eq_true, decide_eq_true_eq] at h
  exact ⟨h.1, ord_eq salt h.2⟩
theorem there_no {salt : Nat → Byte} {f : Nat → En} {n i : Nat} {nm : ByteArray} (hs : Sorted salt f n) (sp : Split salt f n nm i i) (h : (decide (i < n) && decide (orderOf salt (f i).nm nm = 0)) = false) : ∀ m, m < n → (f m).nm ≠ nm := by
  intro m hm e
  have h0 : orderOf salt (f m).nm nm = 0 := by rw [e]; exact ord_self salt nm
  by_cases h1 : m < i
  · have := sp.low m h1; omega
  · by_cases h2 : m = i
    · subst h2
      rw [decide_eq_true hm, decide_eq_true h0] at h
      cases h
    · have h3 := hs i m (by omega) hm
      rw [e] at h3
      have := sp.high i (Nat.le_refl _) (by omega)
      omega
theorem sorted_uniq {salt : Nat → Byte} {f : Nat → En} {n i j : Nat} (hs : Sorted salt f n) (hi : i < n) (hj : j < n) (h : (f i).nm = (f j).nm) : i = j := by
  rcases Nat.lt_trichotomy i j with h1 | h1 | h1
  · have := hs i j h1 hj
    rw [h, ord_self] at this; omega
  · exact h1
  · have := hs j i h1 hi
    rw [h, ord_self] at this; omega
theorem idxOf_there {salt : Nat → Byte} {f : Nat → En} {n i : Nat} {nm : ByteArray} (hs : Sorted salt f n) (hi : i < n) (h : (f i).nm = nm) : idxOf f nm n = some i :=
  idxOf_some f nm i h (fun m hm e => by have := sorted_uniq hs (by omega) hi (e.trans h.symm); omega) n hi
set_option maxRecDepth 100000 in
set_option maxHeartbeats 8000000 in
theorem find_any (salt : Nat → Byte) (a : Option Addr) (n cap : Nat) (f : Nat → En) (nm : ByteArray) (w : World) (hk : KeysAt w) (h : ListE w a n f) (hn : n ≤ 140737488351232) (hs : ∀ i, i < n → (f i).nm.size ≤ 140737488351232) (h2 : nm.size ≤ 140737488351232) :
    Calls Tryd.prog 26 #[.agg (Fs 16 salt), .slice a n cap, .string nm] w fun r w' => r = .returned (.tuple #[.int .i64 (findR salt f n nm).1, .int .i64 (findR salt f n nm).2]) ∧ Kept (fun _ => False) w w' := by
  obtain ⟨z, hz⟩ : ∃ z, z = findR salt f n nm := ⟨_, rfl⟩
  rw [← hz]
  have HZ := Lib.hid hz
  clear hz
  have qa : (n : Int) ≤ 140737488351232 := by omega
  go_enter Tryd.func26, Tryd.ntmps26
  go_upto_region 1 with fail
  have hS0 : Row (w.alloc (.cells (Fs 16 salt) 22)) w.heap.size 22 16 salt := Row.new w 22 16 salt
  have hK0 : Kept (fun _ => False) w (w.alloc (.cells (Fs 16 salt) 22)) := (Kept.refl _ w).alloc _
  generalize hw0 : w.alloc (.cells (Fs 16 salt) 22) = w0 at *
  generalize hgs : w.heap.size = gs at *
  clear hw0 hgs
  have hcon := check_any salt a n cap f w0 (hk.kept hK0) (h.kept hK0) hn hs
  cases hr : rightB salt f n
  · rw [hr] at hcon
    simp only [Bool.false_eq_true, if_false] at hcon
    have HC := Lib.hid hcon
    obtain rfl : z = (0, 3) := by rw [HZ.out]; unfold findR; rw [hr]; rfl
    clear hcon hr
    go_wp2_with (first | (refine wpList_load_row rfl 22 (.tmp 3) rfl gs rfl 22 (Fs 16 salt) (0, 0) _ hS0 Tryd.underlying22 rfl (info22F _) ?_) | ((with_reducible refine (HC.out).mono ?_); rintro r w1 ⟨rfl, k1⟩))
    go_ret2
    exact ⟨rfl, hK0.trans k1 (fun _ _ h => h)⟩
  · rw [hr] at hcon
    simp only [if_true] at hcon
    have HC := Lib.hid hcon
    have HR := Lib.hid hr
    have hso := okTo_sorted salt f n (rightB_ok hr)
    have HSO := Lib.hid hso
    clear hcon hr hso
    go_upto_region 4 with (first | (refine wpList_load_row rfl 22 (.tmp 3) rfl gs rfl 22 (Fs 16 salt) (0, 0) _ hS0 Tryd.underlying22 rfl (info22F _) ?_) | ((with_reducible refine (HC.out).mono ?_); rintro r w1 ⟨rfl, k1⟩; clear HC))
    have hS1 : Row w1 gs 22 16 salt := k1.at hS0 (fun h => h)
    have hK1 : Kept (fun _ => False) w w1 := hK0.trans k1 (fun _ _ h => h)
    clear k1 hS0 hK0
    go_upto_region 5 with (first | (refine wpList_load_row rfl 22 (.tmp 3) rfl gs rfl 22 (Fs 16 salt) (0, 0) _ hS1 Tryd.underlying22 rfl (info22F _) ?_) | ((with_reducible refine (at_any salt a n cap f nm w1 (hk.kept hK1) (h.kept hK1) hn hs HSO.out h2).mono ?_); rintro r w2 ⟨i, hsp, rfl, k2⟩; have HSP := Lib.hid hsp; clear hsp))
    have hK2 : Kept (fun _ => False) w w2 := hK1.trans k2 (fun _ _ h => h)
    clear k2 hS1 hK1
    cases hb : (decide (i < n) && decide (orderOf salt (f i).nm nm = 0))
    · have hno := there_no HSO.out HSP.out hb
      obtain rfl : z = (0, 4) := by rw [HZ.out]; unfold findR; rw [if_pos HR.out, idxOf_none f nm n hno]
      clear hb hno
      go_wp2_with fail
      go_ret2
      exact ⟨rfl, hK2⟩
    · obtain ⟨hin, hnm⟩ := there_yes hb
      have hix := idxOf_there HSO.out hin hnm
      obtain rfl : z = ((f i).ino, 0) := by rw [HZ.out]; unfold findR; rw [if_pos HR.out, hix]
      obtain ⟨g, o, rfl, hc⟩ := h.resolve_left (by omega)
      obtain ⟨c0, c1⟩ := (hc i hin).kept hK2
      have q1 : (i : Int) < n := by omega
      clear hb hnm hix hc
      go_wp2_with fail
      go_ret2
      exact ⟨rfl, hK2⟩
set_option maxRecDepth 100000 in
set_option maxHeartbeats 8000000 in
theorem refFind_any (salt : Nat → Byte) (a : Option Addr) (n cap : Nat) (f : Nat → En) (nm : ByteArray) (w : World) (hk : KeysRef w) (h : ListE w a n f) (hn : n ≤ 140737488351232) (hs : ∀ i, i < n → (f i).nm.size ≤ 140737488351232) :
    Calls Tryd.prog 27 #[.agg (Fs 16 salt), .slice a n cap, .string nm] w fun r w' => r = .returned (.tuple #[.int .i64 (findR salt f n nm).1, .int .i64 (findR salt f n nm).2]) ∧ Kept (fun _ => False) w w' := by
  obtain ⟨z, hz⟩ : ∃ z, z = findR salt f n nm := ⟨_, rfl⟩
  rw [← hz]
  have HZ := Lib.hid hz
  clear hz
  have qa : (n : Int) ≤ 140737488351232 := by omega
  go_enter Tryd.func27, Tryd.ntmps27
  go_upto_region 1 with fail
  have hS0 : Row (w.alloc (.cells (Fs 16 salt) 22)) w.heap.size 22 16 salt := Row.new w 22 16 salt
  have hK0 : Kept (fun _ => False) w (w.alloc (.cells (Fs 16 salt) 22)) := (Kept.refl _ w).alloc _
  generalize hw0 : w.alloc (.cells (Fs 16 salt) 22) = w0 at *
  generalize hgs : w.heap.size = gs at *
  clear hw0 hgs
  have hcon := refRight_any salt a n cap f w0 (hk.kept hK0) (h.kept hK0) hn hs
  cases hr : rightB salt f n
  · rw [hr] at hcon
    have HC := Lib.hid hcon
    obtain rfl : z = (0, 3) := by rw [HZ.out]; unfold findR; rw [hr]; rfl
    clear hcon hr
    go_wp2_with (first | (refine wpList_load_row rfl 22 (.tmp 3) rfl gs rfl 22 (Fs 16 salt) (0, 0) _ hS0 Tryd.underlying22 rfl (info22F _) ?_) | ((with_reducible refine (HC.out).mono ?_); rintro r w1 ⟨rfl, k1⟩))
    go_ret2
    exact ⟨rfl, hK0.trans k1 (fun _ _ h => h)⟩
  · rw [hr] at hcon
    have HC := Lib.hid hcon
    have HR := Lib.hid hr
    clear hcon hr
    go_upto_region 3 with (first | (refine wpList_load_row rfl 22 (.tmp 3) rfl gs rfl 22 (Fs 16 salt) (0, 0) _ hS0 Tryd.underlying22 rfl (info22F _) ?_) | ((with_reducible refine (HC.out).mono ?_); rintro r w1 ⟨rfl, k1⟩; clear HC))
    have hK1 : Kept (fun _ => False) w w1 := hK0.trans k1 (fun _ _ h => h)
    clear k1 hS0 hK0
    go_upto_region 4 with (first | ((with_reducible refine (refIndex_any a n cap f nm w1 (h.kept hK1) hn).mono ?_); rintro r w2 ⟨q, rfl, hq, hw⟩; replace hw := hw.symm; subst hw; have HQ := Lib.hid hq; clear hq))
    rcases HQ.out with ⟨hq, hno⟩ | ⟨i, hq, hin, hnm, hlt⟩
    · obtain rfl : z = (0, 4) := by rw [HZ.out]; unfold findR; rw [if_pos HR.out, idxOf_none f nm n hno]
      subst hq
      clear hno HQ
      go_wp2_with fail
      go_ret2
      exact ⟨rfl, hK1⟩
    · have hix := idxOf_some f nm i hnm hlt n hin
      obtain rfl : z = ((f i).ino, 0) := by rw [HZ.out]; unfold findR; rw [if_pos HR.out, hix]
      obtain ⟨g, o, rfl, hc⟩ := h.resolve_left (by omega)
      obtain ⟨c0, c1⟩ := (hc i hin).kept hK1
      have q1 : (i : Int) < n := by omega
      subst hq
      clear hnm hix hc hlt HQ
      go_wp2_with fail
      go_ret2
      exact ⟨rfl, hK1⟩
end Go.Proofs.YtpekibadleghbaaDoor
