/-
  The reference's Decode.
-/
import Derived.Test.YtpekibadleghbaaDoorD21
namespace Go.Proofs.YtpekibadleghbaaDoor
open Go.RowKit
set_option linter.unusedVariables false
set_option linter.unusedSimpArgs false
theorem cut_lh (g o k c p m : Nat) (hm : p + 2 + m ≤ c) : ∃ o2, (m = 0 ∨ o2 = o + (p + 2)) ∧ ∀ W, (Instr.sliceAt 37 (.slice (some ⟨g, o, none⟩) k c) (some (.int .i64 ((p : Int) + 2))) (some (.int .i64 ((p : Int) + 2 + (m : Int)))) none).run Tryd.prog W = .ok (.slice (some ⟨g, o2, none⟩) m (c - (p + 2))) W := by
  have hu : Tryd.prog.underlying 37 = some (.slice (Tryd.prog.elem 37)) := by kernel_rfl
  have he : Tryd.prog.elem 37 = 5 := by kernel_rfl
  refine ⟨if c = p + 2 then o else o + (p + 2), by split <;> omega, fun W => ?_⟩
  rw [run_sliceAt_slice (t := 37) (h := hu), run_slice_lh (t := 37) (ht := hu) (h0 := by omega) (h1 := by omega) (h2 := by omega), he, size5D]
  have e1 : ((p : Int) + 2 + m).toNat = p + 2 + m := by omega
  have e2 : ((p : Int) + 2).toNat = p + 2 := by omega
  have e3 : p + 2 + m - (p + 2) = m := by omega
  simp only [Result.andThen_ok, sliced, e1, e2, e3]
  by_cases h : c = p + 2
  · rw [if_pos h, if_pos h]
  · rw [if_neg h, if_neg h]; simp [Addr.add]
set_option maxRecDepth 100000 in
set_option maxHeartbeats 8000000 in
theorem refDecode_any (salt f : Nat → Byte) (a : Option Addr) (n cap : Nat) (w : World) (hk : KeysRef w) (h : BytesAt w a n f) (hnc : n ≤ cap) (hcap : cap ≤ 9223372036854775807) (hn : n ≤ 1048576) :
    Calls Tryd.prog 23 #[.agg (Fs 16 salt), .slice a n cap] w (ListPost (decR salt f n) w) := by
  have qn : (n : Int) ≤ 1048576 := by omega
  go_enter Tryd.func23, Tryd.ntmps23
  go_wp2_with fail
  have hS0 : Row (w.alloc (.cells (Fs 16 salt) 22)) w.heap.size 22 16 salt := Row.new w 22 16 salt
  have hK0 : Kept (fun _ => False) w (w.alloc (.cells (Fs 16 salt) 22)) := (Kept.refl _ w).alloc _
  have hsz0 : w.heap.size + 1 ≤ (w.alloc (.cells (Fs 16 salt) 22)).heap.size := by simp
  generalize hw0 : w.alloc (.cells (Fs 16 salt) 22) = w0 at *
  clear hw0
  go_loopg [6, 7] n (fun k s6 s7 wr => ∃ (p : Nat) (v : Value) (L : List En), p + k = n ∧ s7 = .int .i64 (p : Int) ∧ s6 = v ∧ Par f n L p ∧ wr.ownsRow (w.heap.size + 1) 68 2 v L.length (flat ecl L) ∧ Kept (fun _ => False) w wr ∧ Row wr w.heap.size 22 16 salt ∧ w.heap.size + 1 ≤ wr.heap.size)
  case atStart => exact ⟨0, _, [], by omega, rfl, rfl, .nil, World.ownsRow_nil _ _ 68 2, hK0, hS0, hsz0⟩
  case round =>
    clear hK0 hS0 hsz0
    obtain ⟨p, v, L, hp, rfl, rfl, hpar, hO, hK, hS, hsz⟩ := hrel
    have HP := Lib.hid hp
    have HPAR := Lib.hid hpar
    have hl := hpar.len
    have hle := hpar.le
    have hz := hpar.szs
    have HZ := Lib.hid hz
    have hln : L.length ≤ 524288 := by omega
    obtain ⟨l, hll⟩ : ∃ l, l = L.length := ⟨_, rfl⟩
    rw [← hll] at hO hln
    have HLL := Lib.hid hll
    have qp : (p : Int) ≤ 1048576 := by omega
    have qp0 : (0 : Int) ≤ p := by omega
    have qpn : (p : Int) ≤ n := by omega
    have hka : KeysRef wr := hk.kept hK
    have HKA := Lib.hid hka
    have hbr : BytesAt wr a n f := h.kept hK
    have HB := Lib.hid hbr
    clear hp hpar hl hz hll hka hbr
    by_cases h0 : p + 1 < n
    · have q1 : (p : Int) + 1 < n := by omega
      have q1' : (0 : Int) ≤ (p : Int) + 1 := by omega
      obtain ⟨g, o, rfl, hcs⟩ := HB.out.resolve_left (by omega)
      have c0 := hcs p (by omega)
      have c1 := hcs (p + 1) (by omega)
      obtain ⟨m, hm⟩ : ∃ m, m = lenAt f p := ⟨_, rfl⟩
      have hm256 : m < 256 := by rw [hm]; unfold lenAt; exact (f (p + 1)).isLt
      have e1 : B (f (p + 1)) = .int .u8 (m : Int) := by rw [hm]; rfl
      rw [e1] at c1
      have HM := Lib.hid hm
      have qm : (m : Int) < 256 := by omega
      have qm0 : (0 : Int) ≤ m := by omega
      clear hcs hm e1
      by_cases h3 : n < p + 2 + m
      · have q3 : (n : Int) - p - 2 < m := by omega
        go_wp2_with fail
        go_ret2
        rw [decR_stuck salt HPAR.out (by unfold Stuck; have := HP.out; have := HM.out; omega) (by have := HP.out; omega)]
        exact ListPost.nil hK
      · have q3 : ¬ (n : Int) - p - 2 < m := by omega
        go_upto_region 7 with fail
        obtain ⟨o2, ho2, hsl⟩ := cut_lh g o n cap p m (by omega)
        have hb := HB.out
        have hsub := BytesAt.sub hb (p + 2) m o2 (by omega) ho2
        obtain ⟨st, hst⟩ : ∃ st, st = strOf m (fun i => f (p + 2 + i)) := ⟨_, rfl⟩
        have hcv : ∀ W, BytesAt W (some ⟨g, o2, none⟩) m (fun i => f (p + 2 + i)) → (convert 37 9 (.slice (some ⟨g, o2, none⟩) m (cap - (p + 2)))).run Tryd.prog W = .ok (.string st) W := fun W hW => by
          rw [hst]; exact conv_str W 37 9 5 _ m (cap - (p + 2)) _ Tryd.underlying37 Tryd.underlying5 Tryd.underlying9 hW (fun h => by cases h)
        have HST := Lib.hid hst
        have HO2 := Lib.hid ho2
        clear hst ho2 hb
        have x0 : p < n := by omega
        have x1 := iB_ge (f p)
        have x2 := iB_lt (f p)
        refine region_perm (fun W => W.cell? ⟨g, o + p, none⟩ = some (B (f p)) ∧ BytesAt W (some ⟨g, o2, none⟩) m (fun i => f (p + 2 + i))) [(0, true), (1, true), (2, true), (3, true), (4, true), (5, true), (6, true), (7, true), (8, true), (9, true), (10, true), (11, true), (12, true), (13, true), (14, true), (15, true), (16, false), (17, false), (18, true)] (by kernel_rfl) (by kernel_rfl) (by intro c a d v w h; cases d <;> exact h) ⟨c0, hsub⟩ ?_
        repeat (first | (apply HeldSeq.take; (focus rfl); (focus rfl); (focus (intro W hS; obtain ⟨e0, e1⟩ := hS; go_simp; (try go_bits); rfl)); simp only [List.getElem_toArray]; (try simp only [List.getElem_cons_succ]); (try simp only [List.getElem_cons_zero]); simp only [Act.put, List.setIfInBounds_toArray]; (try simp only [List.set_cons_succ]); (try simp only [List.set_cons_zero])) | (apply HeldSeq.skip; (focus rfl); (focus rfl); simp only [List.getElem_toArray]; (try simp only [List.getElem_cons_succ]); (try simp only [List.getElem_cons_zero]); simp only [Act.put, List.setIfInBounds_toArray]; (try simp only [List.set_cons_succ]); (try simp only [List.set_cons_zero])))
        refine HeldSeq.run rfl rfl (fun K hK2 => ?_)
        go_simp
        refine hK2 _ _ ⟨((Kept.refl (fun _ => False) wr).alloc _).drew.cell c0, hsub.kept ((Kept.refl _ wr).alloc _).drew⟩ ?_
        clear hK2 K
        have ho1 := World.ownsRow.alloc hO (.cells #[.string st, .int .i64 (iB (f p))] 68)
        have he1 := newE' wr ⟨st, iB (f p)⟩
        have hk1 : Kept (fun _ => False) w (wr.alloc (.cells #[.string st, .int .i64 (iB (f p))] 68)).drew := (hK.alloc _).drew
        have hs1 : Row (wr.alloc (.cells #[.string st, .int .i64 (iB (f p))] 68)).drew w.heap.size 22 16 salt := ((Kept.refl (fun _ => False) wr).alloc _).drew.at hS (fun h => h)
        have hz1 : w.heap.size + 1 ≤ (wr.alloc (.cells #[.string st, .int .i64 (iB (f p))] 68)).drew.heap.size := by
          show _ ≤ (wr.alloc _).heap.size
          rw [size_alloc]; omega
        replace ho1 : (wr.alloc (.cells #[.string st, .int .i64 (iB (f p))] 68)).drew.ownsRow (w.heap.size + 1) 68 2 u6 l (flat ecl L) := ho1
        replace he1 : EAt (wr.alloc (.cells #[.string st, .int .i64 (iB (f p))] 68)).drew wr.heap.size 0 ⟨st, iB (f p)⟩ := he1
        generalize (wr.alloc (.cells #[.string st, .int .i64 (iB (f p))] 68)).drew = w1 at *
        refine HeldSeq.run rfl rfl (fun K hK2 => ?_)
        refine wp_appEnt (.tmp 27) (.tmp 43) rfl (w.heap.size + 1) u6 l L (by rfl) ho1 wr.heap.size 1 ⟨st, iB (f p)⟩ (by rfl) he1 (by omega) hz1 ?_
        intro v2 w2 ho2 k2
        have hK2' : Kept (fun _ => False) w w2 := kept_own hk1 (Nat.le_succ _) ho1 k2
        have hS2 : Row w2 w.heap.size 22 16 salt := k2.at hs1 (fun h => by have := (owns_ltE ho1 h).1; omega)
        have hb2 : BytesAt w2 (some ⟨g, o, none⟩) n f := h.kept hK2'
        have hc2 : w2.cell? ⟨g, o + p, none⟩ = some (B (f p)) := by
          obtain ⟨g', o', e, hcs⟩ := hb2.resolve_left (by omega)
          obtain ⟨rfl, rfl⟩ : g = g' ∧ o = o' := by simpa using e
          exact hcs p (by omega)
        refine hK2 _ _ ⟨hc2, BytesAt.sub hb2 (p + 2) m o2 (by omega) HO2.out⟩ ?_
        clear hK2 K hc2 hb2 k2 ho1 he1 hk1 hs1 hz1 hK hS hO c0 c1 hsub hsl hcv hsz HKA
        have hz2 : w.heap.size + 1 ≤ w2.heap.size := hS2.lt
        repeat (first | (apply HeldSeq.take; (focus rfl); (focus rfl); (focus (intro W hS; obtain ⟨e0, e1⟩ := hS; go_simp; (try go_bits); rfl)); simp only [List.getElem_toArray]; (try simp only [List.getElem_cons_succ]); (try simp only [List.getElem_cons_zero]); simp only [Act.put, List.setIfInBounds_toArray]; (try simp only [List.set_cons_succ]); (try simp only [List.set_cons_zero])) | (apply HeldSeq.skip; (focus rfl); (focus rfl); simp only [List.getElem_toArray]; (try simp only [List.getElem_cons_succ]); (try simp only [List.getElem_cons_zero]); simp only [Act.put, List.setIfInBounds_toArray]; (try simp only [List.set_cons_succ]); (try simp only [List.set_cons_zero])))
        refine HeldSeq.done ?_
        go_wp2_with fail
        go_roundg (gk - (2 + m))
        case measure => have := HP.out; omega
        case rel =>
          have hp := HP.out
          have hm := HM.out
          have hpn : p + 2 + lenAt f p ≤ n := by omega
          refine ⟨p + 2 + m, _, L ++ [entAt f p], by omega, by go_num, rfl, ?_, ?_, hK2', hS2, hz2⟩
          · rw [hm]; exact .snoc HPAR.out hpn
          · have e : (⟨st, iB (f p)⟩ : En) = entAt f p := by
              unfold entAt
              rw [HST.out, hm]
            rw [← e, List.length_append, ← HLL.out]
            exact ho2
    · have q1 : ¬ (p : Int) + 1 < n := by omega
      by_cases h1 : p < n
      · have q2 : (p : Int) < n := by omega
        go_wp2_with fail
        go_ret2
        rw [decR_stuck salt HPAR.out (by unfold Stuck; omega) h1]
        exact ListPost.nil hK
      · have q2 : ¬ (p : Int) < n := by omega
        obtain ⟨ad2, c2, rfl, hl2, hc2, _⟩ := OwnE.reads (xs := L) (by rw [← HLL.out]; exact hO)
        have hpn : p = n := by omega
        have HC := Lib.hid (refRight_any salt ad2 L.length c2 (nthE L) wr HKA.out hl2 (by have := HLL.out; omega) HZ.out)
        have HR := Lib.hid (decR_end salt (by have := HPAR.out; rw [hpn] at this; exact this))
        have HL2 := Lib.hid hl2
        have HO := Lib.hid (show wr.ownsRow w.heap.size 68 2 (.slice ad2 L.length c2) L.length (flat ecl L) by have := owns_lowerE hO (Nat.le_succ _); rw [HLL.out] at this; exact this)
        clear hpn hl2 hO
        cases hr : rightB salt (nthE L) L.length
        · have HC2 := Lib.hid (by have := HC.out; rw [hr] at this; simpa using this)
          have HR2 := Lib.hid (by have := HR.out; rw [hr] at this; simpa using this)
          clear hr HC HR
          go_wp2_with (first | (refine load_row_g rfl 22 (.tmp 2) rfl w.heap.size rfl 22 (Fs 16 salt) (0, 0) _ hS Tryd.underlying22 rfl (info22F _) ?_) | ((with_reducible refine (HC2.out).mono ?_); rintro r w1 ⟨rfl, k1⟩))
          go_ret2
          rw [HR2.out]
          exact ListPost.nil (hK.trans k1 (fun _ _ h => h))
        · have HC2 := Lib.hid (by have := HC.out; rw [hr] at this; simpa using this)
          have HR2 := Lib.hid (by have := HR.out; rw [hr] at this; simpa using this)
          clear hr HC HR
          go_wp2_with (first | (refine load_row_g rfl 22 (.tmp 2) rfl w.heap.size rfl 22 (Fs 16 salt) (0, 0) _ hS Tryd.underlying22 rfl (info22F _) ?_) | ((with_reducible refine (HC2.out).mono ?_); rintro r w1 ⟨rfl, k1⟩))
          go_ret2
          rw [HR2.out]
          exact ⟨_, rfl, owns_kept HO.out k1 (fun _ _ h => h), hK.trans k1 (fun _ _ h => h)⟩
end Go.Proofs.YtpekibadleghbaaDoor
