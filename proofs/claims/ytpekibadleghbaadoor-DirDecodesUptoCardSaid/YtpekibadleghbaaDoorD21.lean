/-
  dir.Decode.
-/
import Derived.Test.YtpekibadleghbaaDoorDD
namespace Go.Proofs.YtpekibadleghbaaDoor
open Go.RowKit
set_option linter.unusedVariables false
set_option linter.unusedSimpArgs false
/-- What bytes decode to. -/
def decR (salt : Nat → Byte) (f : Nat → Byte) (n : Nat) : List En × Int :=
  if (parse f n n).2 = n ∧ rightB salt (nthE (parse f n n).1) (parse f n n).1.length = true then ((parse f n n).1, 0) else ([], 12)
theorem parse_end {f : Nat → Byte} {n : Nat} {L : List En} {p : Nat} (h : Par f n L p) (s : Stuck f n p) : parse f n n = (L, p) := by
  have h1 := h.is
  have h2 := h.len
  have h3 := h.le
  rw [← h1]
  exact parse_stuck (by rw [h1]; exact s) n (by omega)
theorem decR_stuck (salt : Nat → Byte) {f : Nat → Byte} {n : Nat} {L : List En} {p : Nat} (h : Par f n L p) (s : Stuck f n p) (hp : p < n) : decR salt f n = ([], 12) := by
  unfold decR
  rw [parse_end h s, if_neg (by rintro ⟨h, _⟩; simp only at h; omega)]
theorem decR_end (salt : Nat → Byte) {f : Nat → Byte} {n : Nat} {L : List En} (h : Par f n L n) : decR salt f n = if rightB salt (nthE L) L.length = true then (L, 0) else ([], 12) := by
  unfold decR
  rw [parse_end h (by unfold Stuck; omega)]
  simp
theorem Par.sizes {f : Nat → Byte} {n : Nat} {L : List En} {p : Nat} (h : Par f n L p) : ∀ x ∈ L, x.nm.size ≤ 255 := by
  induction h with
  | nil => simp
  | @snoc L p _ _ ih =>
    intro x hx
    rcases List.mem_append.1 hx with hx | hx
    · exact ih x hx
    · obtain rfl : x = entAt f p := by simpa using hx
      show (strOf _ _).size ≤ 255
      rw [strOf_size]
      unfold lenAt
      have := (f (p + 1)).isLt
      omega
theorem Par.szs {f : Nat → Byte} {n : Nat} {L : List En} {p : Nat} (h : Par f n L p) : ∀ i, i < L.length → (nthE L i).nm.size ≤ 140737488351232 := fun i hi => by
  have := h.sizes _ (List.getElem_mem hi)
  rw [nthE_eq L i hi] at this; omega
theorem size5D (W : World) : (sizeOf 5).run Tryd.prog W = .ok 1 W := by kernel_rfl
theorem cut_mid (g o k c m : Nat) (hm : 2 + m ≤ c) : ∃ o2, (m = 0 ∨ o2 = o + 2) ∧ ∀ W, (Instr.sliceAt 37 (.slice (some ⟨g, o, none⟩) k c) (some (.int .i64 2)) (some (.int .i64 (2 + (m : Int)))) none).run Tryd.prog W = .ok (.slice (some ⟨g, o2, none⟩) m (c - 2)) W := by
  have hu : Tryd.prog.underlying 37 = some (.slice (Tryd.prog.elem 37)) := by kernel_rfl
  have he : Tryd.prog.elem 37 = 5 := by kernel_rfl
  refine ⟨if c = 2 then o else o + 2, by split <;> omega, fun W => ?_⟩
  rw [run_sliceAt_slice (t := 37) (h := hu), run_slice_lh (t := 37) (ht := hu) (h0 := by omega) (h1 := by omega) (h2 := by omega), he, size5D]
  have e1 : ((2 : Int) + m).toNat - 2 = m := by omega
  have e2 : (2 : Int).toNat = 2 := rfl
  simp only [Result.andThen_ok, sliced, e2, e1]
  by_cases h : c = 2
  · rw [if_pos h, if_pos h]
  · rw [if_neg h, if_neg h]; simp [Addr.add]
theorem cut_end (g o k c m : Nat) (hm : 2 + m ≤ k) (hk : k ≤ c) : ∃ o2, (2 + m = k ∨ o2 = o + (2 + m)) ∧ ∀ W, (Instr.sliceAt 37 (.slice (some ⟨g, o, none⟩) k c) (some (.int .i64 (2 + (m : Int)))) none none).run Tryd.prog W = .ok (.slice (some ⟨g, o2, none⟩) (k - (2 + m)) (c - (2 + m))) W := by
  have hu : Tryd.prog.underlying 37 = some (.slice (Tryd.prog.elem 37)) := by kernel_rfl
  have he : Tryd.prog.elem 37 = 5 := by kernel_rfl
  refine ⟨if c = 2 + m then o else o + (2 + m), by split <;> omega, fun W => ?_⟩
  rw [run_sliceAt_slice (t := 37) (h := hu), run_slice_l (t := 37) (ht := hu) (h0 := by omega) (h1 := by omega), he, size5D]
  have e1 : ((2 : Int) + m).toNat = 2 + m := by omega
  simp only [Result.andThen_ok, sliced, e1]
  by_cases h : c = 2 + m
  · rw [if_pos h, if_pos h]
  · rw [if_neg h, if_neg h]; simp [Addr.add]
theorem BytesAt.sub {w : World} {g o : Nat} {k : Nat} {f : Nat → Byte} (h : BytesAt w (some ⟨g, o, none⟩) k f) (j m o2 : Nat) (hj : j + m ≤ k) (ho : m = 0 ∨ o2 = o + j) : BytesAt w (some ⟨g, o2, none⟩) m (fun i => f (j + i)) := by
  rcases Nat.eq_zero_or_pos m with h0 | h0
  · exact .inl h0
  · obtain rfl := ho.resolve_left (by omega)
    obtain ⟨g', o', e, hc⟩ := h.resolve_left (by omega)
    obtain ⟨rfl, rfl⟩ : g = g' ∧ o = o' := by simpa using e
    exact .inr ⟨g, o + j, rfl, fun i hi => by rw [Nat.add_assoc]; exact hc (j + i) (by omega)⟩
set_option maxRecDepth 100000 in
theorem wp_appEnt {o : Oper} {a : Act} {w : World} {K : Act → World → Prop} {Q : Exit → Act → World → Prop} (s x : Operand) (ho : o.op = .call { callee := .builtin .append, args := #[s, x], argTypes := #[32, 32] })
    (base : Nat) (v : Value) (n : Nat) (L : List En) (hs : a.eval s = v) (hown : w.ownsRow base 68 2 v n (flat ecl L)) (g c : Nat) (e : En) (hx : a.eval x = .slice (some ⟨g, 0, none⟩) 1 c) (hc : EAt w g 0 e)
    (hn : n + 1 ≤ 1000000) (hbase : base ≤ w.heap.size)
    (h : ∀ v' w', w'.ownsRow base 68 2 v' (n + 1) (flat ecl (L ++ [e])) → Kept (fun k => v.ownBlock = some k) w w' → K (a.put o.dst v') w') : o.wp Tryd.prog a w K Q := by
  obtain ⟨v', w', hr, h1, h2, _, _⟩ := run_append_own_at (P := Tryd.prog) w base 32 o.type 68 _ _ 2 24 Tryd.underlying32 info29i zero29 size29 bytes29 rfl (by omega) v n (flat ecl L) hown ⟨g, 0, none⟩ 1 c (ecl e) rfl (ecells hc) (ecl_one e) (by unfold maxLen; omega) (by omega) hbase
  unfold Oper.wp execOp
  simp only [ho, resolve, invoke, builtin, Sem.run_bind, Sem.run_pure, Result.andThen_ok, List.map_toArray, List.map_cons, List.map_nil, hs, hx, hr]
  refine h v' w' ?_ (Kept.grown h2)
  rw [flat_append, flat_cons, flat_nil, List.append_nil]
  exact h1
set_option maxRecDepth 100000 in
set_option maxHeartbeats 8000000 in
theorem decode_any (salt f : Nat → Byte) (a : Option Addr) (n cap : Nat) (w : World) (hk : KeysAt w) (h : BytesAt w a n f) (hnc : n ≤ cap) (hcap : cap ≤ 9223372036854775807) (hn : n ≤ 1048576) :
    Calls Tryd.prog 22 #[.agg (Fs 16 salt), .slice a n cap] w (ListPost (decR salt f n) w) := by
  go_enter Tryd.func22, Tryd.ntmps22
  go_wp2_with fail
  have hS0 : Row (w.alloc (.cells (Fs 16 salt) 22)) w.heap.size 22 16 salt := Row.new w 22 16 salt
  have hK0 : Kept (fun _ => False) w (w.alloc (.cells (Fs 16 salt) 22)) := (Kept.refl _ w).alloc _
  have hsz0 : w.heap.size + 1 ≤ (w.alloc (.cells (Fs 16 salt) 22)).heap.size := by simp
  generalize hw0 : w.alloc (.cells (Fs 16 salt) 22) = w0 at *
  clear hw0
  go_loopg [1, 6] n (fun k s1 s6 wr => ∃ (p : Nat) (ad : Option Addr) (c : Nat) (v : Value) (L : List En), p + k = n ∧ s1 = .slice ad k c ∧ s6 = v ∧ BytesAt w ad k (fun i => f (p + i)) ∧ k ≤ c ∧ c ≤ cap ∧ Par f n L p ∧ wr.ownsRow (w.heap.size + 1) 68 2 v L.length (flat ecl L) ∧ Kept (fun _ => False) w wr ∧ Row wr w.heap.size 22 16 salt ∧ w.heap.size + 1 ≤ wr.heap.size)
  case atStart => exact ⟨0, a, cap, _, [], by omega, rfl, rfl, by simpa using h, hnc, Nat.le_refl _, .nil, World.ownsRow_nil _ _ 68 2, hK0, hS0, hsz0⟩
  case round =>
    obtain ⟨p, ad, c, v, L, hp, rfl, rfl, hb0, hkc, hc, hpar, hO, hK, hS, hsz⟩ := hrel
    have hb := hb0.kept hK
    have HB0 := Lib.hid hb0
    clear hb0
    have HP := Lib.hid hp
    have HPAR := Lib.hid hpar
    have hl := hpar.len
    have hle := hpar.le
    have hz := hpar.szs
    have HZ := Lib.hid hz
    have hln : L.length ≤ 524288 := by omega
    obtain ⟨l, hll⟩ : ∃ l, l = L.length := ⟨_, rfl⟩
    rw [← hll] at hO hln
    have HLL := Lib.hid hll
    have qk : (gk : Int) ≤ 1048576 := by omega
    have qk0 : (0 : Int) ≤ gk := by omega
    have qc : (c : Int) ≤ 9223372036854775807 := by omega
    have qkc : (gk : Int) ≤ c := by omega
    have hka : KeysAt wr := hk.kept hK
    have HKA := Lib.hid hka
    clear hp hpar hl hle hz hll hka
    by_cases h0 : gk = 0
    · have HK0 := Lib.hid h0
      have q1 : ¬ (0 : Int) < gk := by omega
      clear h0
      obtain ⟨ad2, c2, rfl, hl2, hc2, _⟩ := OwnE.reads (xs := L) (by rw [← HLL.out]; exact hO)
      have hpn : p = n := by have := HP.out; have := HK0.out; omega
      have HC := Lib.hid (check_any salt ad2 L.length c2 (nthE L) wr HKA.out hl2 (by have := HLL.out; omega) HZ.out)
      have HR := Lib.hid (decR_end salt (by have := HPAR.out; rw [hpn] at this; exact this))
      have HO := Lib.hid (show wr.ownsRow w.heap.size 68 2 (.slice ad2 L.length c2) L.length (flat ecl L) by have := owns_lowerE hO (Nat.le_succ _); rw [HLL.out] at this; exact this)
      have HL2 := Lib.hid hl2
      clear hpn hl2 hO
      cases hr : rightB salt (nthE L) L.length
      · have HC2 := Lib.hid (by have := HC.out; rw [hr] at this; simpa using this)
        have HR2 := Lib.hid (by have := HR.out; rw [hr] at this; simpa using this)
        clear hr HC HR
        go_wp2_with (first | (refine wpList_load_row rfl 22 (.tmp 2) rfl w.heap.size rfl 22 (Fs 16 salt) (0, 0) _ hS Tryd.underlying22 rfl (info22F _) ?_) | ((with_reducible refine (HC2.out).mono ?_); rintro r w1 ⟨rfl, k1⟩))
        go_ret2
        rw [HR2.out]
        exact ListPost.nil (hK.trans k1 (fun _ _ h => h))
      · have HC2 := Lib.hid (by have := HC.out; rw [hr] at this; simpa using this)
        have HR2 := Lib.hid (by have := HR.out; rw [hr] at this; simpa using this)
        clear hr HC HR
        go_wp2_with (first | (refine wpList_load_row rfl 22 (.tmp 2) rfl w.heap.size rfl 22 (Fs 16 salt) (0, 0) _ hS Tryd.underlying22 rfl (info22F _) ?_) | ((with_reducible refine (HC2.out).mono ?_); rintro r w1 ⟨rfl, k1⟩))
        go_ret2
        rw [HR2.out]
        exact ⟨_, rfl, owns_kept HO.out k1 (fun _ _ h => h), hK.trans k1 (fun _ _ h => h)⟩
    · have q1 : (0 : Int) < gk := by omega
      obtain ⟨g, o, rfl, hcs⟩ := hb.resolve_left h0
      clear h0
      by_cases h2 : gk < 2
      · have q2 : (gk : Int) < 2 := by omega
        have q2' : ¬ (2 : Int) ≤ gk := by omega
        clear hcs
        go_wp2_with fail
        go_ret2
        rw [decR_stuck salt HPAR.out (by unfold Stuck; have := HP.out; omega) (by have := HP.out; omega)]
        exact ListPost.nil hK
      · have q2 : ¬ (gk : Int) < 2 := by omega
        have q2' : (2 : Int) ≤ gk := by omega
        have c0 := hcs 0 (by omega)
        have c1 := hcs 1 (by omega)
        obtain ⟨m, hm⟩ : ∃ m, m = lenAt f p := ⟨_, rfl⟩
        have hm256 : m < 256 := by rw [hm]; unfold lenAt; exact (f (p + 1)).isLt
        have e1 : B (f (p + 1)) = .int .u8 (m : Int) := by rw [hm]; rfl
        rw [e1] at c1
        rw [Nat.add_zero] at c0
        have HM := Lib.hid hm
        have qm : (m : Int) < 256 := by omega
        have qm0 : (0 : Int) ≤ m := by omega
        clear hcs hm e1
        by_cases h3 : gk < 2 + m
        · have q3 : (gk : Int) < 2 + m := by omega
          have q3' : ¬ (2 : Int) + m ≤ gk := by omega
          go_wp2_with fail
          go_ret2
          rw [decR_stuck salt HPAR.out (by unfold Stuck; have := HP.out; have := HM.out; omega) (by have := HP.out; omega)]
          exact ListPost.nil hK
        · have q3 : ¬ (gk : Int) < 2 + m := by omega
          have q3' : (2 : Int) + m ≤ gk := by omega
          go_upto_region 6 with fail
          obtain ⟨o2, ho2, hsl⟩ := cut_mid g o gk c m (by omega)
          obtain ⟨o3, ho3, hse⟩ := cut_end g o gk c m (by omega) hkc
          have hsub := BytesAt.sub hb 2 m o2 (by omega) ho2
          obtain ⟨st, hst⟩ : ∃ st, st = strOf m (fun i => f (p + (2 + i))) := ⟨_, rfl⟩
          have hcv : ∀ W, BytesAt W (some ⟨g, o2, none⟩) m (fun i => f (p + (2 + i))) → (convert 37 9 (.slice (some ⟨g, o2, none⟩) m (c - 2))).run Tryd.prog W = .ok (.string st) W := fun W hW => by
            rw [hst]; exact conv_str W 37 9 5 _ m (c - 2) _ Tryd.underlying37 Tryd.underlying5 Tryd.underlying9 hW (fun h => by cases h)
          have HST := Lib.hid hst
          have HO3 := Lib.hid ho3
          have HO2 := Lib.hid ho2
          have HSE := Lib.hid hse
          clear hst ho2 ho3 hse hb
          have x1 := iB_ge (f p)
          have x2 := iB_lt (f p)
          refine region_perm (fun W => W.cell? ⟨g, o, none⟩ = some (B (f p)) ∧ BytesAt W (some ⟨g, o2, none⟩) m (fun i => f (p + (2 + i)))) [(0, true), (1, true), (2, true), (3, true), (4, true), (5, true), (6, true), (7, true), (8, true), (9, true), (10, false), (11, false), (12, true)] (by kernel_rfl) (by kernel_rfl) (by intro c a d v w h; cases d <;> exact h) ⟨c0, hsub⟩ ?_
          repeat (first | (apply HeldSeq.take; (focus rfl); (focus rfl); (focus (intro W hS; obtain ⟨e0, e1⟩ := hS; go_simp; (try go_bits); rfl)); simp only [List.getElem_toArray]; (try simp only [List.getElem_cons_succ]); (try simp only [List.getElem_cons_zero]); simp only [Act.put, List.setIfInBounds_toArray]; (try simp only [List.set_cons_succ]); (try simp only [List.set_cons_zero])) | (apply HeldSeq.skip; (focus rfl); (focus rfl); simp only [List.getElem_toArray]; (try simp only [List.getElem_cons_succ]); (try simp only [List.getElem_cons_zero]); simp only [Act.put, List.setIfInBounds_toArray]; (try simp only [List.set_cons_succ]); (try simp only [List.set_cons_zero])))
          refine HeldSeq.run rfl rfl (fun K hK2 => ?_)
          go_simp
          refine hK2 _ _ ⟨((Kept.refl (fun _ => False) wr).alloc _).drew.cell c0, hsub.kept ((Kept.refl _ wr).alloc _).drew⟩ ?_
          clear hK2 K
          have ho1 := World.ownsRow.alloc hO (.cells #[.string st, .int .i64 (iB (f p))] 68)
          have he1 := newE' wr ⟨st, iB (f p)⟩
          have hk1 : Kept (fun _ => False) w (wr.alloc (.cells #[.string st, .int .i64 (iB (f p))] 68)).drew := (hK.alloc _).drew
          have hs1 : Row (wr.alloc (.cells #[.string st, .int .i64 (iB (f p))] 68)).drew w.heap.size 22 16 salt := ((Kept.refl (fun _ => False) wr).alloc _).drew.at hS (fun h => h)
          have hz1 : w.heap.size + 1 ≤ (wr.alloc (.cells #[.string st, .int .i64 (iB (f p))] 68)).drew.heap.size := by
            show _ ≤ (wr.alloc _).heap.size
            rw [size_alloc]; omega
          replace ho1 : (wr.alloc (.cells #[.string st, .int .i64 (iB (f p))] 68)).drew.ownsRow (w.heap.size + 1) 68 2 u6 l (flat ecl L) := ho1
          replace he1 : EAt (wr.alloc (.cells #[.string st, .int .i64 (iB (f p))] 68)).drew wr.heap.size 0 ⟨st, iB (f p)⟩ := he1
          generalize (wr.alloc (.cells #[.string st, .int .i64 (iB (f p))] 68)).drew = w1 at *
          refine HeldSeq.run rfl rfl (fun K hK2 => ?_)
          refine wp_appEnt (.tmp 29) (.tmp 39) rfl (w.heap.size + 1) u6 l L (by rfl) ho1 wr.heap.size 1 ⟨st, iB (f p)⟩ (by rfl) he1 (by omega) hz1 ?_
          intro v2 w2 ho2 k2
          have hK2' : Kept (fun _ => False) w w2 := kept_own hk1 (Nat.le_succ _) ho1 k2
          have hS2 : Row w2 w.heap.size 22 16 salt := k2.at hs1 (fun h => by have := (owns_ltE ho1 h).1; omega)
          have hb2 : BytesAt w2 (some ⟨g, o, none⟩) gk (fun i => f (p + i)) := HB0.out.kept hK2'
          have hc2 : w2.cell? ⟨g, o, none⟩ = some (B (f p)) := by
            obtain ⟨g', o', e, hcs⟩ := hb2.resolve_left (by omega)
            obtain ⟨rfl, rfl⟩ : g = g' ∧ o = o' := by simpa using e
            exact hcs 0 (by omega)
          refine hK2 _ _ ⟨hc2, BytesAt.sub hb2 2 m o2 (by omega) HO2.out⟩ ?_
          clear hK2 K hc2 hb2 k2 ho1 he1 hk1 hs1 hz1 hK hS hO c0 c1 hsub hsl hcv hsz HKA
          have hz2 : w.heap.size + 1 ≤ w2.heap.size := hS2.lt
          repeat (first | (apply HeldSeq.take; (focus rfl); (focus rfl); (focus (intro W hS; obtain ⟨e0, e1⟩ := hS; go_simp; (try go_bits); rfl)); simp only [List.getElem_toArray]; (try simp only [List.getElem_cons_succ]); (try simp only [List.getElem_cons_zero]); simp only [Act.put, List.setIfInBounds_toArray]; (try simp only [List.set_cons_succ]); (try simp only [List.set_cons_zero])) | (apply HeldSeq.skip; (focus rfl); (focus rfl); simp only [List.getElem_toArray]; (try simp only [List.getElem_cons_succ]); (try simp only [List.getElem_cons_zero]); simp only [Act.put, List.setIfInBounds_toArray]; (try simp only [List.set_cons_succ]); (try simp only [List.set_cons_zero])))
          refine HeldSeq.done ?_
          have hse := HSE.out
          go_wp2_with fail
          go_roundg (gk - (2 + m))
          case measure => omega
          case rel =>
            have hp := HP.out
            have hm := HM.out
            have hpn : p + 2 + lenAt f p ≤ n := by omega
            refine ⟨p + 2 + m, some ⟨g, o3, none⟩, c - (2 + m), _, L ++ [entAt f p], by omega, rfl, rfl, ?_, by omega, by omega, ?_, ?_, hK2', hS2, hz2⟩
            · have hb3 := BytesAt.sub HB0.out (2 + m) (gk - (2 + m)) o3 (by omega) (by have := HO3.out; omega)
              have e : (fun i => f (p + (2 + m + i))) = (fun i => f (p + 2 + m + i)) := by funext i; congr 1; omega
              rw [e] at hb3
              exact hb3
            · rw [hm]; exact .snoc HPAR.out hpn
            · have e : (⟨st, iB (f p)⟩ : En) = entAt f p := by
                unfold entAt
                rw [HST.out, hm]
                congr 2
                funext i; congr 1; omega
              rw [← e, List.length_append, ← HLL.out]
              exact ho2
end Go.Proofs.YtpekibadleghbaaDoor
