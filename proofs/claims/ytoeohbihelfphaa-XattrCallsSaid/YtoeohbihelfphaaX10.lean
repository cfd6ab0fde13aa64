/-
  xattr.Set.
-/
import Derived.Test.YtoeohbihelfphaaX9
namespace Go.Proofs.Ytoeohbihelfphaa
open Go.RowKit
set_option linter.unusedVariables false
set_option linter.unusedSimpArgs false
theorem insX_split {xs : List Xa} {nm : ByteArray} {v : List Byte} {i : Nat} (hs : SortedX (nthA xs) xs.length) (sp : SplitX (nthA xs) xs.length nm i i) :
    (i < xs.length ∧ (nthA xs i).nm = nm → insX ⟨nm, v⟩ xs = xs.set i ⟨nm, v⟩) ∧ ((i < xs.length → (nthA xs i).nm ≠ nm) → insX ⟨nm, v⟩ xs = xs.take i ++ ⟨nm, v⟩ :: xs.drop i) :=
  ⟨fun ⟨h1, h2⟩ => insX_set ⟨nm, v⟩ xs i h1 sp.low h2, fun h => insX_at ⟨nm, v⟩ xs i sp.len sp.low (fun hi => by
    rcases ltN_tri nm (nthA xs i).nm with e | e | e
    · exact absurd e.symm (h hi)
    · exact e
    · rw [sp.high i (Nat.le_refl _) hi] at e; cases e)⟩
theorem OwnX.stored {w : World} {base g n c : Nat} {L : List Xc} (h : OwnX w base (.slice (some ⟨g, 0, none⟩) n c) n L) {i : Nat} (hi : i < n) (x : Xc) :
    ∃ cur, Blk w g 26 cur ∧ i * 2 + 2 ≤ cur.length ∧ OwnX (w.setRow g (spl cur (i * 2) (xcl x)).toArray) base (.slice (some ⟨g, 0, none⟩) n c) n (L.set i x) := by
  obtain ⟨r, hB, h1, h2, h3, h4, h5⟩ := owns_blk h
  have hl : L.length = n := by rw [flat_length xcl_len] at h2; omega
  refine ⟨_, hB, by rw [h1]; omega, ?_⟩
  have hB2 := hB.row (spl (flat xcl L ++ r) (i * 2) (xcl x))
  rw [flat_set xcl_len L r i x (by omega)] at hB2 ⊢
  exact Blk.owns hB2 (by rw [flat_length xcl_len]; simp [hl]) (by
    have : (flat xcl (L.set i x) ++ r).length = (flat xcl L ++ r).length := by simp [flat_length xcl_len]
    rw [this]; exact h1) h5 h3 h4
theorem xone_cs (nm : ByteArray) (a : Option Addr) (n c : Nat) : (#[.string nm, .slice a n c] : Array Value).all (fun x => x.oneCell') = true := by simp; exact ⟨rfl, rfl⟩
theorem xinfoS : (Try.prog.info? 26).map (·.size) = some 2 := by kernel_rfl
set_option maxRecDepth 100000 in
set_option maxHeartbeats 16000000 in
theorem xset_any (a : Option Addr) (cap : Nat) (cs : List Xc) (xs : List Xa) (nm : ByteArray) (va : Option Addr) (vn vc : Nat) (val : List Byte) (w : World) (h : XsAt w a cs xs) (hn : xs.length ≤ 140737488351232) (hs : ∀ i, i < xs.length → (nthA xs i).nm.size ≤ 140737488351232) (hv : ∀ i, i < xs.length → (nthA xs i).val.length ≤ 140737488351232)
    (h2 : nm.size ≤ 140737488351232) (hvl : val.length = vn) (hv0 : va = none → vn = 0) (hvb : BytesAt w va vn (fun j => val.getD j 0#8)) (hvn : vn ≤ 140737488351232) :
    Calls Try.prog 9 #[.slice a xs.length cap, .string nm, .slice va vn vc] w (XListPost (setX xs nm val) w) := by
  have HC := Lib.hid (xcheck_any a cap cs xs w h hn hs hv)
  obtain ⟨z, hz⟩ : ∃ z, z = setX xs nm val := ⟨_, rfl⟩
  rw [← hz]
  have HZ := Lib.hid hz
  obtain ⟨n, hxn⟩ : ∃ n, n = xs.length := ⟨_, rfl⟩
  have HXN := Lib.hid hxn
  cases hr : rightX (nthA xs) xs.length
  · have HC2 := Lib.hid (by have := HC.out; rw [hr] at this; rw [← hxn] at this; simpa using this)
    obtain rfl : z = ([], 3) := by rw [HZ.out]; unfold setX; rw [hr]; rfl
    rw [← hxn]
    clear hr HC hz hs hv hn hxn h hvl hv0 hvb
    go_enter Try.func9, Try.ntmps9
    go_wp2_with (first | ((with_reducible refine (HC2.out).mono ?_); rintro r w1 ⟨rfl, k1⟩))
    go_ret2
    exact XListPost.nil k1
  · have HC2 := Lib.hid (by have := HC.out; rw [hr] at this; rw [← hxn] at this; simpa using this)
    obtain ⟨h4, hok⟩ := rightX_ok hr
    have hso := xokTo_sorted _ _ hok
    have HSO := Lib.hid hso
    have HA := Lib.hid (show ∀ W, Kept (fun _ => False) w W → Calls Try.prog 17 #[.slice a n cap, .string nm] W (XSearchPost (nthA xs) n nm W) by rw [hxn]; exact fun W k => xat_any a cap cs xs nm W (h.kept k) hn hso)
    have HCO := Lib.hid (show ∀ W, Kept (fun _ => False) w W → Calls Try.prog 19 #[.slice a n cap] W (CopyPost xs W) by rw [hxn]; exact fun W k => xcopied_any a cap cs xs W (h.kept k) (by omega) hv)
    have HCL := Lib.hid (show ∀ W, Kept (fun _ => False) w W → Calls Try.prog 21 #[.slice va vn vc] W (fun r w' => ∃ u, r = .returned u ∧ OwnL w' W.heap.size u vn val ∧ Kept (fun _ => False) W w') from fun W k => cloneB_any va vn vc val W hvl hv0 (hvb.kept k) hvn)
    obtain ⟨on, hon⟩ : ∃ on, on = xoneB nm vn := ⟨_, rfl⟩
    have HONE := Lib.hid (show ∀ W, Calls Try.prog 20 #[.string nm, .slice va vn vc] W (fun r w' => r = .returned (.bool on) ∧ W = w') by rw [hon]; exact fun W => xone_any nm va vn vc W h2 hvn)
    have HON := Lib.hid (show on = xoneB nm val.length by rw [hvl]; exact hon)
    have HR := Lib.hid hr
    have h4' : n ≤ 4 := by rw [hxn]; exact h4
    have q4 : (n : Int) ≤ 4 := by omega
    rw [← hxn]
    clear hr HC hz hs hv hn hxn h hok hso h4 hvl hv0 hvb hon
    go_enter Try.func9, Try.ntmps9
    go_upto_region 4 with (first | ((with_reducible refine (HC2.out).mono ?_); rintro r w1 ⟨rfl, k1⟩))
    go_wp2_with fail
    refine (HA.out w1 k1).mono ?_
    rintro r w2 ⟨i, hsp, rfl, k2⟩
    have hK2 : Kept (fun _ => False) w w2 := k1.trans k2 (fun _ _ h => h)
    clear k1 k2 HC2 HA
    go_upto_region 5 with fail
    have HSP := Lib.hid (show SplitX (nthA xs) xs.length nm i i by rw [← HXN.out]; exact hsp)
    have hin : i ≤ n := hsp.len
    clear hsp
    cases on
    · obtain rfl : z = ([], 2) := by
        rw [HZ.out]; unfold setX
        rw [if_pos HR.out, if_neg (by rw [← HON.out]; simp)]
      go_wp2_with ((with_reducible refine (HONE.out _).mono ?_); rintro r w3 ⟨rfl, rfl⟩)
      go_ret2
      exact XListPost.nil hK2
    cases hth : decide (i < n) && decide (cmpN (nthA xs i).nm nm = 0)
    · have hno := xthere_no hth
      have HNO := Lib.hid (show i < xs.length → (nthA xs i).nm ≠ nm by rw [← HXN.out]; exact hno)
      clear hth hno
      by_cases hf : n = 4
      · obtain rfl : z = ([], 5) := by
          rw [HZ.out]; unfold setX
          rw [if_pos HR.out, if_pos (by rw [← HON.out]), if_pos ⟨idxX_no HSO.out HSP.out HNO.out, by rw [← HXN.out]; exact hf⟩]
        subst hf
        go_wp2_with ((with_reducible refine (HONE.out _).mono ?_); rintro r w3 ⟨rfl, rfl⟩)
        go_ret2
        exact XListPost.nil hK2
      · obtain rfl : z = (xs.take i ++ ⟨nm, val⟩ :: xs.drop i, 0) := by
          rw [HZ.out]; unfold setX
          rw [if_pos HR.out, if_pos (by rw [← HON.out]), if_neg (by rintro ⟨_, h⟩; rw [← HXN.out] at h; exact hf h), (insX_split HSO.out HSP.out).2 HNO.out]
        have p1 : ¬ (n : Int) = 4 := by omega
        have p2 : ((n : Int) == 4) = false := by simpa using p1
        clear HZ hf
        go_upto_region 9 with ((with_reducible refine (HONE.out _).mono ?_); rintro r w3 ⟨rfl, rfl⟩)
        go_wp2_with fail
        refine (HCO.out w2 hK2).mono ?_
        rintro r w3 ⟨v, L, rfl, hco, k3⟩
        have hK3 : Kept (fun _ => False) w w3 := hK2.trans k3 (fun _ _ h => h)
        have HO := Lib.hid hco
        have HZ2 := Lib.hid hK2.size
        have HS23 := Lib.hid k3.size
        clear hco
        go_wp2_with fail
        refine (HCL.out w3 hK3).mono ?_
        rintro r w4 ⟨u, rfl, hu, k4⟩
        obtain ⟨ua, uc, rfl, _⟩ := hu.reads
        have hK4 : Kept (fun _ => False) w w4 := hK3.trans k4 (fun _ _ h => h)
        have hu' := hu.lower (k3.size)
        have hc4 := HO.out.moved k4 (fun _ _ h => h) (fun _ _ _ h => h)
        have HO4 := Lib.hid hc4
        have HU4 := Lib.hid hu'
        have HV3 := Lib.hid (fun k (hk : v.ownBlock = some k) => (HO.out.own.blk hk).2.1)
        have HS34 := Lib.hid k4.size
        clear k3 k4 hu hu' hc4
        go_upto_region 11 with fail
        obtain ⟨d0, d1⟩ := newX w4 nm ua vn uc
        have k5 : Kept (fun _ => False) w4 (w4.alloc (.cells #[.string nm, .slice ua vn uc] 26)) := (Kept.refl _ w4).alloc _
        have HO5 := Lib.hid (HO4.out.moved k5 (fun _ _ h => h) (fun _ _ _ h => h))
        have HU5 := Lib.hid (HU4.out.kept k5 (fun _ _ h => h))
        have hK5 : Kept (fun _ => False) w (w4.alloc (.cells #[.string nm, .slice ua vn uc] 26)) := hK4.trans k5 (fun _ _ h => h)
        have HVB := Lib.hid (fun k (hk : v.ownBlock = some k) => Nat.lt_of_lt_of_le (HV3.out k hk) HS34.out)
        have HS5 := Lib.hid k5.size
        have HG5 := Lib.hid (show w4.heap.size < (w4.alloc (.cells #[.string nm, .slice ua vn uc] 26)).heap.size by rw [size_alloc]; omega)
        clear k5 HO4 HU4
        generalize (w4.alloc (.cells #[.string nm, .slice ua vn uc] 26)) = w5 at *
        generalize w4.heap.size = gx at *
        have k6 : Kept (fun _ => False) w5 (w5.alloc (.cells #[.string nm, .slice ua vn uc] 26)) := (Kept.refl _ w5).alloc _
        have HO6 := Lib.hid (HO5.out.moved k6 (fun _ _ h => h) (fun _ _ _ h => h))
        have HU6 := Lib.hid (HU5.out.kept k6 (fun _ _ h => h))
        have HK6 := Lib.hid (hK5.trans k6 (fun _ _ h => h))
        have HB6 := Lib.hid (show Blk (w5.alloc (.cells #[.string nm, .slice ua vn uc] 26)) w5.heap.size 26 (xcl ⟨nm, ua, vn, uc⟩) from Blk.new w5 26 (xcl ⟨nm, ua, vn, uc⟩))
        have HS6 := Lib.hid (show w2.heap.size ≤ (w5.alloc (.cells #[.string nm, .slice ua vn uc] 26)).heap.size by have := k6.size; have := HS5.out; have := HS34.out; have := HS23.out; omega)
        have HNE := Lib.hid (show v.ownBlock ≠ some w5.heap.size from fun h => by have := HVB.out _ h; have := HS5.out; omega)
        clear k6
        go_wp2_with fail
        refine (insert_ownX v L ⟨nm, ua, vn, uc⟩ i w2.heap.size w5.heap.size 1 _ (by rw [HO6.out.len]; exact HO6.out.own) HS6.out (by rw [HO6.out.len, ← HXN.out]; omega) (by rw [HO6.out.len, ← HXN.out]; exact hin) HB6.out HNE.out).mono ?_
        rintro r w7 ⟨v7, rfl, ho7, k7⟩
        have hC7 := HO6.out.ins (by rw [← HXN.out]; exact hin) (x := ⟨nm, ua, vn, uc⟩) (e := ⟨nm, val⟩) rfl HU6.out k7 (by rw [← HO6.out.len]; exact ho7)
        have hK7 : Kept (fun _ => False) w w7 := HK6.out.trans k7 (fun j hj h => by have := (HO6.out.own.blk h).1; have := HZ2.out; omega)
        have HC7 := Lib.hid (show CopyOk w7 w.heap.size v7 (L.take i ++ ⟨nm, ua, vn, uc⟩ :: L.drop i) (xs.take i ++ ⟨nm, val⟩ :: xs.drop i) from ⟨hC7.len, hC7.own.lower HZ2.out, hC7.nm, fun j hj => (hC7.val j hj).lower HZ2.out⟩)
        clear hC7 k7 ho7
        go_wp2_with fail
        go_ret2
        exact ⟨_, _, rfl, HC7.out, hK7⟩
    · obtain ⟨hi, hnm⟩ := xthere_yes hth
      have hix : i < xs.length := by rw [← HXN.out]; exact hi
      obtain rfl : z = (xs.set i ⟨nm, val⟩, 0) := by
        rw [HZ.out]; unfold setX
        rw [if_pos HR.out, if_pos (by rw [← HON.out]), if_neg (by rintro ⟨h, _⟩; rw [idxX_yes HSO.out hix hnm] at h; cases h), (insX_split HSO.out HSP.out).1 ⟨hix, hnm⟩]
      have HIX := Lib.hid hix
      have q1 : (i : Int) < n := by omega
      have q2 : (0 : Int) ≤ i := by omega
      clear HZ hth hnm hix
      go_upto_region 9 with ((with_reducible refine (HONE.out _).mono ?_); rintro r w3 ⟨rfl, rfl⟩)
      go_wp2_with fail
      refine (HCO.out w2 hK2).mono ?_
      rintro r w3 ⟨v, L, rfl, hco, k3⟩
      have hK3 : Kept (fun _ => False) w w3 := hK2.trans k3 (fun _ _ h => h)
      have HO := Lib.hid hco
      have HZ2 := Lib.hid hK2.size
      have HS23 := Lib.hid k3.size
      clear hco
      go_wp2_with fail
      refine (HCL.out w3 hK3).mono ?_
      rintro r w4 ⟨u, rfl, hu, k4⟩
      obtain ⟨ua, uc, rfl, _⟩ := hu.reads
      have hK4 : Kept (fun _ => False) w w4 := hK3.trans k4 (fun _ _ h => h)
      have hu' := hu.lower (k3.size)
      have hc4 := HO.out.moved k4 (fun _ _ h => h) (fun _ _ _ h => h)
      have HO4 := Lib.hid hc4
      have HU4 := Lib.hid hu'
      have HV3 := Lib.hid (fun k (hk : v.ownBlock = some k) => (HO.out.own.blk hk).2.1)
      have HS34 := Lib.hid k4.size
      clear k3 k4 hu hu' hc4
      go_upto_region 11 with fail
      obtain ⟨d0, d1⟩ := newX w4 nm ua vn uc
      have k5 : Kept (fun _ => False) w4 (w4.alloc (.cells #[.string nm, .slice ua vn uc] 26)) := (Kept.refl _ w4).alloc _
      have HO5 := Lib.hid (HO4.out.moved k5 (fun _ _ h => h) (fun _ _ _ h => h))
      have HU5 := Lib.hid (HU4.out.kept k5 (fun _ _ h => h))
      have hK5 : Kept (fun _ => False) w (w4.alloc (.cells #[.string nm, .slice ua vn uc] 26)) := hK4.trans k5 (fun _ _ h => h)
      have HVB := Lib.hid (fun k (hk : v.ownBlock = some k) => Nat.lt_of_lt_of_le (HV3.out k hk) HS34.out)
      have HS5 := Lib.hid k5.size
      have HG5 := Lib.hid (show w4.heap.size < (w4.alloc (.cells #[.string nm, .slice ua vn uc] 26)).heap.size by rw [size_alloc]; omega)
      clear k5 HO4 HU4
      generalize (w4.alloc (.cells #[.string nm, .slice ua vn uc] 26)) = w5 at *
      generalize w4.heap.size = gx at *
      obtain ⟨hfl, va', vc', rfl, hfr⟩ := HO5.out.own.form
      clear hfl hfr
      obtain ⟨g5, hg5⟩ : ∃ g5, va' = some ⟨g5, 0, none⟩ := by
        rcases HO5.out.own.2 with ⟨_, h0⟩ | ⟨g', c', cur, hv', _⟩
        · have := HIX.out; omega
        · injection hv' with e1 _ _
          exact ⟨g', e1⟩
      subst hg5
      have hown5 : OwnX w5 w2.heap.size (.slice (some ⟨g5, 0, none⟩) xs.length vc') xs.length L := HO5.out.own
      obtain ⟨cur, hB, hfit, hst⟩ := hown5.stored HIX.out ⟨nm, ua, vn, uc⟩
      have HOWN := Lib.hid hst
      have HNEW := Lib.hid (hown5.blk (k := g5) rfl).1
      have q5 : (i : Int) < xs.length := by have := HIX.out; omega
      clear hst hown5
      go_wp2_with (refine wpList_storeK rfl 26 (.tmp 47) (.tmp 46) rfl g5 (i * 2) #[.string nm, .slice ua vn uc] (by rfl) (by rfl) 26 cur hB xinfoS hfit (xone_cs nm ua vn uc) ?_)
      go_wp2_with fail
      go_ret2
      have hk6 : Kept (fun k => (Value.slice (some ⟨g5, 0, none⟩) xs.length vc').ownBlock = some k) w5 (w5.setRow g5 (spl cur (i * 2) (xcl ⟨nm, ua, vn, uc⟩)).toArray) :=
        Kept.setRow (S := fun k => (Value.slice (some ⟨g5, 0, none⟩) xs.length vc').ownBlock = some k) (Kept.refl _ w5) (g := g5) (fun _ => rfl) _
      have hC7 := HO5.out.put HIX.out (x := ⟨nm, ua, vn, uc⟩) (e := ⟨nm, val⟩) rfl HU5.out hk6 HOWN.out
      have hK7 : Kept (fun _ => False) w (w5.setRow g5 (spl cur (i * 2) (xcl ⟨nm, ua, vn, uc⟩)).toArray) := hK5.trans hk6 (fun j hj h => by
        have e : g5 = j := by simpa [Value.ownBlock] using h
        have := HNEW.out; have := HZ2.out; omega)
      exact ⟨_, _, rfl, ⟨hC7.len, hC7.own.lower HZ2.out, hC7.nm, fun j hj => (hC7.val j hj).lower HZ2.out⟩, hK7⟩
end Go.Proofs.Ytoeohbihelfphaa
