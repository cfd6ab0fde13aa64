/-
  The walk of the law XattrCalls.
-/
import Derived.Test.YtoeohbihelfphaaX19
namespace Go.Proofs.Ytoeohbihelfphaa
open Go.RowKit
set_option linter.unusedVariables false
set_option linter.unusedSimpArgs false
set_option maxRecDepth 100000 in
theorem appB {ops : Array Oper} {rest : List Oper} {o : Oper} {a : Act} {w : World} {Q : Exit → Act → World → Prop} (hgd : o.guard = none) (s x : Operand) (ho : o.op = .call { callee := .builtin .append, args := #[s, x], argTypes := #[24, 24] })
    (base g : Nat) (hs : a.eval s = .slice (some ⟨g, 0, none⟩) 0 0) (hown : OwnL w base (.slice (some ⟨g, 0, none⟩) 0 0) 0 []) (b : Option Addr) (m c : Nat) (val : List Byte) (hx : a.eval x = .slice b m c) (hl : val.length = m) (h0 : b = none → m = 0) (hb : BytesAt w b m (fun i => val.getD i 0#8)) (hn : m ≤ 140737488351232) (hbase : base ≤ w.heap.size)
    (h : ∀ v' w', OwnL w' base v' m val → Kept (fun k => k = g) w w' → wpList Try.prog ops Q rest (a.put o.dst v') w') : wpList Try.prog ops Q (o :: rest) a w :=
  wpList_plain hgd fun _ hK => wp_appB s x ho base g hs hown b m c val hx hl h0 hb hn hbase fun v' w' h1 h2 => hK _ _ (h v' w' h1 h2)
theorem get_casesX (xs : List Xa) (nm : ByteArray) : (rightX (nthA xs) xs.length = false ∧ getX xs nm = ([], 3)) ∨ (rightX (nthA xs) xs.length = true ∧ idxX (nthA xs) nm xs.length = none ∧ getX xs nm = ([], 4)) ∨ ∃ i, rightX (nthA xs) xs.length = true ∧ idxX (nthA xs) nm xs.length = some i ∧ i < xs.length ∧ getX xs nm = ((nthA xs i).val, 0) := by
  cases h : rightX (nthA xs) xs.length
  · exact .inl ⟨rfl, by unfold getX; rw [h]; rfl⟩
  · right
    rcases idxX_cases (nthA xs) nm xs.length with ⟨h1, _⟩ | ⟨i, h1, h2, _, _⟩
    · exact .inl ⟨rfl, h1, by unfold getX; rw [if_pos h, h1]⟩
    · exact .inr ⟨i, rfl, h1, h2, by unfold getX; rw [if_pos h, h1]⟩
theorem setX_len (xs : List Xa) (nm : ByteArray) (v : List Byte) : (setX xs nm v).1.length ≤ xs.length + 1 := by
  unfold setX
  split
  · split
    · split
      · simp
      · exact insX_len
    · simp
  · simp
theorem dropX_len (xs : List Xa) (nm : ByteArray) : (dropX xs nm).1.length ≤ xs.length := by
  unfold dropX
  split
  · split
    · exact List.length_filter_le _ _
    · simp
  · simp
theorem Kept.tr {a b c : World} (h : Kept (fun _ => False) a b) (k : Kept (fun _ => False) b c) : Kept (fun _ => False) a c := h.trans k (fun _ _ h => h)
theorem OwnS.cells {w : World} {base : Nat} {v : Value} {n : Nat} {L : List ByteArray} (ho : OwnS w base v n L) : ∃ a c, v = .slice a n c ∧ ∀ i, i < n → ∃ g, a = some ⟨g, 0, none⟩ ∧ w.cell? ⟨g, i, none⟩ = some (.string (L.getD i ⟨#[]⟩)) := by
  have hl : n = L.length := by have := ho.1; simp at this; omega
  rcases ho.2 with ⟨rfl, h0⟩ | ⟨g, cap, cur, rfl, hb, hg, hn, hc, hs, ht⟩
  · exact ⟨none, 0, by rw [h0], fun i hi => by omega⟩
  · refine ⟨_, _, rfl, fun i hi => ⟨g, rfl, ?_⟩⟩
    rw [cell_of_row w g i cur 9 _ hg]
    have h6 : cur.toList[i]? = some (.string (L.getD i ⟨#[]⟩)) := by
      have e : (cur.toList.take (n * 1))[i]? = cur.toList[i]? := by rw [List.getElem?_take, if_pos (by omega)]
      rw [← e, ht]
      simp [show i < L.length by omega]
    simpa using h6
theorem xnm_get (xs : List Xa) (i : Nat) (h : i < xs.length) : (xnm xs xs.length).getD i ⟨#[]⟩ = (nthA xs i).nm := by
  unfold xnm
  rw [List.take_length]
  simp [h, nthA_eq xs i h]
set_option maxRecDepth 100000 in
set_option maxHeartbeats 64000000 in
theorem xattrCalls_any (la : Option Addr) (lc : Nat) (ls : List Xc) (xs : List Xa) (nm : ByteArray) (va : Option Addr) (vn vc : Nat) (val : List Byte) (w : World) (h : XsAt w la ls xs) (hn : xs.length * 40 ≤ 140737488351232) (hs : ∀ i, i < xs.length → (nthA xs i).nm.size ≤ 140737488351232) (hv : ∀ i, i < xs.length → (nthA xs i).val.length ≤ 140737488351232)
    (hns : nm.size ≤ 140737488351232) (hva : ValAt w ⟨nm, va, vn, vc⟩ val) (hvn : vn ≤ 140737488351232) :
    Calls Try.prog 4 #[.slice la xs.length lc, .string nm, .slice va vn vc] w fun e w' => e = .returned (.bool true) ∧ Kept (fun _ => False) w w' := by
  have CCo := Lib.hid (lawCopied_any la lc ls xs w h hn hv)
  have CRi := Lib.hid (fun W (k : Kept (fun _ => False) w W) => xrefRight_any la lc ls xs W (h.kept k) (by omega) hs hv)
  have CRS := Lib.hid (fun W (k : Kept (fun _ => False) w W) => xrefSet_any la lc ls xs nm va vn vc val W (h.kept k) (by omega) hs hv hns (hva.kept k) hvn)
  have CRD := Lib.hid (fun W (k : Kept (fun _ => False) w W) => xrefDrop_any la lc ls xs nm W (h.kept k) (by omega) hs hv)
  have CIx := Lib.hid (fun W (k : Kept (fun _ => False) w W) => xrefIndex_any la lc ls xs nm W (h.kept k) (by omega))
  have CG := Lib.hid (fun a7 c7 L7 W (hx : XsAt W a7 L7 xs) => xget_any a7 c7 L7 xs nm W hx (by omega) hs hv)
  have CS := Lib.hid (fun a7 c7 L7 W (hx : XsAt W a7 L7 xs) a8 c8 (ho : ValAt W ⟨nm, a8, vn, c8⟩ val) => xset_any a7 c7 L7 xs nm a8 vn c8 val W hx (by omega) hs hv hns ho.len ho.none ho.bytes hvn)
  have CD := Lib.hid (fun a7 c7 L7 W (hx : XsAt W a7 L7 xs) => xdrop_any a7 c7 L7 xs nm W hx (by omega) hs hv)
  have CCh := Lib.hid (fun a7 c7 L7 W (hx : XsAt W a7 L7 xs) => xcheck_any a7 c7 L7 xs W hx (by omega) hs hv)
  have CNa := Lib.hid (fun a7 c7 L7 W (hx : XsAt W a7 L7 xs) => xnames_any a7 c7 L7 xs W hx (by omega))
  have CSa := Lib.hid (fun a7 c7 L7 W (hx : XsAt W a7 L7 xs) (k : Kept (fun _ => False) w W) => xrefSame_any a7 la c7 lc L7 ls xs W hx (h.kept k) (by omega))
  have HAT := Lib.hid (fun (i : Nat) (hi : i < xs.length) W (k : Kept (fun _ => False) w W) => (h.kept k).at hi)
  have HVA := Lib.hid hva
  obtain ⟨n, hxn⟩ : ∃ n, n = xs.length := ⟨_, rfl⟩
  have HXN := Lib.hid hxn
  have qn : (n : Int) ≤ 140737488351232 := by omega
  have qv : (vn : Int) ≤ 140737488351232 := by omega
  have hn40 : n * 40 ≤ 140737488351232 := by omega
  rw [← hxn]
  replace CCo := Lib.hid (by have := CCo.out; rw [← hxn] at this; exact this)
  replace CRi := Lib.hid (by have := CRi.out; rw [← hxn] at this; exact this)
  replace CRS := Lib.hid (by have := CRS.out; rw [← hxn] at this; exact this)
  replace CRD := Lib.hid (by have := CRD.out; rw [← hxn] at this; exact this)
  replace CIx := Lib.hid (by have := CIx.out; rw [← hxn] at this; exact this)
  replace CG := Lib.hid (by have := CG.out; rw [← hxn] at this; exact this)
  replace CS := Lib.hid (by have := CS.out; rw [← hxn] at this; exact this)
  replace CD := Lib.hid (by have := CD.out; rw [← hxn] at this; exact this)
  replace CCh := Lib.hid (by have := CCh.out; rw [← hxn] at this; exact this)
  replace CNa := Lib.hid (by have := CNa.out; rw [← hxn] at this; exact this)
  replace CSa := Lib.hid (by have := CSa.out; rw [← hxn] at this; exact this)
  clear h hn hs hv hns hva hxn
  go_enter Try.func4, Try.ntmps4
  go_wp2_with fail
  refine CCo.out.mono ?_
  rintro r w1 ⟨v7, L7, rfl, hc7, k1⟩
  have hc7r := hc7.reads
  rw [← HXN.out] at hc7r
  obtain ⟨a7, c7, rfl, hx7⟩ := hc7r
  have ka : Kept (fun _ => False) w (w1.alloc (.cells #[] 5)) := k1.alloc _
  have HX1 := Lib.hid hx7
  have hk1 := k1
  have HK := Lib.hid ka
  have HWA := Lib.hid (show OwnL (w1.alloc (.cells #[] 5)) w.heap.size (.slice (some ⟨w1.heap.size, 0, none⟩) 0 0) 0 [] from World.ownsRow_made w1 #[] 0 k1.size (by unfold maxLen; omega) rfl)
  have HV1 := Lib.hid (HVA.out.kept ka)
  have hge := k1.size
  clear hc7 k1 hx7 ka CCo
  go_wp2_with (first | (refine appB rfl (.tmp 30) (.tmp 31) rfl w.heap.size w1.heap.size (by rfl) HWA.out va vn vc val (by rfl) HV1.out.len HV1.out.none HV1.out.bytes hvn HK.out.size ?_))
  intro v8 w2 hv8 k2
  have k12 : Kept (fun _ => False) w1 w2 := ((Kept.refl _ w1).alloc _).trans k2 (fun i hi h => by omega)
  have HX2 := Lib.hid (HX1.out.kept k12)
  have HK2 := Lib.hid (hk1.tr k12)
  obtain ⟨a8, c8, rfl, hb8, h08, _, hc8⟩ := hv8.reads
  have HV2 := Lib.hid (show ValAt w2 ⟨nm, a8, vn, c8⟩ val from ⟨hv8.len.symm, by assumption, hc8, h08, hb8⟩)
  clear k12 hv8 k2 hb8 h08 hc8 HWA HV1 HK hge
  obtain ⟨R, hR⟩ : ∃ R, R = rightX (nthA xs) n := ⟨_, rfl⟩
  have HR := Lib.hid hR
  replace CRi := Lib.hid (by have := CRi.out; rw [← hR] at this; exact this)
  clear hR
  go_wp2_with fail
  refine (CRi.out w2 HK2.out).mono ?_
  rintro r w3 ⟨rfl, k3⟩
  have H3 := Lib.hid k3
  clear k3
  go_wp2_with fail
  refine (CG.out a7 c7 L7 w3 (HX2.out.kept H3.out)).mono ?_
  rintro r w4 ⟨ua, rfl, hA, k4⟩
  obtain ⟨ga, ca, rfl, _⟩ := hA.reads
  have HA := Lib.hid hA
  have H4 := Lib.hid k4
  have H24 := Lib.hid (H3.out.tr k4)
  clear hA k4
  go_wp2_with fail
  refine (CS.out a7 c7 L7 w4 (HX2.out.kept H24.out) a8 c8 (HV2.out.kept H24.out)).mono ?_
  rintro r w5 ⟨ub, Lb, rfl, hB, k5⟩
  obtain ⟨gb, cb, rfl, hb5⟩ := hB.reads
  have HB := Lib.hid hB
  have HBR := Lib.hid hb5
  have H5 := Lib.hid k5
  have H25 := Lib.hid (H24.out.tr k5)
  clear hB hb5 k5
  go_wp2_with fail
  refine (CRS.out w5 (HK2.out.tr H25.out)).mono ?_
  rintro r w6 ⟨uc, Lc, rfl, hC⟩
  obtain ⟨gc, cc, rfl, hc6⟩ := hC.reads
  have HC := Lib.hid hC
  have HCR := Lib.hid hc6
  have H6 := Lib.hid hC.kept
  have H26 := Lib.hid (H25.out.tr hC.kept)
  clear hC hc6
  go_wp2_with fail
  refine (CD.out a7 c7 L7 w6 (HX2.out.kept H26.out)).mono ?_
  rintro r w7 ⟨ux, Lx, rfl, hX, k7⟩
  obtain ⟨gx, cx, rfl, hx7⟩ := hX.reads
  have HXD := Lib.hid hX
  have HXR := Lib.hid hx7
  have H7 := Lib.hid k7
  have H27 := Lib.hid (H26.out.tr k7)
  clear hX hx7 k7
  go_wp2_with fail
  refine (CRD.out w7 (HK2.out.tr H27.out)).mono ?_
  rintro r w8 ⟨uy, Ly, rfl, hY⟩
  obtain ⟨gy, cy, rfl, hy8⟩ := hY.reads
  have HYR := Lib.hid hy8
  have H8 := Lib.hid hY.kept
  have H28 := Lib.hid (H27.out.tr hY.kept)
  clear hY hy8
  go_wp2_with fail
  refine (CIx.out w8 (HK2.out.tr H28.out)).mono ?_
  rintro r w9 ⟨z, rfl, hz, rfl⟩
  have HZ := Lib.hid hz
  clear hz
  obtain ⟨val1, hval1⟩ : ∃ v, v = (getX xs nm).1 := ⟨_, rfl⟩
  obtain ⟨ce, hce⟩ : ∃ v, v = (getX xs nm).2 := ⟨_, rfl⟩
  obtain ⟨ysb, hysb⟩ : ∃ v, v = (setX xs nm val).1 := ⟨_, rfl⟩
  obtain ⟨cf, hcf⟩ : ∃ v, v = (setX xs nm val).2 := ⟨_, rfl⟩
  obtain ⟨ysx, hysx⟩ : ∃ v, v = (dropX xs nm).1 := ⟨_, rfl⟩
  obtain ⟨ch, hch⟩ : ∃ v, v = (dropX xs nm).2 := ⟨_, rfl⟩
  have hlb : ysb.length ≤ xs.length + 1 := by rw [hysb]; exact setX_len _ _ _
  have hlx : ysx.length ≤ xs.length := by rw [hysx]; exact dropX_len _ _
  have CSb := Lib.hid (fun W (k : Kept (fun _ => False) w9 W) => xrefSame_any gb gc cb cc Lb Lc (setX xs nm val).1 W (HBR.out.kept ((H6.out.tr H7.out).tr (H8.out.tr k))) (HCR.out.kept (H7.out.tr (H8.out.tr k))) (by have := setX_len xs nm val; rw [← HXN.out] at this; omega))
  have CSx := Lib.hid (fun W (k : Kept (fun _ => False) w9 W) => xrefSame_any gx gy cx cy Lx Ly (dropX xs nm).1 W (HXR.out.kept (H8.out.tr k)) (HYR.out.kept k) (by have := dropX_len xs nm; rw [← HXN.out] at this; omega))
  have HA9 := Lib.hid (HA.out.kept (H5.out.tr (H6.out.tr (H7.out.tr H8.out))) (fun _ _ h => h))
  have HB9 := Lib.hid (HB.out.moved (H6.out.tr (H7.out.tr H8.out)) (fun _ _ h => h) (fun _ _ _ h => h))
  have HXD9 := Lib.hid (HXD.out.moved H8.out (fun _ _ h => h) (fun _ _ _ h => h))
  have HX8 := Lib.hid (HX2.out.kept H28.out)
  have HV8 := Lib.hid (HV2.out.kept H28.out)
  have HK9 := Lib.hid (HK2.out.tr H28.out)
  have HS2a := Lib.hid (show w2.heap.size ≤ w3.heap.size from H3.out.size)
  have HS2b := Lib.hid (show w2.heap.size ≤ w4.heap.size from H24.out.size)
  have HS2x := Lib.hid (show w2.heap.size ≤ w6.heap.size from H26.out.size)
  have HK29 := Lib.hid H28.out
  have HS28 := Lib.hid (show w2.heap.size ≤ w9.heap.size from H28.out.size)
  have CFX := Lib.hid xfixed_any
  have CC8 := Lib.hid (show ∀ W, Kept (fun _ => False) w9 W → Calls Try.prog 11 #[.slice a7 n c7] W (fun r w' => r = .returned (.int .i64 (if R = true then 0 else 3)) ∧ Kept (fun _ => False) W w') from fun W k => by have := CCh.out a7 c7 L7 W (HX8.out.kept k); rw [← HR.out] at this; exact this)
  simp only [← hval1, ← hce, ← hysb, ← hcf, ← hysx, ← hch] at HA HB HBR HC HCR HXD HXR HYR CSb CSx HA9 HB9 HXD9 ⊢
  have HVAL := Lib.hid hval1
  have HCE := Lib.hid hce
  clear HA HB HBR HC HCR HXD HXR HYR H3 H4 H24 H5 H25 H6 H26 H7 H27 H8 H28 CRi CRS CIx CG CS CD CCh CRD HX1 hval1 hce hysb hcf hysx hch
  obtain ⟨an, han⟩ : ∃ v, v = val1.length := ⟨_, rfl⟩
  obtain ⟨bn, hbn⟩ : ∃ v, v = ysb.length := ⟨_, rfl⟩
  obtain ⟨xn, hxn⟩ : ∃ v, v = ysx.length := ⟨_, rfl⟩
  have HAN := Lib.hid han
  have HBN := Lib.hid hbn
  have HXN2 := Lib.hid hxn
  simp only [← han, ← hbn, ← hxn] at CSb CSx ⊢
  have qb : (bn : Int) ≤ 140737488351232 := by rw [hbn]; have := HXN.out; omega
  have qx : (xn : Int) ≤ 140737488351232 := by rw [hxn]; have := HXN.out; omega
  clear han hbn hxn hlb hlx
  rcases get_casesX xs nm with ⟨g1, g2⟩ | ⟨g1, g2, g3⟩ | ⟨i, g1, g2, g3, g4⟩
  · obtain rfl : R = false := by rw [HR.out, HXN.out]; exact g1
    obtain rfl : ce = 3 := by rw [HCE.out, g2]
    obtain rfl : an = 0 := by rw [HAN.out, HVAL.out, g2]; rfl
    clear g1 g2 HZ
    go_upto_region 17 with fail
    go_wp2_with fail
    refine (CFX.out _).mono ?_
    rintro r w10 ⟨rfl, k10⟩
    have q10 : Kept (fun _ => False) w9 w10 := by first | exact k10 | exact ((Kept.refl _ w9).drew).tr k10
    go_wp2_with fail
    refine (CC8.out w10 q10).mono ?_
    rintro r w11 ⟨rfl, k11⟩
    have q11 := q10.tr k11
    clear k10 k11 CFX CC8
    go_wp2_with fail
    refine (CSb.out w11 q11).mono ?_
    rintro r w12 ⟨rfl, k12⟩
    have q12 := q11.tr k12
    clear k12 CSb
    go_wp2_with fail
    refine (CSx.out w12 q12).mono ?_
    rintro r w13 ⟨rfl, k13⟩
    have q13 := q12.tr k13
    have HA13 := Lib.hid (HA9.out.kept q13 (fun _ _ h => h))
    have HB13 := Lib.hid (HB9.out.moved q13 (fun _ _ h => h) (fun _ _ _ h => h))
    have HXD13 := Lib.hid (HXD9.out.moved q13 (fun _ _ h => h) (fun _ _ _ h => h))
    have HK213 := Lib.hid (HK29.out.tr q13)
    clear k13 CSx q10 q11 q12 HA9 HB9 HXD9
    go_wp2_with fail
    have BNL := Lib.hid (show bn = ysb.length from HBN.out)
    have XNL := Lib.hid (show xn = ysx.length from HXN2.out)
    have HSBbn := Lib.hid (show w2.heap.size ≤ w4.heap.size from HS2b.out)
    have HSBxn := Lib.hid (show w2.heap.size ≤ w6.heap.size from HS2x.out)
    go_loopg [136] 0 (fun k s wr => s = .int .i64 0 ∧ Shook w2.heap.size w13 wr)
    case atStart => exact ⟨rfl, Shook.refl _ _⟩
    case round =>
        obtain ⟨rfl, hS⟩ := hrel
        have HSan := Lib.hid hS
        clear hS
        go_wp2_with fail
        go_loopg [148] bn (fun k s wr => ∃ i : Nat, i + k = bn ∧ s = .int .i64 (i : Int) ∧ Shook w2.heap.size w13 wr)
        case atStart => exact ⟨0, by omega, rfl, HSan.out⟩
        case round =>
          obtain ⟨i, hi, rfl, hS⟩ := hrel
          have Hi := Lib.hid hi
          clear hi
          obtain ⟨ko, rfl⟩ : ∃ ko : Nat, ko = gk := ⟨_, rfl⟩
          by_cases hlt : i < bn
          · have r1 : (i : Int) < bn := by omega
            have r2 : (0 : Int) ≤ i := by omega
            have hiy : i < ysb.length := by have := Hi.out; have := BNL.out; omega
            have HQ := Lib.hid (fun W (hs : Shook w2.heap.size w13 W) => HB13.out.shakenAt hs HSBbn.out hiy)
            obtain ⟨xa, hxa⟩ : ∃ v, v = (nthC Lb i).a := ⟨_, rfl⟩
            obtain ⟨xm, hxm⟩ : ∃ v, v = (nthC Lb i).n := ⟨_, rfl⟩
            obtain ⟨xc, hxc⟩ : ∃ v, v = (nthC Lb i).c := ⟨_, rfl⟩
            have hown := HB13.out.val i hiy
            have HQ2 := Lib.hid (by have := HQ.out; rw [← hxa, ← hxm, ← hxc] at this; exact this)
            rw [← hxa, ← hxm, ← hxc] at hown
            obtain ⟨_, _, e1, _, _, hm1, hm2⟩ := hown.reads
            injection e1 with e1 e2 e3
            subst e3
            have qm : (xm : Int) ≤ 9223372036854775807 := by omega
            obtain ⟨gq, rfl, hc1, _⟩ := HQ2.out _ hS
            clear hxa hxm hxc hown hm1 hm2 HQ e1 e2 hiy
            go_wp2_with fail
            clear hc1
            go_loopg [157] xm (fun k s wy => ∃ j : Nat, j + k = xm ∧ s = .int .i64 (j : Int) ∧ Shook w2.heap.size w13 wy)
            case atStart => exact ⟨0, by omega, rfl, hS⟩
            case round =>
              obtain ⟨j, hj, rfl, hS2⟩ := hrel
              have Hj := Lib.hid hj
              clear hj
              by_cases hlt2 : j < xm
              · have s1 : (j : Int) < xm := by omega
                have s2 : (0 : Int) ≤ j := by omega
                obtain ⟨gq', e4, hc1, hbb⟩ := HQ2.out _ hS2
                obtain ⟨kq, rfl, hz1, hz2, hby⟩ := hbb j hlt2
                injection e4 with e4
                injection e4 with e4
                subst e4
                obtain ⟨zq, hzq⟩ := hby.cell hlt2
                have hfr := hby.free j
                clear hbb hby
                go_wp2_with fail
                go_roundg (gk - 1)
                case measure => have := Hj.out; omega
                case rel => have := Hj.out; exact ⟨j + 1, by omega, by go_num, hS2.set hz1 hz2 _ _⟩
              · obtain rfl : xm = j := by have := Hj.out; omega
                have s1 : ¬ (xm : Int) < xm := by omega
                go_wp2_with fail
                go_roundg (ko - 1)
                case measure => have := Hi.out; omega
                case rel => have := Hi.out; exact ⟨i + 1, by omega, by go_num, hS2⟩
          · obtain rfl : bn = i := by have := Hi.out; omega
            have r1 : ¬ (bn : Int) < bn := by omega
            have HSbn := Lib.hid hS
            clear hS Hi
            go_wp2_with fail
            go_loopg [174] xn (fun k s wr => ∃ i : Nat, i + k = xn ∧ s = .int .i64 (i : Int) ∧ Shook w2.heap.size w13 wr)
            case atStart => exact ⟨0, by omega, rfl, HSbn.out⟩
            case round =>
              obtain ⟨i, hi, rfl, hS⟩ := hrel
              have Hi := Lib.hid hi
              clear hi
              obtain ⟨ko, rfl⟩ : ∃ ko : Nat, ko = gk := ⟨_, rfl⟩
              by_cases hlt : i < xn
              · have r1 : (i : Int) < xn := by omega
                have r2 : (0 : Int) ≤ i := by omega
                have hiy : i < ysx.length := by have := Hi.out; have := XNL.out; omega
                have HQ := Lib.hid (fun W (hs : Shook w2.heap.size w13 W) => HXD13.out.shakenAt hs HSBxn.out hiy)
                obtain ⟨xa, hxa⟩ : ∃ v, v = (nthC Lx i).a := ⟨_, rfl⟩
                obtain ⟨xm, hxm⟩ : ∃ v, v = (nthC Lx i).n := ⟨_, rfl⟩
                obtain ⟨xc, hxc⟩ : ∃ v, v = (nthC Lx i).c := ⟨_, rfl⟩
                have hown := HXD13.out.val i hiy
                have HQ2 := Lib.hid (by have := HQ.out; rw [← hxa, ← hxm, ← hxc] at this; exact this)
                rw [← hxa, ← hxm, ← hxc] at hown
                obtain ⟨_, _, e1, _, _, hm1, hm2⟩ := hown.reads
                injection e1 with e1 e2 e3
                subst e3
                have qm : (xm : Int) ≤ 9223372036854775807 := by omega
                obtain ⟨gq, rfl, hc1, _⟩ := HQ2.out _ hS
                clear hxa hxm hxc hown hm1 hm2 HQ e1 e2 hiy
                go_wp2_with fail
                clear hc1
                go_loopg [183] xm (fun k s wy => ∃ j : Nat, j + k = xm ∧ s = .int .i64 (j : Int) ∧ Shook w2.heap.size w13 wy)
                case atStart => exact ⟨0, by omega, rfl, hS⟩
                case round =>
                  obtain ⟨j, hj, rfl, hS2⟩ := hrel
                  have Hj := Lib.hid hj
                  clear hj
                  by_cases hlt2 : j < xm
                  · have s1 : (j : Int) < xm := by omega
                    have s2 : (0 : Int) ≤ j := by omega
                    obtain ⟨gq', e4, hc1, hbb⟩ := HQ2.out _ hS2
                    obtain ⟨kq, rfl, hz1, hz2, hby⟩ := hbb j hlt2
                    injection e4 with e4
                    injection e4 with e4
                    subst e4
                    obtain ⟨zq, hzq⟩ := hby.cell hlt2
                    have hfr := hby.free j
                    clear hbb hby
                    go_wp2_with fail
                    go_roundg (gk - 1)
                    case measure => have := Hj.out; omega
                    case rel => have := Hj.out; exact ⟨j + 1, by omega, by go_num, hS2.set hz1 hz2 _ _⟩
                  · obtain rfl : xm = j := by have := Hj.out; omega
                    have s1 : ¬ (xm : Int) < xm := by omega
                    go_wp2_with fail
                    go_roundg (ko - 1)
                    case measure => have := Hi.out; omega
                    case rel => have := Hi.out; exact ⟨i + 1, by omega, by go_num, hS2⟩
              · obtain rfl : xn = i := by have := Hi.out; omega
                have r1 : ¬ (xn : Int) < xn := by omega
                have HSxn := Lib.hid hS
                clear hS Hi
                go_wp2_with fail
                clear HSbn
                refine (CNa.out a7 c7 L7 _ (HX2.out.kept (HSxn.out.below HK213.out (Nat.le_refl _)))).mono ?_
                rintro r w15 ⟨v9, rfl, h9, k15⟩
                obtain ⟨gn, cn, rfl, hn9⟩ := h9.cells
                have HN9 := Lib.hid hn9
                have HK15 := Lib.hid ((HSxn.out.below HK213.out (Nat.le_refl _)).tr k15)
                clear k15 h9 hn9
                go_wp2_with fail
                go_loopg [207] n (fun k s wr => ∃ i : Nat, i + k = n ∧ s = .int .i64 (i : Int) ∧ Kept (fun _ => False) w15 wr)
                case atStart => exact ⟨0, by omega, rfl, Kept.refl _ _⟩
                case round =>
                  obtain ⟨i, hi, rfl, hK⟩ := hrel
                  have Hi := Lib.hid hi
                  clear hi
                  by_cases hlt : i < n
                  · have r1 : (i : Int) < n := by omega
                    have r2 : (0 : Int) ≤ i := by omega
                    obtain ⟨g1, rfl, hc1⟩ := HN9.out i hlt
                    obtain ⟨g2, o2, b2, m2, cc2, hla2, d0, _⟩ := HAT.out i (by rw [← HXN.out]; exact hlt) _ (HK2.out.tr (HK15.out.tr hK))
                    first | subst hla2 | (injection hla2 with hla2; injection hla2 with hy1 hy2; have hy1 := hy1.symm; have hy2 := hy2.symm; subst hy1; subst hy2)
                    have e0 := hK.cell hc1
                    rw [show (xnm xs n).getD i ⟨#[]⟩ = (nthA xs i).nm by rw [HXN.out]; exact xnm_get xs i (by rw [← HXN.out]; exact hlt)] at e0
                    generalize (nthA xs i).nm = nmi at e0 d0
                    have hKd := hK.drew
                    clear hc1
                    go_upto_region 48 with fail
                    refine region_perm (fun W => W.cell? ⟨g1, i, none⟩ = some (.string nmi) ∧ W.cell? ⟨g2, o2 + i * 2, none⟩ = some (.string nmi)) [(0, true), (1, true), (2, true), (3, true), (4, true), (5, true), (6, true), (7, true), (8, true), (9, true)] (by kernel_rfl) (by kernel_rfl) (by intro c a d v w h; cases d <;> exact h) ⟨e0, d0⟩ ?_
                    repeat (first | (apply HeldSeq.take; (focus rfl); (focus rfl); (focus (intro W hS; obtain ⟨x0, x1⟩ := hS; go_simp; (try go_bits); rfl)); simp only [List.getElem_toArray]; (try simp only [List.getElem_cons_succ]); (try simp only [List.getElem_cons_zero]); simp only [Act.put, List.setIfInBounds_toArray]; (try simp only [List.set_cons_succ]); (try simp only [List.set_cons_zero])) | (apply HeldSeq.skip; (focus rfl); (focus rfl); simp only [List.getElem_toArray]; (try simp only [List.getElem_cons_succ]); (try simp only [List.getElem_cons_zero]); simp only [Act.put, List.setIfInBounds_toArray]; (try simp only [List.set_cons_succ]); (try simp only [List.set_cons_zero])))
                    refine HeldSeq.done ?_
                    go_wp2_with fail
                    go_roundg (gk - 1)
                    case measure => have := Hi.out; omega
                    case rel => have := Hi.out; exact ⟨i + 1, by omega, by go_num, hKd⟩
                  · obtain rfl : n = i := by have := Hi.out; omega
                    have r1 : ¬ (n : Int) < n := by omega
                    have K15 := Lib.hid (HK15.out.tr hK)
                    have CSE := Lib.hid (CSa.out a7 c7 L7 _ (HX2.out.kept K15.out) (HK2.out.tr K15.out))
                    clear Hi
                    go_wp2_with fail
                    refine CSE.out.mono ?_
                    rintro r w16 ⟨rfl, k16⟩
                    have K16 := Lib.hid (K15.out.tr k16)
                    have hcvx := conv_str w16 24 9 5 a8 vn c8 _ Try.underlying24 Try.underlying5 Try.underlying9 ((HV2.out.bytes).kept K16.out) HV2.out.none
                    have hcvy := conv_str w16 24 9 5 va vn vc _ Try.underlying24 Try.underlying5 Try.underlying9 ((HVA.out.bytes).kept (HK2.out.tr K16.out)) HVA.out.none
                    generalize strOf vn (fun j => val.getD j 0#8) = stx at hcvx hcvy
                    clear k16
                    go_wp2_with fail
                    go_ret
                    exact ⟨rfl, HK2.out.tr K16.out⟩
  · obtain rfl : R = true := by rw [HR.out, HXN.out]; exact g1
    obtain rfl : ce = 4 := by rw [HCE.out, g3]
    obtain rfl : an = 0 := by rw [HAN.out, HVAL.out, g3]; rfl
    obtain rfl : z = -1 := by
      rcases HZ.out with ⟨h1, _⟩ | ⟨i, _, h2⟩
      · exact h1
      · rw [g2] at h2; cases h2
    clear g1 g2 g3 HZ
    go_upto_region 17 with fail
    go_wp2_with fail
    refine (CFX.out _).mono ?_
    rintro r w10 ⟨rfl, k10⟩
    have q10 : Kept (fun _ => False) w9 w10 := by first | exact k10 | exact ((Kept.refl _ w9).drew).tr k10
    go_wp2_with fail
    refine (CC8.out w10 q10).mono ?_
    rintro r w11 ⟨rfl, k11⟩
    have q11 := q10.tr k11
    clear k10 k11 CFX CC8
    go_wp2_with fail
    refine (CSb.out w11 q11).mono ?_
    rintro r w12 ⟨rfl, k12⟩
    have q12 := q11.tr k12
    clear k12 CSb
    go_wp2_with fail
    refine (CSx.out w12 q12).mono ?_
    rintro r w13 ⟨rfl, k13⟩
    have q13 := q12.tr k13
    have HA13 := Lib.hid (HA9.out.kept q13 (fun _ _ h => h))
    have HB13 := Lib.hid (HB9.out.moved q13 (fun _ _ h => h) (fun _ _ _ h => h))
    have HXD13 := Lib.hid (HXD9.out.moved q13 (fun _ _ h => h) (fun _ _ _ h => h))
    have HK213 := Lib.hid (HK29.out.tr q13)
    clear k13 CSx q10 q11 q12 HA9 HB9 HXD9
    go_wp2_with fail
    have BNL := Lib.hid (show bn = ysb.length from HBN.out)
    have XNL := Lib.hid (show xn = ysx.length from HXN2.out)
    have HSBbn := Lib.hid (show w2.heap.size ≤ w4.heap.size from HS2b.out)
    have HSBxn := Lib.hid (show w2.heap.size ≤ w6.heap.size from HS2x.out)
    go_loopg [136] 0 (fun k s wr => s = .int .i64 0 ∧ Shook w2.heap.size w13 wr)
    case atStart => exact ⟨rfl, Shook.refl _ _⟩
    case round =>
        obtain ⟨rfl, hS⟩ := hrel
        have HSan := Lib.hid hS
        clear hS
        go_wp2_with fail
        go_loopg [148] bn (fun k s wr => ∃ i : Nat, i + k = bn ∧ s = .int .i64 (i : Int) ∧ Shook w2.heap.size w13 wr)
        case atStart => exact ⟨0, by omega, rfl, HSan.out⟩
        case round =>
          obtain ⟨i, hi, rfl, hS⟩ := hrel
          have Hi := Lib.hid hi
          clear hi
          obtain ⟨ko, rfl⟩ : ∃ ko : Nat, ko = gk := ⟨_, rfl⟩
          by_cases hlt : i < bn
          · have r1 : (i : Int) < bn := by omega
            have r2 : (0 : Int) ≤ i := by omega
            have hiy : i < ysb.length := by have := Hi.out; have := BNL.out; omega
            have HQ := Lib.hid (fun W (hs : Shook w2.heap.size w13 W) => HB13.out.shakenAt hs HSBbn.out hiy)
            obtain ⟨xa, hxa⟩ : ∃ v, v = (nthC Lb i).a := ⟨_, rfl⟩
            obtain ⟨xm, hxm⟩ : ∃ v, v = (nthC Lb i).n := ⟨_, rfl⟩
            obtain ⟨xc, hxc⟩ : ∃ v, v = (nthC Lb i).c := ⟨_, rfl⟩
            have hown := HB13.out.val i hiy
            have HQ2 := Lib.hid (by have := HQ.out; rw [← hxa, ← hxm, ← hxc] at this; exact this)
            rw [← hxa, ← hxm, ← hxc] at hown
            obtain ⟨_, _, e1, _, _, hm1, hm2⟩ := hown.reads
            injection e1 with e1 e2 e3
            subst e3
            have qm : (xm : Int) ≤ 9223372036854775807 := by omega
            obtain ⟨gq, rfl, hc1, _⟩ := HQ2.out _ hS
            clear hxa hxm hxc hown hm1 hm2 HQ e1 e2 hiy
            go_wp2_with fail
            clear hc1
            go_loopg [157] xm (fun k s wy => ∃ j : Nat, j + k = xm ∧ s = .int .i64 (j : Int) ∧ Shook w2.heap.size w13 wy)
            case atStart => exact ⟨0, by omega, rfl, hS⟩
            case round =>
              obtain ⟨j, hj, rfl, hS2⟩ := hrel
              have Hj := Lib.hid hj
              clear hj
              by_cases hlt2 : j < xm
              · have s1 : (j : Int) < xm := by omega
                have s2 : (0 : Int) ≤ j := by omega
                obtain ⟨gq', e4, hc1, hbb⟩ := HQ2.out _ hS2
                obtain ⟨kq, rfl, hz1, hz2, hby⟩ := hbb j hlt2
                injection e4 with e4
                injection e4 with e4
                subst e4
                obtain ⟨zq, hzq⟩ := hby.cell hlt2
                have hfr := hby.free j
                clear hbb hby
                go_wp2_with fail
                go_roundg (gk - 1)
                case measure => have := Hj.out; omega
                case rel => have := Hj.out; exact ⟨j + 1, by omega, by go_num, hS2.set hz1 hz2 _ _⟩
              · obtain rfl : xm = j := by have := Hj.out; omega
                have s1 : ¬ (xm : Int) < xm := by omega
                go_wp2_with fail
                go_roundg (ko - 1)
                case measure => have := Hi.out; omega
                case rel => have := Hi.out; exact ⟨i + 1, by omega, by go_num, hS2⟩
          · obtain rfl : bn = i := by have := Hi.out; omega
            have r1 : ¬ (bn : Int) < bn := by omega
            have HSbn := Lib.hid hS
            clear hS Hi
            go_wp2_with fail
            go_loopg [174] xn (fun k s wr => ∃ i : Nat, i + k = xn ∧ s = .int .i64 (i : Int) ∧ Shook w2.heap.size w13 wr)
            case atStart => exact ⟨0, by omega, rfl, HSbn.out⟩
            case round =>
              obtain ⟨i, hi, rfl, hS⟩ := hrel
              have Hi := Lib.hid hi
              clear hi
              obtain ⟨ko, rfl⟩ : ∃ ko : Nat, ko = gk := ⟨_, rfl⟩
              by_cases hlt : i < xn
              · have r1 : (i : Int) < xn := by omega
                have r2 : (0 : Int) ≤ i := by omega
                have hiy : i < ysx.length := by have := Hi.out; have := XNL.out; omega
                have HQ := Lib.hid (fun W (hs : Shook w2.heap.size w13 W) => HXD13.out.shakenAt hs HSBxn.out hiy)
                obtain ⟨xa, hxa⟩ : ∃ v, v = (nthC Lx i).a := ⟨_, rfl⟩
                obtain ⟨xm, hxm⟩ : ∃ v, v = (nthC Lx i).n := ⟨_, rfl⟩
                obtain ⟨xc, hxc⟩ : ∃ v, v = (nthC Lx i).c := ⟨_, rfl⟩
                have hown := HXD13.out.val i hiy
                have HQ2 := Lib.hid (by have := HQ.out; rw [← hxa, ← hxm, ← hxc] at this; exact this)
                rw [← hxa, ← hxm, ← hxc] at hown
                obtain ⟨_, _, e1, _, _, hm1, hm2⟩ := hown.reads
                injection e1 with e1 e2 e3
                subst e3
                have qm : (xm : Int) ≤ 9223372036854775807 := by omega
                obtain ⟨gq, rfl, hc1, _⟩ := HQ2.out _ hS
                clear hxa hxm hxc hown hm1 hm2 HQ e1 e2 hiy
                go_wp2_with fail
                clear hc1
                go_loopg [183] xm (fun k s wy => ∃ j : Nat, j + k = xm ∧ s = .int .i64 (j : Int) ∧ Shook w2.heap.size w13 wy)
                case atStart => exact ⟨0, by omega, rfl, hS⟩
                case round =>
                  obtain ⟨j, hj, rfl, hS2⟩ := hrel
                  have Hj := Lib.hid hj
                  clear hj
                  by_cases hlt2 : j < xm
                  · have s1 : (j : Int) < xm := by omega
                    have s2 : (0 : Int) ≤ j := by omega
                    obtain ⟨gq', e4, hc1, hbb⟩ := HQ2.out _ hS2
                    obtain ⟨kq, rfl, hz1, hz2, hby⟩ := hbb j hlt2
                    injection e4 with e4
                    injection e4 with e4
                    subst e4
                    obtain ⟨zq, hzq⟩ := hby.cell hlt2
                    have hfr := hby.free j
                    clear hbb hby
                    go_wp2_with fail
                    go_roundg (gk - 1)
                    case measure => have := Hj.out; omega
                    case rel => have := Hj.out; exact ⟨j + 1, by omega, by go_num, hS2.set hz1 hz2 _ _⟩
                  · obtain rfl : xm = j := by have := Hj.out; omega
                    have s1 : ¬ (xm : Int) < xm := by omega
                    go_wp2_with fail
                    go_roundg (ko - 1)
                    case measure => have := Hi.out; omega
                    case rel => have := Hi.out; exact ⟨i + 1, by omega, by go_num, hS2⟩
              · obtain rfl : xn = i := by have := Hi.out; omega
                have r1 : ¬ (xn : Int) < xn := by omega
                have HSxn := Lib.hid hS
                clear hS Hi
                go_wp2_with fail
                clear HSbn
                refine (CNa.out a7 c7 L7 _ (HX2.out.kept (HSxn.out.below HK213.out (Nat.le_refl _)))).mono ?_
                rintro r w15 ⟨v9, rfl, h9, k15⟩
                obtain ⟨gn, cn, rfl, hn9⟩ := h9.cells
                have HN9 := Lib.hid hn9
                have HK15 := Lib.hid ((HSxn.out.below HK213.out (Nat.le_refl _)).tr k15)
                clear k15 h9 hn9
                go_wp2_with fail
                go_loopg [207] n (fun k s wr => ∃ i : Nat, i + k = n ∧ s = .int .i64 (i : Int) ∧ Kept (fun _ => False) w15 wr)
                case atStart => exact ⟨0, by omega, rfl, Kept.refl _ _⟩
                case round =>
                  obtain ⟨i, hi, rfl, hK⟩ := hrel
                  have Hi := Lib.hid hi
                  clear hi
                  by_cases hlt : i < n
                  · have r1 : (i : Int) < n := by omega
                    have r2 : (0 : Int) ≤ i := by omega
                    obtain ⟨g1, rfl, hc1⟩ := HN9.out i hlt
                    obtain ⟨g2, o2, b2, m2, cc2, hla2, d0, _⟩ := HAT.out i (by rw [← HXN.out]; exact hlt) _ (HK2.out.tr (HK15.out.tr hK))
                    first | subst hla2 | (injection hla2 with hla2; injection hla2 with hy1 hy2; have hy1 := hy1.symm; have hy2 := hy2.symm; subst hy1; subst hy2)
                    have e0 := hK.cell hc1
                    rw [show (xnm xs n).getD i ⟨#[]⟩ = (nthA xs i).nm by rw [HXN.out]; exact xnm_get xs i (by rw [← HXN.out]; exact hlt)] at e0
                    generalize (nthA xs i).nm = nmi at e0 d0
                    have hKd := hK.drew
                    clear hc1
                    go_upto_region 48 with fail
                    refine region_perm (fun W => W.cell? ⟨g1, i, none⟩ = some (.string nmi) ∧ W.cell? ⟨g2, o2 + i * 2, none⟩ = some (.string nmi)) [(0, true), (1, true), (2, true), (3, true), (4, true), (5, true), (6, true), (7, true), (8, true), (9, true)] (by kernel_rfl) (by kernel_rfl) (by intro c a d v w h; cases d <;> exact h) ⟨e0, d0⟩ ?_
                    repeat (first | (apply HeldSeq.take; (focus rfl); (focus rfl); (focus (intro W hS; obtain ⟨x0, x1⟩ := hS; go_simp; (try go_bits); rfl)); simp only [List.getElem_toArray]; (try simp only [List.getElem_cons_succ]); (try simp only [List.getElem_cons_zero]); simp only [Act.put, List.setIfInBounds_toArray]; (try simp only [List.set_cons_succ]); (try simp only [List.set_cons_zero])) | (apply HeldSeq.skip; (focus rfl); (focus rfl); simp only [List.getElem_toArray]; (try simp only [List.getElem_cons_succ]); (try simp only [List.getElem_cons_zero]); simp only [Act.put, List.setIfInBounds_toArray]; (try simp only [List.set_cons_succ]); (try simp only [List.set_cons_zero])))
                    refine HeldSeq.done ?_
                    go_wp2_with fail
                    go_roundg (gk - 1)
                    case measure => have := Hi.out; omega
                    case rel => have := Hi.out; exact ⟨i + 1, by omega, by go_num, hKd⟩
                  · obtain rfl : n = i := by have := Hi.out; omega
                    have r1 : ¬ (n : Int) < n := by omega
                    have K15 := Lib.hid (HK15.out.tr hK)
                    have CSE := Lib.hid (CSa.out a7 c7 L7 _ (HX2.out.kept K15.out) (HK2.out.tr K15.out))
                    clear Hi
                    go_wp2_with fail
                    refine CSE.out.mono ?_
                    rintro r w16 ⟨rfl, k16⟩
                    have K16 := Lib.hid (K15.out.tr k16)
                    have hcvx := conv_str w16 24 9 5 a8 vn c8 _ Try.underlying24 Try.underlying5 Try.underlying9 ((HV2.out.bytes).kept K16.out) HV2.out.none
                    have hcvy := conv_str w16 24 9 5 va vn vc _ Try.underlying24 Try.underlying5 Try.underlying9 ((HVA.out.bytes).kept (HK2.out.tr K16.out)) HVA.out.none
                    generalize strOf vn (fun j => val.getD j 0#8) = stx at hcvx hcvy
                    clear k16
                    go_wp2_with fail
                    go_ret
                    exact ⟨rfl, HK2.out.tr K16.out⟩
  · obtain rfl : R = true := by rw [HR.out, HXN.out]; exact g1
    obtain rfl : ce = 0 := by rw [HCE.out, g4]
    obtain rfl : z = (i : Int) := by
      rcases HZ.out with ⟨_, h2⟩ | ⟨j, h1, h2⟩
      · rw [g2] at h2; cases h2
      · rw [g2] at h2; injection h2 with h2; rw [h1, h2]
    have hvi : val1 = (nthA xs i).val := by rw [HVAL.out, g4]
    obtain ⟨g, o, b, m, c, hla, c0, c1, hm, hmc, _, hb0, hb⟩ := HAT.out i g3 w9 HK9.out
    subst hla
    obtain ⟨ua1, uc1, hu1, hub, hu0, _⟩ := HA9.out.reads
    injection hu1 with hu1 hu2 hu3
    subst hu1
    obtain rfl : m = an := by rw [hm, HAN.out, hvi]
    rw [← HAN.out] at hub hu0
    rw [← hvi] at hb
    have HCVA := Lib.hid (fun W (k : Kept (fun _ => False) w9 W) => conv_str W 24 9 5 ga m ca _ Try.underlying24 Try.underlying5 Try.underlying9 (hub.kept k) hu0)
    have HCVB := Lib.hid (fun W (k : Kept (fun _ => False) w9 W) => conv_str W 24 9 5 b m c _ Try.underlying24 Try.underlying5 Try.underlying9 (hb.kept k) hb0)
    have hcv1 := HCVA.out w9.drew (Kept.refl _ w9).drew
    have hcv2 := HCVB.out w9.drew (Kept.refl _ w9).drew
    generalize hst : strOf m (fun j => val1.getD j 0#8) = st at hcv1 hcv2
    have p1 : (0 : Int) ≤ i := by omega
    have p2 : (i : Int) < n := by have := HXN.out; omega
    have p3 : ¬ (i : Int) < 0 := by omega
    have qa : (m : Int) ≤ 9223372036854775807 := by omega
    clear g1 g2 g3 g4 hvi hm hmc hb hb0 hub hu0 hu2 hu3 hst HCVA HCVB HZ
    go_upto_region 9 with fail
    refine region_perm (fun W => W.cell? ⟨g, o + i * 2 + 1, none⟩ = some (.slice b m c) ∧ (convert 24 9 (.slice ga m ca)).run Try.prog W = .ok (.string st) W ∧ (convert 24 9 (.slice b m c)).run Try.prog W = .ok (.string st) W) [(0, true), (1, true), (2, true), (3, true), (4, true), (5, true), (6, true), (7, true), (8, true), (9, true), (10, true), (11, true), (12, true)] (by kernel_rfl) (by kernel_rfl) (by intro c a d v w h; cases d <;> exact h) ⟨c1, hcv1, hcv2⟩ ?_
    repeat (first | (apply HeldSeq.take; (focus rfl); (focus rfl); (focus (intro W hS; obtain ⟨e1, e2, e3⟩ := hS; go_simp; (try go_bits); rfl)); simp only [List.getElem_toArray]; (try simp only [List.getElem_cons_succ]); (try simp only [List.getElem_cons_zero]); simp only [Act.put, List.setIfInBounds_toArray]; (try simp only [List.set_cons_succ]); (try simp only [List.set_cons_zero])) | (apply HeldSeq.skip; (focus rfl); (focus rfl); simp only [List.getElem_toArray]; (try simp only [List.getElem_cons_succ]); (try simp only [List.getElem_cons_zero]); simp only [Act.put, List.setIfInBounds_toArray]; (try simp only [List.set_cons_succ]); (try simp only [List.set_cons_zero])))
    refine HeldSeq.done ?_
    go_upto_region 17 with fail
    go_wp2_with fail
    refine (CFX.out _).mono ?_
    rintro r w10 ⟨rfl, k10⟩
    have q10 : Kept (fun _ => False) w9 w10 := by first | exact k10 | exact ((Kept.refl _ w9).drew).tr k10
    go_wp2_with fail
    refine (CC8.out w10 q10).mono ?_
    rintro r w11 ⟨rfl, k11⟩
    have q11 := q10.tr k11
    clear k10 k11 CFX CC8
    go_wp2_with fail
    refine (CSb.out w11 q11).mono ?_
    rintro r w12 ⟨rfl, k12⟩
    have q12 := q11.tr k12
    clear k12 CSb
    go_wp2_with fail
    refine (CSx.out w12 q12).mono ?_
    rintro r w13 ⟨rfl, k13⟩
    have q13 := q12.tr k13
    have HA13 := Lib.hid (HA9.out.kept q13 (fun _ _ h => h))
    have HB13 := Lib.hid (HB9.out.moved q13 (fun _ _ h => h) (fun _ _ _ h => h))
    have HXD13 := Lib.hid (HXD9.out.moved q13 (fun _ _ h => h) (fun _ _ _ h => h))
    have HK213 := Lib.hid (HK29.out.tr q13)
    clear k13 CSx q10 q11 q12 HA9 HB9 HXD9
    go_wp2_with fail
    have BNL := Lib.hid (show bn = ysb.length from HBN.out)
    have XNL := Lib.hid (show xn = ysx.length from HXN2.out)
    have HSBbn := Lib.hid (show w2.heap.size ≤ w4.heap.size from HS2b.out)
    have HSBxn := Lib.hid (show w2.heap.size ≤ w6.heap.size from HS2x.out)
    go_loopg [136] m (fun k s wr => ∃ i : Nat, i + k = m ∧ s = .int .i64 (i : Int) ∧ Shook w2.heap.size w13 wr)
    case atStart => exact ⟨0, by omega, rfl, Shook.refl _ _⟩
    case round =>
      obtain ⟨i, hi, rfl, hS⟩ := hrel
      have Hi := Lib.hid hi
      clear hi
      by_cases hlt : i < m
      · have r1 : (i : Int) < m := by omega
        have r2 : (0 : Int) ≤ i := by omega
        obtain ⟨kq, rfl, hz1, hz2, hby⟩ := HA13.out.bytey (by have := HAN.out; omega)
        obtain ⟨zq, hzq⟩ := (hS.bytes _ _ hby).cell (j := i) (by have := HAN.out; omega)
        have hfr := (hS.bytes _ _ hby).free i
        have hz3 : w2.heap.size ≤ kq := Nat.le_trans HS2a.out hz1
        clear hby hz1
        go_wp2_with fail
        go_roundg (gk - 1)
        case measure => have := Hi.out; omega
        case rel => have := Hi.out; exact ⟨i + 1, by omega, by go_num, hS.set hz3 hz2 _ _⟩
      · obtain rfl : m = i := by have := Hi.out; omega
        have r1 : ¬ (m : Int) < m := by omega
        have HSan := Lib.hid hS
        clear hS Hi
        go_wp2_with fail
        go_loopg [148] bn (fun k s wr => ∃ i : Nat, i + k = bn ∧ s = .int .i64 (i : Int) ∧ Shook w2.heap.size w13 wr)
        case atStart => exact ⟨0, by omega, rfl, HSan.out⟩
        case round =>
          obtain ⟨i, hi, rfl, hS⟩ := hrel
          have Hi := Lib.hid hi
          clear hi
          obtain ⟨ko, rfl⟩ : ∃ ko : Nat, ko = gk := ⟨_, rfl⟩
          by_cases hlt : i < bn
          · have r1 : (i : Int) < bn := by omega
            have r2 : (0 : Int) ≤ i := by omega
            have hiy : i < ysb.length := by have := Hi.out; have := BNL.out; omega
            have HQ := Lib.hid (fun W (hs : Shook w2.heap.size w13 W) => HB13.out.shakenAt hs HSBbn.out hiy)
            obtain ⟨xa, hxa⟩ : ∃ v, v = (nthC Lb i).a := ⟨_, rfl⟩
            obtain ⟨xm, hxm⟩ : ∃ v, v = (nthC Lb i).n := ⟨_, rfl⟩
            obtain ⟨xc, hxc⟩ : ∃ v, v = (nthC Lb i).c := ⟨_, rfl⟩
            have hown := HB13.out.val i hiy
            have HQ2 := Lib.hid (by have := HQ.out; rw [← hxa, ← hxm, ← hxc] at this; exact this)
            rw [← hxa, ← hxm, ← hxc] at hown
            obtain ⟨_, _, e1, _, _, hm1, hm2⟩ := hown.reads
            injection e1 with e1 e2 e3
            subst e3
            have qm : (xm : Int) ≤ 9223372036854775807 := by omega
            obtain ⟨gq, rfl, hc1, _⟩ := HQ2.out _ hS
            clear hxa hxm hxc hown hm1 hm2 HQ e1 e2 hiy
            go_wp2_with fail
            clear hc1
            go_loopg [157] xm (fun k s wy => ∃ j : Nat, j + k = xm ∧ s = .int .i64 (j : Int) ∧ Shook w2.heap.size w13 wy)
            case atStart => exact ⟨0, by omega, rfl, hS⟩
            case round =>
              obtain ⟨j, hj, rfl, hS2⟩ := hrel
              have Hj := Lib.hid hj
              clear hj
              by_cases hlt2 : j < xm
              · have s1 : (j : Int) < xm := by omega
                have s2 : (0 : Int) ≤ j := by omega
                obtain ⟨gq', e4, hc1, hbb⟩ := HQ2.out _ hS2
                obtain ⟨kq, rfl, hz1, hz2, hby⟩ := hbb j hlt2
                injection e4 with e4
                injection e4 with e4
                subst e4
                obtain ⟨zq, hzq⟩ := hby.cell hlt2
                have hfr := hby.free j
                clear hbb hby
                go_wp2_with fail
                go_roundg (gk - 1)
                case measure => have := Hj.out; omega
                case rel => have := Hj.out; exact ⟨j + 1, by omega, by go_num, hS2.set hz1 hz2 _ _⟩
              · obtain rfl : xm = j := by have := Hj.out; omega
                have s1 : ¬ (xm : Int) < xm := by omega
                go_wp2_with fail
                go_roundg (ko - 1)
                case measure => have := Hi.out; omega
                case rel => have := Hi.out; exact ⟨i + 1, by omega, by go_num, hS2⟩
          · obtain rfl : bn = i := by have := Hi.out; omega
            have r1 : ¬ (bn : Int) < bn := by omega
            have HSbn := Lib.hid hS
            clear hS Hi
            go_wp2_with fail
            go_loopg [174] xn (fun k s wr => ∃ i : Nat, i + k = xn ∧ s = .int .i64 (i : Int) ∧ Shook w2.heap.size w13 wr)
            case atStart => exact ⟨0, by omega, rfl, HSbn.out⟩
            case round =>
              obtain ⟨i, hi, rfl, hS⟩ := hrel
              have Hi := Lib.hid hi
              clear hi
              obtain ⟨ko, rfl⟩ : ∃ ko : Nat, ko = gk := ⟨_, rfl⟩
              by_cases hlt : i < xn
              · have r1 : (i : Int) < xn := by omega
                have r2 : (0 : Int) ≤ i := by omega
                have hiy : i < ysx.length := by have := Hi.out; have := XNL.out; omega
                have HQ := Lib.hid (fun W (hs : Shook w2.heap.size w13 W) => HXD13.out.shakenAt hs HSBxn.out hiy)
                obtain ⟨xa, hxa⟩ : ∃ v, v = (nthC Lx i).a := ⟨_, rfl⟩
                obtain ⟨xm, hxm⟩ : ∃ v, v = (nthC Lx i).n := ⟨_, rfl⟩
                obtain ⟨xc, hxc⟩ : ∃ v, v = (nthC Lx i).c := ⟨_, rfl⟩
                have hown := HXD13.out.val i hiy
                have HQ2 := Lib.hid (by have := HQ.out; rw [← hxa, ← hxm, ← hxc] at this; exact this)
                rw [← hxa, ← hxm, ← hxc] at hown
                obtain ⟨_, _, e1, _, _, hm1, hm2⟩ := hown.reads
                injection e1 with e1 e2 e3
                subst e3
                have qm : (xm : Int) ≤ 9223372036854775807 := by omega
                obtain ⟨gq, rfl, hc1, _⟩ := HQ2.out _ hS
                clear hxa hxm hxc hown hm1 hm2 HQ e1 e2 hiy
                go_wp2_with fail
                clear hc1
                go_loopg [183] xm (fun k s wy => ∃ j : Nat, j + k = xm ∧ s = .int .i64 (j : Int) ∧ Shook w2.heap.size w13 wy)
                case atStart => exact ⟨0, by omega, rfl, hS⟩
                case round =>
                  obtain ⟨j, hj, rfl, hS2⟩ := hrel
                  have Hj := Lib.hid hj
                  clear hj
                  by_cases hlt2 : j < xm
                  · have s1 : (j : Int) < xm := by omega
                    have s2 : (0 : Int) ≤ j := by omega
                    obtain ⟨gq', e4, hc1, hbb⟩ := HQ2.out _ hS2
                    obtain ⟨kq, rfl, hz1, hz2, hby⟩ := hbb j hlt2
                    injection e4 with e4
                    injection e4 with e4
                    subst e4
                    obtain ⟨zq, hzq⟩ := hby.cell hlt2
                    have hfr := hby.free j
                    clear hbb hby
                    go_wp2_with fail
                    go_roundg (gk - 1)
                    case measure => have := Hj.out; omega
                    case rel => have := Hj.out; exact ⟨j + 1, by omega, by go_num, hS2.set hz1 hz2 _ _⟩
                  · obtain rfl : xm = j := by have := Hj.out; omega
                    have s1 : ¬ (xm : Int) < xm := by omega
                    go_wp2_with fail
                    go_roundg (ko - 1)
                    case measure => have := Hi.out; omega
                    case rel => have := Hi.out; exact ⟨i + 1, by omega, by go_num, hS2⟩
              · obtain rfl : xn = i := by have := Hi.out; omega
                have r1 : ¬ (xn : Int) < xn := by omega
                have HSxn := Lib.hid hS
                clear hS Hi
                go_wp2_with fail
                clear HSbn
                refine (CNa.out a7 c7 L7 _ (HX2.out.kept (HSxn.out.below HK213.out (Nat.le_refl _)))).mono ?_
                rintro r w15 ⟨v9, rfl, h9, k15⟩
                obtain ⟨gn, cn, rfl, hn9⟩ := h9.cells
                have HN9 := Lib.hid hn9
                have HK15 := Lib.hid ((HSxn.out.below HK213.out (Nat.le_refl _)).tr k15)
                clear k15 h9 hn9
                go_wp2_with fail
                go_loopg [207] n (fun k s wr => ∃ i : Nat, i + k = n ∧ s = .int .i64 (i : Int) ∧ Kept (fun _ => False) w15 wr)
                case atStart => exact ⟨0, by omega, rfl, Kept.refl _ _⟩
                case round =>
                  obtain ⟨i, hi, rfl, hK⟩ := hrel
                  have Hi := Lib.hid hi
                  clear hi
                  by_cases hlt : i < n
                  · have r1 : (i : Int) < n := by omega
                    have r2 : (0 : Int) ≤ i := by omega
                    obtain ⟨g1, rfl, hc1⟩ := HN9.out i hlt
                    obtain ⟨g2, o2, b2, m2, cc2, hla2, d0, _⟩ := HAT.out i (by rw [← HXN.out]; exact hlt) _ (HK2.out.tr (HK15.out.tr hK))
                    first | subst hla2 | (injection hla2 with hla2; injection hla2 with hy1 hy2; have hy1 := hy1.symm; have hy2 := hy2.symm; subst hy1; subst hy2)
                    have e0 := hK.cell hc1
                    rw [show (xnm xs n).getD i ⟨#[]⟩ = (nthA xs i).nm by rw [HXN.out]; exact xnm_get xs i (by rw [← HXN.out]; exact hlt)] at e0
                    generalize (nthA xs i).nm = nmi at e0 d0
                    have hKd := hK.drew
                    clear hc1
                    go_upto_region 48 with fail
                    refine region_perm (fun W => W.cell? ⟨g1, i, none⟩ = some (.string nmi) ∧ W.cell? ⟨g2, o2 + i * 2, none⟩ = some (.string nmi)) [(0, true), (1, true), (2, true), (3, true), (4, true), (5, true), (6, true), (7, true), (8, true), (9, true)] (by kernel_rfl) (by kernel_rfl) (by intro c a d v w h; cases d <;> exact h) ⟨e0, d0⟩ ?_
                    repeat (first | (apply HeldSeq.take; (focus rfl); (focus rfl); (focus (intro W hS; obtain ⟨x0, x1⟩ := hS; go_simp; (try go_bits); rfl)); simp only [List.getElem_toArray]; (try simp only [List.getElem_cons_succ]); (try simp only [List.getElem_cons_zero]); simp only [Act.put, List.setIfInBounds_toArray]; (try simp only [List.set_cons_succ]); (try simp only [List.set_cons_zero])) | (apply HeldSeq.skip; (focus rfl); (focus rfl); simp only [List.getElem_toArray]; (try simp only [List.getElem_cons_succ]); (try simp only [List.getElem_cons_zero]); simp only [Act.put, List.setIfInBounds_toArray]; (try simp only [List.set_cons_succ]); (try simp only [List.set_cons_zero])))
                    refine HeldSeq.done ?_
                    go_wp2_with fail
                    go_roundg (gk - 1)
                    case measure => have := Hi.out; omega
                    case rel => have := Hi.out; exact ⟨i + 1, by omega, by go_num, hKd⟩
                  · obtain rfl : n = i := by have := Hi.out; omega
                    have r1 : ¬ (n : Int) < n := by omega
                    have K15 := Lib.hid (HK15.out.tr hK)
                    have CSE := Lib.hid (CSa.out a7 c7 L7 _ (HX2.out.kept K15.out) (HK2.out.tr K15.out))
                    clear Hi
                    go_wp2_with fail
                    refine CSE.out.mono ?_
                    rintro r w16 ⟨rfl, k16⟩
                    have K16 := Lib.hid (K15.out.tr k16)
                    have hcvx := conv_str w16 24 9 5 a8 vn c8 _ Try.underlying24 Try.underlying5 Try.underlying9 ((HV2.out.bytes).kept K16.out) HV2.out.none
                    have hcvy := conv_str w16 24 9 5 va vn vc _ Try.underlying24 Try.underlying5 Try.underlying9 ((HVA.out.bytes).kept (HK2.out.tr K16.out)) HVA.out.none
                    generalize strOf vn (fun j => val.getD j 0#8) = stx at hcvx hcvy
                    clear k16
                    go_wp2_with fail
                    go_ret
                    exact ⟨rfl, HK2.out.tr K16.out⟩
end Go.Proofs.Ytoeohbihelfphaa
