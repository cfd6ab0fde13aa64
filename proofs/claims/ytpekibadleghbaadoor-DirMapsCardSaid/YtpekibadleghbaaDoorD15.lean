/-
  The walk of the law DirCalls.
-/
import Derived.Test.YtpekibadleghbaaDoorDC
import Derived.Lib.AppendZeros
namespace Go.Proofs.YtpekibadleghbaaDoor
open Go.RowKit
set_option linter.unusedVariables false
set_option linter.unusedSimpArgs false
theorem ListS.kept {w w' : World} {a : Option Addr} {n : Nat} {f : Nat → ByteArray} (h : ListS w a n f) (k : Kept (fun _ => False) w w') : ListS w' a n f := by
  rcases h with h | ⟨g, o, h1, h2⟩
  · exact .inl h
  · exact .inr ⟨g, o, h1, fun i hi => k.cell (h2 i hi)⟩
set_option maxRecDepth 100000 in
/-- A whole list appended to a made one. -/
theorem appList {ops : Array Oper} {rest : List Oper} {o : Oper} {a : Act} {w : World} {Q : Exit → Act → World → Prop} (hgd : o.guard = none) (s x : Operand) (ho : o.op = .call { callee := .builtin .append, args := #[s, x], argTypes := #[32, 32] })
    (base g : Nat) (hs : a.eval s = .slice (some ⟨g, 0, none⟩) 0 0) (hown : w.ownsRow base 68 2 (.slice (some ⟨g, 0, none⟩) 0 0) 0 []) (ad : Option Addr) (xs : List En) (cap : Nat) (hx : a.eval x = .slice ad xs.length cap)
    (h0 : ad = none → cap = 0) (hle : xs.length ≤ cap) (hc : ListE w ad xs.length (nthE xs)) (hn : xs.length * 24 ≤ 140737488351232) (hbase : base ≤ w.heap.size)
    (h : ∀ v' w', w'.ownsRow base 68 2 v' xs.length (flat ecl xs) → Kept (fun k => (Value.slice (some ⟨g, 0, none⟩) 0 0).ownBlock = some k) w w' → wpList Tryd.prog ops Q rest (a.put o.dst v') w') : wpList Tryd.prog ops Q (o :: rest) a w := by
  cases ad with
  | none =>
    obtain rfl := h0 rfl
    have e : xs.length = 0 := by omega
    obtain rfl := List.eq_nil_of_length_eq_zero e
    refine Lib.wpList_append_run w hgd s x 32 32 ho _ _ hs hx _ w (run_append_owned_none w base 32 o.type 68 _ 2 Tryd.underlying32 info29i _ 0 [] hown) ?_
    exact h _ w hown (Kept.refl _ w)
  | some p =>
    have hsrc : ∀ j u, (flat ecl xs)[j]? = some u → w.cell? (p.add j) = some u := by
      intro j u hj
      rcases hc with h0 | ⟨g, o, hp, hc⟩
      · rw [List.eq_nil_of_length_eq_zero h0] at hj; simp at hj
      · injection hp with hp
        subst hp
        exact ListE.cells hc rfl j u hj
    refine wpList_append_own_at _ hgd s x 32 ho base 68 _ _ 2 24 Tryd.underlying32 info29i zero29 size29 bytes29 rfl (by omega) _ 0 [] hs hown p xs.length cap (flat ecl xs) hx (flat_length ecl_len xs) hsrc (flat_one ecl_one xs) (by unfold maxLen; omega) (by omega) hbase ?_
    intro v' w2 h1 h2 _ _
    exact h v' w2 (by simpa using h1) (Kept.grown h2)
theorem insE_len (salt : Nat → Byte) (e : En) : ∀ xs : List En, (insE salt e xs).length = xs.length + 1
  | [] => rfl
  | x :: xs => by
    unfold insE
    split
    · simp
    · simp [insE_len salt e xs]
theorem putR_len (salt : Nat → Byte) (xs : List En) (nm : ByteArray) (ino : Int) (hn : xs.length ≤ 140737488351232) : (putR salt xs nm ino).1.length ≤ 441 := by
  unfold putR
  split
  · rename_i h
    have := (right_len hn h).1
    split
    · split
      · simp
      · split
        · simp
        · simp [insE_len]; omega
    · simp
  · simp
theorem dropR_len (salt : Nat → Byte) (xs : List En) (nm : ByteArray) (hn : xs.length ≤ 140737488351232) : (dropR salt xs nm).1.length ≤ 441 := by
  unfold dropR
  split
  · rename_i h
    have := (right_len hn h).1
    split
    · have := List.length_filter_le (fun e => !(e.nm.toList == nm.toList)) xs
      simp only; omega
    · simp
  · simp
theorem afterR_len (salt : Nat → Byte) (xs : List En) (nm : ByteArray) (n : Int) (hn : xs.length ≤ 140737488351232) : (afterR salt xs nm n).1.length ≤ 441 := by
  unfold afterR
  split
  · rename_i h
    have := (right_len hn h).1
    split
    · simp
    · have := List.length_filter_le (aftB salt nm) xs
      simp only [List.length_take, List.length_map]
      omega
  · simp
theorem ListPost.out {R : List En × Int} {w w' : World} {r : Ending} (h : ListPost R w r w') : ∃ ad c, r = .returned (.tuple #[.slice ad R.1.length c, .int .i64 R.2]) ∧ ListE w' ad R.1.length (nthE R.1) ∧ Kept (fun _ => False) w w' := by
  obtain ⟨v, rfl, ho, k⟩ := h
  obtain ⟨ad, c, rfl, hl, _, _⟩ := OwnE.reads ho
  exact ⟨ad, c, rfl, hl, k⟩
theorem TextsPost.out {R : List ByteArray × Int} {w w' : World} {r : Ending} (h : TextsPost R w r w') : ∃ ad c, r = .returned (.tuple #[.slice ad R.1.length c, .int .i64 R.2]) ∧ ListS w' ad R.1.length (fun i => R.1.getD i ⟨#[]⟩) ∧ Kept (fun _ => False) w w' := by
  obtain ⟨v, rfl, ho, k⟩ := h
  obtain ⟨_, ad, c, rfl, hl⟩ := owns_readsS ho
  exact ⟨ad, c, rfl, hl, k⟩
theorem BytesPost.out {R : List Byte × Int} {w w' : World} {r : Ending} (h : BytesPost R w r w') : ∃ ad c, r = .returned (.tuple #[.slice ad R.1.length c, .int .i64 R.2]) ∧ BytesAt w' ad R.1.length (fun i => R.1.getD i 0#8) ∧ (ad = none → R.1.length = 0) ∧ Kept (fun _ => False) w w' := by
  obtain ⟨v, rfl, ho, k⟩ := h
  obtain ⟨ad, c, rfl, hl, hn, _⟩ := OwnL.reads ho
  exact ⟨ad, c, rfl, hl, hn, k⟩
theorem row_cells {W : World} {g : Nat} {f : Nat → Byte} (h : Row W g 22 16 f) : W.cell? ⟨g, 0, none⟩ = some (B (f 0)) ∧ W.cell? ⟨g, 1, none⟩ = some (B (f 1)) ∧ W.cell? ⟨g, 2, none⟩ = some (B (f 2)) ∧ W.cell? ⟨g, 3, none⟩ = some (B (f 3)) ∧ W.cell? ⟨g, 4, none⟩ = some (B (f 4)) ∧ W.cell? ⟨g, 5, none⟩ = some (B (f 5)) ∧ W.cell? ⟨g, 6, none⟩ = some (B (f 6)) ∧ W.cell? ⟨g, 7, none⟩ = some (B (f 7)) ∧ W.cell? ⟨g, 8, none⟩ = some (B (f 8)) ∧ W.cell? ⟨g, 9, none⟩ = some (B (f 9)) ∧ W.cell? ⟨g, 10, none⟩ = some (B (f 10)) ∧ W.cell? ⟨g, 11, none⟩ = some (B (f 11)) ∧ W.cell? ⟨g, 12, none⟩ = some (B (f 12)) ∧ W.cell? ⟨g, 13, none⟩ = some (B (f 13)) ∧ W.cell? ⟨g, 14, none⟩ = some (B (f 14)) ∧ W.cell? ⟨g, 15, none⟩ = some (B (f 15)) := by
  refine ⟨?_, ?_, ?_, ?_, ?_, ?_, ?_, ?_, ?_, ?_, ?_, ?_, ?_, ?_, ?_, ?_⟩ <;> (rw [cell_of_row W g _ _ 22 _ h]; rfl)
set_option maxRecDepth 100000 in
set_option maxHeartbeats 32000000 in
theorem dirCalls_any (salt : Nat → Byte) (a : Option Addr) (cap : Nat) (xs : List En) (nm : ByteArray) (ino n : Int) (w : World) (hk : KeysAt w) (hr : KeysRef w) (h : ListE w a xs.length (nthE xs)) (h0 : a = none → cap = 0) (hcap : xs.length ≤ cap) (hcap2 : cap * 24 ≤ 140737488351232) (hs : ∀ i, i < xs.length → (nthE xs i).nm.size ≤ 140737488351232) (h2 : nm.size ≤ 140737488351232) (hn1 : n ≤ 9223372036854775807) :
    Calls Tryd.prog 8 #[.agg (Fs 16 salt), .slice a xs.length cap, .string nm, .int .i64 ino, .int .i64 n] w fun e w' => e = .returned (.bool true) ∧ Kept (fun _ => False) w w' := by
  have hn : xs.length ≤ 140737488351232 := by omega
  obtain ⟨z, hz⟩ : ∃ z, z = rightB salt (nthE xs) xs.length := ⟨_, rfl⟩
  obtain ⟨F1, hF1⟩ : ∃ F, F = (findR salt (nthE xs) xs.length nm).1 := ⟨_, rfl⟩
  obtain ⟨F2, hF2⟩ : ∃ F, F = (findR salt (nthE xs) xs.length nm).2 := ⟨_, rfl⟩
  obtain ⟨pn, hpn⟩ : ∃ F, F = (putR salt xs nm ino).1.length := ⟨_, rfl⟩
  obtain ⟨pf, hpf⟩ : ∃ F, F = nthE (putR salt xs nm ino).1 := ⟨_, rfl⟩
  obtain ⟨pe, hpe⟩ : ∃ F, F = (putR salt xs nm ino).2 := ⟨_, rfl⟩
  obtain ⟨dn, hdn⟩ : ∃ F, F = (dropR salt xs nm).1.length := ⟨_, rfl⟩
  obtain ⟨df, hdf⟩ : ∃ F, F = nthE (dropR salt xs nm).1 := ⟨_, rfl⟩
  obtain ⟨de, hde⟩ : ∃ F, F = (dropR salt xs nm).2 := ⟨_, rfl⟩
  obtain ⟨an, han⟩ : ∃ F, F = (afterR salt xs nm n).1.length := ⟨_, rfl⟩
  obtain ⟨af, haf⟩ : ∃ F : Nat → ByteArray, F = fun i => (afterR salt xs nm n).1.getD i ⟨#[]⟩ := ⟨_, rfl⟩
  obtain ⟨ae, hae⟩ : ∃ F, F = (afterR salt xs nm n).2 := ⟨_, rfl⟩
  obtain ⟨en, hen⟩ : ∃ F, F = (encR salt xs).1.length := ⟨_, rfl⟩
  obtain ⟨ef, hef⟩ : ∃ F : Nat → Byte, F = fun i => (encR salt xs).1.getD i 0#8 := ⟨_, rfl⟩
  obtain ⟨xn, hxn⟩ : ∃ F, F = xs.length := ⟨_, rfl⟩
  obtain ⟨xf, hxf⟩ : ∃ F, F = nthE xs := ⟨_, rfl⟩
  obtain ⟨st, hst⟩ : ∃ F, F = strOf en ef := ⟨_, rfl⟩
  have bp : pn ≤ 441 := hpn ▸ putR_len salt xs nm ino hn
  have bd : dn ≤ 441 := hdn ▸ dropR_len salt xs nm hn
  have ba : an ≤ 441 := han ▸ afterR_len salt xs nm n hn
  have hzf : z = false → en = 0 := fun e => by
    rw [hen]; unfold encR; rw [← hz, e]; rfl
  have C25 := Lib.hid (show ∀ W, KeysRef W → ListE W a xn xf → Calls Tryd.prog 25 #[.agg (Fs 16 salt), .slice a xn cap] W (fun r w' => r = .returned (.bool z) ∧ Kept (fun _ => False) W w') by
    rw [hz, hxn, hxf]; exact fun W hk h => refRight_any salt a xs.length cap (nthE xs) W hk h hn hs)
  have C26 := Lib.hid (show ∀ W ad c, KeysAt W → ListE W ad xn xf → Calls Tryd.prog 26 #[.agg (Fs 16 salt), .slice ad xn c, .string nm] W (fun r w' => r = .returned (.tuple #[.int .i64 F1, .int .i64 F2]) ∧ Kept (fun _ => False) W w') by
    rw [hF1, hF2, hxn, hxf]; exact fun W ad c hk h => find_any salt ad xs.length c (nthE xs) nm W hk h hn hs h2)
  have C27 := Lib.hid (show ∀ W ad c, KeysRef W → ListE W ad xn xf → Calls Tryd.prog 27 #[.agg (Fs 16 salt), .slice ad xn c, .string nm] W (fun r w' => r = .returned (.tuple #[.int .i64 F1, .int .i64 F2]) ∧ Kept (fun _ => False) W w') by
    rw [hF1, hF2, hxn, hxf]; exact fun W ad c hk h => refFind_any salt ad xs.length c (nthE xs) nm W hk h hn hs)
  have C19 := Lib.hid (show ∀ W ad c, KeysAt W → ListE W ad xn xf → Calls Tryd.prog 19 #[.agg (Fs 16 salt), .slice ad xn c, .string nm, .int .i64 ino] W (fun r w' => ∃ ad c, r = .returned (.tuple #[.slice ad pn c, .int .i64 pe]) ∧ ListE w' ad pn pf ∧ Kept (fun _ => False) W w') by
    rw [hpn, hpf, hpe, hxn, hxf]; exact fun W ad c hk h => (put_any salt ad c xs nm ino W hk h hn hs h2).mono fun _ _ h => h.out)
  have C28 := Lib.hid (show ∀ W ad c, KeysRef W → ListE W ad xn xf → Calls Tryd.prog 28 #[.agg (Fs 16 salt), .slice ad xn c, .string nm, .int .i64 ino] W (fun r w' => ∃ ad c, r = .returned (.tuple #[.slice ad pn c, .int .i64 pe]) ∧ ListE w' ad pn pf ∧ Kept (fun _ => False) W w') by
    rw [hpn, hpf, hpe, hxn, hxf]; exact fun W ad c hk h => (refPut_any salt ad c xs nm ino W hk h hn hs).mono fun _ _ h => h.out)
  have C29 := Lib.hid (show ∀ W ad c, KeysAt W → ListE W ad xn xf → Calls Tryd.prog 29 #[.agg (Fs 16 salt), .slice ad xn c, .string nm] W (fun r w' => ∃ ad c, r = .returned (.tuple #[.slice ad dn c, .int .i64 de]) ∧ ListE w' ad dn df ∧ Kept (fun _ => False) W w') by
    rw [hdn, hdf, hde, hxn, hxf]; exact fun W ad c hk h => (drop_any salt ad c xs nm W hk h hn hs h2).mono fun _ _ h => h.out)
  have C30 := Lib.hid (show ∀ W ad c, KeysRef W → ListE W ad xn xf → Calls Tryd.prog 30 #[.agg (Fs 16 salt), .slice ad xn c, .string nm] W (fun r w' => ∃ ad c, r = .returned (.tuple #[.slice ad dn c, .int .i64 de]) ∧ ListE w' ad dn df ∧ Kept (fun _ => False) W w') by
    rw [hdn, hdf, hde, hxn, hxf]; exact fun W ad c hk h => (refDrop_any salt ad c xs nm W hk h hn hs).mono fun _ _ h => h.out)
  have C31 := Lib.hid (show ∀ W ad c, KeysAt W → ListE W ad xn xf → xn ≤ c → c ≤ maxLen → Calls Tryd.prog 31 #[.agg (Fs 16 salt), .slice ad xn c, .string nm, .int .i64 n] W (fun r w' => ∃ ad c, r = .returned (.tuple #[.slice ad an c, .int .i64 ae]) ∧ ListS w' ad an af ∧ Kept (fun _ => False) W w') by
    rw [han, haf, hae, hxn, hxf]; exact fun W ad c hk h h3 h4 => (after_any salt ad c xs nm n W hk h h3 hn (by unfold maxLen at h4; omega) hs h2 hn1).mono fun _ _ h => h.out)
  have C32 := Lib.hid (show ∀ W ad c, KeysRef W → ListE W ad xn xf → Calls Tryd.prog 32 #[.agg (Fs 16 salt), .slice ad xn c, .string nm, .int .i64 n] W (fun r w' => ∃ ad c, r = .returned (.tuple #[.slice ad an c, .int .i64 ae]) ∧ ListS w' ad an af ∧ Kept (fun _ => False) W w') by
    rw [han, haf, hae, hxn, hxf]; exact fun W ad c hk h => (refAfter_any salt ad c xs nm n W hk h hn hs h2 hn1).mono fun _ _ h => h.out)
  have C20 := Lib.hid (show ∀ W ad c, KeysAt W → ListE W ad xn xf → Calls Tryd.prog 20 #[.agg (Fs 16 salt), .slice ad xn c] W (fun r w' => ∃ ad c, r = .returned (.tuple #[.slice ad en c, .int .i64 (if z = true then 0 else 3)]) ∧ BytesAt w' ad en ef ∧ (ad = none → en = 0) ∧ Kept (fun _ => False) W w') by
    have he2 : (if z = true then (0 : Int) else 3) = (encR salt xs).2 := by unfold encR; rw [hz]; split <;> rfl
    rw [he2, hen, hef, hxn, hxf]; exact fun W ad c hk h => (encode_any salt ad c xs W hk h hn hs).mono fun _ _ h => h.out)
  have C33 := Lib.hid (show z = true → ∀ W ad c, ListE W ad xn xf → Calls Tryd.prog 33 #[.slice ad xn c] W (fun r w' => ∃ ad c, r = .returned (.slice ad en c) ∧ BytesAt w' ad en ef ∧ (ad = none → en = 0) ∧ Kept (fun _ => False) W w') by
    intro e
    have he : (encR salt xs).1 = encL xs xs.length := by unfold encR; rw [← hz, e]; rfl
    rw [hen, hef, hxn, hxf, he]
    exact fun W ad c h => (refBytes_any salt ad c xs W h hn (by rw [← hz, e])).mono fun _ _ h => by
      obtain ⟨v, rfl, ho, k⟩ := h
      obtain ⟨ad, c, rfl, hl, hn, _⟩ := OwnL.reads ho
      exact ⟨ad, c, rfl, hl, hn, k⟩)
  have C21 := Lib.hid (show ∀ W ad c, KeysAt W → ListE W ad xn xf → Calls Tryd.prog 21 #[.agg (Fs 16 salt), .slice ad xn c] W (fun r w' => r = .returned (.int .i64 (if z = true then 0 else 3)) ∧ Kept (fun _ => False) W w') by
    rw [hz, hxn, hxf]; exact fun W ad c hk h => check_any salt ad xs.length c (nthE xs) W hk h hn hs)
  obtain ⟨sz, hsz⟩ : ∃ F, F = szE (nthE xs) xs.length := ⟨_, rfl⟩
  have C18 := Lib.hid (show ∀ W ad c, ListE W ad xn xf → Calls Tryd.prog 18 #[.slice ad xn c] W (fun r w' => r = .returned (.int .i64 sz) ∧ Kept (fun _ => False) W w') by
    rw [hsz, hxn, hxf]; exact fun W ad c h => size_any ad xs.length c (nthE xs) W h hn hs)
  have C34 := Lib.hid (show ∀ W ad c, ListE W ad xn xf → Calls Tryd.prog 34 #[.slice ad xn c] W (fun r w' => r = .returned (.int .i64 sz) ∧ Kept (fun _ => False) W w') by
    rw [hsz, hxn, hxf]; exact fun W ad c h => refSize_any ad xs.length c (nthE xs) W h hn hs)
  have HAP := Lib.hid (show ∀ (W : World) (v : Value) (b : Nat), W.ownsRow b 68 2 v xs.length (flat ecl xs) → ∃ ad c, v = .slice ad xn c ∧ ListE W ad xn xf ∧ xn ≤ c ∧ c ≤ maxLen by
    rw [hxn, hxf]; exact fun W v b ho => OwnE.reads ho)
  have HL := Lib.hid h
  have H0 := Lib.hid h0
  have HST := Lib.hid hst
  have HZF := Lib.hid hzf
  have HKA := Lib.hid hk
  have HKR := Lib.hid hr
  have HXN := Lib.hid hxn
  have HXF := Lib.hid hxf
  clear hz hF1 hF2 hpn hpf hpe hdn hdf hde han haf hae hen hef hsz hst hzf h h0 hk hr hxn hxf hs h2
  go_enter Tryd.func8, Tryd.ntmps8
  go_upto_region 1 with fail
  have hS : Row (w.alloc (.cells (Fs 16 salt) 22)) w.heap.size 22 16 salt := Row.new w 22 16 salt
  have hK0 : Kept (fun _ => False) w (w.alloc (.cells (Fs 16 salt) 22)) := (Kept.refl _ w).alloc _
  have hlt : w.heap.size < (w.alloc (.cells (Fs 16 salt) 22)).heap.size := by rw [size_alloc]; omega
  generalize hw0 : w.alloc (.cells (Fs 16 salt) 22) = w0 at *
  clear hw0
  have ho0 : (w0.alloc (.cells #[] 68)).ownsRow w0.heap.size 68 2 (.slice (some ⟨w0.heap.size, 0, none⟩) 0 0) 0 [] := World.ownsRow_made w0 #[] 0 (Nat.le_refl _) (by unfold maxLen; omega) rfl
  go_upto_region 2 with (first | (refine appList rfl (.tmp 32) (.tmp 33) rfl w0.heap.size w0.heap.size (by rfl) ho0 a xs cap (by rfl) H0.out hcap (HL.out.kept (hK0.alloc _)) (by omega) (by rw [size_alloc]; omega) ?_))
  intro v1 w1 ho1 k1
  have hQ : Kept (fun _ => False) w w1 := kept_own (hK0.alloc _) hK0.size ho0 k1
  have hS1 : Row w1 w.heap.size 22 16 salt := k1.at (((Kept.refl (fun _ => False) w0).alloc _).at hS (fun h => h)) (fun h => by simp [Value.ownBlock] at h; omega)
  obtain ⟨a11, c11, rfl, hl11, hc11, hc11m⟩ := HAP.out w1 v1 _ ho1
  have HL11 := Lib.hid hl11
  replace HL := Lib.hid (show ListE w1 a xn xf by rw [HXN.out, HXF.out]; exact HL.out.kept hQ)
  replace HKA := Lib.hid (HKA.out.kept hQ)
  replace HKR := Lib.hid (HKR.out.kept hQ)
  clear k1 ho1 ho0 hS hlt hl11 HAP H0 hK0
  have hS := hS1
  clear hS1
  rw [← HXN.out] at hcap
  simp only [← HXN.out]
  clear HXN HXF
  go_wp2_with (first | (refine load_row_g rfl 22 (.tmp 5) rfl w.heap.size rfl 22 (Fs 16 salt) (0, 0) _ hS Tryd.underlying22 rfl (info22F _) ?_))
  refine (C25.out w1 HKR.out HL.out).mono ?_
  rintro r w2 ⟨rfl, k⟩
  replace hQ := hQ.trans k (fun _ _ h => h)
  replace hS : Row w2 w.heap.size 22 16 salt := k.at hS (fun h => h)
  replace HL := Lib.hid (HL.out.kept k)
  replace HL11 := Lib.hid (HL11.out.kept k)
  replace HKA := Lib.hid (HKA.out.kept k)
  replace HKR := Lib.hid (HKR.out.kept k)
  clear k
  go_wp2_with (first | (refine load_row_g rfl 22 (.tmp 5) rfl w.heap.size rfl 22 (Fs 16 salt) (0, 0) _ hS Tryd.underlying22 rfl (info22F _) ?_))
  refine (C26.out w2 a11 c11 HKA.out HL11.out).mono ?_
  rintro r w3 ⟨rfl, k⟩
  replace hQ := hQ.trans k (fun _ _ h => h)
  replace hS : Row w3 w.heap.size 22 16 salt := k.at hS (fun h => h)
  replace HL := Lib.hid (HL.out.kept k)
  replace HL11 := Lib.hid (HL11.out.kept k)
  replace HKA := Lib.hid (HKA.out.kept k)
  replace HKR := Lib.hid (HKR.out.kept k)
  clear k
  go_wp2_with (first | (refine load_row_g rfl 22 (.tmp 5) rfl w.heap.size rfl 22 (Fs 16 salt) (0, 0) _ hS Tryd.underlying22 rfl (info22F _) ?_))
  refine (C27.out w3 a cap HKR.out HL.out).mono ?_
  rintro r w4 ⟨rfl, k⟩
  replace hQ := hQ.trans k (fun _ _ h => h)
  replace hS : Row w4 w.heap.size 22 16 salt := k.at hS (fun h => h)
  replace HL := Lib.hid (HL.out.kept k)
  replace HL11 := Lib.hid (HL11.out.kept k)
  replace HKA := Lib.hid (HKA.out.kept k)
  replace HKR := Lib.hid (HKR.out.kept k)
  clear k
  go_wp2_with (first | (refine load_row_g rfl 22 (.tmp 5) rfl w.heap.size rfl 22 (Fs 16 salt) (0, 0) _ hS Tryd.underlying22 rfl (info22F _) ?_))
  refine (C19.out w4 a11 c11 HKA.out HL11.out).mono ?_
  rintro r w5 ⟨a17, c17, rfl, hx, k⟩
  replace hQ := hQ.trans k (fun _ _ h => h)
  replace hS : Row w5 w.heap.size 22 16 salt := k.at hS (fun h => h)
  replace HL := Lib.hid (HL.out.kept k)
  replace HL11 := Lib.hid (HL11.out.kept k)
  replace HKA := Lib.hid (HKA.out.kept k)
  replace HKR := Lib.hid (HKR.out.kept k)
  have HL17 := Lib.hid hx
  clear k hx
  go_wp2_with (first | (refine load_row_g rfl 22 (.tmp 5) rfl w.heap.size rfl 22 (Fs 16 salt) (0, 0) _ hS Tryd.underlying22 rfl (info22F _) ?_))
  refine (C28.out w5 a cap HKR.out HL.out).mono ?_
  rintro r w6 ⟨a19, c19, rfl, hx, k⟩
  replace hQ := hQ.trans k (fun _ _ h => h)
  replace hS : Row w6 w.heap.size 22 16 salt := k.at hS (fun h => h)
  replace HL := Lib.hid (HL.out.kept k)
  replace HL11 := Lib.hid (HL11.out.kept k)
  replace HKA := Lib.hid (HKA.out.kept k)
  replace HKR := Lib.hid (HKR.out.kept k)
  replace HL17 := Lib.hid (HL17.out.kept k)
  have HL19 := Lib.hid hx
  clear k hx
  go_wp2_with (first | (refine load_row_g rfl 22 (.tmp 5) rfl w.heap.size rfl 22 (Fs 16 salt) (0, 0) _ hS Tryd.underlying22 rfl (info22F _) ?_))
  refine (C29.out w6 a11 c11 HKA.out HL11.out).mono ?_
  rintro r w7 ⟨a21, c21, rfl, hx, k⟩
  replace hQ := hQ.trans k (fun _ _ h => h)
  replace hS : Row w7 w.heap.size 22 16 salt := k.at hS (fun h => h)
  replace HL := Lib.hid (HL.out.kept k)
  replace HL11 := Lib.hid (HL11.out.kept k)
  replace HKA := Lib.hid (HKA.out.kept k)
  replace HKR := Lib.hid (HKR.out.kept k)
  replace HL17 := Lib.hid (HL17.out.kept k)
  replace HL19 := Lib.hid (HL19.out.kept k)
  have HL21 := Lib.hid hx
  clear k hx
  go_wp2_with (first | (refine load_row_g rfl 22 (.tmp 5) rfl w.heap.size rfl 22 (Fs 16 salt) (0, 0) _ hS Tryd.underlying22 rfl (info22F _) ?_))
  refine (C30.out w7 a cap HKR.out HL.out).mono ?_
  rintro r w8 ⟨a23, c23, rfl, hx, k⟩
  replace hQ := hQ.trans k (fun _ _ h => h)
  replace hS : Row w8 w.heap.size 22 16 salt := k.at hS (fun h => h)
  replace HL := Lib.hid (HL.out.kept k)
  replace HL11 := Lib.hid (HL11.out.kept k)
  replace HKA := Lib.hid (HKA.out.kept k)
  replace HKR := Lib.hid (HKR.out.kept k)
  replace HL17 := Lib.hid (HL17.out.kept k)
  replace HL19 := Lib.hid (HL19.out.kept k)
  replace HL21 := Lib.hid (HL21.out.kept k)
  have HL23 := Lib.hid hx
  clear k hx
  go_wp2_with (first | (refine load_row_g rfl 22 (.tmp 5) rfl w.heap.size rfl 22 (Fs 16 salt) (0, 0) _ hS Tryd.underlying22 rfl (info22F _) ?_))
  refine (C31.out w8 a11 c11 HKA.out HL11.out hc11 hc11m).mono ?_
  rintro r w9 ⟨a25, c25, rfl, hx, k⟩
  replace hQ := hQ.trans k (fun _ _ h => h)
  replace hS : Row w9 w.heap.size 22 16 salt := k.at hS (fun h => h)
  replace HL := Lib.hid (HL.out.kept k)
  replace HL11 := Lib.hid (HL11.out.kept k)
  replace HKA := Lib.hid (HKA.out.kept k)
  replace HKR := Lib.hid (HKR.out.kept k)
  replace HL17 := Lib.hid (HL17.out.kept k)
  replace HL19 := Lib.hid (HL19.out.kept k)
  replace HL21 := Lib.hid (HL21.out.kept k)
  replace HL23 := Lib.hid (HL23.out.kept k)
  have HL25 := Lib.hid hx
  clear k hx
  go_wp2_with (first | (refine load_row_g rfl 22 (.tmp 5) rfl w.heap.size rfl 22 (Fs 16 salt) (0, 0) _ hS Tryd.underlying22 rfl (info22F _) ?_))
  refine (C32.out w9 a cap HKR.out HL.out).mono ?_
  rintro r w10 ⟨a27, c27, rfl, hx, k⟩
  replace hQ := hQ.trans k (fun _ _ h => h)
  replace hS : Row w10 w.heap.size 22 16 salt := k.at hS (fun h => h)
  replace HL := Lib.hid (HL.out.kept k)
  replace HL11 := Lib.hid (HL11.out.kept k)
  replace HKA := Lib.hid (HKA.out.kept k)
  replace HKR := Lib.hid (HKR.out.kept k)
  replace HL17 := Lib.hid (HL17.out.kept k)
  replace HL19 := Lib.hid (HL19.out.kept k)
  replace HL21 := Lib.hid (HL21.out.kept k)
  replace HL23 := Lib.hid (HL23.out.kept k)
  replace HL25 := Lib.hid (HL25.out.kept k)
  have HL27 := Lib.hid hx
  clear k hx
  go_wp2_with (first | (refine load_row_g rfl 22 (.tmp 5) rfl w.heap.size rfl 22 (Fs 16 salt) (0, 0) _ hS Tryd.underlying22 rfl (info22F _) ?_))
  refine (C20.out w10 a11 c11 HKA.out HL11.out).mono ?_
  rintro r w11 ⟨a29, c29, rfl, hx, hx0, k⟩
  replace hQ := hQ.trans k (fun _ _ h => h)
  replace hS : Row w11 w.heap.size 22 16 salt := k.at hS (fun h => h)
  replace HL := Lib.hid (HL.out.kept k)
  replace HL11 := Lib.hid (HL11.out.kept k)
  replace HKA := Lib.hid (HKA.out.kept k)
  replace HKR := Lib.hid (HKR.out.kept k)
  replace HL17 := Lib.hid (HL17.out.kept k)
  replace HL19 := Lib.hid (HL19.out.kept k)
  replace HL21 := Lib.hid (HL21.out.kept k)
  replace HL23 := Lib.hid (HL23.out.kept k)
  replace HL25 := Lib.hid (HL25.out.kept k)
  replace HL27 := Lib.hid (HL27.out.kept k)
  have HL29 := Lib.hid hx
  clear k hx
  have HN29 := Lib.hid hx0
  clear hx0 C25 C26 C27 C19 C28 C29 C30 C31 C32 C20
  have hxn2 : xn ≤ 140737488351232 := by omega
  cases z with
  | false =>
    have hst := HST.out
    rw [HZF.out (by trivial), show strOf 0 ef = ⟨#[]⟩ from rfl] at hst
    clear HZF C33
    subst hst
    go_wp2_with (first | (refine load_row_g rfl 22 (.tmp 5) rfl w.heap.size rfl 22 (Fs 16 salt) (0, 0) _ hS Tryd.underlying22 rfl (info22F _) ?_))
    refine (dirFixed_any w11 HKA.out).mono ?_
    rintro r w12 ⟨rfl, k⟩
    replace hQ := hQ.trans k (fun _ _ h => h)
    replace hS : Row w12 w.heap.size 22 16 salt := k.at hS (fun h => h)
    replace HL := Lib.hid (HL.out.kept k)
    replace HL11 := Lib.hid (HL11.out.kept k)
    replace HKA := Lib.hid (HKA.out.kept k)
    replace HKR := Lib.hid (HKR.out.kept k)
    replace HL17 := Lib.hid (HL17.out.kept k)
    replace HL19 := Lib.hid (HL19.out.kept k)
    replace HL21 := Lib.hid (HL21.out.kept k)
    replace HL23 := Lib.hid (HL23.out.kept k)
    replace HL25 := Lib.hid (HL25.out.kept k)
    replace HL27 := Lib.hid (HL27.out.kept k)
    replace HL29 := Lib.hid (HL29.out.kept k)
    clear k
    obtain ⟨z0, z1, z2, z3, z4, z5, z6, z7, z8, z9, z10, z11, z12, z13, z14, z15⟩ := row_cells hS
    go_wp2_with (first | (refine load_row_g rfl 22 (.tmp 5) rfl w.heap.size rfl 22 (Fs 16 salt) (0, 0) _ hS Tryd.underlying22 rfl (info22F _) ?_))
    refine (C21.out w12 a11 c11 HKA.out HL11.out).mono ?_
    rintro r w13 ⟨rfl, k⟩
    replace hQ := hQ.trans k (fun _ _ h => h)
    replace hS : Row w13 w.heap.size 22 16 salt := k.at hS (fun h => h)
    replace HL := Lib.hid (HL.out.kept k)
    replace HL11 := Lib.hid (HL11.out.kept k)
    replace HKA := Lib.hid (HKA.out.kept k)
    replace HKR := Lib.hid (HKR.out.kept k)
    replace HL17 := Lib.hid (HL17.out.kept k)
    replace HL19 := Lib.hid (HL19.out.kept k)
    replace HL21 := Lib.hid (HL21.out.kept k)
    replace HL23 := Lib.hid (HL23.out.kept k)
    replace HL25 := Lib.hid (HL25.out.kept k)
    replace HL27 := Lib.hid (HL27.out.kept k)
    replace HL29 := Lib.hid (HL29.out.kept k)
    clear k
    clear z0 z1 z2 z3 z4 z5 z6 z7 z8 z9 z10 z11 z12 z13 z14 z15
    go_wp2_with (first | (refine load_row_g rfl 22 (.tmp 5) rfl w.heap.size rfl 22 (Fs 16 salt) (0, 0) _ hS Tryd.underlying22 rfl (info22F _) ?_))
    refine (C18.out w13 a11 c11 HL11.out).mono ?_
    rintro r w14 ⟨rfl, k⟩
    replace hQ := hQ.trans k (fun _ _ h => h)
    replace hS : Row w14 w.heap.size 22 16 salt := k.at hS (fun h => h)
    replace HL := Lib.hid (HL.out.kept k)
    replace HL11 := Lib.hid (HL11.out.kept k)
    replace HKA := Lib.hid (HKA.out.kept k)
    replace HKR := Lib.hid (HKR.out.kept k)
    replace HL17 := Lib.hid (HL17.out.kept k)
    replace HL19 := Lib.hid (HL19.out.kept k)
    replace HL21 := Lib.hid (HL21.out.kept k)
    replace HL23 := Lib.hid (HL23.out.kept k)
    replace HL25 := Lib.hid (HL25.out.kept k)
    replace HL27 := Lib.hid (HL27.out.kept k)
    replace HL29 := Lib.hid (HL29.out.kept k)
    clear k
    go_wp2_with (first | (refine load_row_g rfl 22 (.tmp 5) rfl w.heap.size rfl 22 (Fs 16 salt) (0, 0) _ hS Tryd.underlying22 rfl (info22F _) ?_))
    refine (C34.out w14 a cap HL.out).mono ?_
    rintro r w15 ⟨rfl, k⟩
    replace hQ := hQ.trans k (fun _ _ h => h)
    replace hS : Row w15 w.heap.size 22 16 salt := k.at hS (fun h => h)
    replace HL := Lib.hid (HL.out.kept k)
    replace HL11 := Lib.hid (HL11.out.kept k)
    replace HKA := Lib.hid (HKA.out.kept k)
    replace HKR := Lib.hid (HKR.out.kept k)
    replace HL17 := Lib.hid (HL17.out.kept k)
    replace HL19 := Lib.hid (HL19.out.kept k)
    replace HL21 := Lib.hid (HL21.out.kept k)
    replace HL23 := Lib.hid (HL23.out.kept k)
    replace HL25 := Lib.hid (HL25.out.kept k)
    replace HL27 := Lib.hid (HL27.out.kept k)
    replace HL29 := Lib.hid (HL29.out.kept k)
    clear k
    go_wp2_with (first | (refine load_row_g rfl 22 (.tmp 5) rfl w.heap.size rfl 22 (Fs 16 salt) (0, 0) _ hS Tryd.underlying22 rfl (info22F _) ?_))
    refine (same_any a17 a19 pn c17 c19 pf w15 HL17.out HL19.out (by omega)).mono ?_
    rintro r w16 ⟨rfl, k⟩
    replace hQ := hQ.trans k (fun _ _ h => h)
    replace hS : Row w16 w.heap.size 22 16 salt := k.at hS (fun h => h)
    replace HL := Lib.hid (HL.out.kept k)
    replace HL11 := Lib.hid (HL11.out.kept k)
    replace HKA := Lib.hid (HKA.out.kept k)
    replace HKR := Lib.hid (HKR.out.kept k)
    replace HL17 := Lib.hid (HL17.out.kept k)
    replace HL19 := Lib.hid (HL19.out.kept k)
    replace HL21 := Lib.hid (HL21.out.kept k)
    replace HL23 := Lib.hid (HL23.out.kept k)
    replace HL25 := Lib.hid (HL25.out.kept k)
    replace HL27 := Lib.hid (HL27.out.kept k)
    replace HL29 := Lib.hid (HL29.out.kept k)
    clear k
    go_wp2_with (first | (refine load_row_g rfl 22 (.tmp 5) rfl w.heap.size rfl 22 (Fs 16 salt) (0, 0) _ hS Tryd.underlying22 rfl (info22F _) ?_))
    refine (same_any a21 a23 dn c21 c23 df w16 HL21.out HL23.out (by omega)).mono ?_
    rintro r w17 ⟨rfl, k⟩
    replace hQ := hQ.trans k (fun _ _ h => h)
    replace hS : Row w17 w.heap.size 22 16 salt := k.at hS (fun h => h)
    replace HL := Lib.hid (HL.out.kept k)
    replace HL11 := Lib.hid (HL11.out.kept k)
    replace HKA := Lib.hid (HKA.out.kept k)
    replace HKR := Lib.hid (HKR.out.kept k)
    replace HL17 := Lib.hid (HL17.out.kept k)
    replace HL19 := Lib.hid (HL19.out.kept k)
    replace HL21 := Lib.hid (HL21.out.kept k)
    replace HL23 := Lib.hid (HL23.out.kept k)
    replace HL25 := Lib.hid (HL25.out.kept k)
    replace HL27 := Lib.hid (HL27.out.kept k)
    replace HL29 := Lib.hid (HL29.out.kept k)
    clear k
    go_wp2_with (first | (refine load_row_g rfl 22 (.tmp 5) rfl w.heap.size rfl 22 (Fs 16 salt) (0, 0) _ hS Tryd.underlying22 rfl (info22F _) ?_))
    refine (texts_any a25 a27 an c25 c27 af w17 HL25.out HL27.out (by omega)).mono ?_
    rintro r w18 ⟨rfl, k⟩
    replace hQ := hQ.trans k (fun _ _ h => h)
    replace hS : Row w18 w.heap.size 22 16 salt := k.at hS (fun h => h)
    replace HL := Lib.hid (HL.out.kept k)
    replace HL11 := Lib.hid (HL11.out.kept k)
    replace HKA := Lib.hid (HKA.out.kept k)
    replace HKR := Lib.hid (HKR.out.kept k)
    replace HL17 := Lib.hid (HL17.out.kept k)
    replace HL19 := Lib.hid (HL19.out.kept k)
    replace HL21 := Lib.hid (HL21.out.kept k)
    replace HL23 := Lib.hid (HL23.out.kept k)
    replace HL25 := Lib.hid (HL25.out.kept k)
    replace HL27 := Lib.hid (HL27.out.kept k)
    replace HL29 := Lib.hid (HL29.out.kept k)
    clear k
    have hcv := conv_str w18 37 9 5 a29 en c29 ef Tryd.underlying37 Tryd.underlying5 Tryd.underlying9 HL29.out HN29.out
    rw [← HST.out] at hcv
    go_wp2_with (first | (refine load_row_g rfl 22 (.tmp 5) rfl w.heap.size rfl 22 (Fs 16 salt) (0, 0) _ hS Tryd.underlying22 rfl (info22F _) ?_))
    refine (same_any a11 a xn c11 cap xf w18 HL11.out HL.out (by omega)).mono ?_
    rintro r w19 ⟨rfl, k⟩
    replace hQ := hQ.trans k (fun _ _ h => h)
    replace hS : Row w19 w.heap.size 22 16 salt := k.at hS (fun h => h)
    replace HL := Lib.hid (HL.out.kept k)
    replace HL11 := Lib.hid (HL11.out.kept k)
    replace HKA := Lib.hid (HKA.out.kept k)
    replace HKR := Lib.hid (HKR.out.kept k)
    replace HL17 := Lib.hid (HL17.out.kept k)
    replace HL19 := Lib.hid (HL19.out.kept k)
    replace HL21 := Lib.hid (HL21.out.kept k)
    replace HL23 := Lib.hid (HL23.out.kept k)
    replace HL25 := Lib.hid (HL25.out.kept k)
    replace HL27 := Lib.hid (HL27.out.kept k)
    replace HL29 := Lib.hid (HL29.out.kept k)
    clear k
    clear hcv
    go_wp2_with fail
    go_ret
    exact ⟨by first | rfl | simp, hQ⟩
  | true =>
    go_wp2_with (first | (refine load_row_g rfl 22 (.tmp 5) rfl w.heap.size rfl 22 (Fs 16 salt) (0, 0) _ hS Tryd.underlying22 rfl (info22F _) ?_))
    refine (C33.out (by trivial) w11 a cap HL.out).mono ?_
    rintro r w12 ⟨a31, c31, rfl, hx, hx0, k⟩
    replace hQ := hQ.trans k (fun _ _ h => h)
    replace hS : Row w12 w.heap.size 22 16 salt := k.at hS (fun h => h)
    replace HL := Lib.hid (HL.out.kept k)
    replace HL11 := Lib.hid (HL11.out.kept k)
    replace HKA := Lib.hid (HKA.out.kept k)
    replace HKR := Lib.hid (HKR.out.kept k)
    replace HL17 := Lib.hid (HL17.out.kept k)
    replace HL19 := Lib.hid (HL19.out.kept k)
    replace HL21 := Lib.hid (HL21.out.kept k)
    replace HL23 := Lib.hid (HL23.out.kept k)
    replace HL25 := Lib.hid (HL25.out.kept k)
    replace HL27 := Lib.hid (HL27.out.kept k)
    replace HL29 := Lib.hid (HL29.out.kept k)
    clear k
    have hcv := conv_str w12 37 9 5 a31 en c31 ef Tryd.underlying37 Tryd.underlying5 Tryd.underlying9 hx hx0
    rw [← HST.out] at hcv
    clear hx hx0 C33 HZF
    go_upto_region 15 with fail
    clear hcv
    go_wp2_with (first | (refine load_row_g rfl 22 (.tmp 5) rfl w.heap.size rfl 22 (Fs 16 salt) (0, 0) _ hS Tryd.underlying22 rfl (info22F _) ?_))
    refine (dirFixed_any w12 HKA.out).mono ?_
    rintro r w13 ⟨rfl, k⟩
    replace hQ := hQ.trans k (fun _ _ h => h)
    replace hS : Row w13 w.heap.size 22 16 salt := k.at hS (fun h => h)
    replace HL := Lib.hid (HL.out.kept k)
    replace HL11 := Lib.hid (HL11.out.kept k)
    replace HKA := Lib.hid (HKA.out.kept k)
    replace HKR := Lib.hid (HKR.out.kept k)
    replace HL17 := Lib.hid (HL17.out.kept k)
    replace HL19 := Lib.hid (HL19.out.kept k)
    replace HL21 := Lib.hid (HL21.out.kept k)
    replace HL23 := Lib.hid (HL23.out.kept k)
    replace HL25 := Lib.hid (HL25.out.kept k)
    replace HL27 := Lib.hid (HL27.out.kept k)
    replace HL29 := Lib.hid (HL29.out.kept k)
    clear k
    obtain ⟨z0, z1, z2, z3, z4, z5, z6, z7, z8, z9, z10, z11, z12, z13, z14, z15⟩ := row_cells hS
    go_wp2_with (first | (refine load_row_g rfl 22 (.tmp 5) rfl w.heap.size rfl 22 (Fs 16 salt) (0, 0) _ hS Tryd.underlying22 rfl (info22F _) ?_))
    refine (C21.out w13 a11 c11 HKA.out HL11.out).mono ?_
    rintro r w14 ⟨rfl, k⟩
    replace hQ := hQ.trans k (fun _ _ h => h)
    replace hS : Row w14 w.heap.size 22 16 salt := k.at hS (fun h => h)
    replace HL := Lib.hid (HL.out.kept k)
    replace HL11 := Lib.hid (HL11.out.kept k)
    replace HKA := Lib.hid (HKA.out.kept k)
    replace HKR := Lib.hid (HKR.out.kept k)
    replace HL17 := Lib.hid (HL17.out.kept k)
    replace HL19 := Lib.hid (HL19.out.kept k)
    replace HL21 := Lib.hid (HL21.out.kept k)
    replace HL23 := Lib.hid (HL23.out.kept k)
    replace HL25 := Lib.hid (HL25.out.kept k)
    replace HL27 := Lib.hid (HL27.out.kept k)
    replace HL29 := Lib.hid (HL29.out.kept k)
    clear k
    clear z0 z1 z2 z3 z4 z5 z6 z7 z8 z9 z10 z11 z12 z13 z14 z15
    go_wp2_with (first | (refine load_row_g rfl 22 (.tmp 5) rfl w.heap.size rfl 22 (Fs 16 salt) (0, 0) _ hS Tryd.underlying22 rfl (info22F _) ?_))
    refine (C18.out w14 a11 c11 HL11.out).mono ?_
    rintro r w15 ⟨rfl, k⟩
    replace hQ := hQ.trans k (fun _ _ h => h)
    replace hS : Row w15 w.heap.size 22 16 salt := k.at hS (fun h => h)
    replace HL := Lib.hid (HL.out.kept k)
    replace HL11 := Lib.hid (HL11.out.kept k)
    replace HKA := Lib.hid (HKA.out.kept k)
    replace HKR := Lib.hid (HKR.out.kept k)
    replace HL17 := Lib.hid (HL17.out.kept k)
    replace HL19 := Lib.hid (HL19.out.kept k)
    replace HL21 := Lib.hid (HL21.out.kept k)
    replace HL23 := Lib.hid (HL23.out.kept k)
    replace HL25 := Lib.hid (HL25.out.kept k)
    replace HL27 := Lib.hid (HL27.out.kept k)
    replace HL29 := Lib.hid (HL29.out.kept k)
    clear k
    go_wp2_with (first | (refine load_row_g rfl 22 (.tmp 5) rfl w.heap.size rfl 22 (Fs 16 salt) (0, 0) _ hS Tryd.underlying22 rfl (info22F _) ?_))
    refine (C34.out w15 a cap HL.out).mono ?_
    rintro r w16 ⟨rfl, k⟩
    replace hQ := hQ.trans k (fun _ _ h => h)
    replace hS : Row w16 w.heap.size 22 16 salt := k.at hS (fun h => h)
    replace HL := Lib.hid (HL.out.kept k)
    replace HL11 := Lib.hid (HL11.out.kept k)
    replace HKA := Lib.hid (HKA.out.kept k)
    replace HKR := Lib.hid (HKR.out.kept k)
    replace HL17 := Lib.hid (HL17.out.kept k)
    replace HL19 := Lib.hid (HL19.out.kept k)
    replace HL21 := Lib.hid (HL21.out.kept k)
    replace HL23 := Lib.hid (HL23.out.kept k)
    replace HL25 := Lib.hid (HL25.out.kept k)
    replace HL27 := Lib.hid (HL27.out.kept k)
    replace HL29 := Lib.hid (HL29.out.kept k)
    clear k
    go_wp2_with (first | (refine load_row_g rfl 22 (.tmp 5) rfl w.heap.size rfl 22 (Fs 16 salt) (0, 0) _ hS Tryd.underlying22 rfl (info22F _) ?_))
    refine (same_any a17 a19 pn c17 c19 pf w16 HL17.out HL19.out (by omega)).mono ?_
    rintro r w17 ⟨rfl, k⟩
    replace hQ := hQ.trans k (fun _ _ h => h)
    replace hS : Row w17 w.heap.size 22 16 salt := k.at hS (fun h => h)
    replace HL := Lib.hid (HL.out.kept k)
    replace HL11 := Lib.hid (HL11.out.kept k)
    replace HKA := Lib.hid (HKA.out.kept k)
    replace HKR := Lib.hid (HKR.out.kept k)
    replace HL17 := Lib.hid (HL17.out.kept k)
    replace HL19 := Lib.hid (HL19.out.kept k)
    replace HL21 := Lib.hid (HL21.out.kept k)
    replace HL23 := Lib.hid (HL23.out.kept k)
    replace HL25 := Lib.hid (HL25.out.kept k)
    replace HL27 := Lib.hid (HL27.out.kept k)
    replace HL29 := Lib.hid (HL29.out.kept k)
    clear k
    go_wp2_with (first | (refine load_row_g rfl 22 (.tmp 5) rfl w.heap.size rfl 22 (Fs 16 salt) (0, 0) _ hS Tryd.underlying22 rfl (info22F _) ?_))
    refine (same_any a21 a23 dn c21 c23 df w17 HL21.out HL23.out (by omega)).mono ?_
    rintro r w18 ⟨rfl, k⟩
    replace hQ := hQ.trans k (fun _ _ h => h)
    replace hS : Row w18 w.heap.size 22 16 salt := k.at hS (fun h => h)
    replace HL := Lib.hid (HL.out.kept k)
    replace HL11 := Lib.hid (HL11.out.kept k)
    replace HKA := Lib.hid (HKA.out.kept k)
    replace HKR := Lib.hid (HKR.out.kept k)
    replace HL17 := Lib.hid (HL17.out.kept k)
    replace HL19 := Lib.hid (HL19.out.kept k)
    replace HL21 := Lib.hid (HL21.out.kept k)
    replace HL23 := Lib.hid (HL23.out.kept k)
    replace HL25 := Lib.hid (HL25.out.kept k)
    replace HL27 := Lib.hid (HL27.out.kept k)
    replace HL29 := Lib.hid (HL29.out.kept k)
    clear k
    go_wp2_with (first | (refine load_row_g rfl 22 (.tmp 5) rfl w.heap.size rfl 22 (Fs 16 salt) (0, 0) _ hS Tryd.underlying22 rfl (info22F _) ?_))
    refine (texts_any a25 a27 an c25 c27 af w18 HL25.out HL27.out (by omega)).mono ?_
    rintro r w19 ⟨rfl, k⟩
    replace hQ := hQ.trans k (fun _ _ h => h)
    replace hS : Row w19 w.heap.size 22 16 salt := k.at hS (fun h => h)
    replace HL := Lib.hid (HL.out.kept k)
    replace HL11 := Lib.hid (HL11.out.kept k)
    replace HKA := Lib.hid (HKA.out.kept k)
    replace HKR := Lib.hid (HKR.out.kept k)
    replace HL17 := Lib.hid (HL17.out.kept k)
    replace HL19 := Lib.hid (HL19.out.kept k)
    replace HL21 := Lib.hid (HL21.out.kept k)
    replace HL23 := Lib.hid (HL23.out.kept k)
    replace HL25 := Lib.hid (HL25.out.kept k)
    replace HL27 := Lib.hid (HL27.out.kept k)
    replace HL29 := Lib.hid (HL29.out.kept k)
    clear k
    have hcv := conv_str w19 37 9 5 a29 en c29 ef Tryd.underlying37 Tryd.underlying5 Tryd.underlying9 HL29.out HN29.out
    rw [← HST.out] at hcv
    go_wp2_with (first | (refine load_row_g rfl 22 (.tmp 5) rfl w.heap.size rfl 22 (Fs 16 salt) (0, 0) _ hS Tryd.underlying22 rfl (info22F _) ?_))
    refine (same_any a11 a xn c11 cap xf w19 HL11.out HL.out (by omega)).mono ?_
    rintro r w20 ⟨rfl, k⟩
    replace hQ := hQ.trans k (fun _ _ h => h)
    replace hS : Row w20 w.heap.size 22 16 salt := k.at hS (fun h => h)
    replace HL := Lib.hid (HL.out.kept k)
    replace HL11 := Lib.hid (HL11.out.kept k)
    replace HKA := Lib.hid (HKA.out.kept k)
    replace HKR := Lib.hid (HKR.out.kept k)
    replace HL17 := Lib.hid (HL17.out.kept k)
    replace HL19 := Lib.hid (HL19.out.kept k)
    replace HL21 := Lib.hid (HL21.out.kept k)
    replace HL23 := Lib.hid (HL23.out.kept k)
    replace HL25 := Lib.hid (HL25.out.kept k)
    replace HL27 := Lib.hid (HL27.out.kept k)
    replace HL29 := Lib.hid (HL29.out.kept k)
    clear k
    clear hcv
    go_wp2_with fail
    go_ret
    exact ⟨by first | rfl | simp, hQ⟩
end Go.Proofs.YtpekibadleghbaaDoor
