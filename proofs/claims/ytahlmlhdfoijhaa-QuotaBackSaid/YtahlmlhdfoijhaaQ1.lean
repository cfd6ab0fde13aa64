/-
  Lists of usages, and the walks that only read them.
-/
import Derived.Test.YtahlmlhdfoijhaaQ0
import Derived.StillTailTactics
namespace Go.Proofs.Ytahlmlhdfoijhaa
open Go.RowKit
/-- A usage lies at p of block g. -/
structure UAt (w : World) (g p : Nat) (u : U) : Prop where
  c0 : w.cell? ⟨g, p, none⟩ = some (.int .i64 u.uid)
  c1 : w.cell? ⟨g, p + 1, none⟩ = some (.int .i64 u.bl)
  c2 : w.cell? ⟨g, p + 2, none⟩ = some (.int .i64 u.ino)
  c3 : w.cell? ⟨g, p + 3, none⟩ = some (.int .i64 u.mb)
  c4 : w.cell? ⟨g, p + 4, none⟩ = some (.int .i64 u.mi)
def ListAt (w : World) (a : Option Addr) (len : Nat) (f : Nat → U) : Prop := len = 0 ∨ ∃ g o, a = some ⟨g, o, none⟩ ∧ ∀ i, i < len → UAt w g (o + i * 5) (f i)
theorem Kept.cell {w w' : World} (h : Kept (fun _ => False) w w') {p : Addr} {v : Value} (hc : w.cell? p = some v) : w'.cell? p = some v := by
  have hb := block_lt_of_cell hc
  have := h.block p.block hb (fun h => h)
  rw [World.cell?_of_block (w := w) this]; exact hc
theorem UAt.kept {w w' : World} {g p : Nat} {u : U} (h : UAt w g p u) (k : Kept (fun _ => False) w w') : UAt w' g p u := ⟨k.cell h.c0, k.cell h.c1, k.cell h.c2, k.cell h.c3, k.cell h.c4⟩
theorem ListAt.kept {w w' : World} {a : Option Addr} {len : Nat} {f : Nat → U} (h : ListAt w a len f) (k : Kept (fun _ => False) w w') : ListAt w' a len f := by
  rcases h with h | ⟨g, o, ha, hc⟩
  · exact .inl h
  · exact .inr ⟨g, o, ha, fun i hi => (hc i hi).kept k⟩
theorem if5 {α : Type} (u v : U) (x y : α) (h : u ≠ v) : (if u.uid = v.uid then if u.bl = v.bl then if u.ino = v.ino then if u.mb = v.mb then if u.mi = v.mi then x else y else y else y else y else y) = y := by
  split
  · split
    · split
      · split
        · split
          · exact absurd (by cases u; cases v; simp_all) h
          · rfl
        · rfl
      · rfl
    · rfl
  · rfl
def sameB (la lb : Nat) (f g : Nat → U) : Bool := decide (la = lb ∧ ∀ i, i < la → f i = g i)
set_option maxHeartbeats 1000000 in
theorem same_any (a b : Option Addr) (la ca lb cb : Nat) (f g : Nat → U) (w : World) (ha : ListAt w a la f) (hb : ListAt w b lb g) (hla : la ≤ 140737488351232) :
    Calls Try.prog 11 #[.slice a la ca, .slice b lb cb] w fun r w' => r = .returned (.bool (sameB la lb f g)) ∧ Kept (fun _ => False) w w' := by
  by_cases hl : la = lb
  · subst hl
    go_enter Try.func11, Try.ntmps11
    go_wp2_with fail
    go_loopg [13] (la + 1) (fun k i wr => ∃ n : Nat, n + k = la + 1 ∧ n ≤ la ∧ i = .int .i64 (n : Int) ∧ (∀ i, i < n → f i = g i) ∧ Kept (fun _ => False) w wr)
    case atStart => exact ⟨0, by omega, by omega, rfl, fun i hi => by omega, Kept.refl _ w⟩
    case round =>
      obtain ⟨n, hn, hnl, rfl, he, hK⟩ := hrel
      have Hn := Lib.hid hn
      have He := Lib.hid he
      clear hn he
      by_cases hlt : n < la
      · have q : (n : Int) < la := by omega
        have qa : (la : Int) ≤ 140737488351232 := by omega
        obtain ⟨ga, oa, rfl, hca⟩ := ha.resolve_left (by omega)
        obtain ⟨gb, ob, rfl, hcb⟩ := hb.resolve_left (by omega)
        obtain ⟨a0, a1, a2, a3, a4⟩ := (hca n hlt).kept hK
        obtain ⟨b0, b1, b2, b3, b4⟩ := (hcb n hlt).kept hK
        by_cases hu : f n = g n
        · rw [← hu] at b0 b1 b2 b3 b4
          have HU := Lib.hid hu
          clear hu
          go_wp2_with fail
          refine region_still (by kernel_rfl) (by kernel_rfl) ?_
          repeat (refine wpStill_step (fun K hK => ?_); go_simp; (try go_bits); refine hK _ ?_; clear hK K)
          refine wpStill_nil ?_
          go_wp2_with fail
          go_roundg (gk - 1)
          case measure => have := Hn.out; omega
          case rel =>
            have := Hn.out
            refine ⟨n + 1, by omega, by omega, by go_num, fun i hi => ?_, hK.drew⟩
            by_cases h : i = n
            · rw [h]; exact HU.out
            · exact He.out i (by omega)
        · go_wp2_with fail
          refine region_still (by kernel_rfl) (by kernel_rfl) ?_
          repeat (refine wpStill_step (fun K hK => ?_); go_simp; (try go_bits); refine hK _ ?_; clear hK K)
          refine wpStill_step (fun K hK => ?_)
          go_simp
          rw [if5 _ _ _ _ hu]
          refine ⟨rfl, hK _ ?_⟩
          clear hK K
          refine wpStill_nil ?_
          go_wp2_with fail
          go_ret
          exact ⟨by rw [show sameB la la f g = false from decide_eq_false (fun h : (la = la ∧ ∀ i, i < la → f i = g i) => hu (h.2 n hlt))]; rfl, hK.drew⟩
      · have q : (la : Int) ≤ n := by omega
        go_wp2_with fail
        go_ret
        exact ⟨by rw [show sameB la la f g = true from decide_eq_true (show la = la ∧ ∀ i, i < la → f i = g i from ⟨rfl, fun i hi => He.out i (by omega)⟩)]; rfl, hK⟩
  · go_enter Try.func11, Try.ntmps11
    have h2 : ¬ (la : Int) = lb := by omega
    go_wp2_with fail
    go_ret
    exact ⟨by rw [show sameB la lb f g = false from decide_eq_false (fun h => hl h.1)]; rfl, Kept.refl _ w⟩
end Go.Proofs.Ytahlmlhdfoijhaa
