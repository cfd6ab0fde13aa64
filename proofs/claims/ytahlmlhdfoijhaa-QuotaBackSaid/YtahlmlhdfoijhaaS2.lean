/-
  slices.IndexFunc with the closure that knows an owner.
-/
import Derived.Test.YtahlmlhdfoijhaaS1
namespace Go.Proofs.Ytahlmlhdfoijhaa
open Go.RowKit
def IdxPost (f : Nat → U) (n : Nat) (uid : Int) (w : World) (r : Ending) (w' : World) : Prop :=
  ((∃ i : Nat, i < n ∧ (f i).uid = uid ∧ (∀ j, j < i → (f j).uid ≠ uid) ∧ r = .returned (.int .i64 i)) ∨ ((∀ j, j < n → (f j).uid ≠ uid) ∧ r = .returned (.int .i64 (-1)))) ∧ Kept (fun _ => False) w w'
theorem RowV.kept {S : Nat → Prop} {w w' : World} {g : Nat} {t : TypeId} {cs : Array Value} (h : RowV w g t cs) (k : Kept S w w') (hn : ¬ S g) : RowV w' g t cs := k.at h hn
set_option maxHeartbeats 1000000 in
theorem index_any (a : Option Addr) (la ca : Nat) (f : Nat → U) (u : U) (gb : Nat) (w : World) (ha : ListAt w a la f) (hla : la ≤ 140737488351232) (hb : RowV w gb 29 u.cs) :
    Calls Try.prog 28 #[.slice a la ca, .func (.func 24) #[] #[.pointer (some ⟨gb, 0, none⟩)]] w (IdxPost f la u.uid w) := by
  have HB := Lib.hid hb
  clear hb
  go_enter Try.func28, Try.ntmps28
  go_wp2_with fail
  go_loopg [8] (la + 1) (fun k i wr => ∃ n : Nat, n + k = la + 1 ∧ n ≤ la ∧ i = .int .i64 (n : Int) ∧ (∀ j, j < n → (f j).uid ≠ u.uid) ∧ Kept (fun _ => False) w wr)
  case atStart => exact ⟨0, by omega, by omega, rfl, fun i hi => by omega, Kept.refl _ w⟩
  case round =>
    obtain ⟨n, hn, hnl, rfl, hf, hK⟩ := hrel
    have Hn := Lib.hid hn
    have Hf := Lib.hid hf
    clear hn hf
    by_cases hlt : n < la
    · have q : (n : Int) < la := by omega
      have qa : (la : Int) ≤ 140737488351232 := by omega
      obtain ⟨ga, oa, rfl, hca⟩ := ha.resolve_left (by omega)
      obtain ⟨a0, a1, a2, a3, a4⟩ := (hca n hlt).kept hK
      by_cases hu : (f n).uid = u.uid
      · have hd : decide ((f n).uid = u.uid) = true := decide_eq_true hu
        have Hu := Lib.hid hu
        clear hu
        go_wp2_with (go_at_call 24; refine (knows_any (f n) u gb _ (HB.out.kept hK (fun h => h))).mono ?_; rw [hd]; rintro r w2 ⟨rfl, hk2⟩)
        go_ret
        exact ⟨.inl ⟨n, hlt, Hu.out, Hf.out, rfl⟩, hK.trans hk2 (fun _ _ h => h)⟩
      · have hd : decide ((f n).uid = u.uid) = false := decide_eq_false hu
        have Hu := Lib.hid hu
        clear hu
        go_wp2_with (go_at_call 24; refine (knows_any (f n) u gb _ (HB.out.kept hK (fun h => h))).mono ?_; rw [hd]; rintro r w2 ⟨rfl, hk2⟩)
        go_roundg (gk - 1)
        case measure => have := Hn.out; omega
        case rel =>
          have := Hn.out
          refine ⟨n + 1, by omega, by omega, by go_num, fun i hi => ?_, hK.trans hk2 (fun _ _ h => h)⟩
          by_cases h : i = n
          · rw [h]; exact Hu.out
          · exact Hf.out i (by omega)
    · have q : (la : Int) ≤ n := by omega
      go_wp2_with fail
      go_ret
      exact ⟨.inr ⟨fun j hj => Hf.out j (by omega), rfl⟩, hK⟩
end Go.Proofs.Ytahlmlhdfoijhaa
