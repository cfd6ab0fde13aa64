/-
  The fixed answers of dir.
-/
import Derived.Test.YtpekibadleghbaaDoorD13
namespace Go.Proofs.YtpekibadleghbaaDoor
open Go.RowKit
set_option linter.unusedVariables false
set_option linter.unusedSimpArgs false
def eA : En := ⟨⟨#[97]⟩, 3⟩
theorem putA : putR s1 [] ⟨#[97]⟩ 3 = ([eA], 0) := by kernel_rfl
theorem encA : encR s1 [eA] = ([3#8, 1#8, 97#8], 0) := by kernel_rfl
theorem strA : (strOf 3 (fun i => ([3#8, 1#8, 97#8] : List Byte).getD i 0#8)).toList = [3, 1, 97] := by decide +kernel
theorem eA_size : ∀ i, i < [eA].length → (nthE [eA] i).nm.size ≤ 140737488351232 := by
  intro i hi
  have h0 : i = 0 := by simp at hi; exact hi
  subst h0
  decide
theorem dirPutA (w : World) (hk : KeysAt w) : Calls Tryd.prog 19 #[.agg (Fs 16 s1), .slice none 0 0, .string ⟨#[97]⟩, .int .i64 3] w (ListPost (putR s1 [] ⟨#[97]⟩ 3) w) := put_any s1 none 0 [] ⟨#[97]⟩ 3 w hk (.inl rfl) (by simp) (fun i hi => by simp at hi) (by decide)
theorem OwnE.reads {w : World} {base : Nat} {v : Value} {xs : List En} (ho : w.ownsRow base 68 2 v xs.length (flat ecl xs)) : ∃ a c, v = .slice a xs.length c ∧ ListE w a xs.length (nthE xs) ∧ xs.length ≤ c ∧ c ≤ maxLen := by
  rcases ho.2 with ⟨rfl, h0⟩ | ⟨g, cap, cur, rfl, _⟩
  · exact ⟨none, 0, by rw [h0], .inl h0, by omega, by unfold maxLen; omega⟩
  · obtain ⟨rest, h1, h2, h3, h4, h5, h6⟩ := owns_blk ho
    exact ⟨_, _, rfl, .inr ⟨g, 0, rfl, fun i hi => by rw [Nat.zero_add]; exact h1.at hi⟩, h4, h5⟩
set_option maxRecDepth 100000 in
set_option maxHeartbeats 8000000 in
theorem dirFixed_any (w : World) (hk : KeysAt w) : Calls Tryd.prog 17 #[] w fun e w' => e = .returned (.bool true) ∧ Kept (fun _ => False) w w' := by
  go_enter Tryd.func17, Tryd.ntmps17
  go_wp2_with fail
  have h1 := dirPutA w hk
  rw [putA, Fs_s1] at h1
  refine h1.mono ?_
  rintro r w1 ⟨v1, rfl, ho1, k1⟩
  obtain ⟨a1, c1, rfl, hl1, _, _⟩ := OwnE.reads (xs := [eA]) ho1
  have h2 := encode_any s1 a1 c1 [eA] w1 (hk.kept k1) hl1 (by decide) eA_size
  rw [encA, Fs_s1] at h2
  have H2 := Lib.hid h2
  have HL := Lib.hid hl1
  clear h1 h2 ho1 hl1
  go_wp2_with fail
  refine (H2.out).mono ?_
  rintro r w2 ⟨v2, rfl, ho2, k2⟩
  obtain ⟨a2, c2, rfl, hb2, hn2, _⟩ := OwnL.reads (n := 3) (L := [3#8, 1#8, 97#8]) ho2
  have hK2 : Kept (fun _ => False) w w2 := k1.trans k2 (fun _ _ h => h)
  have hl2 := HL.out.kept k2
  have HB := Lib.hid hb2
  have HN := Lib.hid hn2
  have HL2 := Lib.hid hl2
  clear H2 HL ho2 hb2 hn2 hl2 k1 k2
  go_wp2_with fail
  have hnew : ListE (w2.alloc (.cells #[.string eA.nm, .int .i64 eA.ino] 68)) (some ⟨w2.heap.size, 0, none⟩) 1 (nthE [eA]) :=
    .inr ⟨w2.heap.size, 0, rfl, fun i hi => by
      obtain rfl : i = 0 := by omega
      exact newE' w2 eA⟩
  refine (same_any a1 (some ⟨w2.heap.size, 0, none⟩) 1 c1 1 (nthE [eA]) _ (HL2.out.kept ((Kept.refl _ w2).alloc _)) hnew (by omega)).mono ?_
  rintro r w3 ⟨rfl, k3⟩
  have hK3 : Kept (fun _ => False) w w3 := (hK2.alloc _).trans k3 (fun _ _ h => h)
  have hb3 : BytesAt w3 a2 3 (fun i => ([3#8, 1#8, 97#8] : List Byte).getD i 0#8) := (HB.out.kept ((Kept.refl _ w2).alloc _)).kept k3
  have hcv := conv_str w3 37 9 5 a2 3 c2 _ Tryd.underlying37 Tryd.underlying5 Tryd.underlying9 hb3 HN.out
  have hst := strA
  generalize strOf 3 (fun i => ([3#8, 1#8, 97#8] : List Byte).getD i 0#8) = st at *
  clear hb3 hnew HB HN HL2 k3 hK2
  go_wp2_with fail
  go_ret
  exact ⟨by simp, hK3⟩
end Go.Proofs.YtpekibadleghbaaDoor
