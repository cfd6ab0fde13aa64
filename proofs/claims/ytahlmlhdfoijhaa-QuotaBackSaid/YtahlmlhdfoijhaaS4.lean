/-
  slices.BinarySearchFunc of usages by an owner.
-/
import Derived.Test.YtahlmlhdfoijhaaS3
namespace Go.Proofs.Ytahlmlhdfoijhaa
open Go.RowKit
set_option maxHeartbeats 1000000 in
theorem less_any (x : U) (uid : Int) (w : World) (h0 : 0 ≤ x.uid) (h1 : x.uid ≤ 65535) (h2 : 0 ≤ uid) (h3 : uid ≤ 65535) :
    Calls Try.prog 26 #[x.v, .int .i64 uid] w fun r w' => r = .returned (.int .i64 (x.uid - uid)) ∧ Kept (fun _ => False) w w' := by
  go_enter Try.func26, Try.ntmps26
  go_wp2_with fail
  go_ret
  exact ⟨by first | rfl | congr 2, (Kept.refl _ w).alloc _⟩
structure Split (xs : List U) (uid : Int) (i j : Nat) : Prop where
  le : i ≤ j
  len : j ≤ xs.length
  low : ∀ m, m < i → (nth xs m).uid < uid
  high : ∀ m, j ≤ m → m < xs.length → uid ≤ (nth xs m).uid
def SearchPost (xs : List U) (uid : Int) (w : World) (r : Ending) (w' : World) : Prop := ∃ (i : Nat) (b : Bool), Split xs uid i i ∧ r = .returned (.tuple #[.int .i64 (i : Int), .bool b]) ∧ Kept (fun _ => False) w w'
set_option maxHeartbeats 2000000 in
theorem search_any (a : Option Addr) (xs : List U) (ca : Nat) (uid : Int) (w : World) (ha : ListAt w a xs.length (nth xs)) (hla : xs.length ≤ 1000) (h2 : 0 ≤ uid) (h3 : uid ≤ 65535)
    (hm : ∀ i j, i ≤ j → j < xs.length → (nth xs i).uid ≤ (nth xs j).uid) (hr : ∀ i, i < xs.length → 0 ≤ (nth xs i).uid ∧ (nth xs i).uid ≤ 65535) :
    Calls Try.prog 25 #[.slice a xs.length ca, .int .i64 uid, .func (.func 26) #[] #[]] w (SearchPost xs uid w) := by
  have HM := Lib.hid hm
  have HR := Lib.hid hr
  clear hm hr
  have qa : (xs.length : Int) ≤ 1000 := by omega
  go_enter Try.func25, Try.ntmps25
  go_wp2_with fail
  go_loopg [9, 10] (xs.length + 1) (fun k si sj wr => ∃ i j : Nat, j + 1 ≤ i + k ∧ si = .int .i64 (i : Int) ∧ sj = .int .i64 (j : Int) ∧ Split xs uid i j ∧ Kept (fun _ => False) w wr)
  case atStart => exact ⟨0, xs.length, by omega, rfl, rfl, ⟨by omega, by omega, fun m hm => by omega, fun m h1 h2 => by omega⟩, Kept.refl _ w⟩
  case round =>
    obtain ⟨i, j, hk, rfl, rfl, hS, hK⟩ := hrel
    have Hk := Lib.hid hk
    have HS := Lib.hid hS
    have hle := hS.le
    have hlen := hS.len
    clear hk hS
    by_cases hlt : i < j
    · have q : (i : Int) < j := by omega
      have q1 : (j : Int) ≤ 1000 := by omega
      obtain ⟨ga, oa, rfl, hca⟩ := ha.resolve_left (by omega)
      obtain ⟨h, hh⟩ : ∃ h : Nat, h = (i + j) / 2 := ⟨_, rfl⟩
      have qh1 : i ≤ h := by omega
      have qh2 : h < j := by omega
      have qh3 : ((i : Int) + j) / 2 = h := by omega
      clear hh
      go_upto_region 5 with fail
      clear qh3
      obtain ⟨a0, a1, a2, a3, a4⟩ := (hca h (by omega)).kept hK
      have qh4 : (h : Int) < xs.length := by omega
      have hr0 := HR.out h (by omega)
      by_cases hb : (nth xs h).uid < uid
      · have hd : decide ((nth xs h).uid - uid < 0) = true := decide_eq_true (by omega)
        have hd2 : (nth xs h).uid - uid < 0 := by omega
        have Hb := Lib.hid hb
        clear hb
        go_wp2_with (go_at_call 26; refine (less_any (nth xs h) uid _ hr0.1 hr0.2 h2 h3).mono ?_; rintro r w2 ⟨rfl, hk2⟩)
        go_roundg (gk - 1)
        case measure => have := Hk.out; omega
        case rel =>
          have := Hk.out
          refine ⟨h + 1, j, by omega, by go_num, rfl, ⟨by omega, hlen, fun m hm => ?_, HS.out.high⟩, hK.trans hk2 (fun _ _ h => h)⟩
          have := HM.out m h (by omega) (by omega)
          have := Hb.out
          omega
      · have hd : decide ((nth xs h).uid - uid < 0) = false := decide_eq_false (by omega)
        have hd2 : 0 ≤ (nth xs h).uid - uid := by omega
        have Hb := Lib.hid hb
        clear hb
        go_wp2_with (go_at_call 26; refine (less_any (nth xs h) uid _ hr0.1 hr0.2 h2 h3).mono ?_; rintro r w2 ⟨rfl, hk2⟩)
        go_roundg (gk - 1)
        case measure => have := Hk.out; omega
        case rel =>
          have := Hk.out
          refine ⟨i, h, by omega, rfl, rfl, ⟨by omega, by omega, HS.out.low, fun m hm hl => ?_⟩, hK.trans hk2 (fun _ _ h => h)⟩
          have := HM.out h m (by omega) (by omega)
          have := Hb.out
          omega
    · have hij : i = j := by omega
      subst hij
      have HS2 := HS
      by_cases hin : i < xs.length
      · have q : (i : Int) < xs.length := by omega
        have hd : decide ((i : Int) < xs.length) = true := decide_eq_true q
        obtain ⟨ga, oa, rfl, hca⟩ := ha.resolve_left (by omega)
        obtain ⟨a0, a1, a2, a3, a4⟩ := (hca i hin).kept hK
        have hr0 := HR.out i (by omega)
        go_wp2_with (go_at_call 26; refine (less_any (nth xs i) uid _ hr0.1 hr0.2 h2 h3).mono ?_; rintro r w2 ⟨rfl, hk2⟩)
        go_ret2
        exact ⟨i, _, HS2.out, rfl, hK.trans hk2 (fun _ _ h => h)⟩
      · have q : (xs.length : Int) ≤ i := by omega
        have hd : decide ((i : Int) < xs.length) = false := decide_eq_false (by omega)
        go_wp2_with fail
        go_ret2
        exact ⟨i, _, HS2.out, rfl, hK⟩
end Go.Proofs.Ytahlmlhdfoijhaa
