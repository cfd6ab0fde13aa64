/-
  Usages and the walks of the functions that only read them.
-/
import Derived.Test.YtahlmlhdfoijhaaRows
import Derived.Test.YtahlmlhdfoijhaaReg
import Derived.Deep.QuietTactic
import Derived.BigQuiet
import Derived.StillTailTactics
namespace Go.Proofs.Ytahlmlhdfoijhaa
open Go.RowKit
/-- A usage. -/
structure U where
  uid : Int
  bl : Int
  ino : Int
  mb : Int
  mi : Int
deriving DecidableEq
def inr (n low : Int) : Bool := decide (low ≤ n) && decide (n ≤ 65535)
def idleB (u : U) : Bool := decide (u.bl = 0) && decide (u.ino = 0) && decide (u.mb = -1) && decide (u.mi = -1)
def overB (b u l : Int) : Bool := decide (0 < b) && decide (0 ≤ l) && decide (l < u)
abbrev U.v (u : U) : Value := .agg #[.int .i64 u.uid, .int .i64 u.bl, .int .i64 u.ino, .int .i64 u.mb, .int .i64 u.mi]
theorem within_any (n l : Int) (w : World) : Calls Try.prog 16 #[.int .i64 n, .int .i64 l] w fun r w' => r = .returned (.bool (inr n l)) ∧ w' = w := by
  by_cases h : l ≤ n
  · by_cases h2 : n ≤ 65535
    · rw [show inr n l = true by simp [inr, h, h2]]
      go_enter Try.func16, Try.ntmps16
      go_wp2
      go_ret
      exact ⟨rfl, rfl⟩
    · rw [show inr n l = false by simp [inr, h2]]
      have h3 : 65535 < n := by omega
      go_enter Try.func16, Try.ntmps16
      go_wp2
      go_ret
      exact ⟨rfl, rfl⟩
  · rw [show inr n l = false by simp [inr, h]]
    have h3 : n < l := by omega
    go_enter Try.func16, Try.ntmps16
    go_wp2
    go_ret
    exact ⟨rfl, rfl⟩
theorem in_any (n l : Int) (w : World) : Calls Try.prog 20 #[.int .i64 n, .int .i64 l] w fun r w' => r = .returned (.bool (inr n l)) ∧ w' = w := by
  by_cases h : l ≤ n
  · by_cases h2 : n ≤ 65535
    · rw [show inr n l = true by simp [inr, h, h2]]
      go_enter Try.func20, Try.ntmps20
      go_wp2
      go_ret
      exact ⟨rfl, rfl⟩
    · rw [show inr n l = false by simp [inr, h2]]
      have h3 : 65535 < n := by omega
      go_enter Try.func20, Try.ntmps20
      go_wp2
      go_ret
      exact ⟨rfl, rfl⟩
  · rw [show inr n l = false by simp [inr, h]]
    have h3 : n < l := by omega
    go_enter Try.func20, Try.ntmps20
    go_wp2
    go_ret
    exact ⟨rfl, rfl⟩
theorem idle_any (u : U) (w : World) : Calls Try.prog 17 #[u.v] w fun r w' => r = .returned (.bool (idleB u)) ∧ Kept (fun _ => False) w w' := by
  go_enter Try.func17, Try.ntmps17
  go_wp2_with fail
  all_goals
    go_ret
    exact ⟨by congr 2; simp_all [idleB] <;> (first | rfl | (intros; omega)), (Kept.refl _ w).alloc _⟩
theorem over_any (b u l : Int) (w : World) : Calls Try.prog 18 #[.int .i64 b, .int .i64 u, .int .i64 l] w fun r w' => r = .returned (.bool (overB b u l)) ∧ w' = w := by
  go_enter Try.func18, Try.ntmps18
  go_wp2_with fail
  all_goals
    go_ret
    exact ⟨by congr 2; simp_all [overB] <;> (first | rfl | (intros; omega)), rfl⟩
end Go.Proofs.Ytahlmlhdfoijhaa
namespace Go.Proofs.Ytahlmlhdfoijhaa
open Go.RowKit
/-- A usage lies at p of block g. -/
structure UAt (w : World) (g p : Nat) (u : U) : Prop where
  c0 : w.cell? ⟨g, p, none⟩ = some (.int .i64 u.uid)
  c1 : w.cell? ⟨g, p + 1, none⟩ = some (.int .i64 u.bl)
  c2 : w.cell? ⟨g, p + 2, none⟩ = some (.int .i64 u.ino)
  c3 : w.cell? ⟨g, p + 3, none⟩ = some (.int .i64 u.mb)
  c4 : w.cell? ⟨g, p + 4, none⟩ = some (.int .i64 u.mi)
def ListAt (w : World) (a : Option Addr) (len : Nat) (f : Nat → U) : Prop := len = 0 ∨ ∃ g o, a = some ⟨g, o, none⟩ ∧ ∀ i, i < len → UAt w g (o + i * 5) (f i)
theorem Kept.cell {w w' : World} (h : Kept (fun _ => False) w w') {p : Addr} {v : Value} (hc : w.cell? p = some v) : w'.cell? p = some v := by
  have hb := block_lt_of_cell hc
  have := h.block p.block hb (fun h => h)
  rw [World.cell?_of_block (w := w) this]; exact hc
theorem UAt.kept {w w' : World} {g p : Nat} {u : U} (h : UAt w g p u) (k : Kept (fun _ => False) w w') : UAt w' g p u := ⟨k.cell h.c0, k.cell h.c1, k.cell h.c2, k.cell h.c3, k.cell h.c4⟩
theorem ListAt.kept {w w' : World} {a : Option Addr} {len : Nat} {f : Nat → U} (h : ListAt w a len f) (k : Kept (fun _ => False) w w') : ListAt w' a len f := by
  rcases h with h | ⟨g, o, ha, hc⟩
  · exact .inl h
  · exact .inr ⟨g, o, ha, fun i hi => (hc i hi).kept k⟩
theorem if5 {α : Type} (u v : U) (x y : α) (h : u ≠ v) : (if u.uid = v.uid then if u.bl = v.bl then if u.ino = v.ino then if u.mb = v.mb then if u.mi = v.mi then x else y else y else y else y else y) = y := by
  split
  · split
    · split
      · split
        · split
          · exact absurd (by cases u; cases v; simp_all) h
          · rfl
        · rfl
      · rfl
    · rfl
  · rfl
def sameB (la lb : Nat) (f g : Nat → U) : Bool := decide (la = lb ∧ ∀ i, i < la → f i = g i)
set_option maxHeartbeats 1000000 in
theorem same_any (a b : Option Addr) (la ca lb cb : Nat) (f g : Nat → U) (w : World) (ha : ListAt w a la f) (hb : ListAt w b lb g) (hla : la ≤ 140737488351232) :
    Calls Try.prog 11 #[.slice a la ca, .slice b lb cb] w fun r w' => r = .returned (.bool (sameB la lb f g)) ∧ Kept (fun _ => False) w w' := by
  by_cases hl : la = lb
  · subst hl
    go_enter Try.func11, Try.ntmps11
    go_wp2_with fail
    go_loopg [13] (la + 1) (fun k i wr => ∃ n : Nat, n + k = la + 1 ∧ n ≤ la ∧ i = .int .i64 (n : Int) ∧ (∀ i, i < n → f i = g i) ∧ Kept (fun _ => False) w wr)
    case atStart => exact ⟨0, by omega, by omega, rfl, fun i hi => by omega, Kept.refl _ w⟩
    case round =>
      obtain ⟨n, hn, hnl, rfl, he, hK⟩ := hrel
      have Hn := Lib.hid hn
      have He := Lib.hid he
      clear hn he
      by_cases hlt : n < la
      · have q : (n : Int) < la := by omega
        have qa : (la : Int) ≤ 140737488351232 := by omega
        obtain ⟨ga, oa, rfl, hca⟩ := ha.resolve_left (by omega)
        obtain ⟨gb, ob, rfl, hcb⟩ := hb.resolve_left (by omega)
        obtain ⟨a0, a1, a2, a3, a4⟩ := (hca n hlt).kept hK
        obtain ⟨b0, b1, b2, b3, b4⟩ := (hcb n hlt).kept hK
        by_cases hu : f n = g n
        · rw [← hu] at b0 b1 b2 b3 b4
          have HU := Lib.hid hu
          clear hu
          go_wp2_with fail
          refine region_still (by kernel_rfl) (by kernel_rfl) ?_
          repeat (refine wpStill_step (fun K hK => ?_); go_simp; (try go_bits); refine hK _ ?_; clear hK K)
          refine wpStill_nil ?_
          go_wp2_with fail
          go_roundg (gk - 1)
          case measure => have := Hn.out; omega
          case rel =>
            have := Hn.out
            refine ⟨n + 1, by omega, by omega, by go_num, fun i hi => ?_, hK.drew⟩
            by_cases h : i = n
            · rw [h]; exact HU.out
            · exact He.out i (by omega)
        · go_wp2_with fail
          refine region_still (by kernel_rfl) (by kernel_rfl) ?_
          repeat (refine wpStill_step (fun K hK => ?_); go_simp; (try go_bits); refine hK _ ?_; clear hK K)
          refine wpStill_step (fun K hK => ?_)
          go_simp
          rw [if5 _ _ _ _ hu]
          refine ⟨rfl, hK _ ?_⟩
          clear hK K
          refine wpStill_nil ?_
          go_wp2_with fail
          go_ret
          exact ⟨by rw [show sameB la la f g = false from decide_eq_false (fun h : (la = la ∧ ∀ i, i < la → f i = g i) => hu (h.2 n hlt))]; rfl, hK.drew⟩
      · have q : (la : Int) ≤ n := by omega
        go_wp2_with fail
        go_ret
        exact ⟨by rw [show sameB la la f g = true from decide_eq_true (show la = la ∧ ∀ i, i < la → f i = g i from ⟨rfl, fun i hi => He.out i (by omega)⟩)]; rfl, hK⟩
  · go_enter Try.func11, Try.ntmps11
    have h2 : ¬ (la : Int) = lb := by omega
    go_wp2_with fail
    go_ret
    exact ⟨by rw [show sameB la lb f g = false from decide_eq_false (fun h => hl h.1)]; rfl, Kept.refl _ w⟩
end Go.Proofs.Ytahlmlhdfoijhaa
namespace Go.Proofs.Ytahlmlhdfoijhaa
open Go.RowKit
def getFrom (f : Nat → U) (uid : Int) : Nat → Nat → U
  | _, 0 => ⟨uid, 0, 0, -1, -1⟩
  | i, k + 1 => if (f i).uid = uid then f i else getFrom f uid (i + 1) k
def getU (f : Nat → U) (len : Nat) (uid : Int) : U := getFrom f uid 0 len
abbrev U.cs (u : U) : Array Value := #[.int .i64 u.uid, .int .i64 u.bl, .int .i64 u.ino, .int .i64 u.mb, .int .i64 u.mi]
def RowV (w : World) (g : Nat) (t : TypeId) (cs : Array Value) : Prop := w.heap[g]? = some (.cells cs t (0, 0))
theorem RowV.new (w : World) (t : TypeId) (cs : Array Value) : RowV (w.alloc (.cells cs t)) w.heap.size t cs := heap_alloc_new w _
theorem RowV.lt {w : World} {g : Nat} {t : TypeId} {cs : Array Value} (h : RowV w g t cs) : g < w.heap.size := lt_of_at h
theorem RowV.row {w : World} {g : Nat} {t : TypeId} {cs : Array Value} (h : RowV w g t cs) (cs' : Array Value) : RowV (w.setRow g cs') g t cs' := setRow_heap w g _ _ t _ h
theorem RowV.rowOther {w : World} {g g' : Nat} {t : TypeId} {cs : Array Value} (h : RowV w g t cs) (hne : g ≠ g') (cs' : Array Value) : RowV (w.setRow g' cs') g t cs := by
  unfold RowV; rw [setRow_other w g' g cs' hne]; exact h
theorem RowV.alloc {w : World} {g : Nat} {t : TypeId} {cs : Array Value} (h : RowV w g t cs) (o : Obj) : RowV (w.alloc o) g t cs := by
  unfold RowV; rw [Below.heap_alloc w o g (lt_of_at h)]; exact h
theorem RowV.cell {w : World} {g : Nat} {t : TypeId} {cs : Array Value} (h : RowV w g t cs) (i : Nat) : w.cell? ⟨g, i, none⟩ = cs[i]? := cell_of_row w g i cs t _ h
theorem RowV.u {w : World} {g : Nat} {u : U} (h : RowV w g 29 u.cs) : UAt w g 0 u := ⟨h.cell 0, h.cell 1, h.cell 2, h.cell 3, h.cell 4⟩
theorem info29 (u : U) : (Try.prog.info? 29).map (·.size) = some u.cs.size := by
  show _ = some 5
  kernel_rfl
theorem one_cs (u : U) : u.cs.all (fun x => x.oneCell') = true := by simp; exact ⟨rfl, rfl, rfl, rfl, rfl⟩
set_option maxHeartbeats 1000000 in
theorem get_any (a : Option Addr) (la ca : Nat) (f : Nat → U) (uid : Int) (w : World) (ha : ListAt w a la f) (hla : la ≤ 140737488351232) :
    Calls Try.prog 9 #[.slice a la ca, .int .i64 uid] w fun r w' => r = .returned (getU f la uid).v ∧ Kept (fun _ => False) w w' := by
  go_enter Try.func9, Try.ntmps9
  go_wp2_with fail
  generalize hw0 : World.alloc w _ = w1
  have h4 : RowV w1 w.heap.size 29 (U.cs ⟨0, 0, 0, 0, 0⟩) := by rw [← hw0]; exact RowV.new w _ _
  have hK : Kept (fun _ => False) w w1 := by rw [← hw0]; exact (Kept.refl _ w).alloc _
  clear hw0
  go_loopg [9] (la + 1) (fun k i wr => ∃ n : Nat, n + k = la + 1 ∧ n ≤ la ∧ i = .int .i64 (n : Int) ∧ getU f la uid = getFrom f uid n (la - n) ∧ RowV wr w.heap.size 29 (U.cs ⟨0, 0, 0, 0, 0⟩) ∧ Kept (fun _ => False) w wr)
  case atStart => exact ⟨0, by omega, by omega, rfl, rfl, h4, hK⟩
  case round =>
    clear h4 hK
    obtain ⟨n, hn, hnl, rfl, he, h4, hK⟩ := hrel
    have Hn := Lib.hid hn
    clear hn
    by_cases hlt : n < la
    · have q : (n : Int) < la := by omega
      have qa : (la : Int) ≤ 140737488351232 := by omega
      rw [show la - n = (la - (n + 1)) + 1 by omega] at he
      unfold getFrom at he
      have He := Lib.hid he
      clear he
      obtain ⟨ga, oa, rfl, hca⟩ := ha.resolve_left (by omega)
      obtain ⟨a0, a1, a2, a3, a4⟩ := (hca n hlt).kept hK
      go_upto_region 4 with fail
      generalize hw0 : World.alloc wr _ = w2
      have h6 : RowV w2 wr.heap.size 29 (f n).cs := by rw [← hw0]; exact RowV.new wr _ _
      have h4' : RowV w2 w.heap.size 29 (U.cs ⟨0, 0, 0, 0, 0⟩) := by rw [← hw0]; exact h4.alloc _
      have hK' : Kept (fun _ => False) w w2 := by rw [← hw0]; exact hK.alloc _
      clear hw0 h4 hK a0 a1 a2 a3 a4
      have e0 := h6.u.c0
      by_cases hu : (f n).uid = uid
      · have hv := He.out
        rw [if_pos hu] at hv
        have Hv := Lib.hid hv
        clear hv He
        go_wp2_with (first | (refine wpList_load_row rfl 29 (.tmp 6) rfl wr.heap.size rfl 29 (f n).cs (0, 0) _ h6 Try.underlying29 rfl (info29 _) ?_) | (refine wpList_store_row rfl 29 (.tmp 4) (.tmp 17) rfl w.heap.size (f n).cs rfl rfl 29 _ h4' (info29 _) rfl (one_cs _) ?_))
        exact bodyPost_ret (v := (f n).v) (results_cell_row rfl _ _ w.heap.size 29 _ (0, 0) _ rfl (h4'.row _) Try.underlying29 rfl (info29 _)) rfl ⟨by rw [Hv.out], hK'.setRowNew (Nat.le_refl _) _⟩
      · have hv := He.out
        rw [if_neg hu] at hv
        have Hv := Lib.hid hv
        clear hv He
        go_wp2_with fail
        go_roundg (gk - 1)
        case measure => have := Hn.out; omega
        case rel =>
          have := Hn.out
          exact ⟨n + 1, by omega, by omega, by go_num, Hv.out, h4', hK'⟩
    · have hv := he
      rw [show la - n = 0 by omega] at hv
      unfold getFrom at hv
      have Hv := Lib.hid hv
      clear hv he
      have q : (la : Int) ≤ n := by omega
      go_wp2_with (refine wpList_store_row rfl 29 (.tmp 4) (.tmp 20) rfl w.heap.size (U.cs ⟨uid, 0, 0, -1, -1⟩) rfl rfl 29 _ h4 (info29 _) rfl (one_cs _) ?_)
      exact bodyPost_ret (v := (U.v ⟨uid, 0, 0, -1, -1⟩)) (results_cell_row rfl _ _ w.heap.size 29 _ (0, 0) _ rfl (h4.row _) Try.underlying29 rfl (info29 ⟨uid, 0, 0, -1, -1⟩)) rfl ⟨by rw [Hv.out], hK.setRowNew (Nat.le_refl _) _⟩
end Go.Proofs.Ytahlmlhdfoijhaa
namespace Go.Proofs.Ytahlmlhdfoijhaa
open Go.RowKit
set_option maxHeartbeats 1000000 in
theorem getR_any (a : Option Addr) (la ca : Nat) (f : Nat → U) (uid : Int) (w : World) (ha : ListAt w a la f) (hla : la ≤ 140737488351232) :
    Calls Try.prog 15 #[.slice a la ca, .int .i64 uid] w fun r w' => r = .returned (getU f la uid).v ∧ Kept (fun _ => False) w w' := by
  go_enter Try.func15, Try.ntmps15
  go_wp2_with fail
  generalize hw0 : World.alloc w _ = w1
  have h4 : RowV w1 w.heap.size 29 (U.cs ⟨0, 0, 0, 0, 0⟩) := by rw [← hw0]; exact RowV.new w _ _
  have hK : Kept (fun _ => False) w w1 := by rw [← hw0]; exact (Kept.refl _ w).alloc _
  clear hw0
  go_loopg [5] (la + 1) (fun k i wr => ∃ n : Nat, n + k = la + 1 ∧ n ≤ la ∧ i = .int .i64 (n : Int) ∧ getU f la uid = getFrom f uid n (la - n) ∧ RowV wr w.heap.size 29 (U.cs ⟨0, 0, 0, 0, 0⟩) ∧ Kept (fun _ => False) w wr)
  case atStart => exact ⟨0, by omega, by omega, rfl, rfl, h4, hK⟩
  case round =>
    clear h4 hK
    obtain ⟨n, hn, hnl, rfl, he, h4, hK⟩ := hrel
    have Hn := Lib.hid hn
    clear hn
    by_cases hlt : n < la
    · have q : (n : Int) < la := by omega
      have qa : (la : Int) ≤ 140737488351232 := by omega
      rw [show la - n = (la - (n + 1)) + 1 by omega] at he
      unfold getFrom at he
      have He := Lib.hid he
      clear he
      obtain ⟨ga, oa, rfl, hca⟩ := ha.resolve_left (by omega)
      obtain ⟨a0, a1, a2, a3, a4⟩ := (hca n hlt).kept hK
      by_cases hu : (f n).uid = uid
      · have hv := He.out
        rw [if_pos hu] at hv
        subst hu
        have Hv := Lib.hid hv
        clear hv He
        go_wp2_with (refine wpList_store_row rfl 29 (.tmp 4) (.tmp 22) rfl w.heap.size (f n).cs rfl rfl 29 _ h4 (info29 _) rfl (one_cs _) ?_)
        exact bodyPost_ret (v := (f n).v) (results_cell_row rfl _ _ w.heap.size 29 _ (0, 0) _ rfl (h4.row _) Try.underlying29 rfl (info29 _)) rfl ⟨by rw [Hv.out], hK.setRowNew (Nat.le_refl _) _⟩
      · have hv := He.out
        rw [if_neg hu] at hv
        have Hv := Lib.hid hv
        clear hv He
        go_wp2_with fail
        go_roundg (gk - 1)
        case measure => have := Hn.out; omega
        case rel =>
          have := Hn.out
          exact ⟨n + 1, by omega, by omega, by go_num, Hv.out, h4, hK⟩
    · have hv := he
      rw [show la - n = 0 by omega] at hv
      unfold getFrom at hv
      have Hv := Lib.hid hv
      clear hv he
      have q : (la : Int) ≤ n := by omega
      go_wp2_with (refine wpList_store_row rfl 29 (.tmp 4) (.tmp 24) rfl w.heap.size (U.cs ⟨uid, 0, 0, -1, -1⟩) rfl rfl 29 _ h4 (info29 _) rfl (one_cs _) ?_)
      exact bodyPost_ret (v := (U.v ⟨uid, 0, 0, -1, -1⟩)) (results_cell_row rfl _ _ w.heap.size 29 _ (0, 0) _ rfl (h4.row _) Try.underlying29 rfl (info29 ⟨uid, 0, 0, -1, -1⟩)) rfl ⟨by rw [Hv.out], hK.setRowNew (Nat.le_refl _) _⟩
end Go.Proofs.Ytahlmlhdfoijhaa
namespace Go.Proofs.Ytahlmlhdfoijhaa
open Go.RowKit
section
variable {P : Program} {ops : Array Oper} {Q : Exit → Act → World → Prop} {S : World → Prop}
/-- A call whose guard denies it. -/
theorem HeldSeq.pass {i : Nat} {r : List (Nat × Bool)} {a : Act} {w : World} {o : Oper} (ho : ops[i]? = some o) (hg : Region.wanted o (yielded ops a.tmps) = false) (hS : S w)
    (h : HeldSeq P ops S Q r (a.put o.dst undef) w) : HeldSeq P ops S Q ((i, false) :: r) a w := by
  show wpOp P ops Q i _ a w
  unfold wpOp
  simp only [ho, hg]
  exact ⟨hS, h⟩
end
def okU (u : U) : Bool := inr u.uid 0 && inr u.bl 0 && inr u.ino 0 && inr u.mb (-1) && inr u.mi (-1)
def fineAt (f : Nat → U) (n : Nat) : Bool := okU (f n) && !idleB (f n) && (decide (n = 0) || decide ((f (n - 1)).uid < (f n).uid))
def Right (la : Nat) (f : Nat → U) : Prop := la ≤ 8 ∧ ∀ i, i < la → fineAt f i = true
end Go.Proofs.Ytahlmlhdfoijhaa
