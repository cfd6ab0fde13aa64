/-
  Plain: each block by a key has one block of its own.
-/
import Derived.Test.YtgjkeeejcebhhaaA8
namespace Go.Proofs.Ytgjkeeejcebhhaa
theorem twice_fin : ∀ a b : Fin 256, twice (BitVec.ofFin a ^^^ BitVec.ofFin b : Byte) = twice (BitVec.ofFin a) ^^^ twice (BitVec.ofFin b) := by decide +kernel
theorem twice_xor (a b : Byte) : twice (a ^^^ b) = twice a ^^^ twice b := twice_fin a.toFin b.toFin
theorem xc (a b c : Byte) : a ^^^ (b ^^^ c) = b ^^^ (a ^^^ c) := by rw [← BitVec.xor_assoc, BitVec.xor_comm a b, BitVec.xor_assoc]
theorem xs (a b : Byte) : a ^^^ (a ^^^ b) = b := by rw [← BitVec.xor_assoc, BitVec.xor_self, BitVec.zero_xor]
theorem x0 (a b : Byte) (h : a ^^^ b = 0#8) : a = b := by
  have := xs a b; rw [h, BitVec.xor_zero] at this; exact this
/-- One of a column's bytes, mixed. -/
def m1 (a b c d : Byte) : Byte := a ^^^ (a ^^^ b ^^^ c ^^^ d ^^^ twice (a ^^^ b))
theorem m1_xor (a b c d a' b' c' d' : Byte) : m1 (a ^^^ a') (b ^^^ b') (c ^^^ c') (d ^^^ d') = m1 a b c d ^^^ m1 a' b' c' d' := by
  unfold m1
  simp only [twice_xor]
  ac_rfl
theorem m1_zero {a b c d : Byte} (h0 : m1 a b c d = 0#8) (h1 : m1 b c d a = 0#8) (h2 : m1 c d a b = 0#8) (h3 : m1 d a b c = 0#8) : a = 0#8 ∧ b = 0#8 ∧ c = 0#8 ∧ d = 0#8 := by
  have hs : a ^^^ b ^^^ c ^^^ d = m1 a b c d ^^^ m1 b c d a ^^^ m1 c d a b ^^^ m1 d a b c := by
    unfold m1
    simp only [twice_xor]
    have e : ∀ A B C D t u v s : Byte, A ^^^ B ^^^ C ^^^ D = A ^^^ (A ^^^ B ^^^ C ^^^ D ^^^ (t ^^^ u)) ^^^ (B ^^^ (B ^^^ C ^^^ D ^^^ A ^^^ (u ^^^ v))) ^^^ (C ^^^ (C ^^^ D ^^^ A ^^^ B ^^^ (v ^^^ s))) ^^^ (D ^^^ (D ^^^ A ^^^ B ^^^ C ^^^ (s ^^^ t))) := by
      intro A B C D t u v s
      simp only [BitVec.xor_assoc, xc, xs, BitVec.xor_self, BitVec.xor_zero]
      ac_rfl
    exact e _ _ _ _ _ _ _ _
  rw [h0, h1, h2, h3] at hs
  simp only [BitVec.xor_self] at hs
  have r0 : a = twice (a ^^^ b) := x0 _ _ (by unfold m1 at h0; rw [hs, BitVec.zero_xor] at h0; exact h0)
  have e1 : b ^^^ c ^^^ d ^^^ a = 0#8 := by rw [← hs]; ac_rfl
  have e2 : c ^^^ d ^^^ a ^^^ b = 0#8 := by rw [← hs]; ac_rfl
  have e3 : d ^^^ a ^^^ b ^^^ c = 0#8 := by rw [← hs]; ac_rfl
  have r1 : b = twice (b ^^^ c) := x0 _ _ (by unfold m1 at h1; rw [e1, BitVec.zero_xor] at h1; exact h1)
  have r2 : c = twice (c ^^^ d) := x0 _ _ (by unfold m1 at h2; rw [e2, BitVec.zero_xor] at h2; exact h2)
  have r3 : d = twice (d ^^^ a) := x0 _ _ (by unfold m1 at h3; rw [e3, BitVec.zero_xor] at h3; exact h3)
  have u : a ^^^ b = c ^^^ d := x0 _ _ (by rw [← hs]; ac_rfl)
  have v : b ^^^ c = d ^^^ a := x0 _ _ (by rw [← e1]; ac_rfl)
  have ac : a = c := r0.trans ((congrArg twice u).trans r2.symm)
  have bd : b = d := r1.trans ((congrArg twice v).trans r3.symm)
  have ab : a = b := r0.trans ((congrArg twice (show a ^^^ b = b ^^^ c by rw [← ac]; exact BitVec.xor_comm _ _)).trans r1.symm)
  have a0 : a = 0#8 := r0.trans (by rw [← ab, BitVec.xor_self]; rfl)
  exact ⟨a0, ab ▸ a0, ac ▸ a0, bd ▸ ab ▸ a0⟩
theorem m1_one {a b c d a' b' c' d' : Byte} (h0 : m1 a b c d = m1 a' b' c' d') (h1 : m1 b c d a = m1 b' c' d' a') (h2 : m1 c d a b = m1 c' d' a' b') (h3 : m1 d a b c = m1 d' a' b' c') :
    a = a' ∧ b = b' ∧ c = c' ∧ d = d' := by
  have z : ∀ {x y : Byte}, x = y → x ^^^ y = 0#8 := fun h => by rw [h, BitVec.xor_self]
  obtain ⟨p, q, r, s⟩ := m1_zero (a := a ^^^ a') (b := b ^^^ b') (c := c ^^^ c') (d := d ^^^ d') (by rw [m1_xor]; exact z h0) (by rw [m1_xor]; exact z h1) (by rw [m1_xor]; exact z h2) (by rw [m1_xor]; exact z h3)
  exact ⟨x0 _ _ p, x0 _ _ q, x0 _ _ r, x0 _ _ s⟩
theorem mixTo_is (t : Nat → Byte) : ∀ n i, mixTo t n i = if i < 4 * n then mixAt t (4 * (i / 4)) i else t i
  | 0, i => by simp [mixTo]
  | n + 1, i => by
    show mixAt (mixTo t n) (4 * n) i = _
    have hge : ∀ j, 4 * n ≤ j → mixTo t n j = t j := fun j hj => by rw [mixTo_is t n j, if_neg (by omega)]
    by_cases h : 4 * n ≤ i ∧ i < 4 * n + 4
    · rw [if_pos (by omega), show 4 * (i / 4) = 4 * n by omega]
      unfold mixAt
      simp only [hge (4 * n) (by omega), hge (4 * n + 1) (by omega), hge (4 * n + 2) (by omega), hge (4 * n + 3) (by omega), hge i h.1]
    · have e : mixAt (mixTo t n) (4 * n) i = mixTo t n i := by
        unfold mixAt
        rw [if_neg (by omega), if_neg (by omega), if_neg (by omega), if_neg (by omega)]
      rw [e, mixTo_is t n i]
      by_cases h2 : i < 4 * n
      · rw [if_pos h2, if_pos (by omega)]
      · rw [if_neg h2, if_neg (by omega)]
theorem mixAt_m1 (t : Nat → Byte) (o : Nat) : mixAt t o o = m1 (t o) (t (o + 1)) (t (o + 2)) (t (o + 3)) ∧ mixAt t o (o + 1) = m1 (t (o + 1)) (t (o + 2)) (t (o + 3)) (t o) ∧
    mixAt t o (o + 2) = m1 (t (o + 2)) (t (o + 3)) (t o) (t (o + 1)) ∧ mixAt t o (o + 3) = m1 (t (o + 3)) (t o) (t (o + 1)) (t (o + 2)) := by
  unfold mixAt m1
  simp only
  refine ⟨?_, ?_, ?_, ?_⟩
  · rw [if_neg (by omega), if_neg (by omega), if_neg (by omega), if_pos trivial]
  · rw [if_neg (by omega), if_neg (by omega), if_pos trivial]; congr 2; ac_rfl
  · rw [if_neg (by omega), if_pos trivial]; congr 2; ac_rfl
  · rw [if_pos trivial]; congr 2; ac_rfl
theorem mix_one {t t' : Nat → Byte} (h : Agree 16 (mixTo t 4) (mixTo t' 4)) : Agree 16 t t' := by
  have hc : ∀ j, j < 4 → t (4 * j) = t' (4 * j) ∧ t (4 * j + 1) = t' (4 * j + 1) ∧ t (4 * j + 2) = t' (4 * j + 2) ∧ t (4 * j + 3) = t' (4 * j + 3) := fun j hj => by
    have g : ∀ k, k < 4 → mixAt t (4 * j) (4 * j + k) = mixAt t' (4 * j) (4 * j + k) := fun k hk => by
      have := h (4 * j + k) (by omega)
      rw [mixTo_is, mixTo_is, if_pos (by omega), if_pos (by omega), show (4 * j + k) / 4 = j by omega] at this
      exact this
    have a := mixAt_m1 t (4 * j)
    have b := mixAt_m1 t' (4 * j)
    refine m1_one ?_ ?_ ?_ ?_
    · rw [← a.1, ← b.1]; exact g 0 (by omega)
    · rw [← a.2.1, ← b.2.1]; exact g 1 (by omega)
    · rw [← a.2.2.1, ← b.2.2.1]; exact g 2 (by omega)
    · rw [← a.2.2.2, ← b.2.2.2]; exact g 3 (by omega)
  intro i hi
  have := hc (i / 4) (by omega)
  rcases (show i = 4 * (i / 4) ∨ i = 4 * (i / 4) + 1 ∨ i = 4 * (i / 4) + 2 ∨ i = 4 * (i / 4) + 3 by omega) with e | e | e | e
  · rw [e]; exact this.1
  · rw [e]; exact this.2.1
  · rw [e]; exact this.2.2.1
  · rw [e]; exact this.2.2.2
theorem add_one {c b b' : Nat → Byte} {r : Nat} (h : Agree 16 (addTo c b r 16) (addTo c b' r 16)) : Agree 16 b b' := fun i hi => by
  have := h i hi
  unfold addTo at this
  rw [if_pos hi, if_pos hi] at this
  have e := congrArg (fun x => c (256 + 16 * r + i) ^^^ x) this
  simp only [BitVec.xor_comm (b i), BitVec.xor_comm (b' i), xs] at e
  exact e
theorem place : ∀ j, j < 16 → ∃ i, i < 16 ∧ (i + 4 * (i % 4)) % 16 = j := by decide +kernel
theorem sub_one {c b b' : Nat → Byte} (hc : ∀ i, i < 256 → c i = sbox i) (h : Agree 16 (subTo c b 16) (subTo c b' 16)) : Agree 16 b b' := fun j hj => by
  obtain ⟨i, hi, rfl⟩ := place j hj
  have := h i hi
  unfold subTo at this
  rw [if_pos hi, if_pos hi, hc _ (BitVec.isLt _), hc _ (BitVec.isLt _)] at this
  exact sbox_one _ _ this
theorem round_one {c b b' : Nat → Byte} {r : Nat} (hc : ∀ i, i < 256 → c i = sbox i) (h : Agree 16 (roundOf c b r) (roundOf c b' r)) : Agree 16 b b' := by
  unfold roundOf at h
  have h1 := add_one h
  by_cases hr : r < 10
  · rw [if_pos hr, if_pos hr] at h1; exact sub_one hc (mix_one h1)
  · rw [if_neg hr, if_neg hr] at h1; exact sub_one hc h1
theorem enc_one {c b b' : Nat → Byte} (hc : ∀ i, i < 256 → c i = sbox i) : ∀ r, Agree 16 (enc c b r) (enc c b' r) → Agree 16 b b'
  | 0, h => add_one h
  | r + 1, h => enc_one hc r (round_one hc h)
theorem block_one (key a b : Nat → Byte) : Agree 16 (aesBlock key a) (aesBlock key b) ↔ Agree 16 a b :=
  ⟨enc_one (fun i hi => cf_lo _ i hi) 10, fun h => enc_agree (fun _ _ => rfl) h 10 (Nat.le_refl _)⟩
end Go.Proofs.Ytgjkeeejcebhhaa
