/-
  Plain: the keys' bytes are the only ones that satisfy their rule; what agrees on its bytes has the same rounds; the block that the document fixes.
-/
import Derived.Test.YtgjkeeejcebhhaaA6
namespace Go.Proofs.Ytgjkeeejcebhhaa
def Agree (n : Nat) (f g : Nat → Byte) : Prop := ∀ i, i < n → f i = g i
def rc : Nat → Byte
  | 0 => 1#8
  | n + 1 => nextR (n + 4) (rc n)
theorem ks_rc (key : Nat → Byte) : ∀ n, (ks key n).2 = rc n
  | 0 => rfl
  | n + 1 => by show nextR (n + 4) (ks key n).2 = nextR (n + 4) (rc n); rw [ks_rc key n]
theorem tword_congr {W V : Nat → Byte} {i : Nat} (r : Byte) {k : Nat} (h4 : 4 ≤ i) (hk : k < 4) (h : Agree (4 * i) W V) : tword W i r k = tword V i r k := by
  unfold tword
  rw [h (4 * (i - 1) + 1) (by omega), h (4 * (i - 1) + 2) (by omega), h (4 * (i - 1) + 3) (by omega), h (4 * (i - 1)) (by omega), h (4 * (i - 1) + k) (by omega)]
theorem ks_eq (key f : Nat → Byte) (h0 : Agree 16 f key) (h1 : ∀ i k, 4 ≤ i → i < 44 → k < 4 → f (4 * i + k) = f (4 * i + k - 16) ^^^ tword f i (rc (i - 4)) k) :
    ∀ n, n ≤ 40 → Agree (16 + 4 * n) (ks key n).1 f
  | 0, _ => fun j hj => by show (if j < 16 then key j else 0) = _; rw [if_pos (by omega), h0 j (by omega)]
  | n + 1, hn => fun j hj => by
    have ih := ks_eq key f h0 h1 n (by omega)
    show partW (ks key n).1 (n + 4) (ks key n).2 4 j = f j
    unfold partW
    by_cases hj2 : 4 * (n + 4) ≤ j ∧ j < 4 * (n + 4) + 4
    · rw [if_pos hj2, ks_rc, ih (j - 16) (by omega), tword_congr (V := f) _ (by omega) (by omega) (fun i hi => ih i (by omega))]
      have := h1 (n + 4) (j - 4 * (n + 4)) (by omega) (by omega) (by omega)
      rw [show 4 * (n + 4) + (j - 4 * (n + 4)) = j by omega, show n + 4 - 4 = n by omega] at this
      exact this.symm
    · rw [if_neg hj2]; exact ih j (by omega)
theorem cf_agree {W V : Nat → Byte} (h : Agree 176 W V) : Agree 432 (cf W) (cf V) := fun i hi => by
  unfold cf; split
  · rfl
  · exact h _ (by omega)
theorem addTo_agree {c c' b b' : Nat → Byte} {r : Nat} (hr : r ≤ 10) (hc : Agree 432 c c') (hb : Agree 16 b b') : Agree 16 (addTo c b r 16) (addTo c' b' r 16) := fun i hi => by
  unfold addTo; rw [hb i hi, hc _ (by omega)]
theorem subTo_agree {c c' b b' : Nat → Byte} (hc : Agree 432 c c') (hb : Agree 16 b b') : Agree 16 (subTo c b 16) (subTo c' b' 16) := fun i hi => by
  unfold subTo; rw [hb _ (by omega), hc _ (by have := (b' ((i + 4 * (i % 4)) % 16)).isLt; omega)]
theorem mixAt_agree {t t' : Nat → Byte} {o : Nat} (ho : o + 4 ≤ 16) (h : Agree 16 t t') : Agree 16 (mixAt t o) (mixAt t' o) := fun i hi => by
  unfold mixAt
  simp only [h o (by omega), h (o + 1) (by omega), h (o + 2) (by omega), h (o + 3) (by omega), h i hi]
theorem mixTo_agree {t t' : Nat → Byte} (h : Agree 16 t t') : ∀ n, n ≤ 4 → Agree 16 (mixTo t n) (mixTo t' n)
  | 0, _ => h
  | n + 1, hn => mixAt_agree (by omega) (mixTo_agree h n (by omega))
theorem roundOf_agree {c c' b b' : Nat → Byte} {r : Nat} (hr : r ≤ 10) (hc : Agree 432 c c') (hb : Agree 16 b b') : Agree 16 (roundOf c b r) (roundOf c' b' r) := by
  unfold roundOf
  refine addTo_agree hr hc ?_
  split
  · exact mixTo_agree (subTo_agree hc hb) 4 (by omega)
  · exact subTo_agree hc hb
theorem enc_agree {c c' b b' : Nat → Byte} (hc : Agree 432 c c') (hb : Agree 16 b b') : ∀ r, r ≤ 10 → Agree 16 (enc c b r) (enc c' b' r)
  | 0, _ => addTo_agree (by omega) hc hb
  | r + 1, h => roundOf_agree h hc (enc_agree hc hb r (by omega))
def fkey : Nat → Byte := fun i => BitVec.ofNat 8 i
def fblk : Nat → Byte := fun i => BitVec.ofNat 8 (17 * i)
def kT : List Byte := [0, 1, 2, 3, 4, 5, 6, 7, 8, 9, 10, 11, 12, 13, 14, 15, 214, 170, 116, 253, 210, 175, 114, 250, 218, 166, 120, 241, 214, 171, 118, 254, 182, 146, 207, 11, 100, 61, 189, 241, 190, 155, 197, 0, 104, 48, 179, 254, 182, 255, 116, 78, 210, 194, 201, 191, 108, 89, 12, 191, 4, 105, 191, 65, 71, 247, 247, 188, 149, 53, 62, 3, 249, 108, 50, 188, 253, 5, 141, 253, 60, 170, 163, 232, 169, 159, 157, 235, 80, 243, 175, 87, 173, 246, 34, 170, 94, 57, 15, 125, 247, 166, 146, 150, 167, 85, 61, 193, 10, 163, 31, 107, 20, 249, 112, 26, 227, 95, 226, 140, 68, 10, 223, 77, 78, 169, 192, 38, 71, 67, 135, 53, 164, 28, 101, 185, 224, 22, 186, 244, 174, 191, 122, 210, 84, 153, 50, 209, 240, 133, 87, 104, 16, 147, 237, 156, 190, 44, 151, 78, 19, 17, 29, 127, 227, 148, 74, 23, 243, 7, 167, 139, 77, 43, 48, 197]
def kF : Nat → Byte := fun i => kT.getD i 0
def tF (n : Nat) : Nat → Byte := fun i => (([[0, 16, 32, 48, 64, 80, 96, 112, 128, 144, 160, 176, 192, 208, 224, 240], [137, 216, 16, 232, 133, 90, 206, 104, 45, 24, 67, 216, 203, 18, 143, 228], [73, 21, 89, 143, 85, 229, 215, 160, 218, 202, 148, 250, 31, 10, 99, 247], [250, 99, 106, 40, 37, 179, 57, 201, 64, 102, 138, 49, 87, 36, 77, 23], [36, 114, 64, 35, 105, 102, 179, 250, 110, 210, 117, 50, 136, 66, 91, 108], [200, 22, 119, 188, 155, 122, 201, 59, 37, 2, 121, 146, 176, 38, 25, 150], [198, 47, 225, 9, 247, 94, 237, 195, 204, 121, 57, 93, 132, 249, 207, 93], [209, 135, 108, 15, 121, 196, 48, 10, 180, 85, 148, 173, 214, 111, 244, 31], [253, 227, 186, 210, 5, 229, 208, 215, 53, 71, 150, 78, 241, 254, 55, 241], [189, 110, 124, 61, 242, 181, 119, 158, 11, 97, 33, 110, 139, 16, 182, 137], [105, 196, 224, 216, 106, 123, 4, 48, 216, 205, 183, 128, 112, 180, 197, 90]] : List (List Byte)).getD n []).getD i 0
theorem kF_zero : ∀ j, j < 16 → kF j = fkey j := by decide +kernel
theorem kF_rule : ∀ i, i < 44 → 4 ≤ i → ∀ k, k < 4 → kF (4 * i + k) = kF (4 * i + k - 16) ^^^ tword kF i (rc (i - 4)) k := by decide +kernel
theorem tF_zero : ∀ i, i < 16 → addTo (cf kF) fblk 0 16 i = tF 0 i := by decide +kernel

theorem tF_1 : ∀ i, i < 16 → roundOf (cf kF) (tF 0) 1 i = tF 1 i := by decide +kernel
theorem tF_2 : ∀ i, i < 16 → roundOf (cf kF) (tF 1) 2 i = tF 2 i := by decide +kernel
theorem tF_3 : ∀ i, i < 16 → roundOf (cf kF) (tF 2) 3 i = tF 3 i := by decide +kernel
theorem tF_4 : ∀ i, i < 16 → roundOf (cf kF) (tF 3) 4 i = tF 4 i := by decide +kernel
theorem tF_5 : ∀ i, i < 16 → roundOf (cf kF) (tF 4) 5 i = tF 5 i := by decide +kernel
theorem tF_6 : ∀ i, i < 16 → roundOf (cf kF) (tF 5) 6 i = tF 6 i := by decide +kernel
theorem tF_7 : ∀ i, i < 16 → roundOf (cf kF) (tF 6) 7 i = tF 7 i := by decide +kernel
theorem tF_8 : ∀ i, i < 16 → roundOf (cf kF) (tF 7) 8 i = tF 8 i := by decide +kernel
theorem tF_9 : ∀ i, i < 16 → roundOf (cf kF) (tF 8) 9 i = tF 9 i := by decide +kernel
theorem tF_10 : ∀ i, i < 16 → roundOf (cf kF) (tF 9) 10 i = tF 10 i := by decide +kernel
theorem fixed_enc : Agree 16 (enc (cf kF) fblk 10) (tF 10) := by
  have h0 : Agree 16 (enc (cf kF) fblk 0) (tF 0) := tF_zero

  have h1 : Agree 16 (enc (cf kF) fblk 1) (tF 1) := fun i hi => (roundOf_agree (by decide) (fun _ _ => rfl) h0 i hi).trans (tF_1 i hi)
  have h2 : Agree 16 (enc (cf kF) fblk 2) (tF 2) := fun i hi => (roundOf_agree (by decide) (fun _ _ => rfl) h1 i hi).trans (tF_2 i hi)
  have h3 : Agree 16 (enc (cf kF) fblk 3) (tF 3) := fun i hi => (roundOf_agree (by decide) (fun _ _ => rfl) h2 i hi).trans (tF_3 i hi)
  have h4 : Agree 16 (enc (cf kF) fblk 4) (tF 4) := fun i hi => (roundOf_agree (by decide) (fun _ _ => rfl) h3 i hi).trans (tF_4 i hi)
  have h5 : Agree 16 (enc (cf kF) fblk 5) (tF 5) := fun i hi => (roundOf_agree (by decide) (fun _ _ => rfl) h4 i hi).trans (tF_5 i hi)
  have h6 : Agree 16 (enc (cf kF) fblk 6) (tF 6) := fun i hi => (roundOf_agree (by decide) (fun _ _ => rfl) h5 i hi).trans (tF_6 i hi)
  have h7 : Agree 16 (enc (cf kF) fblk 7) (tF 7) := fun i hi => (roundOf_agree (by decide) (fun _ _ => rfl) h6 i hi).trans (tF_7 i hi)
  have h8 : Agree 16 (enc (cf kF) fblk 8) (tF 8) := fun i hi => (roundOf_agree (by decide) (fun _ _ => rfl) h7 i hi).trans (tF_8 i hi)
  have h9 : Agree 16 (enc (cf kF) fblk 9) (tF 9) := fun i hi => (roundOf_agree (by decide) (fun _ _ => rfl) h8 i hi).trans (tF_9 i hi)
  have h10 : Agree 16 (enc (cf kF) fblk 10) (tF 10) := fun i hi => (roundOf_agree (by decide) (fun _ _ => rfl) h9 i hi).trans (tF_10 i hi)
  exact h10
theorem fixed_block : Agree 16 (aesBlock fkey fblk) (tF 10) := fun i hi =>
  (enc_agree (cf_agree fun j hj => ks_eq fkey kF kF_zero (fun i k h1 h2 h3 => kF_rule i h2 h1 k h3) 40 (Nat.le_refl _) j (by omega)) (fun _ _ => rfl) 10 (Nat.le_refl _) i hi).trans (fixed_enc i hi)
end Go.Proofs.Ytgjkeeejcebhhaa
