/-
  Words of 32 bits, and the plain words of SHA-256: the schedule, a round, the digest of a stream of bytes. No program here.
-/
import Derived.Test.YtpekibadleghbaaDoorMem
namespace Go.Proofs.YtpekibadleghbaaDoor
open Go.RowKit
set_option linter.unusedVariables false
set_option linter.unusedSimpArgs false
abbrev Word := BitVec 32
/-- A word as a number; closed to the walk's own words. -/
def iW (b : Word) : Int := (b.toNat : Int)
abbrev W (b : Word) : Value := .int .u32 (iW b)
theorem iW_ge (b : Word) : 0 ≤ iW b := Int.natCast_nonneg _
theorem iW_lt (b : Word) : iW b < 4294967296 := by have := b.isLt; unfold iW; omega
theorem word_lt (a : Word) : (a.toNat : Int) < 4294967296 := by have := a.isLt; omega
theorem ofInt_iW (a : Word) : BitVec.ofInt 32 (iW a) = a := by unfold iW; simp
theorem xorW (a b : Word) : bits .xor .u32 (iW a) (iW b) = iW (a ^^^ b) := by
  unfold iW
  simp only [bits, IntKind.bits, BitVec.ofInt_natCast, BitVec.ofNat_toNat, BitVec.setWidth_eq, IntKind.wrap_u32]
  exact Int.emod_eq_of_lt (Int.natCast_nonneg _) (word_lt (a ^^^ b))
theorem andW (a b : Word) : bits .and .u32 (iW a) (iW b) = iW (a &&& b) := by
  unfold iW
  simp only [bits, IntKind.bits, BitVec.ofInt_natCast, BitVec.ofNat_toNat, BitVec.setWidth_eq, IntKind.wrap_u32]
  exact Int.emod_eq_of_lt (Int.natCast_nonneg _) (word_lt (a &&& b))
theorem orW (a b : Word) : bits .or .u32 (iW a) (iW b) = iW (a ||| b) := by
  unfold iW
  simp only [bits, IntKind.bits, BitVec.ofInt_natCast, BitVec.ofNat_toNat, BitVec.setWidth_eq, IntKind.wrap_u32]
  exact Int.emod_eq_of_lt (Int.natCast_nonneg _) (word_lt (a ||| b))
theorem addW (a b : Word) : (iW a + iW b) % (4294967296 : Int) = iW (a + b) := by
  unfold iW
  rw [BitVec.toNat_add]
  omega
theorem shlW (a : Word) (k : Nat) : iW a * ((2 ^ k : Nat) : Int) % (4294967296 : Int) = iW (a <<< k) := by
  unfold iW
  rw [BitVec.toNat_shiftLeft, Nat.shiftLeft_eq]
  simp
theorem shrW (a : Word) (k : Nat) : iW a / ((2 ^ k : Nat) : Int) = iW (a >>> k) := by
  unfold iW
  rw [BitVec.toNat_ushiftRight, Nat.shiftRight_eq_div_pow]
  simp

def ror (x : Word) (n : Nat) : Word := x >>> n ||| x <<< (32 - n)
def kT : List Word := [0x428a2f98, 0x71374491, 0xb5c0fbcf, 0xe9b5dba5, 0x3956c25b, 0x59f111f1, 0x923f82a4, 0xab1c5ed5, 0xd807aa98, 0x12835b01, 0x243185be, 0x550c7dc3, 0x72be5d74, 0x80deb1fe, 0x9bdc06a7, 0xc19bf174, 0xe49b69c1, 0xefbe4786, 0x0fc19dc6, 0x240ca1cc, 0x2de92c6f, 0x4a7484aa, 0x5cb0a9dc, 0x76f988da, 0x983e5152, 0xa831c66d, 0xb00327c8, 0xbf597fc7, 0xc6e00bf3, 0xd5a79147, 0x06ca6351, 0x14292967, 0x27b70a85, 0x2e1b2138, 0x4d2c6dfc, 0x53380d13, 0x650a7354, 0x766a0abb, 0x81c2c92e, 0x92722c85, 0xa2bfe8a1, 0xa81a664b, 0xc24b8b70, 0xc76c51a3, 0xd192e819, 0xd6990624, 0xf40e3585, 0x106aa070, 0x19a4c116, 0x1e376c08, 0x2748774c, 0x34b0bcb5, 0x391c0cb3, 0x4ed8aa4a, 0x5b9cca4f, 0x682e6ff3, 0x748f82ee, 0x78a5636f, 0x84c87814, 0x8cc70208, 0x90befffa, 0xa4506ceb, 0xbef9a3f7, 0xc67178f2]
def kk (i : Nat) : Word := kT.getD i 0
def hT : List Word := [0x6a09e667, 0xbb67ae85, 0x3c6ef372, 0xa54ff53a, 0x510e527f, 0x9b05688c, 0x1f83d9ab, 0x5be0cd19]
def h0 (i : Nat) : Word := hT.getD i 0
/-- A byte as a word. -/
def zx (b : Byte) : Word := b.setWidth 32
theorem iW_zx (b : Byte) : iW (zx b) = iB b := by
  unfold iW zx iB
  rw [BitVec.toNat_setWidth, Nat.mod_eq_of_lt (by have := b.isLt; omega)]
theorem shlB (b : Byte) (k : Nat) : iB b * ((2 ^ k : Nat) : Int) % (4294967296 : Int) = iW (zx b <<< k) := by rw [← iW_zx, shlW]
theorem orB (t : Word) (b : Byte) : bits .or .u32 (iW t) (iB b) = iW (t ||| zx b) := by rw [← iW_zx, orW]
theorem shl24 (b : Byte) : iB b * (16777216 : Int) % (4294967296 : Int) = iW (zx b <<< 24) := shlB b 24
theorem shl16 (b : Byte) : iB b * (65536 : Int) % (4294967296 : Int) = iW (zx b <<< 16) := shlB b 16
theorem shl8 (b : Byte) : iB b * (256 : Int) % (4294967296 : Int) = iW (zx b <<< 8) := shlB b 8
theorem modB (b : Byte) : iB b % (4294967296 : Int) = iB b := Int.emod_eq_of_lt (iB_ge b) (by have := iB_lt b; omega)
def wordAt (b : Nat → Byte) (p : Nat) : Word := zx (b p) <<< 24 ||| zx (b (p + 1)) <<< 16 ||| zx (b (p + 2)) <<< 8 ||| zx (b (p + 3))
def sg0 (x : Word) : Word := ror x 7 ^^^ ror x 18 ^^^ x >>> 3
def sg1 (x : Word) : Word := ror x 17 ^^^ ror x 19 ^^^ x >>> 10
def S (b : Nat → Byte) (i : Nat) : Word := if i < 16 then wordAt b (4 * i) else S b (i - 16) + sg0 (S b (i - 15)) + S b (i - 7) + sg1 (S b (i - 2))
termination_by i
decreasing_by all_goals omega
theorem S_low (b : Nat → Byte) (i : Nat) (h : i < 16) : S b i = wordAt b (4 * i) := by rw [S, if_pos h]
theorem S_high (b : Nat → Byte) (i : Nat) (h : 16 ≤ i) : S b i = S b (i - 16) + sg0 (S b (i - 15)) + S b (i - 7) + sg1 (S b (i - 2)) := by rw [S, if_neg (by omega)]
def t1 (v : Nat → Word) (k w : Word) : Word := v 7 + (ror (v 4) 6 ^^^ ror (v 4) 11 ^^^ ror (v 4) 25) + (v 4 &&& v 5 ^^^ ~~~ (v 4) &&& v 6) + k + w
def t2 (v : Nat → Word) : Word := (ror (v 0) 2 ^^^ ror (v 0) 13 ^^^ ror (v 0) 22) + (v 0 &&& v 1 ^^^ v 0 &&& v 2 ^^^ v 1 &&& v 2)
def rnd (v : Nat → Word) (k w : Word) : Nat → Word
  | 0 => t1 v k w + t2 v
  | 4 => v 3 + t1 v k w
  | j + 1 => v j
def Rn (b : Nat → Byte) (v : Nat → Word) : Nat → Nat → Word
  | 0 => v
  | n + 1 => rnd (Rn b v n) (kk n) (S b n)
def comp (h : Nat → Word) (b : Nat → Byte) : Nat → Word := fun j => h j + Rn b h 64 j
/-- The words behind n pieces of a stream of bytes. -/
def F (B : Nat → Byte) : Nat → Nat → Word
  | 0 => h0
  | n + 1 => comp (F B n) (fun i => B (64 * n + i))
theorem S_congr {b b' : Nat → Byte} (h : ∀ i, i < 64 → b i = b' i) : ∀ i, i < 64 → S b i = S b' i := by
  intro i
  induction i using Nat.strongRecOn with
  | ind i ih =>
    intro hi
    by_cases h16 : i < 16
    · rw [S_low _ _ h16, S_low _ _ h16]
      unfold wordAt
      rw [h _ (by omega), h _ (by omega), h _ (by omega), h _ (by omega)]
    · rw [S_high _ _ (by omega), S_high b' _ (by omega), ih (i - 16) (by omega) (by omega), ih (i - 15) (by omega) (by omega), ih (i - 7) (by omega) (by omega), ih (i - 2) (by omega) (by omega)]
theorem Rn_congr {b b' : Nat → Byte} (h : ∀ i, i < 64 → b i = b' i) (v : Nat → Word) : ∀ n, n ≤ 64 → Rn b v n = Rn b' v n
  | 0, _ => rfl
  | n + 1, hn => by
    unfold Rn
    rw [Rn_congr h v n (by omega), S_congr h n (by omega)]
theorem comp_congr {b b' : Nat → Byte} (h : ∀ i, i < 64 → b i = b' i) (v : Nat → Word) : comp v b = comp v b' := by
  unfold comp; rw [Rn_congr h v 64 (Nat.le_refl _)]
theorem F_congr {B B' : Nat → Byte} : ∀ n, (∀ i, i < 64 * n → B i = B' i) → F B n = F B' n
  | 0, _ => rfl
  | n + 1, h => by
    unfold F
    rw [F_congr n (fun i hi => h i (by omega)), comp_congr (fun i hi => h (64 * n + i) (by omega))]
/-- How many bytes are gone through for n bytes. -/
def padLen (n : Nat) : Nat := 64 * ((n + 8) / 64 + 1)
def lenByte (n j : Nat) : Byte := BitVec.ofNat 8 (n * 8 / 2 ^ (56 - 8 * j))
/-- n bytes of a stream, padded. -/
def padB (B : Nat → Byte) (n : Nat) : Nat → Byte := fun i => if i < n then B i else if i = n then 128#8 else if i < padLen n - 8 then 0#8 else lenByte n (i - (padLen n - 8))
/-- The digest of n bytes of a stream. -/
def dig (B : Nat → Byte) (n : Nat) : Nat → Byte := fun i => ((F (padB B n) (padLen n / 64) (i / 4)) >>> (24 - 8 * (i % 4))).setWidth 8
theorem padB_congr {B B' : Nat → Byte} {n : Nat} (h : ∀ i, i < n → B i = B' i) : padB B n = padB B' n := by
  funext i
  unfold padB
  by_cases hi : i < n
  · rw [if_pos hi, if_pos hi, h i hi]
  · rw [if_neg hi, if_neg hi]
theorem dig_congr {B B' : Nat → Byte} {n : Nat} (h : ∀ i, i < n → B i = B' i) : dig B n = dig B' n := by unfold dig; rw [padB_congr h]
/-- Two streams, the one behind n bytes of the other. -/
def glueB (n : Nat) (f g : Nat → Byte) : Nat → Byte := fun i => if i < n then f i else g (i - n)
/-- The mac by a key of at most 64 bytes. -/
def keyPad (key : Nat → Byte) (n : Nat) (x : Byte) : Nat → Byte := fun i => (if i < n then key i else 0#8) ^^^ x
def macOf (key : Nat → Byte) (n : Nat) (msg : Nat → Byte) (m : Nat) : Nat → Byte :=
  dig (glueB 64 (keyPad key n 92#8) (dig (glueB 64 (keyPad key n 54#8) msg) (64 + m))) 96
theorem macOf_congr {key key' msg msg' : Nat → Byte} {n m : Nat} (hk : ∀ i, i < n → key i = key' i) (hm : ∀ i, i < m → msg i = msg' i) : macOf key n msg m = macOf key' n msg' m := by
  have hp : ∀ x, keyPad key n x = keyPad key' n x := fun x => by
    funext i; unfold keyPad
    by_cases hi : i < n
    · rw [if_pos hi, if_pos hi, hk i hi]
    · rw [if_neg hi, if_neg hi]
  unfold macOf
  rw [hp, hp]
  congr 1
  have : dig (glueB 64 (keyPad key' n 54#8) msg) (64 + m) = dig (glueB 64 (keyPad key' n 54#8) msg') (64 + m) := dig_congr (fun i hi => by
    unfold glueB
    by_cases h : i < 64
    · rw [if_pos h, if_pos h]
    · rw [if_neg h, if_neg h, hm _ (by omega)])
  rw [this]
end Go.Proofs.YtpekibadleghbaaDoor
