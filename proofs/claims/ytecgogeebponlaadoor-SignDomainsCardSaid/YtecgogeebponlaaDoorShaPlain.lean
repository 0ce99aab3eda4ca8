/- SHA-256 in plain Lean, on words of 32 bits. -/
import Derived.Test.YtecgogeebponlaaDoorReg
namespace Go.Proofs.YtecgogeebponlaaDoor
set_option maxRecDepth 40000
open Go.RowKit

abbrev W32 := BitVec 32
/-- A word as a value. -/
abbrev wv (x : W32) : Value := .int .u32 ((x.toNat : Nat) : Int)

theorem of32 (x : W32) : BitVec.ofInt 32 (x.toNat : Int) = x := by
  rw [BitVec.ofInt_natCast]; simp
theorem u32_add (a b : W32) : ((a.toNat : Int) + (b.toNat : Int)) % 4294967296 = (((a + b).toNat : Nat) : Int) := by
  rw [BitVec.toNat_add]; omega
theorem u32_wrap_add (a b : W32) : IntKind.u32.wrap ((a.toNat : Int) + (b.toNat : Int)) = (((a + b).toNat : Nat) : Int) := by
  rw [IntKind.wrap_u32]; exact u32_add a b
theorem wrap_toNat (x : W32) : IntKind.u32.wrap ((x.toNat : Nat) : Int) = ((x.toNat : Nat) : Int) := by
  have := x.isLt
  rw [IntKind.wrap_u32]; omega
theorem u32_xor (a b : W32) : bits .xor .u32 (a.toNat : Int) (b.toNat : Int) = (((a ^^^ b).toNat : Nat) : Int) := by
  show IntKind.u32.wrap ((BitVec.ofInt 32 (a.toNat : Int) ^^^ BitVec.ofInt 32 (b.toNat : Int)).toNat : Int) = _
  rw [of32, of32, wrap_toNat]
theorem u32_and (a b : W32) : bits .and .u32 (a.toNat : Int) (b.toNat : Int) = (((a &&& b).toNat : Nat) : Int) := by
  show IntKind.u32.wrap ((BitVec.ofInt 32 (a.toNat : Int) &&& BitVec.ofInt 32 (b.toNat : Int)).toNat : Int) = _
  rw [of32, of32, wrap_toNat]
theorem u32_or (a b : W32) : bits .or .u32 (a.toNat : Int) (b.toNat : Int) = (((a ||| b).toNat : Nat) : Int) := by
  show IntKind.u32.wrap ((BitVec.ofInt 32 (a.toNat : Int) ||| BitVec.ofInt 32 (b.toNat : Int)).toNat : Int) = _
  rw [of32, of32, wrap_toNat]
theorem u32_shr (a : W32) (k : Nat) : (a.toNat : Int) / 2 ^ k = (((a >>> k).toNat : Nat) : Int) := by
  rw [BitVec.toNat_ushiftRight, Nat.shiftRight_eq_div_pow]; simp
theorem u32_shl (a : W32) (k : Nat) : (a.toNat : Int) * 2 ^ k % 4294967296 = (((a <<< k).toNat : Nat) : Int) := by
  rw [BitVec.toNat_shiftLeft, Nat.shiftLeft_eq]; simp
/-- Turned to the right. -/
def rotr (x : W32) (k : Nat) : W32 := x >>> k ||| x <<< (32 - k)
def ch (e f g : W32) : W32 := g ^^^ (e &&& (f ^^^ g))
def maj (a b c : W32) : W32 := (a &&& b) ||| (c &&& (a ||| b))
theorem ch_ref (e f g : W32) : (e &&& f) ^^^ (~~~e &&& g) = ch e f g := by
  unfold ch
  apply BitVec.eq_of_getLsbD_eq
  intro i hi
  simp only [BitVec.getLsbD_xor, BitVec.getLsbD_and, BitVec.getLsbD_not, hi, decide_true, Bool.true_and]
  cases e.getLsbD i <;> cases f.getLsbD i <;> cases g.getLsbD i <;> rfl
theorem maj_ref (a b c : W32) : (a &&& b) ^^^ (a &&& c) ^^^ (b &&& c) = maj a b c := by
  unfold maj
  apply BitVec.eq_of_getLsbD_eq
  intro i hi
  simp only [BitVec.getLsbD_xor, BitVec.getLsbD_and, BitVec.getLsbD_or]
  cases a.getLsbD i <;> cases b.getLsbD i <;> cases c.getLsbD i <;> rfl

def s0 (x : W32) : W32 := rotr x 7 ^^^ rotr x 18 ^^^ x >>> 3
def s1 (x : W32) : W32 := rotr x 17 ^^^ rotr x 19 ^^^ x >>> 10
def S1 (e : W32) : W32 := rotr e 6 ^^^ rotr e 11 ^^^ rotr e 25
def S0 (a : W32) : W32 := rotr a 2 ^^^ rotr a 13 ^^^ rotr a 22
/-- The sixteen words from t on. -/
def win (m : Nat → W32) : Nat → Nat → W32
  | 0, j => m j
  | t + 1, j => if j < 15 then win m t (j + 1) else win m t 0 + s0 (win m t 1) + win m t 9 + s1 (win m t 14)
def Wt (m : Nat → W32) (t : Nat) : W32 := win m t 0
theorem win_at (m : Nat → W32) : ∀ (j t : Nat), j < 16 → win m t j = Wt m (t + j)
  | 0, t, _ => rfl
  | j + 1, t, h => by
    have h1 : win m (t + 1) j = win m t (j + 1) := by simp only [win]; rw [if_pos (by omega)]
    rw [← h1, win_at m j (t + 1) (by omega), show t + 1 + j = t + (j + 1) by omega]
theorem Wt_lo (m : Nat → W32) (t : Nat) (h : t < 16) : Wt m t = m t := by
  have := win_at m t 0 h
  rw [Nat.zero_add] at this
  rw [← this]; rfl
theorem Wt_step (m : Nat → W32) (t : Nat) : Wt m (t + 16) = Wt m t + s0 (Wt m (t + 1)) + Wt m (t + 9) + s1 (Wt m (t + 14)) := by
  have h := win_at m 15 (t + 1) (by omega)
  rw [show t + 1 + 15 = t + 16 by omega] at h
  rw [← h]
  simp only [win]
  rw [if_neg (by omega), win_at m 1 t (by omega), win_at m 9 t (by omega), win_at m 14 t (by omega)]
  rfl
def kList : List Nat := [0x428a2f98, 0x71374491, 0xb5c0fbcf, 0xe9b5dba5, 0x3956c25b, 0x59f111f1, 0x923f82a4, 0xab1c5ed5, 0xd807aa98, 0x12835b01, 0x243185be, 0x550c7dc3, 0x72be5d74, 0x80deb1fe, 0x9bdc06a7, 0xc19bf174, 0xe49b69c1, 0xefbe4786, 0x0fc19dc6, 0x240ca1cc, 0x2de92c6f, 0x4a7484aa, 0x5cb0a9dc, 0x76f988da, 0x983e5152, 0xa831c66d, 0xb00327c8, 0xbf597fc7, 0xc6e00bf3, 0xd5a79147, 0x06ca6351, 0x14292967, 0x27b70a85, 0x2e1b2138, 0x4d2c6dfc, 0x53380d13, 0x650a7354, 0x766a0abb, 0x81c2c92e, 0x92722c85, 0xa2bfe8a1, 0xa81a664b, 0xc24b8b70, 0xc76c51a3, 0xd192e819, 0xd6990624, 0xf40e3585, 0x106aa070, 0x19a4c116, 0x1e376c08, 0x2748774c, 0x34b0bcb5, 0x391c0cb3, 0x4ed8aa4a, 0x5b9cca4f, 0x682e6ff3, 0x748f82ee, 0x78a5636f, 0x84c87814, 0x8cc70208, 0x90befffa, 0xa4506ceb, 0xbef9a3f7, 0xc67178f2]
def kw (t : Nat) : W32 := BitVec.ofNat 32 (kList.getD t 0)
structure S8 where
  a : W32
  b : W32
  c : W32
  d : W32
  e : W32
  f : W32
  g : W32
  h : W32
def one (k x : W32) (s : S8) : W32 := s.h + S1 s.e + ch s.e s.f s.g + k + x
def two (s : S8) : W32 := S0 s.a + maj s.a s.b s.c
def step (k x : W32) (s : S8) : S8 := ⟨one k x s + two s, s.a, s.b, s.c, s.d + one k x s, s.e, s.f, s.g⟩
def rounds (m : Nat → W32) (s : S8) : Nat → S8
  | 0 => s
  | t + 1 => step (kw t) (Wt m t) (rounds m s t)
def S8.get (s : S8) : Nat → W32
  | 0 => s.a | 1 => s.b | 2 => s.c | 3 => s.d | 4 => s.e | 5 => s.f | 6 => s.g | 7 => s.h | _ => 0
def S8.of (H : Nat → W32) : S8 := ⟨H 0, H 1, H 2, H 3, H 4, H 5, H 6, H 7⟩
/-- Four bytes as a word. -/
def word (m : Nat → Nat) (i : Nat) : W32 := BitVec.ofNat 32 (m (4 * i)) <<< 24 ||| BitVec.ofNat 32 (m (4 * i + 1)) <<< 16 ||| BitVec.ofNat 32 (m (4 * i + 2)) <<< 8 ||| BitVec.ofNat 32 (m (4 * i + 3))
/-- A block of 64 bytes is mixed in. -/
def comp (H : Nat → W32) (m : Nat → Nat) : Nat → W32 := fun i => H i + (rounds (word m) (S8.of H) 64).get i
end Go.Proofs.YtecgogeebponlaaDoor
