/- SHA-256 of any number of bytes, in plain Lean. -/
import Derived.Test.YtecgogeebponlaaDoorShaPlain
namespace Go.Proofs.YtecgogeebponlaaDoor
set_option maxRecDepth 40000
open Go.RowKit

theorem win_congr (m m' : Nat → W32) (h : ∀ i, i < 16 → m i = m' i) : ∀ (t j : Nat), j < 16 → win m t j = win m' t j
  | 0, j, hj => h j hj
  | t + 1, j, hj => by
    have ih := win_congr m m' h t
    simp only [win]
    by_cases e : j < 15
    · rw [if_pos e, if_pos e, ih (j + 1) (by omega)]
    · rw [if_neg e, if_neg e, ih 0 (by omega), ih 1 (by omega), ih 9 (by omega), ih 14 (by omega)]
theorem rounds_congr (m m' : Nat → W32) (s : S8) (h : ∀ i, i < 16 → m i = m' i) : ∀ t, rounds m s t = rounds m' s t
  | 0 => rfl
  | t + 1 => by
    have e : Wt m t = Wt m' t := win_congr m m' h t 0 (by omega)
    simp only [rounds, rounds_congr m m' s h t, e]
theorem comp_congr (H : Nat → W32) (m m' : Nat → Nat) (h : ∀ i, i < 64 → m i = m' i) : comp H m = comp H m' := by
  unfold comp
  rw [rounds_congr (word m) (word m') (S8.of H) (fun i hi => by unfold word; rw [h (4 * i) (by omega), h (4 * i + 1) (by omega), h (4 * i + 2) (by omega), h (4 * i + 3) (by omega)]) 64]
def hList : List Nat := [0x6a09e667, 0xbb67ae85, 0x3c6ef372, 0xa54ff53a, 0x510e527f, 0x9b05688c, 0x1f83d9ab, 0x5be0cd19]
/-- The words that all begins with. -/
def h0 (i : Nat) : W32 := BitVec.ofNat 32 (hList.getD i 0)
/-- Block k of some bytes. -/
def blk (m : Nat → Nat) (k : Nat) : Nat → Nat := fun i => m (64 * k + i)
/-- The words behind k blocks. -/
def Hs (m : Nat → Nat) : Nat → Nat → W32
  | 0 => h0
  | k + 1 => comp (Hs m k) (blk m k)
theorem Hs_congr (m m' : Nat → Nat) : ∀ k, (∀ i, i < 64 * k → m i = m' i) → Hs m k = Hs m' k
  | 0, _ => rfl
  | k + 1, h => by
    simp only [Hs]
    rw [Hs_congr m m' k (fun i hi => h i (by omega))]
    exact comp_congr _ _ _ (fun i hi => h _ (by omega))
/-- How many blocks there are behind the padding. -/
def nb (len : Nat) : Nat := (len + 8) / 64 + 1
def padF (len : Nat) (m : Nat → Nat) (j : Nat) : Nat :=
  if j < len then m j else if j = len then 128 else if j < 64 * nb len - 8 then 0 else 8 * len % 18446744073709551616 / 2 ^ (8 * (64 * nb len - 1 - j)) % 256
/-- The words as bytes. -/
def rootOf (H : Nat → W32) (i : Nat) : Nat := (H (i / 4) >>> (24 - 8 * (i % 4))).toNat % 256
/-- The sum of the first len bytes of m. -/
def shaB (m : Nat → Nat) (len : Nat) : Nat → Nat := rootOf (Hs (padF len m) (nb len))
theorem rootOf_lt (H : Nat → W32) (i : Nat) : rootOf H i < 256 := Nat.mod_lt _ (by omega)
theorem shaB_lt (m : Nat → Nat) (len i : Nat) : shaB m len i < 256 := rootOf_lt _ _
theorem shaB_congr {m m' : Nat → Nat} {len : Nat} (h : ∀ i, i < len → m i = m' i) : shaB m len = shaB m' len := by
  have e : padF len m = padF len m' := by
    funext j
    unfold padF
    by_cases hj : j < len
    · rw [if_pos hj, if_pos hj, h j hj]
    · rw [if_neg hj, if_neg hj]
  unfold shaB; rw [e]
theorem padF_lt (len : Nat) (m : Nat → Nat) (hm : ∀ i, m i < 256) (j : Nat) : padF len m j < 256 := by
  unfold padF
  split
  · exact hm j
  · split
    · omega
    · split
      · omega
      · exact Nat.mod_lt _ (by omega)
theorem Hs_pad (m : Nat → Nat) (len k : Nat) (h : 64 * k ≤ len) : Hs (padF len m) k = Hs m k :=
  Hs_congr _ _ k (fun i hi => by unfold padF; rw [if_pos (by omega)])

/-- What the cells of a digest hold when len bytes of m came; z: what lies behind the rest. -/
def digF (m : Nat → Nat) (len : Nat) (z : Nat → Nat) : Nat → Value := fun j =>
  if j < 8 then wv (Hs m (len / 64) j) else if j < 72 then .int .u8 ((if j - 8 < len % 64 then m (64 * (len / 64) + (j - 8)) else z (j - 8) : Nat) : Int)
  else if j = 72 then .int .i64 ((len % 64 : Nat) : Int) else .int .u64 ((len % 18446744073709551616 : Nat) : Int)
/-- A digest in the making: n of these words, this rest, so many bytes in all. -/
def digG (H : Nat → W32) (x : Nat → Nat) (n : Nat) (all : Nat) : Nat → Value := fun j =>
  if j < 8 then wv (H j) else if j < 72 then .int .u8 ((x (j - 8) : Nat) : Int) else if j = 72 then .int .i64 ((n : Nat) : Int) else .int .u64 ((all % 18446744073709551616 : Nat) : Int)
def restF (m : Nat → Nat) (len : Nat) (z : Nat → Nat) : Nat → Nat := fun j => if j < len % 64 then m (64 * (len / 64) + j) else z j
theorem digF_G (m : Nat → Nat) (len : Nat) (z : Nat → Nat) : digF m len z = digG (Hs m (len / 64)) (restF m len z) (len % 64) len := rfl
/-- n bytes of m, and behind them those of x. -/
def catN (n : Nat) (m x : Nat → Nat) : Nat → Nat := fun i => if i < n then m i else x (i - n)
theorem catN_lt {n : Nat} {m x : Nat → Nat} (hm : ∀ i, m i < 256) (hx : ∀ i, x i < 256) (i : Nat) : catN n m x i < 256 := by
  unfold catN; split
  · exact hm i
  · exact hx _
end Go.Proofs.YtecgogeebponlaaDoor
