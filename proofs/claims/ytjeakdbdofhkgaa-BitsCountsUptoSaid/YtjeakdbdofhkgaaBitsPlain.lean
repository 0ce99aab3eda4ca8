/- Bits as bytes, in plain Lean: what the bytes of bits are, and the bits of bytes. -/
import Derived.Test.YtjeakdbdofhkgaaLib
namespace Go.Proofs.Ytjeakdbdofhkgaa
open Go.RowKit

def bt (x : Nat → Bool) (n j k : Nat) : Nat := if 8 * j + k < n ∧ x (8 * j + k) = true then 1 else 0
def byteOf (x : Nat → Bool) (n j : Nat) : Nat :=
  bt x n j 0 + 2 * bt x n j 1 + 4 * bt x n j 2 + 8 * bt x n j 3 + 16 * bt x n j 4 + 32 * bt x n j 5 + 64 * bt x n j 6 + 128 * bt x n j 7
def bitOf (b : Nat → Nat) (i : Nat) : Bool := decide (b (i / 8) / 2 ^ (i % 8) % 2 = 1)

theorem bt_le (x : Nat → Bool) (n j k : Nat) : bt x n j k ≤ 1 := by unfold bt; split <;> omega
theorem byteOf_lt (x : Nat → Bool) (n j : Nat) : byteOf x n j < 256 := by
  unfold byteOf
  have := bt_le x n j 0; have := bt_le x n j 1; have := bt_le x n j 2; have := bt_le x n j 3
  have := bt_le x n j 4; have := bt_le x n j 5; have := bt_le x n j 6; have := bt_le x n j 7
  omega
theorem bt_out (x : Nat → Bool) (n j k : Nat) (h : n ≤ 8 * j + k) : bt x n j k = 0 := by unfold bt; rw [if_neg (by omega)]
theorem bt_in (x : Nat → Bool) (n j k : Nat) (h : 8 * j + k < n) : bt x n j k = (x (8 * j + k)).toNat := by
  unfold bt; cases x (8 * j + k) <;> simp [h]
theorem byteOf_zero (x : Nat → Bool) (j : Nat) : byteOf x 0 j = 0 := by
  unfold byteOf; simp [bt_out x 0 j _ (Nat.zero_le _)]
theorem bt_succ (x : Nat → Bool) (i j k : Nat) (h : 8 * j + k ≠ i ∨ x i = false) : bt x (i + 1) j k = bt x i j k := by
  unfold bt
  by_cases e : 8 * j + k = i
  · rw [e]
    have hx : x i = false := by rcases h with h | h <;> simp_all
    simp [hx]
  · by_cases c : 8 * j + k < i
    · simp [c, show 8 * j + k < i + 1 by omega]
    · simp [c, show ¬ 8 * j + k < i + 1 by omega]
theorem byteOf_skip (x : Nat → Bool) (i j : Nat) (h : x i = false) : byteOf x (i + 1) j = byteOf x i j := by
  unfold byteOf; simp only [bt_succ x i j _ (.inr h)]
theorem byteOf_other (x : Nat → Bool) (i j : Nat) (h : j ≠ i / 8) : byteOf x (i + 1) j = byteOf x i j := by
  unfold byteOf
  rw [bt_succ x i j 0 (.inl (by omega)), bt_succ x i j 1 (.inl (by omega)), bt_succ x i j 2 (.inl (by omega)), bt_succ x i j 3 (.inl (by omega)), bt_succ x i j 4 (.inl (by omega)),
    bt_succ x i j 5 (.inl (by omega)), bt_succ x i j 6 (.inl (by omega)), bt_succ x i j 7 (.inl (by omega))]
theorem byteOf_at (x : Nat → Bool) (i : Nat) (h : x i = true) : byteOf x (i + 1) (i / 8) = byteOf x i (i / 8) + 2 ^ (i % 8) ∧ byteOf x i (i / 8) < 2 ^ (i % 8) := by
  obtain ⟨q, hq⟩ : ∃ q, q = i / 8 := ⟨_, rfl⟩
  obtain ⟨r, hr⟩ : ∃ r, r = i % 8 := ⟨_, rfl⟩
  have e : i = 8 * q + r := by omega
  have hr8 : r < 8 := by omega
  rw [← hq, ← hr]
  have hk : ∀ k, k ≠ r → k < 8 → bt x (i + 1) q k = bt x i q k := fun k hk h8 => bt_succ x i q k (.inl (by omega))
  have h1 : bt x (i + 1) q r = 1 := by rw [bt_in x _ _ _ (by omega), ← e, h]; rfl
  have h0 : ∀ k, r ≤ k → bt x i q k = 0 := fun k hk => bt_out x i q k (by omega)
  have hb := fun k => bt_le x i q k
  have hb0 := hb 0; have hb1 := hb 1; have hb2 := hb 2; have hb3 := hb 3; have hb4 := hb 4; have hb5 := hb 5; have hb6 := hb 6
  clear hq hr hb
  unfold byteOf
  match r, hr8 with
  | 0, _ => rw [h1, hk 1 (by omega) (by omega), hk 2 (by omega) (by omega), hk 3 (by omega) (by omega), hk 4 (by omega) (by omega), hk 5 (by omega) (by omega), hk 6 (by omega) (by omega), hk 7 (by omega) (by omega), h0 0 (by omega), h0 1 (by omega), h0 2 (by omega), h0 3 (by omega), h0 4 (by omega), h0 5 (by omega), h0 6 (by omega), h0 7 (by omega)]; omega
  | 1, _ => rw [h1, hk 0 (by omega) (by omega), hk 2 (by omega) (by omega), hk 3 (by omega) (by omega), hk 4 (by omega) (by omega), hk 5 (by omega) (by omega), hk 6 (by omega) (by omega), hk 7 (by omega) (by omega), h0 1 (by omega), h0 2 (by omega), h0 3 (by omega), h0 4 (by omega), h0 5 (by omega), h0 6 (by omega), h0 7 (by omega)]; omega
  | 2, _ => rw [h1, hk 0 (by omega) (by omega), hk 1 (by omega) (by omega), hk 3 (by omega) (by omega), hk 4 (by omega) (by omega), hk 5 (by omega) (by omega), hk 6 (by omega) (by omega), hk 7 (by omega) (by omega), h0 2 (by omega), h0 3 (by omega), h0 4 (by omega), h0 5 (by omega), h0 6 (by omega), h0 7 (by omega)]; omega
  | 3, _ => rw [h1, hk 0 (by omega) (by omega), hk 1 (by omega) (by omega), hk 2 (by omega) (by omega), hk 4 (by omega) (by omega), hk 5 (by omega) (by omega), hk 6 (by omega) (by omega), hk 7 (by omega) (by omega), h0 3 (by omega), h0 4 (by omega), h0 5 (by omega), h0 6 (by omega), h0 7 (by omega)]; omega
  | 4, _ => rw [h1, hk 0 (by omega) (by omega), hk 1 (by omega) (by omega), hk 2 (by omega) (by omega), hk 3 (by omega) (by omega), hk 5 (by omega) (by omega), hk 6 (by omega) (by omega), hk 7 (by omega) (by omega), h0 4 (by omega), h0 5 (by omega), h0 6 (by omega), h0 7 (by omega)]; omega
  | 5, _ => rw [h1, hk 0 (by omega) (by omega), hk 1 (by omega) (by omega), hk 2 (by omega) (by omega), hk 3 (by omega) (by omega), hk 4 (by omega) (by omega), hk 6 (by omega) (by omega), hk 7 (by omega) (by omega), h0 5 (by omega), h0 6 (by omega), h0 7 (by omega)]; omega
  | 6, _ => rw [h1, hk 0 (by omega) (by omega), hk 1 (by omega) (by omega), hk 2 (by omega) (by omega), hk 3 (by omega) (by omega), hk 4 (by omega) (by omega), hk 5 (by omega) (by omega), hk 7 (by omega) (by omega), h0 6 (by omega), h0 7 (by omega)]; omega
  | 7, _ => rw [h1, hk 0 (by omega) (by omega), hk 1 (by omega) (by omega), hk 2 (by omega) (by omega), hk 3 (by omega) (by omega), hk 4 (by omega) (by omega), hk 5 (by omega) (by omega), hk 6 (by omega) (by omega), h0 7 (by omega)]; omega
/-- The bytes of bits tell the bits. -/
theorem bitOf_byteOf (x : Nat → Bool) (n i : Nat) : bitOf (byteOf x n) i = (decide (i < n) && x i) := by
  obtain ⟨q, hq⟩ : ∃ q, q = i / 8 := ⟨_, rfl⟩
  obtain ⟨r, hr⟩ : ∃ r, r = i % 8 := ⟨_, rfl⟩
  have e : i = 8 * q + r := by omega
  have hr8 : r < 8 := by omega
  have hb0 := bt_le x n q 0; have hb1 := bt_le x n q 1; have hb2 := bt_le x n q 2; have hb3 := bt_le x n q 3
  have hb4 := bt_le x n q 4; have hb5 := bt_le x n q 5; have hb6 := bt_le x n q 6; have hb7 := bt_le x n q 7
  have hv : (decide (i < n) && x i) = decide (bt x n q r = 1) := by
    unfold bt
    rw [← e]
    by_cases c : i < n <;> cases h : x i <;> simp [c]
  rw [hv]
  unfold bitOf
  rw [← hq, ← hr]
  have g : byteOf x n q / 2 ^ r % 2 = bt x n q r := by
    clear hv hq hr e
    unfold byteOf
    match r, hr8 with
    | 0, _ => omega
    | 1, _ => omega
    | 2, _ => omega
    | 3, _ => omega
    | 4, _ => omega
    | 5, _ => omega
    | 6, _ => omega
    | 7, _ => omega
  rw [g]
theorem bitOf_toNat (b : Nat → Nat) (i : Nat) : (bitOf b i).toNat = b (i / 8) / 2 ^ (i % 8) % 2 := by
  unfold bitOf
  have : b (i / 8) / 2 ^ (i % 8) % 2 < 2 := Nat.mod_lt _ (by omega)
  by_cases h : b (i / 8) / 2 ^ (i % 8) % 2 = 1 <;> simp [h]; omega
/-- The bits of bytes, laid again, are the bytes, where no bit from n on is set. -/
theorem byteOf_bitOf (b : Nat → Nat) (n j : Nat) (hb : b j < 256) (hz : b j < 2 ^ (n - 8 * j)) : byteOf (bitOf b) n j = b j := by
  have hk : ∀ k, k < 8 → bt (bitOf b) n j k = b j / 2 ^ k % 2 := by
    intro k hk
    by_cases c : 8 * j + k < n
    · rw [bt_in _ _ _ _ c, bitOf_toNat, show (8 * j + k) / 8 = j by omega, show (8 * j + k) % 8 = k by omega]
    · rw [bt_out _ _ _ _ (by omega)]
      have h1 : b j < 2 ^ k := Nat.lt_of_lt_of_le hz (Nat.pow_le_pow_right (by omega) (by omega))
      rw [Nat.div_eq_of_lt h1]
  unfold byteOf
  rw [hk 0 (by omega), hk 1 (by omega), hk 2 (by omega), hk 3 (by omega), hk 4 (by omega), hk 5 (by omega), hk 6 (by omega), hk 7 (by omega)]
  omega
theorem byteOf_inj {x y : Nat → Bool} {n m : Nat} (h : ∀ j, byteOf x n j = byteOf y m j) (i : Nat) : (decide (i < n) && x i) = (decide (i < m) && y i) := by
  rw [← bitOf_byteOf, ← bitOf_byteOf]; unfold bitOf; rw [h]

/-- Or of a bit that is higher than all that are set. -/
theorem or_bit (a r : Nat) (hr : r < 8) (ha : a < 2 ^ r) : bits .or .u8 (a : Int) (2 ^ r % 256) = ((a + 2 ^ r : Nat) : Int) := by
  have hp : 2 ^ r ≤ 128 := by
    have := Nat.pow_le_pow_right (n := 2) (by omega) (show r ≤ 7 by omega)
    omega
  have h1 : (BitVec.ofInt 8 (a : Int)).toNat = a := by
    rw [BitVec.ofInt_natCast, BitVec.toNat_ofNat]; exact Nat.mod_eq_of_lt (by omega)
  have h2 : (BitVec.ofInt 8 ((2 : Int) ^ r % 256)).toNat = 2 ^ r := by
    have c : ((2 ^ r : Nat) : Int) = (2 : Int) ^ r := by simp
    have e : ((2 : Int) ^ r % 256) = ((2 ^ r : Nat) : Int) := by rw [← c]; omega
    rw [e, BitVec.ofInt_natCast, BitVec.toNat_ofNat]; exact Nat.mod_eq_of_lt (by omega)
  show IntKind.u8.wrap ((BitVec.ofInt 8 (a : Int) ||| BitVec.ofInt 8 ((2 : Int) ^ r % 256)).toNat : Int) = _
  rw [BitVec.toNat_or, h1, h2]
  have h3 : a ||| 2 ^ r = a + 2 ^ r := by
    have := Nat.two_pow_add_eq_or_of_lt ha 1
    rw [Nat.mul_one] at this
    rw [Nat.or_comm, ← this, Nat.add_comm]
  rw [h3, IntKind.wrap_u8]
  omega
theorem i64_and7 (i : Nat) (h : i ≤ 9223372036854775807) : bits .and .i64 (i : Int) 7 = ((i % 8 : Nat) : Int) := by
  have h1 : (BitVec.ofInt 64 (i : Int)).toNat = i := by
    rw [BitVec.ofInt_natCast, BitVec.toNat_ofNat]; exact Nat.mod_eq_of_lt (by omega)
  have h2 : (BitVec.ofInt 64 (7 : Int)).toNat = 7 := rfl
  show IntKind.i64.wrap ((BitVec.ofInt 64 (i : Int) &&& BitVec.ofInt 64 (7 : Int)).toNat : Int) = _
  rw [BitVec.toNat_and, h1, h2, show i &&& 7 = i % 8 from Nat.and_two_pow_sub_one_eq_mod i 3, IntKind.wrap_i64]
  omega
/-- How many of the first n are set. -/
def count (x : Nat → Bool) : Nat → Nat
  | 0 => 0
  | n + 1 => count x n + (x n).toNat
theorem count_le (x : Nat → Bool) (n : Nat) : count x n ≤ n := by
  induction n with
  | zero => simp [count]
  | succ n ih => have : (x n).toNat ≤ 1 := by cases x n <;> simp
                 simp only [count]; omega
theorem count_congr {x y : Nat → Bool} (n : Nat) (h : ∀ i, i < n → x i = y i) : count x n = count y n := by
  induction n with
  | zero => rfl
  | succ n ih => simp only [count]; rw [ih (fun i hi => h i (by omega)), h n (by omega)]
theorem count_add (x y : Nat → Bool) (n m : Nat) : count (fun i => if i < n then x i else y (i - n)) (n + m) = count x n + count y m := by
  induction m with
  | zero => simp only [count, Nat.add_zero]; exact count_congr n (fun i hi => by simp [hi])
  | succ m ih => rw [← Nat.add_assoc]; simp only [count, ih]; rw [if_neg (by omega), show n + m - n = m by omega]; omega
/-- Are the first n alike? -/
def alike (x y : Nat → Bool) (n : Nat) : Bool := decide (∀ i, i < n → x i = y i)
end Go.Proofs.Ytjeakdbdofhkgaa
