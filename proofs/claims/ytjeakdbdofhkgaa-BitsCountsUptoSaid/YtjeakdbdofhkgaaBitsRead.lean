/- The walks of package bits: the readers. -/
import Derived.Test.YtjeakdbdofhkgaaBitsWalks
import Derived.Test.YtjeakdbdofhkgaaOwn
namespace Go.Proofs.Ytjeakdbdofhkgaa
open Go.RowKit

/-- A slice and an error's number; the slice reads as f. -/
def RdRow (w : World) (n : Nat) (f : Nat → Value) (err : Int) (e : Ending) (w' : World) : Prop :=
  ∃ A c, e = .returned (.tuple #[.slice A n c, .int .i64 err]) ∧ n ≤ c ∧ Rd w' w'.heap.size A n f ∧ Below w.heap.size w w'
theorem RdRow.nil (w : World) (f : Nat → Value) (err : Int) : RdRow w 0 f err (.returned (.tuple #[.slice none 0 0, .int .i64 err])) w :=
  ⟨none, 0, rfl, Nat.le_refl _, Rd.none_, Below.refl _ _⟩

/-- Why n bits are not read as a vector, or 0. -/
def rvErr (b : Nat → Nat) (m : Nat) (n : Int) : Int :=
  if n < 1 ∨ 4096 < n then 1 else if m ≠ (n.toNat + 7) / 8 then 4 else if b (m - 1) / 2 ^ ((n.toNat + 7) % 8 + 1) ≠ 0 then 5 else 0
def rvLen (b : Nat → Nat) (m : Nat) (n : Int) : Nat := if rvErr b m n = 0 then n.toNat else 0

set_option maxHeartbeats 400000 in
theorem readVector_any (B m cl : Nat) (n : Int) (A : Option Addr) (b : Nat → Nat) (w : World) (hl : Rd w B A m (fun i => .int .u8 ((b i : Nat) : Int))) (hB : B ≤ w.heap.size) (hb : ∀ i, b i < 256) (hm : m ≤ 140737488355328)
    (hn : -9223372036854775808 ≤ n ∧ n ≤ 9223372036854775807) :
    Calls Try.prog 15 #[.slice A m cl, .int .i64 n] w (RdRow w (rvLen b m n) (fun i => .bool (bitOf b i)) (rvErr b m n)) := by
  by_cases h1 : n < 1
  · have E : rvErr b m n = 1 := by unfold rvErr; rw [if_pos (.inl h1)]
    have L : rvLen b m n = 0 := by unfold rvLen; rw [E]; rfl
    rw [E, L]
    clear hl E L hb
    go_enter Try.func15, Try.ntmps15
    go_wp2
    go_ret2
    exact RdRow.nil _ _ _
  by_cases h2 : 4096 < n
  · have E : rvErr b m n = 1 := by unfold rvErr; rw [if_pos (.inr h2)]
    have L : rvLen b m n = 0 := by unfold rvLen; rw [E]; rfl
    rw [E, L]
    clear hl E L hb
    go_enter Try.func15, Try.ntmps15
    go_wp2
    go_ret2
    exact RdRow.nil _ _ _
  obtain ⟨k, rfl⟩ : ∃ k : Nat, n = k := ⟨n.toNat, by omega⟩
  by_cases h3 : m = (k + 7) / 8
  · have hk8 : 1 ≤ m ∧ m ≤ 512 := by omega
    obtain ⟨ad, hA, hb', hc⟩ := hl.at_ (k := m - 1) (by omega)
    subst hA
    have hbk := hb (m - 1)
    by_cases h4 : k % 8 = 0
    · have E : rvErr b m k = 0 := by
        unfold rvErr
        rw [if_neg (by omega), if_neg (by simpa using h3), if_neg]
        rw [Int.toNat_natCast, show (k + 7) % 8 + 1 = 8 by omega, Nat.div_eq_of_lt hbk]
        simp
      have L : rvLen b m k = k := by unfold rvLen; rw [E]; rfl
      rw [E, L]
      have Ht := Lib.hid (take_any B k m cl (some ad) b w hl hB hb (by omega) (by omega) (by omega))
      have h3' : ((m : Int) != ((k : Int) + 7) / 8) = false := by rw [bne_eq_false_iff_eq]; omega
      have h4' : ((k : Int) % 8 != 0) = false := by rw [bne_eq_false_iff_eq]; omega
      clear hl E L hb h3 h4
      go_enter Try.func15, Try.ntmps15
      go_wp2_with (go_at_call 21; refine Ht.out.mono ?_; rintro e w1 ⟨g, rfl, hg, hrow, hbel⟩)
      go_ret2
      exact ⟨_, _, rfl, Nat.le_refl _, Rd.of_row hrow (Nat.le_refl _) hrow.lt, hbel⟩
    · have hr : (k + 7) % 8 + 1 = k % 8 := by omega
      have h3' : ((m : Int) != ((k : Int) + 7) / 8) = false := by rw [bne_eq_false_iff_eq]; omega
      have h4' : ((k : Int) % 8 != 0) = true := by rw [bne_iff_ne]; omega
      by_cases h5 : b (m - 1) / 2 ^ (k % 8) = 0
      · have E : rvErr b m k = 0 := by
          unfold rvErr
          rw [if_neg (by omega), if_neg (by simpa using h3), if_neg]
          rw [Int.toNat_natCast, hr, h5]
          simp
        have L : rvLen b m k = k := by unfold rvLen; rw [E]; rfl
        rw [E, L]
        have Ht := Lib.hid (take_any B k m cl (some ad) b w hl hB hb (by omega) (by omega) (by omega))
        have h5' : ((b (m - 1) : Int) / 2 ^ (k % 8) != 0) = false := by
          rw [bne_eq_false_iff_eq]
          have : (((b (m - 1) / 2 ^ (k % 8)) : Nat) : Int) = 0 := by rw [h5]; rfl
          simpa using this
        have h8 : k % 8 < 8 := by omega
        clear hl E L hb h3 h4 hr h5
        go_enter Try.func15, Try.ntmps15
        go_wp2_with (go_at_call 21; refine Ht.out.mono ?_; rintro e w1 ⟨g, rfl, hg, hrow, hbel⟩)
        go_ret2
        exact ⟨_, _, rfl, Nat.le_refl _, Rd.of_row hrow (Nat.le_refl _) hrow.lt, hbel⟩
      · have E : rvErr b m k = 5 := by
          unfold rvErr
          rw [if_neg (by omega), if_neg (by simpa using h3), if_pos]
          rw [Int.toNat_natCast, hr]; exact h5
        have L : rvLen b m k = 0 := by unfold rvLen; rw [E]; rfl
        rw [E, L]
        have h5' : ((b (m - 1) : Int) / 2 ^ (k % 8) != 0) = true := by
          rw [bne_iff_ne]
          intro h
          apply h5
          have : (((b (m - 1) / 2 ^ (k % 8)) : Nat) : Int) = 0 := by simpa using h
          omega
        have h8 : k % 8 < 8 := by omega
        clear hl E L hb h3 h4 hr h5
        go_enter Try.func15, Try.ntmps15
        go_wp2
        go_ret2
        exact RdRow.nil _ _ _
  · have E : rvErr b m k = 4 := by unfold rvErr; rw [if_neg (by omega), if_pos (by simpa using h3)]
    have L : rvLen b m k = 0 := by unfold rvLen; rw [E]; rfl
    rw [E, L]
    have h3' : ((m : Int) != ((k : Int) + 7) / 8) = true := by rw [bne_iff_ne]; omega
    clear hl E L hb h3
    go_enter Try.func15, Try.ntmps15
    go_wp2
    go_ret2
    exact RdRow.nil _ _ _

def bitlen (x : Nat) : Nat := if x = 0 then 0 else Nat.log2 x + 1
theorem bitlen_le {x : Nat} (h : x < 256) : bitlen x ≤ 8 := by
  unfold bitlen
  split
  · omega
  · rename_i h0
    have := (Nat.log2_lt h0 (k := 8)).2 (by omega)
    omega
set_option maxRecDepth 100000 in
set_option maxHeartbeats 1000000 in
theorem len8_any (x : Nat) (w : World) (hx : x < 256) :
    Calls Try.prog 23 #[.int .u8 (x : Int)] w fun e w' => e = .returned (.int .i64 (bitlen x : Nat)) ∧ w = w' := by
  have H := Lib.hid hx
  go_enter Try.func23, Try.ntmps23
  go_wp2
  go_ret
  refine ⟨ret_int ?_, rfl⟩
  clear H
  revert x
  decide +kernel
set_option maxHeartbeats 400000 in
theorem lead8_any (x : Nat) (w : World) (hx : x < 256) :
    Calls Try.prog 20 #[.int .u8 (x : Int)] w fun e w' => e = .returned (.int .i64 (8 - (bitlen x : Nat))) ∧ w = w' := by
  have hb := bitlen_le hx
  go_enter Try.func20, Try.ntmps20
  go_wp2_with (go_at_call 23; refine (len8_any _ _ hx).mono ?_; rintro e w' ⟨rfl, rfl⟩)
  go_ret
  exact ⟨rfl, rfl⟩

/-- The place of the highest bit. -/
def hiBit (b : Nat → Nat) (m : Nat) : Nat := 8 * (m - 1) + (bitlen (b (m - 1)) - 1)
/-- Why a list of at most so many bits is not read, or 0. -/
def rlErr (b : Nat → Nat) (m : Nat) (n : Int) : Int :=
  if n < 0 ∨ 4096 < n then 1 else if m = 0 then 4 else if b (m - 1) = 0 then 5 else if n < hiBit b m then 6 else 0
def rlLen (b : Nat → Nat) (m : Nat) (n : Int) : Nat := if rlErr b m n = 0 then hiBit b m else 0

set_option maxHeartbeats 400000 in
theorem readList_any (B m cl : Nat) (n : Int) (A : Option Addr) (b : Nat → Nat) (w : World) (hl : Rd w B A m (fun i => .int .u8 ((b i : Nat) : Int))) (hB : B ≤ w.heap.size) (hb : ∀ i, b i < 256) (hm : m ≤ 140737488355328)
    (hn : -9223372036854775808 ≤ n ∧ n ≤ 9223372036854775807) :
    Calls Try.prog 14 #[.slice A m cl, .int .i64 n] w (RdRow w (rlLen b m n) (fun i => .bool (bitOf b i)) (rlErr b m n)) := by
  by_cases h1 : n < 0
  · have E : rlErr b m n = 1 := by unfold rlErr; rw [if_pos (.inl h1)]
    have L : rlLen b m n = 0 := by unfold rlLen; rw [E]; rfl
    rw [E, L]
    clear hl E L hb
    go_enter Try.func14, Try.ntmps14
    go_wp2
    go_ret2
    exact RdRow.nil _ _ _
  by_cases h2 : 4096 < n
  · have E : rlErr b m n = 1 := by unfold rlErr; rw [if_pos (.inr h2)]
    have L : rlLen b m n = 0 := by unfold rlLen; rw [E]; rfl
    rw [E, L]
    clear hl E L hb
    go_enter Try.func14, Try.ntmps14
    go_wp2
    go_ret2
    exact RdRow.nil _ _ _
  by_cases h3 : m = 0
  · have E : rlErr b m n = 4 := by unfold rlErr; rw [if_neg (by omega), if_pos h3]
    have L : rlLen b m n = 0 := by unfold rlLen; rw [E]; rfl
    rw [E, L]
    have h3' : ((m : Int) == 0) = true := by rw [beq_iff_eq]; omega
    clear hl E L hb h3
    go_enter Try.func14, Try.ntmps14
    go_wp2
    go_ret2
    exact RdRow.nil _ _ _
  have h3' : ((m : Int) == 0) = false := by rw [beq_eq_false_iff_ne]; omega
  obtain ⟨ad, hA, hb', hc⟩ := hl.at_ (k := m - 1) (by omega)
  subst hA
  have hbk := hb (m - 1)
  by_cases h4 : b (m - 1) = 0
  · have E : rlErr b m n = 5 := by unfold rlErr; rw [if_neg (by omega), if_neg h3, if_pos h4]
    have L : rlLen b m n = 0 := by unfold rlLen; rw [E]; rfl
    rw [E, L]
    have h4' : ((b (m - 1) : Int) == 0) = true := by rw [beq_iff_eq]; omega
    have h3 : 1 ≤ m := by omega
    clear hl E L hb h4
    go_enter Try.func14, Try.ntmps14
    go_wp2
    go_ret2
    exact RdRow.nil _ _ _
  have h4' : ((b (m - 1) : Int) == 0) = false := by rw [beq_eq_false_iff_ne]; omega
  have hle := bitlen_le hbk
  have hpos : 1 ≤ bitlen (b (m - 1)) := by unfold bitlen; rw [if_neg h4]; omega
  have hh : (8 * (m : Int) - 1 - (8 - (bitlen (b (m - 1)) : Nat))) = (hiBit b m : Nat) := by unfold hiBit; omega
  have hh8 : hiBit b m < 8 * m := by unfold hiBit; omega
  by_cases h5 : n < hiBit b m
  · have E : rlErr b m n = 6 := by unfold rlErr; rw [if_neg (by omega), if_neg h3, if_neg h4, if_pos h5]
    have L : rlLen b m n = 0 := by unfold rlLen; rw [E]; rfl
    rw [E, L]
    have h3 : 1 ≤ m := by omega
    clear hl E L hb h4
    go_enter Try.func14, Try.ntmps14
    go_wp2_with (go_at_call 20; refine (lead8_any _ _ hbk).mono ?_; rintro e w' ⟨rfl, rfl⟩)
    go_ret2
    exact RdRow.nil _ _ _
  · have E : rlErr b m n = 0 := by unfold rlErr; rw [if_neg (by omega), if_neg h3, if_neg h4, if_neg h5]
    have L : rlLen b m n = hiBit b m := by unfold rlLen; rw [E]; rfl
    rw [E, L]
    have h3 : 1 ≤ m := by omega
    have Ht := Lib.hid (fun W h => take_any B (hiBit b m) m cl (some ad) b W h)
    have Hl := Lib.hid hl
    have Hb := Lib.hid hb
    clear hl E L hb h4
    go_enter Try.func14, Try.ntmps14
    go_wp2_with (first | (go_at_call 20; refine (lead8_any _ _ hbk).mono ?_; rintro e w' ⟨rfl, rfl⟩) | (go_at_call 21; refine (Ht.out _ Hl.out hB Hb.out (by omega) (by omega) (by omega)).mono ?_; rintro e w1 ⟨g, rfl, hg, hrow, hbel⟩))
    go_ret2
    exact ⟨_, _, rfl, Nat.le_refl _, Rd.of_row hrow (Nat.le_refl _) hrow.lt, hbel⟩
end Go.Proofs.Ytjeakdbdofhkgaa
