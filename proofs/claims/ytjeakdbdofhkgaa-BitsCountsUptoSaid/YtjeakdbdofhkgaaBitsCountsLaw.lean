/- BitsCounts returns true, whatever the two lists of bits, where they are of bulk at most 1048576; nothing that was there is changed. -/
import Derived.Test.YtjeakdbdofhkgaaBitsLayLaw
namespace Go.Proofs.Ytjeakdbdofhkgaa
open Go.RowKit

theorem bit_num (b r : Nat) : bits .and .u8 ((b : Int) / 2 ^ r) 1 = ((b / 2 ^ r % 2 : Nat) : Int) := by
  have e : (b : Int) / 2 ^ r = ((b / 2 ^ r : Nat) : Int) := by simp
  rw [e]
  generalize b / 2 ^ r = a
  have h1 : (BitVec.ofInt 8 (a : Int)).toNat = a % 256 := by rw [BitVec.ofInt_natCast, BitVec.toNat_ofNat]
  have h2 : (BitVec.ofInt 8 (1 : Int)).toNat = 1 := rfl
  show IntKind.u8.wrap ((BitVec.ofInt 8 (a : Int) &&& BitVec.ofInt 8 (1 : Int)).toNat : Int) = _
  rw [BitVec.toNat_and, h1, h2, Nat.and_one_is_mod, IntKind.wrap_u8]
  omega
theorem count_ext (x : Nat → Bool) (n : Nat) : ∀ k, count (fun t => decide (t < n) && x t) (n + k) = count x n
  | 0 => count_congr n (fun i hi => by simp [hi])
  | k + 1 => by
    rw [← Nat.add_assoc]; simp only [count, count_ext x n k]
    rw [decide_eq_false (by omega)]; rfl

set_option maxRecDepth 100000 in
set_option maxHeartbeats 2000000 in
theorem bitsCounts_law (w : World) (A : Option Addr) (n c : Nat) (x : Nat → Bool) (ra : Rd w w.heap.size A n (fun i => .bool (x i))) (ln : n ≤ 1048576)
    (C : Option Addr) (m d : Nat) (y : Nat → Bool) (rb : Rd w w.heap.size C m (fun i => .bool (y i))) (lm : m ≤ 1048576) :
    Calls Try.prog 4 #[.slice A n c, .slice C m d] w fun e w' => e = .returned (.bool true) ∧ Below w.heap.size w w' := by
  have Ra := Lib.hid ra
  have Rb := Lib.hid rb
  clear ra rb
  let z : Nat → Bool := fun i => if i < n then x i else y (i - n)
  let v : Nat → Bool := fun t => decide (t < n) && x t
  have HF2 := Lib.hid (show ∀ i, i < n + m → catF n (fun i => .bool (x i)) (fun i => .bool (y i)) i = .bool (z i) from fun i hi => by
    by_cases h : i < n <;> simp [catF, z, h])
  have Hz := Lib.hid (count_add x y n m)
  have hcx := count_le x n
  have hcy := count_le y m
  go_enter Try.func4, Try.ntmps4
  go_wp2_with (first
    | (go_at_call 7; refine (awake_any _).mono ?_; rintro e w1 ⟨rfl, hb1⟩; have B1 := Lib.hid hb1; clear hb1; have s1 := B1.out.size)
    | (go_at_call_of 11 (Value.slice A n c); refine (count_any w.heap.size n _ _ x _ (Ra.out.below B1.out) (by omega)).mono ?_; rintro e w2 ⟨rfl, rfl⟩)
    | (at_builtin; refine wpList_app _ (.tmp 13) (.tmp 14) 22 w.heap.size bool_info Try.underlying22 rfl rfl rfl n (fun i => .bool (x i)) rfl rfl (Own.new0 _ _ _ (fun i => .bool (x i)) s1) ((Ra.out.below B1.out).alloc s1 _) (fun _ _ => rfl) (Nat.zero_add _).symm (fun _ _ => by simp [catF]) ⟨by omega, by omega⟩ (by simp; omega) ?_; intro A1 c1 w2 o1 g1 b1; have O1 := Lib.hid (And.intro o1 (And.intro g1 b1)); clear o1 g1 b1; have s2 : w1.heap.size + 1 ≤ w2.heap.size := (by have := O1.out.2.1.size; simp at this; exact this); have b2 : Below w.heap.size w w2 := (below_app (B1.out.alloc s1 _) O1.out.2.1 (by simp; omega) (by rintro ad h; injection h with h; subst h; exact s1)); have B2 := Lib.hid b2; clear b2)
    | (at_builtin; refine wpList_app _ (.tmp 15) (.tmp 16) 22 w.heap.size bool_info Try.underlying22 rfl rfl rfl (n + m) (fun i => .bool (z i)) rfl rfl O1.out.1 (Rb.out.below B2.out) (fun _ _ => rfl) rfl HF2.out ⟨by omega, by omega⟩ (by omega) ?_; intro A2 c2 w3 o2 g2 b2; have O2 := Lib.hid (And.intro o2 (And.intro g2 b2)); clear o2 g2 b2; have s3 := O2.out.2.1.size; have b3 : Below w.heap.size w w3 := (below_app B2.out O2.out.2.1 (by omega) (fun ad h => (O1.out.1.base_le ad h).1)); have B3 := Lib.hid b3; clear b3)
    | (go_at_call_of 11 A2; refine (count_any w3.heap.size (n + m) _ _ z _ O2.out.1.rd (by omega)).mono ?_; rw [Hz.out]; rintro e w4 ⟨rfl, rfl⟩)
    | (go_at_call_of 11 (Value.slice C m d); refine (count_any w.heap.size m _ _ y _ (Rb.out.below B3.out) (by omega)).mono ?_; rintro e w4 ⟨rfl, rfl⟩)
    | (go_at_call 10; refine (vector_any w.heap.size n _ _ x _ (Ra.out.below B3.out) (by omega) (by omega)).mono ?_; rintro e w4 ⟨g, rfl, hg, hrow, hb4⟩; have R4 := Lib.hid hrow; have B4 := Lib.hid (B3.out.trans (hb4.mono (by omega))); clear hrow hb4))
  have D4 := B4
  have hlt := R4.out.lt
  go_loop [5, 7, 8] (fun s i _ => ∃ k : Nat, k ≤ (n + 7) / 8 ∧ i = .int .i64 k ∧ count v (8 * k) ≤ count x n ∧ s = .int .i64 ((count x n : Int) - (count v (8 * k) : Nat))) (fun _ i _ => (n + 7) / 8 - (intOf i).toNat)
  case atStart => exact ⟨0, Nat.zero_le _, rfl, Nat.zero_le _, by simp [count]⟩
  case round =>
    obtain ⟨k, hk, rfl, hle, rfl⟩ := hrel
    have hmono : ∀ a b, a ≤ b → count v a ≤ count v b := fun a b h => by
      induction h with
      | refl => exact Nat.le_refl _
      | step _ ih => simp only [count]; omega
    have hall : count v (8 * ((n + 7) / 8)) = count x n := by
      have := count_ext x n (8 * ((n + 7) / 8) - n)
      rw [show n + (8 * ((n + 7) / 8) - n) = 8 * ((n + 7) / 8) by omega] at this
      exact this
    have Hall := Lib.hid hall
    have Hmono := Lib.hid hmono
    clear hall hmono
    by_cases hkn : k < (n + 7) / 8
    · have hc := R4.out.cell hkn
      have hbk := byteOf_lt x n k
      unfold laid at hc
      go_wp2
      go_loop [5, 8] (fun s j => ∃ r : Nat, r ≤ 8 ∧ j = .int .i64 r ∧ count v (8 * k + r) ≤ count x n ∧ s = .int .i64 ((count x n : Int) - (count v (8 * k + r) : Nat))) (fun _ j => 8 - (intOf j).toNat)
      case atStart => exact ⟨0, by omega, rfl, by simpa using hle, by simp⟩
      case round =>
        obtain ⟨r, hr, rfl, hle2, rfl⟩ := hrel
        by_cases hr8 : r < 8
        · have hb1 := bit_num (byteOf x n k) r
          have hstep : count v (8 * k + (r + 1)) = count v (8 * k + r) + byteOf x n k / 2 ^ r % 2 := by
            rw [← Nat.add_assoc]
            simp only [count]
            have h1 := bitOf_byteOf x n (8 * k + r)
            have h2 := bitOf_toNat (byteOf x n) (8 * k + r)
            rw [h1, show (8 * k + r) / 8 = k by omega, show (8 * k + r) % 8 = r by omega] at h2
            rw [← h2]
          have hlast : count v (8 * k + (r + 1)) ≤ count x n := by rw [← Hall.out]; exact Hmono.out _ _ (by omega)
          have hb2 : byteOf x n k / 2 ^ r % 2 ≤ 1 := by omega
          have Hstep := Lib.hid hstep
          clear hstep
          go_wp2
          go_round
          case rel => exact ⟨r + 1, by omega, by go_num, hlast, by rw [Hstep.out]; go_num⟩
          case measure => simp [intOf]; omega
        · obtain rfl : r = 8 := by omega
          go_wp2
          go_round
          case rel => exact ⟨k + 1, by omega, by go_num, by rw [show 8 * (k + 1) = 8 * k + 8 by omega]; exact hle2, by rw [show 8 * (k + 1) = 8 * k + 8 by omega]⟩
          case measure => simp [intOf]; omega
    · obtain rfl : k = (n + 7) / 8 := by omega
      have hz : ((count x n : Int) - (count v (8 * ((n + 7) / 8)) : Nat) == 0) = true := by rw [Hall.out, beq_iff_eq]; omega
      go_wp2
      go_ret
      exact ⟨rfl, D4.out⟩
end Go.Proofs.Ytjeakdbdofhkgaa
