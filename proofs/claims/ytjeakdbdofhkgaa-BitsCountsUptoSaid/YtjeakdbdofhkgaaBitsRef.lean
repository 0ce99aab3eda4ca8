/- The walks of the reference of layer 4. -/
import Derived.Test.YtjeakdbdofhkgaaBitsRead
namespace Go.Proofs.Ytjeakdbdofhkgaa
open Go.RowKit

theorem add_bit (a r : Nat) (hr : r < 8) (ha : a < 2 ^ r) : ((a : Int) + 2 ^ r) % 256 = ((a + 2 ^ r : Nat) : Int) := by
  have hp : 2 ^ r ≤ 128 := by
    have := Nat.pow_le_pow_right (n := 2) (by omega) (show r ≤ 7 by omega)
    omega
  have c : ((2 ^ r : Nat) : Int) = (2 : Int) ^ r := by simp
  rw [← c]
  omega

set_option maxHeartbeats 400000 in
theorem refVector_any (B n cl : Nat) (A : Option Addr) (x : Nat → Bool) (w : World) (hl : Rd w B A n (fun i => .bool (x i))) (hB : B ≤ w.heap.size) (hn : n ≤ 140737488355328) :
    Calls Try.prog 12 #[.slice A n cl] w (NewRow w 5 ((n + 7) / 8) (laid x n)) := by
  have hm := make_u8 (((n : Int) + 7) / 8) ((n + 7) / 8) (by omega) (by omega)
  have Hz := Lib.hid (laid_zero x)
  go_enter Try.func12, Try.ntmps12
  go_wp2
  go_loopw [4] (fun i wr => ∃ k : Nat, k ≤ n ∧ i = .int .i64 k ∧ wr.rowIs w.heap.size 5 ((n + 7) / 8) (laid x k) ∧ Below w.heap.size w wr) (fun i _ => n - (intOf i).toNat)
  case atStart => exact ⟨0, Nat.zero_le _, rfl, by rw [Hz.out]; exact World.rowIs_made _ _ _ _, (Below.refl _ _).alloc (Nat.le_refl _) _⟩
  case round =>
    obtain ⟨k, hk, rfl, hrow, hbel⟩ := hrel
    by_cases hkn : k < n
    · obtain ⟨ad, rfl, hb', hc⟩ := (hl.below (hbel.mono hB)).at_ hkn
      have Hl := Lib.hid hl
      clear hl hm
      cases hx : x k
      · rw [hx] at hc
        have Hs := Lib.hid (laid_skip x k hx)
        have Hrow := Lib.hid hrow
        have Hbel := Lib.hid hbel
        clear hx hrow hbel
        go_wp2
        go_roundw
        case rel => exact ⟨k + 1, by omega, by go_num, by rw [Hs.out]; exact Hrow.out, Hbel.out⟩
        case measure => simp [intOf]; omega
      · rw [hx] at hc
        have Hs := Lib.hid (laid_hit x k hx)
        have ha := (byteOf_at x k hx).2
        have hA := add_bit (byteOf x k (k / 8)) (k % 8) (by omega) ha
        have hw := hrow.cell (i := k / 8) (by omega)
        have hf := hrow.frozen (k / 8)
        have hlt := hrow.lt
        have h8 : ((k % 8 : Nat) : Int) < 8 := by omega
        have Hrow := Lib.hid hrow
        have Hbel := Lib.hid hbel
        have HA := Lib.hid hA
        unfold laid at hw
        clear hx hrow hbel ha hA
        go_wp2
        go_roundw
        case rel => exact ⟨k + 1, by omega, by go_num, by rw [HA.out, ← Hs.out]; exact Hrow.out.set _ _, Hbel.out.setCell (Nat.le_refl _) _⟩
        case measure => simp [intOf]; omega
    · obtain rfl : k = n := by omega
      have Hrow := Lib.hid hrow
      have Hbel := Lib.hid hbel
      clear hl hrow hbel hm
      go_wp2
      go_ret
      exact ⟨_, rfl, Nat.le_refl _, Hrow.out, Hbel.out⟩

set_option maxHeartbeats 400000 in
theorem refList_any (B n cl : Nat) (A : Option Addr) (x : Nat → Bool) (w : World) (hl : Rd w B A n (fun i => .bool (x i))) (hB : B ≤ w.heap.size) (hn : n ≤ 140737488355327) :
    Calls Try.prog 13 #[.slice A n cl] w (NewRow w 5 (n / 8 + 1) (laid (fun i => decide (i < n) && x i || decide (i = n)) (n + 1))) := by
  have Hl := Lib.hid hl
  clear hl
  let y : Nat → Bool := fun i => decide (i < n) && x i || decide (i = n)
  have hF1 : ∀ i, i < n → catF 0 (fun i => .bool (x i)) (fun i => .bool (x i)) i = .bool (x i) := fun i _ => by simp [catF]
  have hF2 : ∀ i, i < n + 1 → catF n (fun i => .bool (x i)) (fun _ => .bool true) i = .bool (y i) := fun i hi => by
    by_cases h : i < n
    · simp [catF, y, h, Nat.ne_of_lt h]
    · obtain rfl : i = n := by omega
      simp [catF, y]
  have HF1 := Lib.hid hF1
  have HF2 := Lib.hid hF2
  have Hv := Lib.hid (fun B A c W h => refVector_any B (n + 1) c A y W h)
  clear hF1 hF2
  go_enter Try.func13, Try.ntmps13
  go_wp2_with (first
    | (at_builtin; refine wpList_app _ (.tmp 3) (.tmp 4) 22 w.heap.size bool_info Try.underlying22 rfl rfl rfl n (fun i => .bool (x i)) rfl rfl (Own.new0 _ _ _ (fun i => .bool (x i)) (Nat.le_refl _)) (Hl.out.alloc hB _) (fun _ _ => rfl) (Nat.zero_add _).symm HF1.out ⟨by omega, by omega⟩ (by simp) ?_; intro A1 c1 w1 o1 g1 b1; have O1 := Lib.hid (And.intro o1 (And.intro g1 b1)); clear o1 g1 b1)
    | (at_builtin; refine wpList_app _ (.tmp 5) (.tmp 6) 22 w.heap.size bool_info Try.underlying22 rfl rfl rfl (n + 1) (fun i => .bool (y i)) rfl rfl (O1.out.1.alloc _) (Rd.one _ _ _) (fun _ _ => rfl) rfl HF2.out ⟨by omega, by omega⟩ (by have := O1.out.2.1.size; simp at this; simp; omega) ?_; intro A2 c2 w2 o2 g2 b2; have O2 := Lib.hid (And.intro o2 (And.intro g2 b2)); clear o2 g2 b2)
    | (go_at_call 12; refine (Hv.out _ _ _ _ O2.out.1.rd (Nat.le_refl _) (by omega)).mono ?_; rintro e w3 ⟨g, rfl, hg, hrow, hbel⟩))
  go_ret
  have s1 := O1.out.2.1.size
  have s2 := O2.out.2.1.size
  have b1 : Below w.heap.size w w1 := below_app ((Below.refl _ w).alloc (Nat.le_refl _) _) O1.out.2.1 (by simp) (by rintro ad h; injection h with h; subst h; exact Nat.le_refl _)
  have b2 : Below w.heap.size w w2 := below_app (b1.alloc b1.size _) O2.out.2.1 (by have := b1.size; simp; omega) (fun ad h => (O1.out.1.base_le ad h).1)
  have e8 : (n + 1 + 7) / 8 = n / 8 + 1 := by omega
  exact ⟨g, by rw [← e8]; rfl, Nat.le_trans b2.size hg, by rw [← e8]; exact hrow, b2.trans (hbel.mono b2.size)⟩

set_option maxHeartbeats 400000 in
theorem refAll_any (B m cl : Nat) (A : Option Addr) (b : Nat → Nat) (w : World) (hl : Rd w B A m (fun i => .int .u8 ((b i : Nat) : Int))) (hB : B ≤ w.heap.size) (hb : ∀ i, b i < 256) (hm : m ≤ 1099511627776) :
    Calls Try.prog 22 #[.slice A m cl] w fun e w' => ∃ A c, e = .returned (.slice A (8 * m) c) ∧ Own w' w.heap.size 4 A (8 * m) c (fun i => .bool (bitOf b i)) ∧ Below w.heap.size w w' := by
  go_enter Try.func22, Try.ntmps22
  go_wp2
  go_loopw [3, 4] (fun v i wr => ∃ k c : Nat, ∃ C, k ≤ 8 * m ∧ i = .int .i64 k ∧ v = .slice C k c ∧ Own wr w.heap.size 4 C k c (fun i => .bool (bitOf b i)) ∧ Below w.heap.size w wr) (fun _ i _ => 8 * m - (intOf i).toNat)
  case atStart => exact ⟨0, 0, none, Nat.zero_le _, rfl, rfl, Own.nil _ _ _ _, Below.refl _ _⟩
  case round =>
    obtain ⟨k, c, C, hk, rfl, rfl, hown, hbel⟩ := hrel
    by_cases hkn : k < 8 * m
    · obtain ⟨ad, rfl, hb', hc⟩ := (hl.below (hbel.mono hB)).at_ (k := k / 8) (by omega)
      have hbk := hb (k / 8)
      have h8 : ((k % 8 : Nat) : Int) < 8 := by omega
      have Hl := Lib.hid hl
      have Hown := Lib.hid hown
      have Hbel := Lib.hid hbel
      clear hl hown hbel hb
      have HF : Hid (∀ i, i < k + 1 → catF k (fun i => .bool (bitOf b i)) (fun _ => .bool (bits .and .u8 ((b (k / 8) : Int) / 2 ^ (k % 8)) 1 == 1)) i = .bool (bitOf b i)) := fun i hi => by
        by_cases h : i < k
        · simp [catF, h]
        · obtain rfl : i = k := by omega
          simp only [catF, if_neg h, bit_test]; rfl
      go_wp2_with (at_builtin; refine wpList_app _ (.tmp 12) (.tmp 24) 22 w.heap.size bool_info Try.underlying22 rfl rfl rfl (k + 1) (fun i => .bool (bitOf b i)) rfl rfl (Hown.out.alloc _) (Rd.one _ _ _) (fun _ _ => rfl) rfl HF.out ⟨by omega, by omega⟩ (by have := Hbel.out.size; simp; omega) ?_; intro A1 c1 w1 o1 g1 b1; have O1 := Lib.hid (And.intro o1 (And.intro g1 b1)); clear o1 g1 b1)
      go_roundw
      case rel => exact ⟨k + 1, c1, A1, by omega, by go_num, rfl, O1.out.1, below_app (Hbel.out.alloc Hbel.out.size _) O1.out.2.1 (by have := Hbel.out.size; simp; omega) (fun ad h => (Hown.out.base_le ad h).1)⟩
      case measure => simp [intOf]; omega
    · obtain rfl : k = 8 * m := by omega
      have Hown := Lib.hid hown
      have Hbel := Lib.hid hbel
      clear hl hown hbel hb
      go_wp2
      go_ret
      exact ⟨_, _, rfl, Hown.out, Hbel.out⟩

theorem rvErr_form {b : Nat → Nat} {m k : Nat} (hk : 1 ≤ k ∧ k ≤ 4096) (h3 : m = (k + 7) / 8) (j : Nat) (hj : k ≤ j) (hjm : j < 8 * m) (hbit : bitOf b j = true) : rvErr b m k = 5 := by
  have hk0 : k % 8 ≠ 0 := by omega
  have hj8 : j / 8 = m - 1 := by omega
  unfold rvErr
  rw [if_neg (by omega), if_neg (by simpa using h3), if_pos]
  rw [Int.toNat_natCast, show (k + 7) % 8 + 1 = k % 8 by omega]
  intro hz
  unfold bitOf at hbit
  rw [hj8] at hbit
  have hlt : b (m - 1) < 2 ^ (k % 8) := by
    rcases Nat.lt_or_ge (b (m - 1)) (2 ^ (k % 8)) with h | h
    · exact h
    · have := Nat.div_pos h (Nat.pow_pos (by omega)); omega
  have h0 : b (m - 1) / 2 ^ (j % 8) = 0 := Nat.div_eq_of_lt (Nat.lt_of_lt_of_le hlt (Nat.pow_le_pow_right (by omega) (by omega)))
  rw [h0] at hbit
  simp at hbit
theorem log2_bit {x : Nat} (h0 : x ≠ 0) : x / 2 ^ Nat.log2 x = 1 := by
  have hp := Nat.pow_pos (n := Nat.log2 x) (show 0 < 2 by omega)
  have h2 : 1 ≤ x / 2 ^ Nat.log2 x := Nat.div_pos (Nat.log2_self_le h0) hp
  have h3 : x / 2 ^ Nat.log2 x < 2 := by
    rw [Nat.div_lt_iff_lt_mul hp]
    have := Nat.lt_log2_self (n := x)
    rw [Nat.pow_succ] at this; omega
  omega
theorem rvErr_ok {b : Nat → Nat} {m k : Nat} (hb : ∀ i, b i < 256) (hk : 1 ≤ k ∧ k ≤ 4096) (h3 : m = (k + 7) / 8) (hno : ∀ t, k ≤ t → t < 8 * m → bitOf b t = false) : rvErr b m k = 0 := by
  unfold rvErr
  rw [if_neg (by omega), if_neg (by simpa using h3), if_neg]
  rw [Int.toNat_natCast]
  intro hz
  by_cases hk0 : k % 8 = 0
  · rw [show (k + 7) % 8 + 1 = 8 by omega] at hz
    exact hz (Nat.div_eq_of_lt (hb (m - 1)))
  · rw [show (k + 7) % 8 + 1 = k % 8 by omega] at hz
    have hb0 : b (m - 1) ≠ 0 := fun h => hz (by rw [h]; exact Nat.zero_div _)
    have hl8 : Nat.log2 (b (m - 1)) < 8 := (Nat.log2_lt hb0).2 (hb _)
    have hhi := Nat.lt_log2_self (n := b (m - 1))
    have h1 : k % 8 ≤ Nat.log2 (b (m - 1)) := by
      rcases Nat.lt_or_ge (Nat.log2 (b (m - 1))) (k % 8) with h | h
      · exact absurd (Nat.div_eq_of_lt (Nat.lt_of_lt_of_le hhi (Nat.pow_le_pow_right (by omega) h))) hz
      · exact h
    have h2 := hno (8 * (m - 1) + Nat.log2 (b (m - 1))) (by omega) (by omega)
    unfold bitOf at h2
    rw [show (8 * (m - 1) + Nat.log2 (b (m - 1))) / 8 = m - 1 by omega, show (8 * (m - 1) + Nat.log2 (b (m - 1))) % 8 = Nat.log2 (b (m - 1)) by omega, log2_bit hb0] at h2
    simp at h2

set_option maxHeartbeats 800000 in
theorem refReadVector_any (B m cl : Nat) (n : Int) (A : Option Addr) (b : Nat → Nat) (w : World) (hl : Rd w B A m (fun i => .int .u8 ((b i : Nat) : Int))) (hB : B ≤ w.heap.size) (hb : ∀ i, b i < 256) (hm : m ≤ 140737488355328)
    (hn : -9223372036854775808 ≤ n ∧ n ≤ 9223372036854775807) :
    Calls Try.prog 16 #[.slice A m cl, .int .i64 n] w (RdRow w (rvLen b m n) (fun i => .bool (bitOf b i)) (rvErr b m n)) := by
  by_cases h1 : n < 1
  · have E : rvErr b m n = 1 := by unfold rvErr; rw [if_pos (.inl h1)]
    have L : rvLen b m n = 0 := by unfold rvLen; rw [E]; rfl
    rw [E, L]
    clear hl E L hb
    go_enter Try.func16, Try.ntmps16
    go_wp2
    go_ret2
    exact RdRow.nil _ _ _
  by_cases h2 : 4096 < n
  · have E : rvErr b m n = 1 := by unfold rvErr; rw [if_pos (.inr h2)]
    have L : rvLen b m n = 0 := by unfold rvLen; rw [E]; rfl
    rw [E, L]
    clear hl E L hb
    go_enter Try.func16, Try.ntmps16
    go_wp2
    go_ret2
    exact RdRow.nil _ _ _
  obtain ⟨k, rfl⟩ : ∃ k : Nat, n = k := ⟨n.toNat, by omega⟩
  by_cases h3 : m = (k + 7) / 8
  · have hk8 : 1 ≤ m ∧ m ≤ 512 := by omega
    have h3' : ((m : Int) != ((k : Int) + 7) / 8) = false := by rw [bne_eq_false_iff_eq]; omega
    have Ha := Lib.hid (refAll_any B m cl A b w hl hB hb (by omega))
    have Hform := Lib.hid (rvErr_form (b := b) (m := m) (k := k) (by omega) h3)
    have Hok := Lib.hid (rvErr_ok hb (k := k) (by omega) h3)
    have hkm : k ≤ 8 * m ∧ 8 * m < k + 8 := by omega
    clear hl hb h3
    go_enter Try.func16, Try.ntmps16
    go_wp2_with (go_at_call 22; refine Ha.out.mono ?_; rintro e w1 ⟨C, c, rfl, hown, hbel⟩)
    have hrd := hown.rd
    have hcap := hown.cap
    have Hown := Lib.hid hown
    have Hbel := Lib.hid hbel
    clear hown hbel
    go_loop [7] (fun i => ∃ j : Nat, k ≤ j ∧ j ≤ 8 * m ∧ i = .int .i64 j ∧ ∀ t, k ≤ t → t < j → bitOf b t = false) (fun i => 8 * m - (intOf i).toNat)
    case atStart => exact ⟨k, Nat.le_refl _, by omega, rfl, fun t h1 h2 => absurd h1 (by omega)⟩
    case round =>
      obtain ⟨j, hkj, hj, rfl, hno⟩ := hrel
      have Hno := Lib.hid hno
      clear hno
      by_cases hjm : j < 8 * m
      · obtain ⟨ad, rfl, hbl, hc⟩ := hrd.at_ hjm
        have Hrd := Lib.hid hrd
        clear hrd
        cases hx : bitOf b j
        · rw [hx] at hc
          have Hx := Lib.hid hx
          clear hx
          go_wp2
          go_round
          case rel => exact ⟨j + 1, by omega, by omega, by go_num, fun t h1 h2 => by
            by_cases e : t = j
            · rw [e]; exact Hx.out
            · exact Hno.out t h1 (by omega)⟩
          case measure => simp [intOf]; omega
        · rw [hx] at hc
          have E : rvErr b m k = 5 := Hform.out j hkj hjm hx
          have L : rvLen b m k = 0 := by unfold rvLen; rw [E]; rfl
          have HE := Lib.hid E
          have HL := Lib.hid L
          clear hx E L
          go_wp2
          go_ret2
          rw [HE.out, HL.out]
          exact ⟨none, 0, rfl, Nat.le_refl _, Rd.none_, Hbel.out⟩
      · obtain rfl : j = 8 * m := by omega
        have E : rvErr b m k = 0 := Hok.out Hno.out
        have L : rvLen b m k = k := by unfold rvLen; rw [E]; rfl
        have HE := Lib.hid E
        have HL := Lib.hid L
        clear E L
        have Hrd := Lib.hid hrd
        clear hrd
        go_wp2
        go_ret2
        rw [HE.out, HL.out]
        exact ⟨C, c, rfl, by omega, Hrd.out.short (by omega), Hbel.out⟩
  · have E : rvErr b m k = 4 := by unfold rvErr; rw [if_neg (by omega), if_pos (by simpa using h3)]
    have L : rvLen b m k = 0 := by unfold rvLen; rw [E]; rfl
    rw [E, L]
    have h3' : ((m : Int) != ((k : Int) + 7) / 8) = true := by rw [bne_iff_ne]; omega
    clear hl E L hb h3
    go_enter Try.func16, Try.ntmps16
    go_wp2
    go_ret2
    exact RdRow.nil _ _ _

theorem hiBit_set {b : Nat → Nat} {m : Nat} (hb : ∀ i, b i < 256) (_hm : 1 ≤ m) (h0 : b (m - 1) ≠ 0) : bitOf b (hiBit b m) = true := by
  have hl8 : Nat.log2 (b (m - 1)) < 8 := (Nat.log2_lt h0).2 (hb _)
  have e : hiBit b m = 8 * (m - 1) + Nat.log2 (b (m - 1)) := by unfold hiBit bitlen; rw [if_neg h0]; rfl
  unfold bitOf
  rw [e, show (8 * (m - 1) + Nat.log2 (b (m - 1))) / 8 = m - 1 by omega, show (8 * (m - 1) + Nat.log2 (b (m - 1))) % 8 = Nat.log2 (b (m - 1)) by omega, log2_bit h0]
  rfl
theorem hiBit_above {b : Nat → Nat} {m : Nat} (h0 : b (m - 1) ≠ 0) (t : Nat) (ht : hiBit b m < t) (htm : t < 8 * m) : bitOf b t = false := by
  have e : hiBit b m = 8 * (m - 1) + Nat.log2 (b (m - 1)) := by unfold hiBit bitlen; rw [if_neg h0]; rfl
  have h8 : t / 8 = m - 1 := by omega
  have hhi := Nat.lt_log2_self (n := b (m - 1))
  unfold bitOf
  rw [h8, Nat.div_eq_of_lt (Nat.lt_of_lt_of_le hhi (Nat.pow_le_pow_right (by omega) (by omega)))]
  rfl
theorem hiBit_lt {b : Nat → Nat} {m : Nat} (hb : ∀ i, b i < 256) (hm : 1 ≤ m) : hiBit b m < 8 * m := by
  have := bitlen_le (hb (m - 1))
  unfold hiBit; omega

set_option maxHeartbeats 800000 in
theorem refReadList_any (B m cl : Nat) (n : Int) (A : Option Addr) (b : Nat → Nat) (w : World) (hl : Rd w B A m (fun i => .int .u8 ((b i : Nat) : Int))) (hB : B ≤ w.heap.size) (hb : ∀ i, b i < 256) (hm : m ≤ 1099511627776)
    (hn : -9223372036854775808 ≤ n ∧ n ≤ 9223372036854775807) :
    Calls Try.prog 17 #[.slice A m cl, .int .i64 n] w (RdRow w (rlLen b m n) (fun i => .bool (bitOf b i)) (rlErr b m n)) := by
  by_cases h1 : n < 0
  · have E : rlErr b m n = 1 := by unfold rlErr; rw [if_pos (.inl h1)]
    have L : rlLen b m n = 0 := by unfold rlLen; rw [E]; rfl
    rw [E, L]
    clear hl E L hb
    go_enter Try.func17, Try.ntmps17
    go_wp2
    go_ret2
    exact RdRow.nil _ _ _
  by_cases h2 : 4096 < n
  · have E : rlErr b m n = 1 := by unfold rlErr; rw [if_pos (.inr h2)]
    have L : rlLen b m n = 0 := by unfold rlLen; rw [E]; rfl
    rw [E, L]
    clear hl E L hb
    go_enter Try.func17, Try.ntmps17
    go_wp2
    go_ret2
    exact RdRow.nil _ _ _
  by_cases h3 : m = 0
  · have E : rlErr b m n = 4 := by unfold rlErr; rw [if_neg (by omega), if_pos h3]
    have L : rlLen b m n = 0 := by unfold rlLen; rw [E]; rfl
    rw [E, L]
    have h3' : ((m : Int) == 0) = true := by rw [beq_iff_eq]; omega
    clear hl E L hb h3
    go_enter Try.func17, Try.ntmps17
    go_wp2
    go_ret2
    exact RdRow.nil _ _ _
  have h3' : ((m : Int) == 0) = false := by rw [beq_eq_false_iff_ne]; omega
  obtain ⟨ad, hA, hb', hc⟩ := hl.at_ (k := m - 1) (by omega)
  subst hA
  have hbk := hb (m - 1)
  by_cases h4 : b (m - 1) = 0
  · have E : rlErr b m n = 5 := by unfold rlErr; rw [if_neg (by omega), if_neg h3, if_pos h4]
    have L : rlLen b m n = 0 := by unfold rlLen; rw [E]; rfl
    rw [E, L]
    have h4' : ((b (m - 1) : Int) == 0) = true := by rw [beq_iff_eq]; omega
    have h3 : 1 ≤ m := by omega
    clear hl E L hb h4
    go_enter Try.func17, Try.ntmps17
    go_wp2
    go_ret2
    exact RdRow.nil _ _ _
  have h4' : ((b (m - 1) : Int) == 0) = false := by rw [beq_eq_false_iff_ne]; omega
  have hh8 := hiBit_lt hb (show 1 ≤ m by omega)
  have Hset := Lib.hid (hiBit_set hb (show 1 ≤ m by omega) h4)
  have Habove := Lib.hid (hiBit_above h4)
  have HE := Lib.hid (show n < hiBit b m → rlErr b m n = 6 by intro h5; unfold rlErr; rw [if_neg (by omega), if_neg h3, if_neg h4, if_pos h5])
  have HE0 := Lib.hid (show ¬ n < hiBit b m → rlErr b m n = 0 by intro h5; unfold rlErr; rw [if_neg (by omega), if_neg h3, if_neg h4, if_neg h5])
  have h3 : 1 ≤ m := by omega
  have Ha := Lib.hid (refAll_any B m cl (some ad) b w hl hB hb hm)
  clear hl h4 hb
  go_enter Try.func17, Try.ntmps17
  go_wp2_with (go_at_call 22; refine Ha.out.mono ?_; rintro e w1 ⟨C, c, rfl, hown, hbel⟩)
  have hrd := hown.rd
  have hcap := hown.cap
  have Hown := Lib.hid hown
  have Hbel := Lib.hid hbel
  clear hown hbel
  go_loop [6] (fun v => ∃ j : Nat, hiBit b m < j ∧ j ≤ 8 * m ∧ v = .slice C j c) (fun v => match v with | .slice _ j _ => j | _ => 0)
  case atStart => exact ⟨8 * m, hh8, Nat.le_refl _, rfl⟩
  case round =>
    obtain ⟨j, hlo, hj, rfl⟩ := hrel
    obtain ⟨ad', hA', hbl, hc'⟩ := hrd.at_ (k := j - 1) (by omega)
    have Hrd := Lib.hid hrd
    clear hrd
    subst hA'
    by_cases hjh : j = hiBit b m + 1
    · have hx : bitOf b (j - 1) = true := by rw [hjh]; exact Hset.out
      rw [hx] at hc'
      have HJ := Lib.hid hjh
      have hj1 : hiBit b m + 1 ≤ j ∧ j ≤ hiBit b m + 1 := by omega
      clear hx hjh
      by_cases h5 : n < hiBit b m
      · have h5' : n < (j : Int) - 1 := by omega
        go_wp2
        go_ret2
        have L : rlLen b m n = 0 := by unfold rlLen; rw [HE.out h5]; rfl
        rw [HE.out h5, L]
        exact ⟨none, 0, rfl, Nat.le_refl _, Rd.none_, Hbel.out⟩
      · have h5' : ¬ n < (j : Int) - 1 := by omega
        go_wp2
        go_ret2
        have L : rlLen b m n = j - 1 := by unfold rlLen; rw [HE0.out h5, HJ.out]; rfl
        rw [HE0.out h5, L]
        exact ⟨_, c, rfl, by omega, Hrd.out.short (by omega), Hbel.out⟩
    · have hx : bitOf b (j - 1) = false := Habove.out (j - 1) (by omega) (by omega)
      rw [hx] at hc'
      have hjh : hiBit b m + 1 < j := by omega
      clear hx
      go_wp2
      go_round
      case rel => exact ⟨j - 1, by omega, by omega, rfl⟩
      case measure => simp; omega
end Go.Proofs.Ytjeakdbdofhkgaa
