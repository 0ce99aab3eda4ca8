/- The root of a number: Newton's way, and bit by bit. -/
import Derived.Test.YtjphchcjneofhaaDoorLookWalks
import Derived.Test.YtjphchcjneofhaaDoorLen64
import Derived.Lib.ItoaNum
import Derived.ScopeJumps
namespace Go.Proofs.YtjphchcjneofhaaDoor
open Go.RowKit

def IsRoot (n r : Nat) : Prop := r * r ≤ n ∧ n < (r + 1) * (r + 1)
theorem sq_mono {a b : Nat} (h : a ≤ b) : a * a ≤ b * b := Nat.mul_le_mul h h
theorem lt_of_sq {a b : Nat} (h : a * a < b * b) : a < b := by
  rcases Nat.lt_or_ge a b with h1 | h1
  · exact h1
  · have := sq_mono h1; omega
theorem IsRoot.unique {n r s : Nat} (h : IsRoot n r) (k : IsRoot n s) : r = s := by
  have h1 : r < s + 1 := lt_of_sq (Nat.lt_of_le_of_lt h.1 k.2)
  have h2 : s < r + 1 := lt_of_sq (Nat.lt_of_le_of_lt k.1 h.2)
  omega
theorem isRoot_ex (n : Nat) : ∃ r, IsRoot n r := by
  induction n with
  | zero => exact ⟨0, Nat.le_refl _, by decide⟩
  | succ n ih =>
    obtain ⟨r, h1, h2⟩ := ih
    by_cases h : n + 1 < (r + 1) * (r + 1)
    · exact ⟨r, by omega, h⟩
    · refine ⟨r + 1, by omega, ?_⟩
      have e : (r + 1 + 1) * (r + 1 + 1) = (r + 1) * (r + 1) + 2 * (r + 1) + 1 := by rw [Nat.add_mul, Nat.mul_add]; omega
      omega
noncomputable def isq (n : Nat) : Nat := Classical.choose (isRoot_ex n)
theorem isq_spec (n : Nat) : IsRoot n (isq n) := Classical.choose_spec (isRoot_ex n)
theorem isq_eq {n r : Nat} (h : IsRoot n r) : isq n = r := (isq_spec n).unique h
theorem isq_lt {n m : Nat} (h : n < m * m) : isq n < m := lt_of_sq (Nat.lt_of_le_of_lt (isq_spec n).1 h)
theorem isq_pos {n : Nat} (h : 0 < n) : 0 < isq n := by
  rcases Nat.eq_zero_or_pos (isq n) with h0 | h0
  · have := (isq_spec n).2; rw [h0] at this; omega
  · exact h0
/-- One step of Newton's way stays above the root. -/
theorem newton_ge {n x : Nat} (hx : 0 < x) : isq n ≤ (x + n / x) / 2 := by
  obtain ⟨h1, _⟩ := isq_spec n
  generalize isq n = r at *
  rw [Nat.le_div_iff_mul_le (by omega)]
  by_cases h : 2 * r ≤ x
  · generalize n / x = q; omega
  · have h2 : 2 * r - x ≤ n / x := by
      rw [Nat.le_div_iff_mul_le hx]
      refine Nat.le_trans ?_ h1
      by_cases h3 : x ≤ r
      · obtain ⟨d, rfl⟩ := Nat.exists_eq_add_of_le h3
        have e1 : 2 * (x + d) - x = x + 2 * d := by omega
        rw [e1, Nat.add_mul, Nat.add_mul, Nat.mul_add, Nat.mul_add, Nat.mul_comm d x, Nat.mul_assoc 2 d x, Nat.mul_comm d x]
        have := Nat.zero_le (d * d)
        omega
      · obtain ⟨d, rfl⟩ := Nat.exists_eq_add_of_le (Nat.le_of_lt (Nat.lt_of_not_le h3))
        have hd : d ≤ r := by omega
        have e1 : 2 * r - (r + d) = r - d := by omega
        rw [e1]
        obtain ⟨k, rfl⟩ := Nat.exists_eq_add_of_le hd
        rw [show d + k - d = k by omega]
        simp only [Nat.mul_add, Nat.add_mul, Nat.mul_comm k d]
        have := Nat.zero_le (d * d)
        omega
    omega
/-- Where it no more falls, it is the root. -/
theorem newton_end {n x : Nat} (hx : 0 < x) (hr : isq n ≤ x) (h : x ≤ (x + n / x) / 2) : isq n = x := by
  have h1 : x ≤ n / x := by
    rw [Nat.le_div_iff_mul_le (by omega)] at h
    omega
  rw [Nat.le_div_iff_mul_le hx] at h1
  have h2 := Nat.lt_of_le_of_lt h1 (isq_spec n).2
  have := lt_of_sq h2
  omega
theorem bitLen_lt {n : Nat} (h : n < 18446744073709551616) : n < 2 ^ Lib.bitLen n := by
  by_cases h0 : n = 0
  · subst h0; exact Nat.two_pow_pos _
  · exact (Lib.bitLenAux_bounds 64 n h h0).2.2
/-- Where it begins. -/
theorem newton_start {n : Nat} (h : n < 18446744073709551616) : isq n < 2 ^ ((Lib.bitLen n + 1) / 2) := by
  refine isq_lt (Nat.lt_of_lt_of_le (bitLen_lt h) ?_)
  rw [← Nat.pow_add]
  exact Nat.pow_le_pow_right (by omega) (by omega)

theorem wp_scope_two {P : Program} {a : Act} {w : World} {Q : Exit → Act → World → Prop} {c R : Code} (l : Nat) (J : Act → World → Prop) (μ : Act → World → Nat) (hf : findLabel c l = some (.seq .skip R))
    (pass : ∀ a w, J a w → R.wp P (Exit.jump l (fun a' w' => J a' w' ∧ μ a' w' < μ a w) Q) a w)
    (first : (∀ a w, J a w → R.wp P (Exit.jump l J Q) a w) → c.wp P (Exit.jump l J Q) a w) : (Code.scope c).wp P Q a w := by
  refine wp_scope_jumps l J μ hf (first fun a w h => wp_mono (pass a w h) ?_) fun a w h => wp_seq (wp_skip (pass a w h))
  intro e a' w' he
  cases e with
  | goto l' => exact ⟨he.1, he.2.1⟩
  | _ => exact he
def JRoot (n : Nat) (w : World) (a : Act) (w' : World) : Prop := w' = w ∧ ∃ (x : Nat) (u4 u5 u6 u7 u8 u9 u10 u11 u12 u13 u14 u15 u16 u17 u18 u19 u20 u21 u22 u23 u24 : Value),
  a = ⟨#[.int .u64 (n : Int), undef, .int .u64 0, .int .u64 (x : Int), u4, u5, u6, u7, u8, u9, u10, u11, u12, u13, u14, u15, u16, u17, u18, u19, u20, u21, u22, u23, u24], []⟩ ∧ isq n ≤ x ∧ 0 < x ∧ x ≤ 4294967295

set_option maxRecDepth 100000 in
set_option maxHeartbeats 2000000 in
theorem root_pos (n : Nat) (hn : n < 18446744073709551616) (h0 : 0 < n) (w : World) : Calls Tryd.prog 28 #[.int .u64 (n : Int)] w fun e w' => e = .returned (.int .u64 ((isq n : Nat) : Int)) ∧ w' = w := by
  have HN := Lib.hid hn
  have HS := Lib.hid (newton_start hn)
  have HP := Lib.hid (isq_pos h0)
  have HL := Lib.hid (Lib.bitLen_le n 64 (Nat.le_refl _) hn)
  have HLn := Lib.hid (show isq n < 4294967296 from isq_lt hn)
  have h00 : ((n : Int) == 0) = false := by rw [beq_eq_false_iff_ne]; omega
  clear hn h0
  go_enter Tryd.func28, Tryd.ntmps28
  go_wp2_with fail
  refine wp_scope_two 0 (JRoot n w) (fun a' _ => (intOf (a'.tmps.getD 3 undef)).toNat) rfl ?_ ?_
  · rintro a wr ⟨rfl, x, u4, u5, u6, u7, u8, u9, u10, u11, u12, u13, u14, u15, u16, u17, u18, u19, u20, u21, u22, u23, u24, rfl, h1, h2, h3⟩
    have hq := newton_ge (n := n) h2
    have hq2 : n / x ≤ x + 2 := by
      have h5 := sq_mono (Nat.add_le_add_right h1 1)
      have h6 := (isq_spec n).2
      have h7 : (x + 1) * (x + 1) = (x + 2) * x + 1 := by rw [Nat.add_mul, Nat.mul_add, Nat.add_mul]; omega
      rw [← Nat.lt_succ_iff, Nat.div_lt_iff_lt_mul h2]
      have h8 : (x + 2 + 1) * x = (x + 2) * x + x := by rw [Nat.add_mul (x + 2)]; omega
      show n < (x + 2 + 1) * x
      omega
    have hend := newton_end (n := n) h2 h1
    have hq1 : (n : Int) / (x : Int) = ((n / x : Nat) : Int) := rfl
    generalize n / x = q at *
    have hy1 : ((x : Int) + (q : Int)) / 2 = (((x + q) / 2 : Nat) : Int) := by omega
    generalize hy : (x + q) / 2 = y at *
    have HQ := Lib.hid hq
    have HE := Lib.hid hend
    have H1 := Lib.hid h1
    have HY := Lib.hid hy1
    have h0x : ((x : Int) == 0) = false := by rw [beq_eq_false_iff_ne]; omega
    clear hq hend h1 hy hy1
    go_upto_region 7 with fail
    rw [HY.out]
    by_cases h5 : (y : Int) < (x : Int)
    · have hq0 := HQ.out
      have hp0 := HP.out
      go_wp2_with fail
      apply wp_goto
      exact ⟨rfl, ⟨rfl, y, _, _, _, _, _, _, _, _, _, _, _, _, _, _, _, _, _, _, _, _, _, rfl, HQ.out, by omega, by omega⟩, by simp [intOf]; omega⟩
    · have HX := Lib.hid (HE.out (by omega))
      go_wp2_with fail
      simp only [Exit.jump]
      go_ret
      rw [HX.out]
      exact ⟨rfl, rfl⟩
  · intro hpass
    generalize hL : Lib.bitLen n = L at *
    have HLL : Hid (Lib.bitLen (n : Int).toNat = L) := Lib.hid hL
    have hL2 := HL.out
    obtain ⟨D, hD⟩ : ∃ D, D = (L + 1) / 2 := ⟨_, rfl⟩
    have hD3 : D ≤ 32 := by omega
    have hX : 2 ^ D ≤ 2 ^ 32 := Nat.pow_le_pow_right (by omega) hD3
    have HS2 : isq n < 2 ^ D := by rw [hD]; exact HS.out
    have HW : Hid (IntKind.u64.wrap (2 ^ ((L + 1) / 2)) = ((2 ^ D : Nat) : Int)) := Lib.hid (by
      rw [← hD, IntKind.wrap_u64]
      have : ((2 : Int) ^ D) = ((2 ^ D : Nat) : Int) := by simp
      rw [this]
      omega)
    clear hD HS HL hL
    go_upto_region 4 with (first
      | (go_at_call 35; refine (len64_any (n : Int) _ (by omega) (by have := HN.out; omega)).mono ?_; rintro e w2 ⟨rfl, rfl⟩; rw [show Lib.bitLen ((n : Int).toNat) = L from HLL.out]))
    rw [HW.out]
    clear HW HLL
    generalize 2 ^ D = X at *
    have hp0 := HP.out
    have HXX := Lib.hid HS2
    clear HS2
    by_cases h5 : (4294967295 : Int) < (X : Int)
    · go_wp2_with fail
      apply wp_label
      rename_i hk
      exact hk _ _ <| hpass _ _ ⟨rfl, 4294967295, _, _, _, _, _, _, _, _, _, _, _, _, _, _, _, _, _, _, _, _, _, rfl, by have := HLn.out; omega, by omega, by omega⟩
    · go_wp2_with fail
      apply wp_label
      rename_i hk
      exact hk _ _ <| hpass _ _ ⟨rfl, X, _, _, _, _, _, _, _, _, _, _, _, _, _, _, _, _, _, _, _, _, _, rfl, by have := HXX.out; omega, by have := HXX.out; omega, by omega⟩
theorem root_look (n : Nat) (hn : n < 18446744073709551616) (w : World) : Calls Tryd.prog 28 #[.int .u64 (n : Int)] w fun e w' => e = .returned (.int .u64 ((isq n : Nat) : Int)) ∧ w' = w := by
  rcases Nat.eq_zero_or_pos n with rfl | h0
  · have h00 : isq 0 = 0 := isq_eq ⟨Nat.le_refl _, by decide⟩
    rw [h00]
    go_enter Tryd.func28, Tryd.ntmps28
    go_wp2_with fail
    refine wp_scope_two 0 (fun _ _ => False) (fun _ _ => 0) rfl (fun _ _ h => h.elim) fun _ => ?_
    go_wp2_with fail
    simp only [Exit.jump]
    go_ret
    exact ⟨rfl, rfl⟩
  · exact root_pos n hn h0 w

theorem or_bit64 (r j : Nat) (hj : j ≤ 31) (hr : r < 4294967296) (hm : r % 2 ^ (j + 1) = 0) : bits .or .u64 (r : Int) (IntKind.u64.wrap (2 ^ j)) = ((r + 2 ^ j : Nat) : Int) := by
  have hp : 2 ^ j ≤ 2147483648 := Nat.pow_le_pow_right (n := 2) (by omega) hj
  have hc : ((2 : Int) ^ j) = ((2 ^ j : Nat) : Int) := by simp
  have h0 : IntKind.u64.wrap (2 ^ j) = ((2 ^ j : Nat) : Int) := by rw [hc, IntKind.wrap_u64]; omega
  rw [h0]
  have h1 : (BitVec.ofInt 64 (r : Int)).toNat = r := by
    rw [BitVec.ofInt_natCast, BitVec.toNat_ofNat]; exact Nat.mod_eq_of_lt (by omega)
  have h2 : (BitVec.ofInt 64 ((2 ^ j : Nat) : Int)).toNat = 2 ^ j := by
    rw [BitVec.ofInt_natCast, BitVec.toNat_ofNat]; exact Nat.mod_eq_of_lt (by omega)
  show IntKind.u64.wrap ((BitVec.ofInt 64 (r : Int) ||| BitVec.ofInt 64 ((2 ^ j : Nat) : Int)).toNat : Int) = _
  rw [BitVec.toNat_or, h1, h2]
  have h3 : r ||| 2 ^ j = r + 2 ^ j := by
    have h4 := Nat.two_pow_add_eq_or_of_lt (i := j + 1) (b := 2 ^ j) (Nat.pow_lt_pow_right (by omega) (by omega)) (r / 2 ^ (j + 1))
    rw [Nat.mul_div_cancel' (Nat.dvd_of_mod_eq_zero hm)] at h4
    exact h4.symm
  rw [h3, IntKind.wrap_u64]
  omega
/-- The bits from k on are found. -/
def RootI (n r k : Nat) : Prop := r * r ≤ n ∧ n < (r + 2 ^ k) * (r + 2 ^ k) ∧ r % 2 ^ k = 0 ∧ r < 4294967296
theorem rootI_room {n r j : Nat} (hj : j ≤ 31) (h : RootI n r (j + 1)) : r + 2 ^ j < 4294967296 := by
  obtain ⟨_, _, hm, hr⟩ := h
  have h1 : (4294967296 : Nat) = 2 ^ (j + 1) * 2 ^ (31 - j) := by rw [← Nat.pow_add, show j + 1 + (31 - j) = 32 by omega]
  have h2 := Nat.mul_div_cancel' (Nat.dvd_of_mod_eq_zero hm)
  have h3 : r / 2 ^ (j + 1) < 2 ^ (31 - j) := by rw [Nat.div_lt_iff_lt_mul (Nat.two_pow_pos _), Nat.mul_comm, ← h1]; exact hr
  have h4 := Nat.mul_le_mul_left (2 ^ (j + 1)) (show r / 2 ^ (j + 1) + 1 ≤ 2 ^ (31 - j) from h3)
  rw [← h1, Nat.mul_add, h2, Nat.mul_one] at h4
  have h5 : 2 ^ (j + 1) = 2 * 2 ^ j := by rw [Nat.pow_succ]; omega
  have h6 := Nat.two_pow_pos j
  omega
theorem mod_half {r j : Nat} (h : r % 2 ^ (j + 1) = 0) : r % 2 ^ j = 0 := by
  obtain ⟨q, rfl⟩ := Nat.dvd_of_mod_eq_zero h
  rw [Nat.pow_succ, Nat.mul_assoc, Nat.mul_mod_right]
theorem rootI_yes {n r j : Nat} (h : RootI n r (j + 1)) : (r + 2 ^ j) * (r + 2 ^ j) ≤ n → r + 2 ^ j < 4294967296 → RootI n (r + 2 ^ j) j := fun h1 h2 => by
  refine ⟨h1, ?_, ?_, h2⟩
  · have : r + 2 ^ j + 2 ^ j = r + 2 ^ (j + 1) := by rw [Nat.pow_succ]; omega
    rw [this]; exact h.2.1
  · rw [Nat.add_mod_right]; exact mod_half h.2.2.1
theorem rootI_no {n r j : Nat} (h : RootI n r (j + 1)) : n < (r + 2 ^ j) * (r + 2 ^ j) → RootI n r j := fun h1 => ⟨h.1, h1, mod_half h.2.2.1, h.2.2.2⟩
theorem rootI_step {n r j : Nat} (h : RootI n r j) (hj : j ≤ 31) : (∃ k : Nat, Value.int .i64 ((j : Int) - 1) = .int .i64 (k : Int) ∧ k ≤ 31 ∧ RootI n r (k + 1)) ∨ (Value.int .i64 ((j : Int) - 1) = .int .i64 (-1) ∧ RootI n r 0) := by
  cases j with
  | zero => exact .inr ⟨rfl, h⟩
  | succ k => exact .inl ⟨k, by congr 1; omega, by omega, h⟩
end Go.Proofs.YtjphchcjneofhaaDoor
