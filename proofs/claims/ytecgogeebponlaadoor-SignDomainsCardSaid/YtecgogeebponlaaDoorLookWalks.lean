/- The functions of package look, and of its reference. -/
import Derived.Test.YtecgogeebponlaaDoorLookSt
import Derived.Test.YtecgogeebponlaaDoorBox
import Derived.Test.YtecgogeebponlaaDoorOwn
import Derived.Test.YtecgogeebponlaaDoorReg
import Derived.Lib.Hide
import Derived.ProofKit
import Derived.Deep.DeepCutAuto
import Derived.Deep.Light
import Derived.Deep.QuietTactic
import Derived.BigQuiet
namespace Go.Proofs.YtecgogeebponlaaDoor
set_option maxRecDepth 40000
open Go.RowKit

def actB (a e x : Nat) : Bool := decide (a ≤ e ∧ e < x)
theorem actB_t {a e x : Nat} (h : (a : Int) ≤ (e : Int)) : decide (e < x) = actB a e x := by
  unfold actB; exact decide_eq_decide.2 (by omega)
theorem actB_f {a e x : Nat} (h : (e : Int) < (a : Int)) : false = actB a e x := by
  unfold actB; exact (decide_eq_false (by omega)).symm
def slshB (s : Bool) (a e x : Nat) : Bool := !s && actB a e x
/-- May it be an epoch of a validator? -/
def epB (e : Nat) : Bool := decide (e = 18446744073709551615 ∨ e < 2199023255552)
theorem epoch_any (e : Nat) (w : World) : Calls Tryd.prog 25 #[.int .u64 (e : Int)] w fun r w' => r = .returned (.bool (epB e)) ∧ w' = w := by
  by_cases h1 : e = 18446744073709551615
  · have h : ((e : Int) == 18446744073709551615) = true := by rw [beq_iff_eq]; omega
    go_enter Tryd.func25, Tryd.ntmps25
    go_wp2
    go_ret
    exact ⟨ret_bool (decide_eq_true (.inl h1)).symm, rfl⟩
  · have h : ((e : Int) == 18446744073709551615) = false := by rw [beq_eq_false_iff_ne]; omega
    have h2 : decide ((e : Int) < 2199023255552) = epB e := decide_eq_decide.2 (by omega)
    have H1 := Lib.hid h2
    clear h1 h2
    go_enter Tryd.func25, Tryd.ntmps25
    go_wp2
    go_ret
    exact ⟨ret_bool H1.out, rfl⟩

/-- No number above a bound, nor their sum. -/
def sumTo (z : Nat → Nat) : Nat → Nat
  | 0 => 0
  | n + 1 => sumTo z n + z n
theorem sumTo_le {z : Nat → Nat} {n m : Nat} (h : n ≤ m) : sumTo z n ≤ sumTo z m := by
  induction h with
  | refl => exact Nat.le_refl _
  | step _ ih => exact Nat.le_trans ih (Nat.le_add_right _ _)
def sumB (z : Nat → Nat) (n : Nat) : Bool := decide (sumTo z n ≤ 144115188075855872)
theorem sumB_f {z : Nat → Nat} {n k u : Nat} (h : sumTo z (k + 1) = u) (hu : 144115188075855872 < u) (hk : k < n) : false = sumB z n := by
  have := sumTo_le (z := z) (show k + 1 ≤ n from hk)
  exact (decide_eq_false (by omega)).symm
theorem sum_any (A : Option Addr) (n c : Nat) (z : Nat → Nat) (w : World) (B : Nat) (hr : Rd w B A n (fun i => .int .u64 ((z i : Nat) : Int))) (hz : ∀ i, i < n → z i < 18446744073709551616) (hn : n ≤ maxLen) :
    Calls Tryd.prog 26 #[.slice A n c] w fun r w' => r = .returned (.bool (sumB z n)) ∧ w' = w := by
  have HR := Lib.hid hr
  have HZ := Lib.hid hz
  unfold maxLen at hn
  clear hr hz
  go_enter Tryd.func26, Tryd.ntmps26
  go_wp2_with fail
  go_loopw [3, 4] (fun t i wr => ∃ k : Nat, t = .int .u64 ((sumTo z k : Nat) : Int) ∧ i = .int .i64 (k : Int) ∧ k ≤ n ∧ sumTo z k ≤ 144115188075855872 ∧ wr = w) (fun _ i _ => n - (intOf i).toNat)
  case atStart => exact ⟨0, rfl, rfl, Nat.zero_le _, Nat.zero_le _, rfl⟩
  case round =>
    obtain ⟨k, rfl, rfl, hk, hs, rfl⟩ := hrel
    by_cases h1 : k < n
    · obtain ⟨ad, rfl, hb, hc⟩ := HR.out.at_ h1
      have hzk := HZ.out k h1
      have hst : sumTo z (k + 1) = sumTo z k + z k := rfl
      generalize z k = y at *
      generalize sumTo z k = t at *
      have HST := Lib.hid hst
      clear hst
      by_cases h2 : y ≤ 144115188075855872
      · by_cases h3 : t + y ≤ 144115188075855872
        · go_wp2_with fail
          go_roundw
          case rel => exact ⟨k + 1, by rw [HST.out]; go_num, by go_num, by omega, by rw [HST.out]; exact h3, True.intro⟩
          case measure => simp [intOf]; omega
        · go_wp2_with fail
          go_ret
          exact ⟨ret_bool (sumB_f HST.out (by omega) h1), rfl⟩
      · go_wp2_with fail
        go_ret
        exact ⟨ret_bool (sumB_f HST.out (by omega) h1), rfl⟩
    · obtain rfl : n = k := by omega
      go_wp2_with fail
      go_ret
      exact ⟨ret_bool (decide_eq_true hs).symm, rfl⟩

def sameB (x y : Nat → Nat) (n m : Nat) : Bool := decide (n = m ∧ ∀ i, i < n → x i = y i)
end Go.Proofs.YtecgogeebponlaaDoor
