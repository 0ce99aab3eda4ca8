/- The walks of the reference: Padded, Sum, Two. -/
import Derived.Test.YtecgogeebponlaaDoorShaAll
import Derived.Test.YtecgogeebponlaaDoorShaBlock
namespace Go.Proofs.YtecgogeebponlaaDoor
set_option maxRecDepth 40000
open Go.RowKit

theorem u8_info : (Tryd.prog.info? 5).map (fun i => (i.zero, i.size, i.bytes)) = some (some (.int .u8 0), 1, 1) := by kernel_rfl
theorem pad_first (n : Nat) (x : Nat → Nat) : ∀ i, i < n → catF 0 (u8v x) (u8v x) i = u8v (padF n x) i := fun i hi => by
  simp only [catF, u8v, padF]; rw [if_neg (by omega), Nat.sub_zero, if_pos hi]
theorem pad_one (n : Nat) (x : Nat → Nat) : ∀ i, i < n + 1 → catF n (u8v (padF n x)) (fun _ => .int .u8 128) i = u8v (padF n x) i := fun i hi => by
  simp only [catF, u8v]
  by_cases h : i < n
  · rw [if_pos h]
  · rw [if_neg h]; unfold padF; rw [if_neg h, if_pos (by omega)]; rfl
theorem pad_zero (n k : Nat) (x : Nat → Nat) (h1 : n < k) (h2 : k < 64 * nb n - 8) : ∀ i, i < k + 1 → catF k (u8v (padF n x)) (fun _ => .int .u8 0) i = u8v (padF n x) i := fun i hi => by
  simp only [catF, u8v]
  by_cases h : i < k
  · rw [if_pos h]
  · rw [if_neg h]; unfold padF; rw [if_neg (by omega), if_neg (by omega), if_pos (by omega)]; rfl
theorem pad_len (n p k : Nat) (x : Nat → Nat) (v : Value) (hk : k = 64 * nb n - (p + 1)) (hp : p < 8) (hv : v = .int .u8 ((8 * n % 18446744073709551616 / 2 ^ (8 * p) % 256 : Nat) : Int)) : ∀ i, i < k + 1 → catF k (u8v (padF n x)) (fun _ => v) i = u8v (padF n x) i := fun i hi => by
  have hnb : n < 64 * nb n - 8 := by unfold nb; omega
  simp only [catF, u8v]
  by_cases h : i < k
  · rw [if_pos h]
  · rw [if_neg h, hv]; unfold padF; rw [if_neg (by omega), if_neg (by omega), if_neg (by omega), show 64 * nb n - 1 - i = p by omega]

theorem len_val (n p : Nat) (hn : n ≤ 140737488355200) : Value.int .u8 ((n : Int) * 8 / 2 ^ (8 * p) % 256) = .int .u8 ((8 * n % 18446744073709551616 / 2 ^ (8 * p) % 256 : Nat) : Int) := by
  rw [Nat.mod_eq_of_lt (show 8 * n < 18446744073709551616 by omega), show (n : Int) * 8 = ((8 * n : Nat) : Int) by omega]
  generalize 8 * n = b
  simp

set_option maxHeartbeats 2000000 in
theorem padded_any (n c : Nat) (A : Option Addr) (x : Nat → Nat) (w : World) (hb : Rd w w.heap.size A n (u8v x)) (hn : n ≤ 140737488355200) :
    Calls Tryd.prog 45 #[.slice A n c] w fun e w' => ∃ A' c', e = .returned (.slice A' (64 * nb n) c') ∧ Own w' w.heap.size 5 A' (64 * nb n) c' (u8v (padF n x)) ∧ Below w.heap.size w w' := by
  have HB := Lib.hid hb
  have hnb : n < 64 * nb n - 8 ∧ 64 * nb n ≤ n + 72 ∧ 8 ≤ 64 * nb n := by unfold nb; omega
  have HF1 := Lib.hid (pad_first n x)
  have HF2 := Lib.hid (pad_one n x)
  clear hb
  go_enter Tryd.func45, Tryd.ntmps45
  go_wp2_with (first
    | (at_builtin; refine wpList_app _ (.tmp 6) (.tmp 7) 39 w.heap.size u8_info Tryd.underlying39 rfl rfl rfl n (u8v (padF n x)) rfl rfl (Own.new0 _ _ _ (u8v x) (Nat.le_refl _)) (HB.out.alloc (Nat.le_refl _) _) (fun _ _ => rfl) (Nat.zero_add _).symm HF1.out ⟨by omega, by omega⟩ (by simp) ?_; intro A1 c1 w1 o1 g1 b1; have O1 := Lib.hid (And.intro o1 (And.intro g1 b1)); clear o1 g1 b1)
    | (at_builtin; refine wpList_app _ (.tmp 8) (.tmp 9) 39 w.heap.size u8_info Tryd.underlying39 rfl rfl rfl (n + 1) (u8v (padF n x)) rfl rfl (O1.out.1.alloc _) (Rd.one _ _ _) (fun _ _ => rfl) rfl HF2.out ⟨by omega, by omega⟩ (by have := O1.out.2.1.size; simp at this; simp; omega) ?_; intro A2 c2 w2 o2 g2 b2; have O2 := Lib.hid (And.intro o2 (And.intro g2 b2)); clear o2 g2 b2))
  have hb1 : Below w.heap.size w w1 := below_app ((Below.refl _ w).alloc (Nat.le_refl _) _) O1.out.2.1 (by simp) (by rintro ad h; injection h with h; subst h; exact Nat.le_refl _)
  have hb2 : Below w.heap.size w w2 := below_app (hb1.alloc hb1.size _) O2.out.2.1 (by have := hb1.size; simp; omega) (fun ad h => (O1.out.1.base_le ad h).1)
  have HO := Lib.hid O2.out.1
  have HB2 := Lib.hid hb2
  clear hb1 hb2 O1 O2
  go_loopw [3] (fun s wr => ∃ (k : Nat) (Ak : Option Addr) (ck : Nat), s = .slice Ak k ck ∧ n < k ∧ k ≤ 64 * nb n - 8 ∧ Own wr w.heap.size 5 Ak k ck (u8v (padF n x)) ∧ Below w.heap.size w wr) (fun s _ => match s with | .slice _ k _ => 64 * nb n - 8 - k | _ => 0)
  case atStart => exact ⟨n + 1, A2, c2, rfl, by omega, by omega, HO.out, HB2.out⟩
  case round =>
    clear HO HB2
    obtain ⟨k, Ak, ck, rfl, hk1, hk2, hown, hbel⟩ := hrel
    have HO := Lib.hid hown
    have HBl := Lib.hid hbel
    clear hown hbel
    by_cases hk : k < 64 * nb n - 8
    · have hne : ((k : Int) % 64 != 56) = true := by rw [bne_iff_ne]; unfold nb at hk; omega
      have HF3 := Lib.hid (pad_zero n k x hk1 hk)
      go_wp2_with (at_builtin; refine wpList_app _ (.tmp 15) (.tmp 16) 39 w.heap.size u8_info Tryd.underlying39 rfl rfl rfl (k + 1) (u8v (padF n x)) rfl rfl (HO.out.alloc _) (Rd.one _ _ _) (fun _ _ => rfl) rfl HF3.out ⟨by omega, by omega⟩ (by have := HBl.out.size; simp; omega) ?_; intro A3 c3 w3 o3 g3 b3; have O3 := Lib.hid (And.intro o3 (And.intro g3 b3)); clear o3 g3 b3)
      have hb3 : Below w.heap.size w w3 := below_app (HBl.out.alloc HBl.out.size _) O3.out.2.1 (by have := HBl.out.size; simp; omega) (fun ad h => (HO.out.base_le ad h).1)
      have HB3 := Lib.hid hb3
      clear hb3
      go_roundw
      case rel => exact ⟨k + 1, A3, c3, rfl, by omega, by omega, O3.out.1, HB3.out⟩
      case measure => show 64 * nb n - 8 - (k + 1) < 64 * nb n - 8 - k; omega
    · have hne : ((k : Int) % 64 != 56) = false := by rw [bne_eq_false_iff_eq]; omega
      go_wp2_with fail
      go_loopw [3, 5] (fun s t wr => ∃ (p : Nat) (e : Int) (Ak : Option Addr) (ck : Nat), s = .slice Ak (64 * nb n - p) ck ∧ t = .int .i64 e ∧ e = (p : Int) - 1 ∧ p ≤ 8 ∧ Own wr w.heap.size 5 Ak (64 * nb n - p) ck (u8v (padF n x)) ∧ Below w.heap.size w wr) (fun _ t _ => (intOf t + 1).toNat)
      case atStart =>
        obtain rfl : k = 64 * nb n - 8 := by omega
        exact ⟨8, 7, Ak, ck, rfl, rfl, rfl, by omega, HO.out, HBl.out⟩
      case round =>
        clear HO HBl hne hk
        obtain ⟨p, e, Ap, cp, rfl, rfl, he, hp8, hown, hbel⟩ := hrel
        have HO := Lib.hid hown
        have HBl := Lib.hid hbel
        clear hown hbel
        rcases p with _ | p
        · obtain rfl : e = -1 := by omega
          clear he
          go_wp2_with fail
          go_ret
          exact ⟨Ap, cp, rfl, HO.out, HBl.out⟩
        · obtain rfl : e = (p : Int) := by omega
          clear he
          have HF4 := Lib.hid (pad_len n p (64 * nb n - (p + 1)) x (.int .u8 ((n : Int) * 8 / 2 ^ (8 * p) % 256)) rfl (by omega) (len_val n p (by omega)))
          go_wp2_with (at_builtin; refine wpList_app _ (.tmp 26) (.tmp 33) 39 w.heap.size u8_info Tryd.underlying39 rfl rfl rfl (64 * nb n - (p + 1) + 1) (u8v (padF n x)) rfl rfl (HO.out.alloc _) (Rd.one _ _ _) (fun _ _ => rfl) rfl HF4.out ⟨by omega, by omega⟩ (by have := HBl.out.size; simp; omega) ?_; intro A3 c3 w3 o3 g3 b3; have O3 := Lib.hid (And.intro o3 (And.intro g3 b3)); clear o3 g3 b3)
          have hb3 : Below w.heap.size w w3 := below_app (HBl.out.alloc HBl.out.size _) O3.out.2.1 (by have := HBl.out.size; simp; omega) (fun ad h => (HO.out.base_le ad h).1)
          have HB3 := Lib.hid hb3
          clear hb3
          go_roundw
          case rel => exact ⟨p, (p : Int) - 1, A3, c3, by rw [show 64 * nb n - (p + 1) + 1 = 64 * nb n - p by omega], rfl, rfl, by omega, by have := O3.out.1; rwa [show 64 * nb n - (p + 1) + 1 = 64 * nb n - p by omega] at this, HB3.out⟩
          case measure => simp only [intOf]; omega
end Go.Proofs.YtecgogeebponlaaDoor
