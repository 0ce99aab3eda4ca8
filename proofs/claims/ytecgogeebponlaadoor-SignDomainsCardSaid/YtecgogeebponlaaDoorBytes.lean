/- The eight bytes of a number, by the program and by the reference. -/
import Derived.Test.YtecgogeebponlaaDoorShaRef
namespace Go.Proofs.YtecgogeebponlaaDoor
set_option maxRecDepth 40000
open Go.RowKit
/-- The first n of v, and zeros. -/
def padN (n : Nat) (v : Nat → Nat) : Nat → Nat := fun i => if i < n then v i else 0
theorem padN_lt {n : Nat} {v : Nat → Nat} (hv : ∀ i, v i < 256) (i : Nat) : padN n v i < 256 := by unfold padN; split; exact hv i; omega
/-- How many chunks n bytes fill. -/
def nch (n : Nat) : Nat := (n + 31) / 32
/-- Byte i of n. -/
def leB (n i : Nat) : Nat := n / 2 ^ (8 * i) % 256
theorem leB_lt (n i : Nat) : leB n i < 256 := Nat.mod_lt _ (by omega)
theorem le_byte (n j : Nat) : Value.int .u8 ((n : Int) / 2 ^ (8 * j) % 256) = .int .u8 ((leB n j : Nat) : Int) := by
  unfold leB; simp
theorem le_step {n j i : Nat} (v : Value) (hv : v = .int .u8 ((leB n j : Nat) : Int)) : (if i = j then v else u8v (fun i => if i < j then leB n i else 0) i) = u8v (fun i => if i < j + 1 then leB n i else 0) i := by
  by_cases e : i = j
  · subst e; rw [if_pos rfl, hv]; simp only [u8v]; rw [if_pos (by omega)]
  · rw [if_neg e]; simp only [u8v]
    by_cases e2 : i < j
    · rw [if_pos e2, if_pos (by omega)]
    · rw [if_neg e2, if_neg (by omega)]
set_option maxHeartbeats 1000000 in
theorem bytes_look (n : Nat) (w : World) :
    Calls Tryd.prog 42 #[.int .u64 (n : Int)] w fun e w' => e = .returned (.agg (arr 8 (u8v (leB n)))) ∧ Below w.heap.size w w' := by
  have H0 := Lib.hid (((HS.nil w).allocB _ _ 84 8 (u8v fun _ => 0) (by rfl) (zero_at 8 (.int .u8 0)) rfl).allocB (w.heap.size + 1) _ 84 8 (u8v fun i => if i < 0 then leB n i else 0) (by rfl) (zero_at 8 (.int .u8 0)) (by simp))
  go_enter Tryd.func42, Tryd.ntmps42
  go_wp2_with fail
  go_loopw [5] (fun i wq => ∃ j : Nat, j ≤ 8 ∧ i = .int .i64 j ∧ HS w wq [⟨w.heap.size + 1, 84, 8, u8v fun i => if i < j then leB n i else 0⟩, ⟨w.heap.size, 84, 8, u8v fun _ => 0⟩]) (fun i _ => 8 - (intOf i).toNat)
  case atStart => exact ⟨0, by omega, rfl, H0.out⟩
  case round =>
    clear H0
    obtain ⟨j, hj, rfl, hs⟩ := hrel
    by_cases hj8 : j < 8
    · have co := hs.cell 0 j rfl hj8
      have fo := hs.frozen 0 j rfl
      have HSq := Lib.hid hs
      clear hs
      go_wp2_with fail
      go_roundw
      case rel => exact ⟨j + 1, by omega, by go_num, (HSq.out.set 0 j rfl _).congr 0 rfl (fun i _ => le_step _ (le_byte n j))⟩
      case measure => simp [intOf]; omega
    · obtain rfl : j = 8 := by omega
      have HX := Lib.hid (heap_arr (hs.row 0 rfl))
      have HR := Lib.hid (hs.row 1 rfl)
      have HSq := Lib.hid hs
      clear hs
      go_wp2_with (first
        | (refine wpList_load_row rfl 84 (.tmp 3) rfl (w.heap.size + 1) rfl 84 _ _ _ HX.out Tryd.underlying84 rfl (by kernel_rfl) ?_)
        | (refine wpList_store_arr rfl 84 (.tmp 2) (.tmp 16) rfl HR.out _ rfl rfl (size_arr _ _) (by kernel_rfl) (fun i hi => ⟨_, arr_at _ _ i hi, rfl⟩) ?_))
      have hend := HSq.out.setRow 1 rfl (arr 8 (u8v fun i => if i < 8 then leB n i else 0)) (size_arr _ _) _ (fun i hi => arr_at _ _ i hi)
      refine ret_rowIs rfl (hend.row 1 rfl) _ rfl Tryd.underlying84 rfl (by kernel_rfl) rfl ?_
      refine ⟨?_, hend.out (by simp)⟩
      rw [arr_congr (g := u8v (leB n)) (fun i hi => by simp only [u8v]; rw [if_pos hi])]
set_option maxHeartbeats 1000000 in
theorem bytes_ref (n : Nat) (w : World) :
    Calls Tryd.prog 35 #[.int .u64 (n : Int)] w fun e w' => e = .returned (.agg (arr 8 (u8v (leB n)))) ∧ Below w.heap.size w w' := by
  have H0 := Lib.hid (((HS.nil w).allocB _ _ 84 8 (u8v fun _ => 0) (by rfl) (zero_at 8 (.int .u8 0)) rfl).allocB (w.heap.size + 1) _ 84 8 (u8v fun i => if i < 0 then leB n i else 0) (by rfl) (zero_at 8 (.int .u8 0)) (by simp))
  go_enter Tryd.func35, Tryd.ntmps35
  go_wp2_with fail
  go_loopw [4] (fun i wq => ∃ j : Nat, j ≤ 8 ∧ i = .int .i64 j ∧ HS w wq [⟨w.heap.size + 1, 84, 8, u8v fun i => if i < j then leB n i else 0⟩, ⟨w.heap.size, 84, 8, u8v fun _ => 0⟩]) (fun i _ => 8 - (intOf i).toNat)
  case atStart => exact ⟨0, by omega, rfl, H0.out⟩
  case round =>
    clear H0
    obtain ⟨j, hj, rfl, hs⟩ := hrel
    by_cases hj8 : j < 8
    · have co := hs.cell 0 j rfl hj8
      have fo := hs.frozen 0 j rfl
      have HSq := Lib.hid hs
      clear hs
      go_wp2_with fail
      go_roundw
      case rel => exact ⟨j + 1, by omega, by go_num, (HSq.out.set 0 j rfl _).congr 0 rfl (fun i _ => le_step _ (le_byte n j))⟩
      case measure => simp [intOf]; omega
    · obtain rfl : j = 8 := by omega
      have HX := Lib.hid (heap_arr (hs.row 0 rfl))
      have HR := Lib.hid (hs.row 1 rfl)
      have HSq := Lib.hid hs
      clear hs
      go_wp2_with (first
        | (refine wpList_load_row rfl 84 (.tmp 3) rfl (w.heap.size + 1) rfl 84 _ _ _ HX.out Tryd.underlying84 rfl (by kernel_rfl) ?_)
        | (refine wpList_store_arr rfl 84 (.tmp 2) (.tmp 17) rfl HR.out _ rfl rfl (size_arr _ _) (by kernel_rfl) (fun i hi => ⟨_, arr_at _ _ i hi, rfl⟩) ?_))
      have hend := HSq.out.setRow 1 rfl (arr 8 (u8v fun i => if i < 8 then leB n i else 0)) (size_arr _ _) _ (fun i hi => arr_at _ _ i hi)
      refine ret_rowIs rfl (hend.row 1 rfl) _ rfl Tryd.underlying84 rfl (by kernel_rfl) rfl ?_
      refine ⟨?_, hend.out (by simp)⟩
      rw [arr_congr (g := u8v (leB n)) (fun i hi => by simp only [u8v]; rw [if_pos hi])]
end Go.Proofs.YtecgogeebponlaaDoor
