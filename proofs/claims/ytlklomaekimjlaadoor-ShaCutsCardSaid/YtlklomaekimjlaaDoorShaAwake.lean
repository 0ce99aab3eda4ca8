/- awake: the fixed answers. -/
import Derived.Test.YtlklomaekimjlaaDoorShaAll
import Derived.Test.YtlklomaekimjlaaDoorEq
import Derived.KernelRfl
import Derived.Lib.SlBytesConst
namespace Go.Proofs.YtlklomaekimjlaaDoor
open Go.RowKit

def abcF (i : Nat) : Nat := [97, 98, 99].getD i 0
theorem abcF_lt (i : Nat) : abcF i < 256 := by
  unfold abcF
  match i with
  | 0 | 1 | 2 => decide
  | n + 3 => simp
theorem sha_abc0 : shaB abcF 3 0 = 186 := by kernel_rfl
theorem sha_abc31 : shaB abcF 3 31 = 173 := by kernel_rfl
theorem sha_two0 : shaB (catN 32 (fun _ => 0) (fun _ => 0)) 64 0 = 245 := by kernel_rfl
theorem sha_two31 : shaB (catN 32 (fun _ => 0) (fun _ => 0)) 64 31 = 75 := by kernel_rfl

theorem rd_marked (w : World) (cs : Array Value) (t : TypeId) (fr : Nat × Nat) (n : Nat) (f : Nat → Value) (h : ∀ i, i < n → cs[i]? = some (f i)) : Rd (w.alloc (.cells cs t fr)) (w.heap.size + 1) (some ⟨w.heap.size, 0, none⟩) n f := fun _ =>
  ⟨_, rfl, Nat.lt_succ_self _, fun i hi => by
    rw [add_lit0, ← h i hi]
    exact cell_of_row _ _ _ _ _ fr (heap_alloc_new w _)⟩
theorem abc_at : ∀ i, i < 3 → (#[.int .u8 97, .int .u8 98, .int .u8 99] : Array Value)[i]? = some (u8v abcF i) := by
  intro i hi
  match i, hi with
  | 0, _ | 1, _ | 2, _ => rfl

set_option maxHeartbeats 1000000 in
theorem awake_any (w : World) (hp : ShaPkg w) : Calls Tryd.prog 8 #[] w fun e w' => e = .returned (.bool true) ∧ Below w.heap.size w w' := by
  have HP := Lib.hid hp
  clear hp
  have kc := fun (w : World) (C : Array Value) (n c : Nat) => Lib.run_convert_bytes_const (P := Tryd.prog) w 22 5 C n c Tryd.underlying22 Tryd.underlying5
  go_enter Tryd.func8, Tryd.ntmps8
  go_wp2_with (first
    | (refine wpList_build_as rfl 24 #[] rfl [] rfl (arr 32 (u8v fun _ => 0)) (by kernel_rfl) ?_)
    | (refine wpList_new rfl rfl 24 24 1 (.tmp 5) rfl rfl rfl 32 (zeroOf Tryd.prog 24) (by kernel_rfl) (by kernel_rfl) (arr 32 (u8v (shaB abcF 3))) rfl rfl (size_arr _ _) (by kernel_rfl) (fun i hi => ⟨_, arr_at _ _ i hi, rfl⟩) _ (fun i hi => arr_at _ _ i hi) ?_; intro w3 hr3 hb3; have S1 := Lib.hid (((HS.nil w1).below hb3).add hr3 (Nat.le_refl _) (fun r hr => by cases hr)); clear hr3 hb3)
    | (refine wpList_new rfl rfl 24 24 2 (.tmp 8) rfl rfl rfl 32 (zeroOf Tryd.prog 24) (by kernel_rfl) (by kernel_rfl) (arr 32 (u8v (shaB (catN 32 (fun _ => 0) (fun _ => 0)) 64))) rfl rfl (size_arr _ _) (by kernel_rfl) (fun i hi => ⟨_, arr_at _ _ i hi, rfl⟩) _ (fun i hi => arr_at _ _ i hi) ?_; intro w4 hr4 hb4; have S3 := (S2.out.below hb4).add hr4 S2.out.size (fun r hr => by simp at hr; subst hr; have := S2.out.lt 0 rfl; show w1.heap.size ≠ w2.heap.size; omega); have d0 := S3.cell 0 0 rfl (by show 0 < 32; omega); have d31 := S3.cell 0 31 rfl (by show 31 < 32; omega); have a0 := S3.cell 1 0 rfl (by show 0 < 32; omega); have a31 := S3.cell 1 31 rfl (by show 31 < 32; omega); simp only [u8v, sha_abc0, sha_abc31, sha_two0, sha_two31] at d0 d31 a0 a31; have HS3 := Lib.hid (S3.out (by simp; have := S2.out.size; exact this)); clear S3 hr4 hb4)
    | (go_at_call 11; refine (two_any (fun _ => 0) (fun _ => 0) (fun _ => by decide) (fun _ => by decide) _ (HP.out.below (HB1.out.trans ((S1.out.out (by simp)).mono HB1.out.size)))).mono ?_; rintro e w2 ⟨rfl, hb2⟩; have S2 := Lib.hid (S1.out.below hb2); clear hb2)
    | (go_at_call 9; refine (sum_any 3 3 _ abcF _ ((rd_marked w _ _ _ 3 (u8v abcF) abc_at).more (by simp)) abcF_lt (by omega) (by omega) (HP.out.below ((Below.refl _ _).alloc (Nat.le_refl _) _))).mono ?_; rintro e w1 ⟨rfl, hb1⟩; have HB1 := Lib.hid (((Below.refl _ w).alloc (Nat.le_refl _) _).trans (hb1.mono (by simp))); clear hb1))
  go_ret
  exact ⟨rfl, HB1.out.trans (HS3.out.mono HB1.out.size)⟩
end Go.Proofs.YtlklomaekimjlaaDoor
