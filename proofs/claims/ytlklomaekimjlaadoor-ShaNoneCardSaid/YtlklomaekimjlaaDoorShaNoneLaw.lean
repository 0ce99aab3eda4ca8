/- The law ShaNone: a nil digest is that of nothing. -/
import Derived.Test.YtlklomaekimjlaaDoorShaAwake
namespace Go.Proofs.YtlklomaekimjlaaDoor
open Go.RowKit

set_option maxHeartbeats 1000000 in
theorem shaNone_law (w : World) (A : Option Addr) (n c : Nat) (x : Nat → Nat) (_hb : Rd w w.heap.size A n (u8v x)) (_hx : ∀ i, x i < 256) (_hn : n ≤ 140737488351232) (_hnc : n ≤ c) (hp : ShaPkg w) :
    Calls Tryd.prog 7 #[.slice A n c] w fun e w' => e = .returned (.bool true) ∧ Below w.heap.size w w' := by
  have HP := Lib.hid hp
  clear hp _hb _hx
  go_enter Tryd.func7, Tryd.ntmps7
  go_wp2_with (first
    | (refine wpList_eqArr rfl rfl 5 32 .u8 (fun i => ((shaB (fun _ => 0) 0 i : Nat) : Int)) (fun i => ((shaB (fun _ => 0) 0 i : Nat) : Int)) true Tryd.underlying24 Tryd.underlying5 (by kernel_rfl) (by kernel_rfl) rfl rfl (by simp) ?_)
    | (go_at_call 8; refine (awake_any _ HP.out).mono ?_; rintro e w1 ⟨rfl, hb1⟩; have HB1 := Lib.hid hb1; clear hb1)
    | (go_at_call 14; refine (write_nil _ _ _ _).mono ?_; rintro e w2 ⟨rfl, rfl⟩)
    | (go_at_call 16; refine (copy_nil _).mono ?_; rintro e w2 ⟨rfl, rfl⟩)
    | (go_at_call 15; refine (sumd_nil (fun _ => 0) (fun _ => by decide) _ (HP.out.below HB1.out)).mono ?_; rintro e w3 ⟨rfl, hb3⟩; have HB3 := Lib.hid (HB1.out.trans (hb3.mono HB1.out.size)); clear hb3)
    | (go_at_call 9; refine (sum_any 0 0 none (fun _ => 0) _ Rd.none_ (fun _ => by decide) (by omega) (by omega) (HP.out.below HB3.out)).mono ?_; rintro e w4 ⟨rfl, hb4⟩; have HB4 := Lib.hid (HB3.out.trans (hb4.mono HB3.out.size)); clear hb4))
  go_ret
  exact ⟨rfl, HB4.out⟩
end Go.Proofs.YtlklomaekimjlaaDoor
