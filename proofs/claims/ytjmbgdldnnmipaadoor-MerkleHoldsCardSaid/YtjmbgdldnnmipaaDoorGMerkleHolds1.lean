/- A part of what the proofs stand on: MerkleHoldsLaw. -/
import Derived.Test.YtjmbgdldnnmipaaDoorGMer16
import Derived.Test.YtjmbgdldnnmipaaDoorGMer15
/- The law MerkleHolds. (Printed by a program of mine.) -/
namespace Go.Proofs.YtjmbgdldnnmipaaDoor
set_option maxRecDepth 40000
open Go.RowKit
/-- Whether a branch holds. -/
def holdsB (n : Nat) (x y r : Nat → Nat) (p : Nat) : Bool := if n ≤ 64 then eqB (upN y x p n) r else false
theorem holds_any (n c : Nat) (A : Option Addr) (x y r : Nat → Nat) (p : Nat) (w : World) (hb : Rd w w.heap.size A (n * 32) (u8v x)) (hx : ∀ i, x i < 256) (hy : ∀ i, y i < 256) (hnc : n ≤ c) (hp : p < 18446744073709551616) (hpk : ShaPkg w) :
    Calls Tryd.prog 15 #[rootV y, .slice A n c, .int .u64 (p : Int), rootV r] w fun e w' => e = .returned (.bool (holdsB n x y r p)) ∧ Below w.heap.size w w' := by
  unfold holdsB
  by_cases h : n ≤ 64
  · rw [if_pos h]; exact holds_look n c A x y r p w hb hx hy hnc h hp hpk
  · rw [if_neg h]; exact holds_lookF n c A y r p w (by omega)
theorem holds_refA (n c : Nat) (A : Option Addr) (x y r : Nat → Nat) (p : Nat) (w : World) (hb : Rd w w.heap.size A (n * 32) (u8v x)) (hx : ∀ i, x i < 256) (hy : ∀ i, y i < 256) (hnc : n ≤ c) (hp : p < 18446744073709551616) (hpk : RefPkg w) :
    Calls Tryd.prog 16 #[rootV y, .slice A n c, .int .u64 (p : Int), rootV r] w fun e w' => e = .returned (.bool (holdsB n x y r p)) ∧ Below w.heap.size w w' := by
  unfold holdsB
  by_cases h : n ≤ 64
  · rw [if_pos h]; exact holds_ref n c A x y r p w hb hx hy hnc h hp hpk
  · rw [if_neg h]; exact holds_refF n c A y r p w (by omega)
theorem run_bs0_R (w : World) : (Instr.buildSlice 24 0 #[]).run Tryd.prog w = .ok (.slice (some ⟨w.heap.size, 0, none⟩) 0 0) (w.alloc (.cells #[] 23)) := by simp [go_sem]
namespace MerkleHoldsLaw
theorem ent_h1 (vs : Array Value) (w : World) : (callFunc 15 vs).run Tryd.prog w = .ok (.enter 15 vs) w := by kernel_rfl
theorem ent_h2 (vs : Array Value) (w : World) : (callFunc 16 vs).run Tryd.prog w = .ok (.enter 16 vs) w := by kernel_rfl
end MerkleHoldsLaw
open MerkleHoldsLaw in
set_option maxHeartbeats 4000000 in
theorem merkleHolds_law (w : World) (y : Nat → Nat) (hy : ∀ i, y i < 256) (A : Option Addr) (n c : Nat) (x : Nat → Nat) (hA : Rd w w.heap.size A (n * 32) (u8v x)) (hx : ∀ i, x i < 256) (hn : n * 32 ≤ 140737488351232) (hnc : n ≤ c) (p : Nat) (hpp : p < 18446744073709551616) (r : Nat → Nat) (_hr : ∀ i, r i < 256) (hp : ShaPkg w) (hpr : RefPkg w) :
    Calls Tryd.prog 3 #[rootV y, .slice A n c, .int .u64 (p : Int), rootV r] w fun e w' => e = .returned (.bool true) ∧ Below w.heap.size w w' := by
  have HX := Lib.hid hA
  have HXl := Lib.hid hx
  have HYl := Lib.hid hy
  have HP := Lib.hid hp
  have HPR := Lib.hid hpr
  have HS0 := Lib.hid (HS.nil w)
  clear hA hx hy hp hpr
  go_enter Tryd.func3, Tryd.ntmps3
  go_upto_region 3 with (first
    | (refine wpList_boxL rfl 23 _ 4 rfl rfl HS0.out 32 (u8v y) rfl ?_; intro b4 w4 hb4 hc4 hs; have HS4 := Lib.hid hs; clear hs)
    | (refine wpList_boxL rfl 23 _ 7 rfl rfl HS4.out 32 (u8v r) rfl ?_; intro b7 w7 hb7 hc7 hs; have HS7 := Lib.hid hs; clear hs)
    | (go_at_call 14; refine (awake05_any _ (HP.out.below (HS7.out.out (by simp; omega)))).mono ?_; rintro e wa ⟨rfl, hb⟩; have HA := Lib.hid (HS7.out.below hb); clear hb))
  have HW := Lib.hid (HA.out.out (by simp; omega))
  refine wp_region_facts (B := wa.heap.size) (w0 := wa) [SF.is (rootV y), SF.own0Z wa.heap.size 23 32, SF.is (.slice (A) (n) (c)), SF.ownZ wa.heap.size 23 32 n (u8v x), SF.is (.int .u64 ((p : Nat) : Int)), SF.is (rootV r), SF.is (.bool (holdsB n x y r p)), SF.is (rootV y), SF.is (.slice (A) (n) (c)), SF.is (.int .u64 ((p : Nat) : Int)), SF.is (rootV r), SF.is (.bool (holdsB n x y r p)), SF.is (.bool true), SF.is (.bool true)] (by kernel_rfl) (by kernel_rfl) rfl (Nat.le_refl _) (Below.refl _ _) ⟨?_, ?_, ?_, ?_, ?_, ?_, ?_, ?_, ?_, ?_, ?_, ?_, ?_, ?_, trivial⟩ ?_
  · exact opOb_ld rfl rfl (OpK.tmp rfl) (fun w' hb => ld_all (HA.out.row 1 rfl) (HA.out.row 1 rfl).lt Tryd.underlying23 rfl (by kernel_rfl) w' hb)
  · exact opOb_bs0Z 32 rfl rfl run_bs0_R _ (Nat.le_refl _)
  · exact (opOb_move _ rfl (.inl rfl) rfl)
  · exact opOb_app0Z (s := 12) (x := 13) wa.heap.size (z := .agg (Array.replicate 32 (.int .u8 0))) (k := 32) (bytes := 32) (by kernel_rfl) Tryd.underlying24 (by rfl) (by omega) rfl rfl rfl rfl (fun w' hb => (HX.out.below (HW.out.trans (hb.mono HW.out.size)))) (fun _ _ => rfl) ⟨by omega, by omega⟩ (Nat.le_refl _)
  · exact (opOb_move _ rfl (.inl rfl) rfl)
  · exact opOb_ld rfl rfl (OpK.tmp rfl) (fun w' hb => ld_all (HA.out.row 0 rfl) (HA.out.row 0 rfl).lt Tryd.underlying23 rfl (by kernel_rfl) w' hb)
  · exact opOb_fn4S ent_h1 rfl rfl (OpK.tmp rfl) rfl (OpK.tmp rfl) (OpK.tmp rfl) (fun w' v hb hv => by obtain ⟨A', c', rfl, ho⟩ := hv; exact (holds_any n c' A' x y r p w' ho.rd HXl.out HYl.out ho.cap hpp (HP.out.below (HW.out.trans (hb.mono HW.out.size)))).mono fun e w'' ⟨he, hb2⟩ => ⟨_, he, rfl, hb2⟩)
  · exact opOb_ld rfl rfl (OpK.tmp rfl) (fun w' hb => ld_all (HA.out.row 1 rfl) (HA.out.row 1 rfl).lt Tryd.underlying23 rfl (by kernel_rfl) w' hb)
  · exact (opOb_move _ rfl (.inl rfl) rfl)
  · exact (opOb_move _ rfl (.inl rfl) rfl)
  · exact opOb_ld rfl rfl (OpK.tmp rfl) (fun w' hb => ld_all (HA.out.row 0 rfl) (HA.out.row 0 rfl).lt Tryd.underlying23 rfl (by kernel_rfl) w' hb)
  · exact opOb_fn4 ent_h2 rfl rfl (OpK.tmp rfl) (OpK.tmp rfl) (OpK.tmp rfl) (OpK.tmp rfl) (fun w' hb => (holds_refA n c A x y r p w' ((HX.out.below (HW.out.trans (hb.mono HW.out.size))).more (Nat.le_trans HW.out.size hb.size)) HXl.out HYl.out hnc hpp (HPR.out.below (HW.out.trans (hb.mono HW.out.size)))).mono fun e w'' ⟨he, hb2⟩ => ⟨_, he, rfl, hb2⟩)
  · exact opOb_eqBool (holdsB n x y r p) Tryd.underlying4 rfl rfl (OpK.tmp rfl) (OpK.tmp rfl)
  · exact (opOb_move _ rfl (.inr rfl) rfl)
  · intro w' hb
    simp only [fin, SF.is, SF.own0Z, SF.ownZ, forall_eq]
    simp only [Act.put, List.setIfInBounds_toArray, List.set_cons_succ, List.set_cons_zero]
    rintro _ _ _ _
    have hend := HW.out.trans (hb.mono HW.out.size)
    go_wp2_with fail
    go_ret
    exact ⟨rfl, hend⟩
end Go.Proofs.YtjmbgdldnnmipaaDoor
