/- A part of what the proofs stand on: MerkleMixesLaw. -/
import Derived.Test.YtjmbgdldnnmipaaDoorGMer16
import Derived.Test.YtjmbgdldnnmipaaDoorGMer15
/- The law MerkleMixes. (Printed by a program of mine.) -/
namespace Go.Proofs.YtjmbgdldnnmipaaDoor
set_option maxRecDepth 40000
open Go.RowKit
namespace MerkleMixesLaw
theorem ent_mxr (vs : Array Value) (w : World) : (callFunc 25 vs).run Tryd.prog w = .ok (.enter 25 vs) w := by kernel_rfl
theorem u8_info : (Tryd.prog.info? 5).map (fun i => (i.zero, i.size, i.bytes)) = some (some (.int .u8 0), 1, 1) := by kernel_rfl
theorem cat_le {k v : Nat} : ∀ i, i < k + 1 → catF k (u8v (leB v)) (fun _ => .int .u8 ((leB v k : Nat) : Int)) i = u8v (leB v) i := fun i hi => by
  unfold catF
  by_cases h : i < k
  · rw [if_pos h]
  · rw [if_neg h]; obtain rfl : i = k := by omega
    rfl
theorem mul8 (k : Nat) (hk : k ≤ 1000) (w : World) : (binOp .mul 3 (.int .i64 8) (.int .i64 (k : Int))).run Tryd.prog w = .ok (.int .i64 ((8 * k : Nat) : Int)) w := by
  simp [go_sem, IntKind.wrap, IntKind.bits, IntKind.signed]
  omega
theorem cv8 (v k : Nat) (w : World) : (convert 25 5 (.int .u64 ((v / 2 ^ (8 * k) : Nat) : Int))).run Tryd.prog w = .ok (.int .u8 ((leB v k : Nat) : Int)) w := by
  simp [go_sem, IntKind.wrap, IntKind.bits, IntKind.signed, leB]
end MerkleMixesLaw
open MerkleMixesLaw in
set_option maxHeartbeats 8000000 in
theorem merkleMixes_law (w : World) (x : Nat → Nat) (hx : ∀ i, x i < 256) (v : Nat) (hv : v < 18446744073709551616) (hp : ShaPkg w) :
    Calls Tryd.prog 7 #[rootV x, .int .u64 (v : Int)] w fun e w' => e = .returned (.bool true) ∧ Below w.heap.size w w' := by
  have HXl := Lib.hid hx
  have HP := Lib.hid hp
  have HS0 := Lib.hid (HS.nil w)
  clear hx hp
  go_enter Tryd.func7, Tryd.ntmps7
  go_wp2_with (first
    | (refine wpList_boxL rfl 23 _ 2 rfl rfl HS0.out 32 (u8v x) rfl ?_; intro b2 w2 hb2 hc2 hs; have HS2 := Lib.hid hs; clear hs)
    | (go_at_call 14; refine (awake05_any _ (HP.out.below (HS2.out.out (by simp; omega)))).mono ?_; rintro e wa ⟨rfl, hb⟩; have HA := Lib.hid (HS2.out.below hb); clear hb))
  go_loopw [5, 6] (fun l i wr => ∃ (k : Nat) (A : Option Addr) (c : Nat), l = .slice A k c ∧ i = .int .i64 (k : Int) ∧ k ≤ 8 ∧ Own wr wa.heap.size 5 A k c (u8v (leB v)) ∧ Below wa.heap.size wa wr) (fun _ i _ => 8 - (intOf i).toNat)
  case atStart => exact ⟨0, none, 0, rfl, rfl, by omega, Own.nil _ _ _ _, Below.refl _ _⟩
  case round =>
    obtain ⟨k, A, c, rfl, rfl, hk, ho, hbw⟩ := hrel
    have HO := Lib.hid ho
    have HW := Lib.hid hbw
    have hsz := hbw.size
    clear ho hbw
    by_cases hk8 : k < 8
    · go_wp2_with (first
        | (refine wpList_as rfl 17 rfl (.int .i64 ((8 * k : Nat) : Int)) ?_ ?_; (· exact ex_bin rfl rfl rfl rfl (fun w => mul8 k (by omega) w) _))
        | (refine wpList_as rfl 18 rfl (.int .u64 ((8 * k : Nat) : Int)) ?_ ?_; (· exact ex_cnv rfl rfl (fun w => TreeRef.cvu (8 * k) (by omega) w) _))
        | (refine wpList_as rfl 19 rfl (.int .u64 ((v / 2 ^ (8 * k) : Nat) : Int)) ?_ ?_; (· exact ex_bin rfl rfl rfl rfl (fun w => MerkleHold.shrU v (8 * k) hv (by omega) w) _))
        | (refine wpList_as rfl 20 rfl (.int .u8 ((leB v k : Nat) : Int)) ?_ ?_; (· exact ex_cnv rfl rfl (fun w => cv8 v k w) _))
        | (at_builtin; refine wpList_app _ (.tmp 14) (.tmp 21) 35 wa.heap.size u8_info Tryd.underlying35 rfl rfl rfl (k + 1) (u8v (leB v)) rfl rfl (HO.out.alloc _) (Rd.one _ _ _) (fun _ _ => rfl) rfl cat_le ⟨by omega, by omega⟩ (by simp; omega) ?_; intro A1 c1 w1 o1 g1 b1; have O1 := Lib.hid o1; have G1 := Lib.hid (below_app (HW.out.trans (((Below.refl _ wr).alloc (Nat.le_refl _) _).mono hsz)) g1 (by simp; omega) (fun ad e => (HO.out.base_le ad e).1)); clear o1 g1 b1))
      go_roundw
      case rel => exact ⟨k + 1, A1, c1, rfl, by go_num, by omega, O1.out, G1.out⟩
      case measure => simp [intOf]; omega
    · obtain rfl : k = 8 := by omega
      go_upto_region 9 with (first
        | (go_at_call 20; refine (pack_look 8 c A (leB v) _ HO.out.rd HO.out.cap (by omega)).mono ?_; rintro e wf ⟨A7, c7, rfl, ho7, hb⟩; rw [show nch 8 = 1 from rfl] at ho7 ⊢; have HO7 := Lib.hid ho7; have HBf := Lib.hid (HW.out.trans (hb.mono hsz)); clear ho7 hb))
      obtain ⟨ad, hA, _, _⟩ := HO7.out.rd (by omega)
      subst hA
      have HR := Lib.hid HO7.out.rd
      have HWf := Lib.hid ((HA.out.out (by simp; omega)).trans (HBf.out.mono HA.out.size))
      have HB := Lib.hid ((HA.out.below HBf.out).row 0 rfl)
      refine wp_region_facts (B := wf.heap.size) (w0 := wf) [SF.is (.slice (some ad) (1) (c7)), SF.is (.int .i64 ((1 : Nat) : Int)), SF.is (.bool true), SF.is (.bool true), SF.is (rootV x), SF.is (.int .u64 ((v : Nat) : Int)), SF.is (rootV (shaB (catN 32 x (padN 8 (leB v))) 64)), SF.is (rootV x), SF.is (.slice (some ad) (1) (c7)), SF.is (.pointer (some (ad.add (0 * 32)))), SF.is (rootV (padN 8 (leB v))), SF.is (rootV (shaB (catN 32 x (padN 8 (leB v))) 64)), SF.is (.bool true), SF.is (.bool true), SF.is (.bool true)] (by kernel_rfl) (by kernel_rfl) rfl (Nat.le_refl _) (Below.refl _ _) ⟨?_, ?_, ?_, ?_, ?_, ?_, ?_, ?_, ?_, ?_, ?_, ?_, ?_, ?_, ?_, trivial⟩ ?_
      · exact (opOb_move _ rfl (.inl rfl) rfl)
      · exact opOb_len Tryd.underlying24 rfl rfl (OpK.tmp rfl)
      · exact opOb_eqInt .i64 1 1 true Tryd.underlying3 (by simp) rfl rfl (OpK.tmp rfl) OpK.const
      · exact (opOb_move _ rfl (.inl rfl) rfl)
      · exact opOb_on 28 rfl rfl (opOb_ld rfl rfl (OpK.tmp rfl) (fun w' hb => ld_all (HB.out) (HB.out).lt Tryd.underlying23 rfl (by kernel_rfl) w' hb))
      · exact opOb_on 28 rfl rfl ((opOb_move _ rfl (.inl rfl) rfl))
      · exact opOb_on 28 rfl rfl (opOb_fn2 ent_mxr rfl rfl (OpK.tmp rfl) (OpK.tmp rfl) (fun w' hb => (mix_look x HXl.out v w' (HP.out.below (HWf.out.trans (hb.mono HWf.out.size)))).mono fun e w'' ⟨he, hb2⟩ => ⟨_, he, rfl, hb2⟩))
      · exact opOb_on 28 rfl rfl (opOb_ld rfl rfl (OpK.tmp rfl) (fun w' hb => ld_all (HB.out) (HB.out).lt Tryd.underlying23 rfl (by kernel_rfl) w' hb))
      · exact opOb_on 28 rfl rfl ((opOb_move _ rfl (.inl rfl) rfl))
      · exact opOb_on 28 rfl rfl (opOb_idx rfl rfl (OpK.tmp rfl) OpK.const (fun w => run_idxZ (z := 32) (k := 0) w Tryd.underlying24 (by kernel_rfl) ad (by omega)))
      · exact opOb_on 28 rfl rfl (opOb_ld rfl rfl (OpK.tmp rfl) (fun w' hb => run_loadAt_rd w' (ad.add (0 * 32)) 32 23 _ (u8v (padN 8 (leB v))) (fun i hi => by rw [add_add]; exact ((HR.out.below hb).cell_ (show 0 * 32 + i < 1 * 32 by omega)).trans (by rw [Nat.zero_mul, Nat.zero_add])) Tryd.underlying23 rfl (by kernel_rfl)))
      · exact opOb_on 28 rfl rfl (opOb_fn2 MerkleFn.ent_two rfl rfl (OpK.tmp rfl) (OpK.tmp rfl) (fun w' hb => (two_any x (padN 8 (leB v)) HXl.out (padN_lt (leB_lt v)) w' (HP.out.below (HWf.out.trans (hb.mono HWf.out.size)))).mono fun e w'' ⟨he, hb2⟩ => ⟨_, he, rfl, hb2⟩))
      · exact opOb_on 28 rfl rfl (opOb_eqArr 5 32 .u8 (fun i => ((shaB (catN 32 x (padN 8 (leB v))) 64 i : Nat) : Int)) (fun i => ((shaB (catN 32 x (padN 8 (leB v))) 64 i : Nat) : Int)) true Tryd.underlying23 Tryd.underlying5 (by kernel_rfl) (by kernel_rfl) (by simp) rfl rfl (OpK.tmp rfl) (OpK.tmp rfl))
      · exact opOb_pickT rfl rfl rfl (OpK.tmp rfl)
      · exact (opOb_move _ rfl (.inr rfl) rfl)
      · intro w' hb
        simp only [fin, SF.is, forall_eq]
        simp only [Act.put, List.setIfInBounds_toArray, List.set_cons_succ, List.set_cons_zero]
        have hend := HWf.out.trans (hb.mono HWf.out.size)
        go_wp2_with fail
        go_ret
        exact ⟨rfl, hend⟩
end Go.Proofs.YtjmbgdldnnmipaaDoor
