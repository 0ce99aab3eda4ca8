/- The law SignDomains. (Printed by a program of mine.) -/
import Derived.Test.YtecgogeebponlaaDoorSignAwake
import Derived.Test.YtecgogeebponlaaDoorRight
import Derived.Test.YtecgogeebponlaaDoorLawOps
namespace Go.Proofs.YtecgogeebponlaaDoor
set_option maxRecDepth 40000
open Go.RowKit
namespace SignDomainsLaw
theorem ent_d1 (vs : Array Value) (w : World) : (callFunc 9 vs).run Tryd.prog w = .ok (.enter 9 vs) w := by kernel_rfl
theorem ent_d2 (vs : Array Value) (w : World) : (callFunc 10 vs).run Tryd.prog w = .ok (.enter 10 vs) w := by kernel_rfl
theorem ent_e1 (vs : Array Value) (w : World) : (callFunc 11 vs).run Tryd.prog w = .ok (.enter 11 vs) w := by kernel_rfl
theorem ent_e2 (vs : Array Value) (w : World) : (callFunc 12 vs).run Tryd.prog w = .ok (.enter 12 vs) w := by kernel_rfl
theorem leB_low {a b : Nat} (h : a % 4294967296 = b % 4294967296) : ∀ i, i < 4 → leB a i = leB b i := fun i hi => by
  have h4 : i = 0 ∨ i = 1 ∨ i = 2 ∨ i = 3 := by omega
  unfold leB
  rcases h4 with rfl | rfl | rfl | rfl
  · show a / 1 % 256 = b / 1 % 256; omega
  · show a / 256 % 256 = b / 256 % 256; omega
  · show a / 65536 % 256 = b / 65536 % 256; omega
  · show a / 16777216 % 256 = b / 16777216 % 256; omega
theorem dom_low {a b : Nat} (v r : Nat → Nat) (h : a % 4294967296 = b % 4294967296) : domN a v r = domN b v r := funext fun i => by
  unfold domN catN
  by_cases h1 : i < 4
  · rw [if_pos h1, if_pos h1, leB_low h i h1]
  · rw [if_neg h1, if_neg h1]
theorem wrapU (x : Int) : IntKind.u64.wrap x = x % 18446744073709551616 := by simp [IntKind.wrap, IntKind.bits, IntKind.signed]
end SignDomainsLaw
open SignDomainsLaw in
set_option maxHeartbeats 4000000 in
theorem signDomains_law (w : World) (s : StV) (hS : StOk w w.heap.size s) (k : Int) (_hk : -9223372036854775808 ≤ k ∧ k ≤ 9223372036854775807) (E : Nat) (_hE : E < 18446744073709551616) (hp : ShaPkg w) (hpr : RefPkg w) :
    Calls Tryd.prog 3 #[.agg (arr 1957 s.F), .int .i64 k, .int .u64 (E : Int)] w fun r w' => r = .returned (.bool true) ∧ Below w.heap.size w w' := by
  have HOk := Lib.hid hS
  have HP := Lib.hid hp
  have HPR := Lib.hid hpr
  obtain ⟨K, hK⟩ : ∃ K : Nat, IntKind.u64.wrap k = (K : Int) := ⟨(k % 18446744073709551616).toNat, by rw [wrapU]; omega⟩
  obtain ⟨K2, hK2⟩ : ∃ K : Nat, k % 4294967296 = (K : Int) := ⟨(k % 4294967296).toNat, by omega⟩
  have HSE := Lib.hid (show Ending.returned (rootV (domN K2 (verN s.F E) (byF s.F 1))) = .returned (rootV (domN K (verN s.F E) (byF s.F 1))) by rw [dom_low (a := K2) (b := K) _ _ (by rw [wrapU] at hK; omega)])
  have HK := Lib.hid hK
  have HK2 := Lib.hid hK2
  have HSc := Lib.hid hS.sc
  clear hS hp hpr hK hK2 _hk
  go_enter Tryd.func3, Tryd.ntmps3
  go_upto_if 11 with (first
    | (refine wpList_box rfl _ _ rfl 1957 s.F rfl ?_; intro w1 hr1 hb1; have HR1 := Lib.hid hr1; have HB1 := Lib.hid hb1; clear hr1 hb1)
    | (go_at_call 7; refine (awake_any _ (HP.out.below HB1.out)).mono ?_; rintro r w2 ⟨rfl, hb2⟩; have HB2 := Lib.hid hb2; clear hb2)
    | (refine wpList_load_rd rfl 49 _ rfl 1957 _ Tryd.underlying49 rfl (by kernel_rfl) ⟨w.heap.size, 0, none⟩ rfl s.F (fun i hi => by rw [add_lit0]; exact (row_below HR1.out HB2.out HR1.out.lt).cell hi) ?_)
    | (go_at_call 8; refine (right_any s _ ((HOk.out.below (HB1.out.trans (HB2.out.mono HB1.out.size))).more (Nat.le_trans HB1.out.size HB2.out.size))).mono ?_; rintro r w3 ⟨b, rfl, hF, hb3⟩; have HB3 := Lib.hid (HB2.out.trans (hb3.mono HB2.out.size)); clear hb3 hF))
  cases b with
  | false =>
    go_wp2_with fail
    go_ret
    exact ⟨rfl, HB1.out.trans (HB3.out.mono HB1.out.size)⟩
  | true =>
    go_upto_region 5 with fail
    obtain ⟨wc, hwc⟩ : ∃ wc, wc = w3 := ⟨_, rfl⟩
    have HWC := Lib.hid (HB1.out.trans (HB3.out.mono HB1.out.size))
    have HR := Lib.hid (row_below HR1.out HB3.out HR1.out.lt)
    rw [← hwc] at HWC HR ⊢
    have LS := Lib.hid (ld_all HR.out HR.out.lt Tryd.underlying49 rfl (by kernel_rfl))
    clear HB1 HB2 HB3 HR1 hwc
    refine wp_region_facts (B := wc.heap.size) (w0 := wc) [SF.is (.agg (arr 1957 s.F)), SF.is (.int .i64 k), SF.is (.int .u64 ((E : Nat) : Int)), SF.is (rootV (domN K (verN s.F E) (byF s.F 1))), SF.is (.agg (arr 1957 s.F)), SF.is (.int .i64 k), SF.is (.int .u64 ((E : Nat) : Int)), SF.is (rootV (domN K (verN s.F E) (byF s.F 1))), SF.is (.bool true), SF.is (.bool true), SF.is (rootV (domN 3 (fun _ => 0) (fun _ => 0))), SF.is (rootV (domN 3 (fun _ => 0) (fun _ => 0))), SF.is (.bool true), SF.is (.bool true), SF.is (.bool true)] (by kernel_rfl) (by kernel_rfl) rfl (Nat.le_refl _) (Below.refl _ _) ⟨?_, ?_, ?_, ?_, ?_, ?_, ?_, ?_, ?_, ?_, ?_, ?_, ?_, ?_, ?_, trivial⟩ ?_
    · exact opOb_ld rfl rfl (OpK.tmp rfl) (fun w' hb => LS.out w' hb)
    · exact (opOb_move _ rfl (.inl rfl) rfl)
    · exact (opOb_move _ rfl (.inl rfl) rfl)
    · exact opOb_fn3 ent_d1 rfl rfl (OpK.tmp rfl) (OpK.tmp rfl) (OpK.tmp rfl) (fun w' hb => (domain_look s.F HSc.out E k K HK.out w' (HP.out.below (HWC.out.trans (hb.mono HWC.out.size)))).mono fun r w'' ⟨he', hb2⟩ => ⟨_, he', rfl, hb2⟩)
    · exact opOb_ld rfl rfl (OpK.tmp rfl) (fun w' hb => LS.out w' hb)
    · exact (opOb_move _ rfl (.inl rfl) rfl)
    · exact (opOb_move _ rfl (.inl rfl) rfl)
    · exact opOb_fn3 ent_d2 rfl rfl (OpK.tmp rfl) (OpK.tmp rfl) (OpK.tmp rfl) (fun w' hb => (domain_ref s.F HSc.out E k K2 HK2.out w' (HPR.out.below (HWC.out.trans (hb.mono HWC.out.size)))).mono fun r w'' ⟨he', hb2⟩ => ⟨_, he'.trans HSE.out, rfl, hb2⟩)
    · exact opOb_eqArr 5 32 .u8 (fun i => ((domN K (verN s.F E) (byF s.F 1) i : Nat) : Int)) (fun i => ((domN K (verN s.F E) (byF s.F 1) i : Nat) : Int)) true Tryd.underlying24 Tryd.underlying5 (by kernel_rfl) (by kernel_rfl) (by simp) rfl rfl (OpK.tmp rfl) (OpK.tmp rfl)
    · exact (opOb_move _ rfl (.inl rfl) rfl)
    · exact opOb_on 21 rfl rfl (opOb_fn ent_e1 (vs := #[]) rfl rfl (fun _ _ _ => by simp) (fun w' hb => (deposits_look w' (HP.out.below (HWC.out.trans (hb.mono HWC.out.size)))).mono fun r w'' ⟨he', hb2⟩ => ⟨_, he', rfl, hb2⟩))
    · exact opOb_on 21 rfl rfl (opOb_fn ent_e2 (vs := #[]) rfl rfl (fun _ _ _ => by simp) (fun w' hb => (deposits_ref w' (HPR.out.below (HWC.out.trans (hb.mono HWC.out.size)))).mono fun r w'' ⟨he', hb2⟩ => ⟨_, he', rfl, hb2⟩))
    · exact opOb_on 21 rfl rfl (opOb_eqArr 5 32 .u8 (fun i => ((domN 3 (fun _ => 0) (fun _ => 0) i : Nat) : Int)) (fun i => ((domN 3 (fun _ => 0) (fun _ => 0) i : Nat) : Int)) true Tryd.underlying24 Tryd.underlying5 (by kernel_rfl) (by kernel_rfl) (by simp) rfl rfl (OpK.tmp rfl) (OpK.tmp rfl))
    · exact opOb_pickT rfl rfl rfl (OpK.tmp rfl)
    · exact (opOb_move _ rfl (.inr rfl) rfl)
    · intro w' hb
      simp only [fin, SF.is, forall_eq]
      simp only [Act.put, List.setIfInBounds_toArray, List.set_cons_succ, List.set_cons_zero]
      have hend := HWC.out.trans (hb.mono HWC.out.size)
      go_wp2_with fail
      go_ret
      exact ⟨rfl, hend⟩
end Go.Proofs.YtecgogeebponlaaDoor
