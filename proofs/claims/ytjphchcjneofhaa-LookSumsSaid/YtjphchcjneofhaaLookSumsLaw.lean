/- The law LookSums. (Printed by a program of mine.) -/
import Derived.Test.YtjphchcjneofhaaLookAwake
import Derived.Test.YtjphchcjneofhaaRight
import Derived.Test.YtjphchcjneofhaaLawOps
namespace Go.Proofs.Ytjphchcjneofhaa
open Go.RowKit
namespace LookSumsLaw
theorem ent_t1 (vs : Array Value) (w : World) : (callFunc 10 vs).run Try.prog w = .ok (.enter 10 vs) w := by kernel_rfl
theorem ent_t2 (vs : Array Value) (w : World) : (callFunc 11 vs).run Try.prog w = .ok (.enter 11 vs) w := by kernel_rfl
theorem ent_c1 (vs : Array Value) (w : World) : (callFunc 12 vs).run Try.prog w = .ok (.enter 12 vs) w := by kernel_rfl
theorem ent_c2 (vs : Array Value) (w : World) : (callFunc 13 vs).run Try.prog w = .ok (.enter 13 vs) w := by kernel_rfl
theorem ent_same (vs : Array Value) (w : World) : (callFunc 14 vs).run Try.prog w = .ok (.enter 14 vs) w := by kernel_rfl
end LookSumsLaw
open LookSumsLaw in
set_option maxRecDepth 20000 in
set_option maxHeartbeats 4000000 in
theorem lookSums_law (w : World) (s : StV) (hS : StOk w w.heap.size s) (A : Option Addr) (n c : Nat) (x : Nat → Nat) (hA : Rd w w.heap.size A n (fun i => .int .u64 ((x i : Nat) : Int))) (hx : ∀ i, x i < 18446744073709551616) (hn : n ≤ 140737488351232) (i : Nat) (hi : i < 18446744073709551616) :
    Calls Try.prog 3 #[.agg (arr 1957 s.F), .slice A n c, .int .u64 (i : Int)] w fun r w' => r = .returned (.bool true) ∧ Below w.heap.size w w' := by
  have HS := Lib.hid hS
  have HA := Lib.hid hA
  have HX := Lib.hid hx
  have HI := Lib.hid hi
  clear hS hA hx
  by_cases hn6 : n ≤ 65536
  · have dn : decide ((65536 : Int) < (n : Int)) = false := decide_eq_false (by omega)
    clear hi
    go_enter Try.func3, Try.ntmps3
    go_upto_if 21 with (first
      | (refine wpList_box rfl _ _ rfl 1957 s.F rfl ?_; intro w1 hr1 hb1; have HR1 := Lib.hid hr1; have HB1 := Lib.hid hb1; clear hr1 hb1)
      | (go_at_call 6; refine (awake_any _).mono ?_; rintro r w2 ⟨rfl, hb2⟩; have HB2 := Lib.hid hb2; clear hb2)
      | (refine wpList_load_rd rfl 49 _ rfl 1957 _ Try.underlying49 rfl (by kernel_rfl) ⟨w.heap.size, 0, none⟩ rfl s.F (fun i hi => by rw [add_lit0]; exact (row_below HR1.out HB2.out HR1.out.lt).cell hi) ?_)
      | (go_at_call 7; refine (right_any s _ ((HS.out.below (HB1.out.trans (HB2.out.mono HB1.out.size))).more (Nat.le_trans HB1.out.size HB2.out.size))).mono ?_; rintro r w3 ⟨b, rfl, hF, hb3⟩; have HF := Lib.hid hF; have HB3 := Lib.hid (HB2.out.trans (hb3.mono HB2.out.size)); clear hb3 hF))
    · have HRF := Lib.hid (HF.out (by assumption))
      have HW3 := Lib.hid (HB1.out.trans (HB3.out.mono HB1.out.size))
      have ROWS : Hid (∀ wz, Below w3.heap.size w3 wz → wz.rowIs w.heap.size 49 1957 s.F) := Lib.hid (fun wz hz => row_below (row_below HR1.out HB3.out HR1.out.lt) hz (row_below HR1.out HB3.out HR1.out.lt).lt)
      have H33 := Lib.hid (HS.out.sc.u64 33 (by kernel_rfl)).1
      have H33b := Lib.hid HRF.out.slot
      have HE : Hid (∀ i, i < s.nV → effF s.V i ≤ 32000000000) := Lib.hid (fun i hi => (HRF.out.val i hi).1)
      obtain ⟨RW, hRW⟩ : ∃ RW, RW = rewB s.V s.nV i (totB (sumTo (aw s.V (nat (s.F 33) / 4)) s.nV)) := ⟨_, rfl⟩
      have HRW := Lib.hid hRW.symm
      clear hRW HF HB2
      go_upto_region 8 with (first
        | (at_builtin; refine wpList_app _ (.tmp 22) (.tmp 23) 37 w3.heap.size u64_info Try.underlying37 rfl rfl rfl n (fun j => .int .u64 ((x j : Nat) : Int)) rfl rfl (Own.new0 _ _ _ (fun j => .int .u64 ((x j : Nat) : Int)) (Nat.le_refl _)) (((HA.out.below HW3.out).more HW3.out.size).alloc (Nat.le_refl _) _) (fun _ _ => rfl) (Nat.zero_add _).symm (fun _ _ => by simp [catF]) ⟨by omega, by omega⟩ (by simp) ?_; intro Am cm w4 o4 g4 b4; have HM4 := Lib.hid o4.rd; have hcur4 : Below w3.heap.size w3 w4 := below_app ((Below.refl _ _).alloc (Nat.le_refl _) _) g4 (by simp) (fun ad h => by injection h with h; subst h; exact Nat.le_refl _); clear o4 g4 b4)
        | (refine wpList_load_rd rfl 49 _ rfl 1957 _ Try.underlying49 rfl (by kernel_rfl) ⟨w.heap.size, 0, none⟩ rfl s.F (fun i hi => by rw [add_lit0]; exact (ROWS.out _ (by assumption)).cell hi) ?_)
        | (go_at_call 8; refine (reward_look s.F s.aV s.nV s.cV s.V (nat (s.F 33)) _ rfl i HI.out _ H33.out H33b.out ((HS.out.vok.below (HW3.out.trans (hcur4.mono HW3.out.size))).more (HW3.out.trans (hcur4.mono HW3.out.size)).size) HE.out HRF.out.n).mono ?_; rintro r w5 ⟨hr, hb2⟩; rw [HRW.out] at hr; subst hr; have hcur5 : Below w3.heap.size w3 w5 := hcur4.trans (hb2.mono hcur4.size); have HM5 := Lib.hid ((HM4.out.below hb2).more hb2.size); clear hb2)
        | (go_at_call 9; refine (reward_ref s.F s.aV s.nV s.cV s.V (nat (s.F 33)) _ rfl i HI.out _ H33.out H33b.out ((HS.out.vok.below (HW3.out.trans (hcur5.mono HW3.out.size))).more (HW3.out.trans (hcur5.mono HW3.out.size)).size) HE.out HRF.out.n).mono ?_; rintro r w6 ⟨hr, hb2⟩; rw [HRW.out] at hr; subst hr; have hcur6 : Below w3.heap.size w3 w6 := hcur5.trans (hb2.mono hcur5.size); have HM6 := Lib.hid ((HM5.out.below hb2).more hb2.size); clear hb2))
      have hwc := HW3.out.trans (hcur6.mono HW3.out.size)
      have LS := Lib.hid (ld_all (ROWS.out _ hcur6) (ROWS.out _ hcur6).lt Try.underlying49 rfl (by kernel_rfl))
      obtain ⟨wc, rfl⟩ : ∃ wc : World, wc = w6 := ⟨_, rfl⟩
      have HWC := Lib.hid hwc
      have HM := Lib.hid HM6.out
      clear hwc
      refine wp_region_facts (B := wc.heap.size) (w0 := wc) [SF.is (.agg (arr 1957 s.F)), SF.is (.slice (Am) (n) (cm)), SF.is (.int .u64 ((totB (sumTo (fun k => wt s.V s.nV (x k)) n) : Nat) : Int)), SF.is (.agg (arr 1957 s.F)), SF.is (.slice (A) (n) (c)), SF.is (.int .u64 ((totB (sumTo (fun k => wt s.V s.nV (x k)) n) : Nat) : Int)), SF.is (.bool true), SF.is (.bool true), SF.is (.agg (arr 1957 s.F)), SF.is (.int .u64 ((churnB (sumTo (ac s.V (nat (s.F 33) / 4)) s.nV) : Nat) : Int)), SF.is (.agg (arr 1957 s.F)), SF.is (.int .u64 ((churnB (sumTo (ac s.V (nat (s.F 33) / 4)) s.nV) : Nat) : Int)), SF.is (.bool true), SF.is (.bool true), SF.is (.bool true), SF.is (.int .u64 ((RW : Nat) : Int)), SF.is (.int .u64 ((RW : Nat) : Int)), SF.is (.bool true), SF.is (.bool true), SF.is (.bool true), SF.is (.int .i64 (rewE s.nV i)), SF.is (.int .i64 (rewE s.nV i)), SF.is (.bool true), SF.is (.bool true), SF.is (.bool true), SF.is (.slice (Am) (n) (cm)), SF.is (.slice (A) (n) (c)), SF.is (.bool true), SF.is (.bool true), SF.is (.bool true)] (by kernel_rfl) (by kernel_rfl) rfl (Nat.le_refl _) (Below.refl _ _) ⟨?_, ?_, ?_, ?_, ?_, ?_, ?_, ?_, ?_, ?_, ?_, ?_, ?_, ?_, ?_, ?_, ?_, ?_, ?_, ?_, ?_, ?_, ?_, ?_, ?_, ?_, ?_, ?_, ?_, ?_, trivial⟩ ?_
      · exact opOb_ld rfl rfl (OpK.tmp rfl) (fun w' hb => LS.out w' hb)
      · exact (opOb_move _ rfl (.inl rfl) rfl)
      · exact opOb_fn2 ent_t1 rfl rfl (OpK.tmp rfl) (OpK.tmp rfl) (fun w' hb => (total_look s.F s.aV s.nV s.cV s.V Am n cm x w' ((HS.out.vok.below (HWC.out.trans (hb.mono HWC.out.size))).more (HWC.out.trans (hb.mono HWC.out.size)).size) HE.out ((HM.out.below hb).more hb.size) (fun i _ => HX.out i) hn6).mono fun r w'' ⟨he', hb2⟩ => ⟨_, he', rfl, hb2⟩)
      · exact opOb_ld rfl rfl (OpK.tmp rfl) (fun w' hb => LS.out w' hb)
      · exact (opOb_move _ rfl (.inl rfl) rfl)
      · exact opOb_fn2 ent_t2 rfl rfl (OpK.tmp rfl) (OpK.tmp rfl) (fun w' hb => (total_ref s.F s.aV s.nV s.cV s.V A n c x w' ((HS.out.vok.below (HWC.out.trans (hb.mono HWC.out.size))).more (HWC.out.trans (hb.mono HWC.out.size)).size) HE.out ((HA.out.below (HWC.out.trans (hb.mono HWC.out.size))).more (HWC.out.trans (hb.mono HWC.out.size)).size) (fun i _ => HX.out i) hn6).mono fun r w'' ⟨he', hb2⟩ => ⟨_, he', rfl, hb2⟩)
      · exact opOb_eqSame .u64 (((totB (sumTo (fun k => wt s.V s.nV (x k)) n) : Nat) : Int)) rfl rfl (OpK.tmp rfl) (OpK.tmp rfl)
      · exact (opOb_move _ rfl (.inl rfl) rfl)
      · exact opOb_on 44 rfl rfl (opOb_ld rfl rfl (OpK.tmp rfl) (fun w' hb => LS.out w' hb))
      · exact opOb_on 44 rfl rfl (opOb_fn1 ent_c1 rfl rfl (OpK.tmp rfl) (fun w' hb => (churn_look s.F s.aV s.nV s.cV s.V (nat (s.F 33)) _ rfl w' H33.out H33b.out ((HS.out.vok.below (HWC.out.trans (hb.mono HWC.out.size))).more (HWC.out.trans (hb.mono HWC.out.size)).size) HE.out HRF.out.n).mono fun r w'' ⟨he', hb2⟩ => ⟨_, he', rfl, hb2⟩))
      · exact opOb_on 44 rfl rfl (opOb_ld rfl rfl (OpK.tmp rfl) (fun w' hb => LS.out w' hb))
      · exact opOb_on 44 rfl rfl (opOb_fn1 ent_c2 rfl rfl (OpK.tmp rfl) (fun w' hb => (churn_ref s.F s.aV s.nV s.cV s.V (nat (s.F 33)) _ rfl w' H33.out H33b.out ((HS.out.vok.below (HWC.out.trans (hb.mono HWC.out.size))).more (HWC.out.trans (hb.mono HWC.out.size)).size) HE.out HRF.out.n).mono fun r w'' ⟨he', hb2⟩ => ⟨_, he', rfl, hb2⟩))
      · exact opOb_on 44 rfl rfl (opOb_eqSame .u64 (((churnB (sumTo (ac s.V (nat (s.F 33) / 4)) s.nV) : Nat) : Int)) rfl rfl (OpK.tmp rfl) (OpK.tmp rfl))
      · exact opOb_pickT rfl rfl rfl (OpK.tmp rfl)
      · exact (opOb_move _ rfl (.inl rfl) rfl)
      · exact opOb_on 51 rfl rfl ((opOb_move _ rfl (.inl rfl) rfl))
      · exact opOb_on 51 rfl rfl ((opOb_move _ rfl (.inl rfl) rfl))
      · exact opOb_on 51 rfl rfl (opOb_eqSame .u64 (((RW : Nat) : Int)) rfl rfl (OpK.tmp rfl) (OpK.tmp rfl))
      · exact opOb_pickT rfl rfl rfl (OpK.tmp rfl)
      · exact (opOb_move _ rfl (.inl rfl) rfl)
      · exact opOb_on 56 rfl rfl ((opOb_move _ rfl (.inl rfl) rfl))
      · exact opOb_on 56 rfl rfl ((opOb_move _ rfl (.inl rfl) rfl))
      · exact opOb_on 56 rfl rfl (opOb_eqSame .i64 (rewE s.nV i) rfl rfl (OpK.tmp rfl) (OpK.tmp rfl))
      · exact opOb_pickT rfl rfl rfl (OpK.tmp rfl)
      · exact (opOb_move _ rfl (.inl rfl) rfl)
      · exact opOb_on 61 rfl rfl ((opOb_move _ rfl (.inl rfl) rfl))
      · exact opOb_on 61 rfl rfl ((opOb_move _ rfl (.inl rfl) rfl))
      · exact opOb_on 61 rfl rfl (opOb_fn2 ent_same rfl rfl (OpK.tmp rfl) (OpK.tmp rfl) (fun w' hb => (same_any w'.heap.size n cm n c Am A x x w' ((HM.out.below hb).more hb.size) ((HA.out.below (HWC.out.trans (hb.mono HWC.out.size))).more (HWC.out.trans (hb.mono HWC.out.size)).size) (Nat.le_trans hn6 (by unfold maxLen; omega))).mono fun r w'' ⟨he', hd⟩ => ⟨_, he', by rw [show sameB x x n n = true from decide_eq_true ⟨rfl, fun _ _ => rfl⟩]; rfl, hd.below _⟩))
      · exact opOb_pickT rfl rfl rfl (OpK.tmp rfl)
      · exact (opOb_move _ rfl (.inr rfl) rfl)
      · intro w' hb
        simp only [fin, SF.is, forall_eq]
        simp only [Act.put, List.setIfInBounds_toArray, List.set_cons_succ, List.set_cons_zero]

        go_wp2_with fail
        go_ret
        exact ⟨rfl, HWC.out.trans (hb.mono HWC.out.size)⟩
    · go_wp2_with fail
      go_ret
      exact ⟨rfl, HB1.out.trans (HB3.out.mono HB1.out.size)⟩
  · have dn : decide ((65536 : Int) < (n : Int)) = true := decide_eq_true (by omega)
    clear hi
    go_enter Try.func3, Try.ntmps3
    go_upto_if 21 with (first
      | (refine wpList_box rfl _ _ rfl 1957 s.F rfl ?_; intro w1 hr1 hb1; have HR1 := Lib.hid hr1; have HB1 := Lib.hid hb1; clear hr1 hb1)
      | (go_at_call 6; refine (awake_any _).mono ?_; rintro r w2 ⟨rfl, hb2⟩; have HB2 := Lib.hid hb2; clear hb2)
      | (refine wpList_load_rd rfl 49 _ rfl 1957 _ Try.underlying49 rfl (by kernel_rfl) ⟨w.heap.size, 0, none⟩ rfl s.F (fun i hi => by rw [add_lit0]; exact (row_below HR1.out HB2.out HR1.out.lt).cell hi) ?_)
      | (go_at_call 7; refine (right_any s _ ((HS.out.below (HB1.out.trans (HB2.out.mono HB1.out.size))).more (Nat.le_trans HB1.out.size HB2.out.size))).mono ?_; rintro r w3 ⟨b, rfl, hF, hb3⟩; have HB3 := Lib.hid (HB2.out.trans (hb3.mono HB2.out.size)); clear hb3 hF))
    all_goals go_wp2_with fail
    all_goals go_ret
    all_goals exact ⟨rfl, HB1.out.trans (HB3.out.mono HB1.out.size)⟩
end Go.Proofs.Ytjphchcjneofhaa
