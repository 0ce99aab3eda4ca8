/- The law LookActives. (Printed by a program of mine.) -/
import Derived.Test.YtjphchcjneofhaaLookAwake
import Derived.Test.YtjphchcjneofhaaRight
import Derived.Test.YtjphchcjneofhaaLawOps
namespace Go.Proofs.Ytjphchcjneofhaa
open Go.RowKit
namespace LookActivesLaw
theorem ent_act1 (vs : Array Value) (w : World) : (callFunc 15 vs).run Try.prog w = .ok (.enter 15 vs) w := by kernel_rfl
theorem ent_act2 (vs : Array Value) (w : World) : (callFunc 16 vs).run Try.prog w = .ok (.enter 16 vs) w := by kernel_rfl
theorem ent_cs1 (vs : Array Value) (w : World) : (callFunc 17 vs).run Try.prog w = .ok (.enter 17 vs) w := by kernel_rfl
theorem ent_cs2 (vs : Array Value) (w : World) : (callFunc 18 vs).run Try.prog w = .ok (.enter 18 vs) w := by kernel_rfl
theorem ent_as1 (vs : Array Value) (w : World) : (callFunc 19 vs).run Try.prog w = .ok (.enter 19 vs) w := by kernel_rfl
theorem ent_as2 (vs : Array Value) (w : World) : (callFunc 20 vs).run Try.prog w = .ok (.enter 20 vs) w := by kernel_rfl
theorem ent_same (vs : Array Value) (w : World) : (callFunc 14 vs).run Try.prog w = .ok (.enter 14 vs) w := by kernel_rfl
end LookActivesLaw
open LookActivesLaw in
set_option maxRecDepth 20000 in
set_option maxHeartbeats 4000000 in
theorem lookActives_law (w : World) (s : StV) (hS : StOk w w.heap.size s) (e : Nat) (_he : e < 18446744073709551616) : Calls Try.prog 5 #[.agg (arr 1957 s.F), .int .u64 (e : Int)] w fun r w' => r = .returned (.bool true) ∧ Below w.heap.size w w' := by
  have HS := Lib.hid hS
  have hle : s.nV ≤ 9223372036854775807 := by have := hS.lV; unfold maxLen at this; omega
  clear hS
  go_enter Try.func5, Try.ntmps5
  go_upto_if 11 with (first
    | (refine wpList_box rfl _ _ rfl 1957 s.F rfl ?_; intro w1 hr1 hb1; have HR1 := Lib.hid hr1; have HB1 := Lib.hid hb1; clear hr1 hb1)
    | (go_at_call 6; refine (awake_any _).mono ?_; rintro r w2 ⟨rfl, hb2⟩; have HB2 := Lib.hid hb2; clear hb2)
    | (refine wpList_load_rd rfl 49 _ rfl 1957 _ Try.underlying49 rfl (by kernel_rfl) ⟨w.heap.size, 0, none⟩ rfl s.F (fun i hi => by rw [add_lit0]; exact (row_below HR1.out HB2.out HR1.out.lt).cell hi) ?_)
    | (go_at_call 7; refine (right_any s _ ((HS.out.below (HB1.out.trans (HB2.out.mono HB1.out.size))).more (Nat.le_trans HB1.out.size HB2.out.size))).mono ?_; rintro r w3 ⟨b, rfl, hF, hb3⟩; have HF := Lib.hid hF; have HB3 := Lib.hid (HB2.out.trans (hb3.mono HB2.out.size)); clear hb3 hF))
  cases b with
  | false =>
    go_wp2_with fail
    go_ret
    exact ⟨rfl, HB1.out.trans (HB3.out.mono HB1.out.size)⟩
  | true =>
    have HRF := Lib.hid (HF.out rfl)
    have hn := HRF.out.n
    have hlt := HR1.out.lt
    clear HF HB2
    go_wp2_with fail
    go_loopw [5] (fun i wr => ∃ k : Nat, i = .int .i64 (k : Int) ∧ k ≤ s.nV ∧ Below w1.heap.size w1 wr) (fun i _ => s.nV - (intOf i).toNat)
    case atStart => exact ⟨0, rfl, Nat.zero_le _, HB3.out⟩
    case round =>
      clear HB3
      obtain ⟨k, rfl, hk, hb⟩ := hrel
      have HB := Lib.hid hb
      have hsz := hb.size
      have hszr : w.heap.size ≤ wr.heap.size := by omega
      have h721 := ((row_below HR1.out hb hlt).cell (i := 721) (by omega)).trans (congrArg some HS.out.f11)
      clear hb
      by_cases h1 : k < s.nV
      · obtain ⟨ad, hA, hb2, hc1, -⟩ := ((HS.out.vok.below HB1.out).more HB1.out.size).below HB.out |>.at_ h1
        rw [hA] at h721
        have HC1 := Lib.hid hc1
        have HSC := Lib.hid (HS.out.scV k h1)
        clear hc1 hA
        go_upto_region 9 with (first
          | (refine wpList_load_rd rfl 60 _ rfl 86 _ Try.underlying60 rfl (by kernel_rfl) (ad.add (k * 86)) rfl (fun q => s.V (k * 86 + q)) HC1.out ?_)
          | (refine wpList_new rfl rfl 60 60 6 (.tmp 23) rfl rfl rfl 86 (zeroOf Try.prog 60) (by kernel_rfl) (by kernel_rfl) (arr 86 (fun q => s.V (k * 86 + q))) rfl rfl (size_arr _ _) (by kernel_rfl) (HSC.out.one (by kernel_rfl)) (fun q => s.V (k * 86 + q)) (fun q hq => arr_at _ _ _ hq) ?_; intro w2 hr2 hb2; have HR2 := Lib.hid hr2; have HB2 := Lib.hid hb2; clear hr2 hb2; simp only [Act.put, List.setIfInBounds_toArray, List.set_cons_succ, List.set_cons_zero]))
        have LV := Lib.hid (ld_all HR2.out HR2.out.lt Try.underlying60 rfl (by kernel_rfl))
        refine wp_region_facts (B := w2.heap.size) (w0 := w2) [SF.is (.agg (arr 86 (fun q => s.V (k * 86 + q)))), SF.is (.int .u64 ((e : Nat) : Int)), SF.is (.bool (isAct s.V e k)), SF.is (.agg (arr 86 (fun q => s.V (k * 86 + q)))), SF.is (.int .u64 ((e : Nat) : Int)), SF.is (.bool (isAct s.V e k)), SF.is (.bool false), SF.is (.bool false), SF.is (.agg (arr 86 (fun q => s.V (k * 86 + q)))), SF.is (.int .u64 ((e : Nat) : Int)), SF.is (.bool (slshB (bln (s.V (k * 86 + 81))) (nat (s.V (k * 86 + 83))) e (nat (s.V (k * 86 + 85))))), SF.is (.agg (arr 86 (fun q => s.V (k * 86 + q)))), SF.is (.int .u64 ((e : Nat) : Int)), SF.is (.bool (slshB (bln (s.V (k * 86 + 81))) (nat (s.V (k * 86 + 83))) e (nat (s.V (k * 86 + 85))))), SF.is (.bool false), SF.is (.bool false)] (by kernel_rfl) (by kernel_rfl) rfl (Nat.le_refl _) (Below.refl _ _) ⟨?_, ?_, ?_, ?_, ?_, ?_, ?_, ?_, ?_, ?_, ?_, ?_, ?_, ?_, ?_, ?_, trivial⟩ ?_
        · exact opOb_ld rfl rfl (OpK.tmp rfl) (fun w' hb => LV.out w' hb)
        · exact (opOb_move _ rfl (.inl rfl) rfl)
        · exact opOb_fn2 ent_act1 rfl rfl (OpK.tmp rfl) (OpK.tmp rfl) (fun w' hb => (active_look (fun q => s.V (k * 86 + q)) HSC.out e w').mono fun r w'' ⟨he', hb2⟩ => ⟨_, he', rfl, hb2⟩)
        · exact opOb_ld rfl rfl (OpK.tmp rfl) (fun w' hb => LV.out w' hb)
        · exact (opOb_move _ rfl (.inl rfl) rfl)
        · exact opOb_fn2 ent_act2 rfl rfl (OpK.tmp rfl) (OpK.tmp rfl) (fun w' hb => (active_ref (fun q => s.V (k * 86 + q)) HSC.out e w').mono fun r w'' ⟨he', hb2⟩ => ⟨_, he', rfl, hb2⟩)
        · exact opOb_neBool (isAct s.V e k) Try.underlying4 rfl rfl (OpK.tmp rfl) (OpK.tmp rfl)
        · exact (opOb_move _ rfl (.inl rfl) rfl)
        · exact opOb_on 31 rfl rfl (opOb_ld rfl rfl (OpK.tmp rfl) (fun w' hb => LV.out w' hb))
        · exact opOb_on 31 rfl rfl ((opOb_move _ rfl (.inl rfl) rfl))
        · exact opOb_on 31 rfl rfl (opOb_fn2 ent_cs1 rfl rfl (OpK.tmp rfl) (OpK.tmp rfl) (fun w' hb => (canSlash_look (fun q => s.V (k * 86 + q)) HSC.out e w').mono fun r w'' ⟨he', hb2⟩ => ⟨_, he', rfl, hb2⟩))
        · exact opOb_on 31 rfl rfl (opOb_ld rfl rfl (OpK.tmp rfl) (fun w' hb => LV.out w' hb))
        · exact opOb_on 31 rfl rfl ((opOb_move _ rfl (.inl rfl) rfl))
        · exact opOb_on 31 rfl rfl (opOb_fn2 ent_cs2 rfl rfl (OpK.tmp rfl) (OpK.tmp rfl) (fun w' hb => (canSlash_ref (fun q => s.V (k * 86 + q)) HSC.out e w').mono fun r w'' ⟨he', hb2⟩ => ⟨_, he', rfl, hb2⟩))
        · exact opOb_on 31 rfl rfl (opOb_neBool (slshB (bln (s.V (k * 86 + 81))) (nat (s.V (k * 86 + 83))) e (nat (s.V (k * 86 + 85)))) Try.underlying4 rfl rfl (OpK.tmp rfl) (OpK.tmp rfl))
        · exact opOb_pickF rfl rfl rfl (OpK.tmp rfl)
        · intro w' hb
          simp only [fin, SF.is, forall_eq]
          simp only [Act.put, List.setIfInBounds_toArray, List.set_cons_succ, List.set_cons_zero]
          go_wp2_with fail
          go_roundw
          case rel => exact ⟨k + 1, by go_num, by omega, HB.out.trans ((HB2.out.trans (hb.mono HB2.out.size)).mono hsz)⟩
          case measure => simp [intOf]; omega
      · go_wp2_with fail
        have LS := Lib.hid (ld_all (row_below HR1.out HB.out hlt) (Nat.lt_of_lt_of_le hlt hsz) Try.underlying49 rfl (by kernel_rfl))
        refine wp_region_facts (B := wr.heap.size) (w0 := wr) [SF.is (.agg (arr 1957 s.F)), SF.is (.int .u64 ((e : Nat) : Int)), SF.rd ((actIx s.V e s.nV).length) (fun j => .int .u64 ((ax s.V e s.nV j : Nat) : Int)), SF.is (.agg (arr 1957 s.F)), SF.is (.int .u64 ((e : Nat) : Int)), SF.rd ((actIx s.V e s.nV).length) (fun j => .int .u64 ((ax s.V e s.nV j : Nat) : Int)), SF.is (.bool true), SF.is (.bool true)] (by kernel_rfl) (by kernel_rfl) rfl (Nat.le_refl _) (Below.refl _ _) ⟨?_, ?_, ?_, ?_, ?_, ?_, ?_, ?_, trivial⟩ ?_
        · exact opOb_ld rfl rfl (OpK.tmp rfl) (fun w' hb => LS.out w' hb)
        · exact (opOb_move _ rfl (.inl rfl) rfl)
        · exact opOb_fn2 ent_as1 rfl rfl (OpK.tmp rfl) (OpK.tmp rfl) (fun w' hb => (actives_look s.F s.aV s.nV s.cV s.V e w' (((HS.out.vok.below (HB1.out.trans (HB.out.mono HB1.out.size))).below (hb.mono hszr)).more (Nat.le_trans hszr hb.size)) HRF.out.n).mono fun r w'' ⟨C, cC, he', ho, hb2⟩ => ⟨_, he', ⟨C, cC, rfl, ho.rd⟩, hb2⟩)
        · exact opOb_ld rfl rfl (OpK.tmp rfl) (fun w' hb => LS.out w' hb)
        · exact (opOb_move _ rfl (.inl rfl) rfl)
        · exact opOb_fn2 ent_as2 rfl rfl (OpK.tmp rfl) (OpK.tmp rfl) (fun w' hb => (actives_ref s.F s.aV s.nV s.cV s.V e w' (((HS.out.vok.below (HB1.out.trans (HB.out.mono HB1.out.size))).below (hb.mono hszr)).more (Nat.le_trans hszr hb.size)) HRF.out.n).mono fun r w'' ⟨C, cC, he', ho, hb2⟩ => ⟨_, he', ⟨C, cC, rfl, ho.rd⟩, hb2⟩)
        · exact opOb_fnRR ent_same rfl rfl rfl rfl (fun w' A c A' c' hb h1 h2 => (same_any w'.heap.size ((actIx s.V e s.nV).length) c ((actIx s.V e s.nV).length) c' A A' (ax s.V e s.nV) (ax s.V e s.nV) w' h1 h2 (Nat.le_trans (actIx_le _ _ _) HS.out.vok.le)).mono fun r w'' ⟨he', hd⟩ => ⟨_, he', by rw [show sameB (ax s.V e s.nV) (ax s.V e s.nV) ((actIx s.V e s.nV).length) ((actIx s.V e s.nV).length) = true from decide_eq_true ⟨rfl, fun _ _ => rfl⟩]; rfl, hd.below _⟩)
        · exact (opOb_move _ rfl (.inr rfl) rfl)
        · intro w' hb
          simp only [fin, SF.is, SF.rd, forall_eq]
          rintro _ ⟨A7, c7, rfl, hr7⟩ _ ⟨A8, c8, rfl, hr8⟩
          simp only [Act.put, List.setIfInBounds_toArray, List.set_cons_succ, List.set_cons_zero]
          go_wp2_with fail
          go_ret
          exact ⟨rfl, HB1.out.trans ((HB.out.trans (hb.mono hsz)).mono HB1.out.size)⟩
end Go.Proofs.Ytjphchcjneofhaa
