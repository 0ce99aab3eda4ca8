/- The law LookParts. (Printed by a program of mine.) -/
import Derived.Test.YtjphchcjneofhaaLookAwake
import Derived.Test.YtjphchcjneofhaaRight
import Derived.Test.YtjphchcjneofhaaLawOps
namespace Go.Proofs.Ytjphchcjneofhaa
open Go.RowKit
namespace LookPartsLaw
theorem ent_t1 (vs : Array Value) (w : World) : (callFunc 10 vs).run Try.prog w = .ok (.enter 10 vs) w := by kernel_rfl
theorem run_bs0_u64 (w : World) : (Instr.buildSlice 37 0 #[]).run Try.prog w = .ok (.slice (some ⟨w.heap.size, 0, none⟩) 0 0) (w.alloc (.cells #[] 22)) := by simp [go_sem]
def catX (n : Nat) (x y : Nat → Nat) (i : Nat) : Nat := if i < n then x i else y (i - n)
theorem cat_X (n : Nat) (x y : Nat → Nat) (m : Nat) : ∀ i, i < m → catF n (fun j => .int .u64 ((x j : Nat) : Int)) (fun j => .int .u64 ((y j : Nat) : Int)) i = .int .u64 ((catX n x y i : Nat) : Int) := fun i _ => by
  simp only [catF, catX]; split <;> rfl
theorem catX_lt {n : Nat} {x y : Nat → Nat} (hx : ∀ i, x i < 18446744073709551616) (hy : ∀ i, y i < 18446744073709551616) (i : Nat) : catX n x y i < 18446744073709551616 := by
  unfold catX; split
  · exact hx i
  · exact hy _
theorem sumTo_cat (f : Nat → Nat) (n : Nat) (x y : Nat → Nat) (m : Nat) : sumTo (fun k => f (catX n x y k)) (n + m) = sumTo (fun k => f (x k)) n + sumTo (fun k => f (y k)) m := by
  induction m with
  | zero => exact sumTo_congr fun i hi => by unfold catX; rw [if_pos (show i < n from hi)]
  | succ m ih =>
    show sumTo _ (n + m) + f (catX n x y (n + m)) = sumTo _ n + (sumTo _ m + f (y m))
    rw [ih, show catX n x y (n + m) = y m by unfold catX; rw [if_neg (by omega), Nat.add_sub_cancel_left]]
    omega
theorem totB_or (t : Nat) : totB t = t ∧ 1000000000 ≤ t ∨ totB t = 1000000000 ∧ t < 1000000000 := by
  unfold totB; split
  · exact .inr ⟨rfl, ‹_›⟩
  · exact .inl ⟨rfl, by omega⟩
end LookPartsLaw
open LookPartsLaw in
set_option maxRecDepth 20000 in
set_option maxHeartbeats 8000000 in
theorem lookParts_law (w : World) (s : StV) (hS : StOk w w.heap.size s) (A : Option Addr) (n1 c1 : Nat) (x : Nat → Nat) (hA : Rd w w.heap.size A n1 (fun i => .int .u64 ((x i : Nat) : Int))) (hx : ∀ i, x i < 18446744073709551616) (hn1 : n1 ≤ 140737488351232)
    (C : Option Addr) (n2 c2 : Nat) (y : Nat → Nat) (hC : Rd w w.heap.size C n2 (fun i => .int .u64 ((y i : Nat) : Int))) (hy : ∀ i, y i < 18446744073709551616) (hn2 : n2 ≤ 140737488351232) (e : Nat) (_he : e < 18446744073709551616) :
    Calls Try.prog 4 #[.agg (arr 1957 s.F), .slice A n1 c1, .slice C n2 c2, .int .u64 (e : Int)] w fun r w' => r = .returned (.bool true) ∧ Below w.heap.size w w' := by
  have HS := Lib.hid hS
  have HA := Lib.hid hA
  have HX := Lib.hid hx
  have HB := Lib.hid hC
  have HY := Lib.hid hy
  have hle : s.nV ≤ 9223372036854775807 := by have := hS.lV; unfold maxLen at this; omega
  clear hS hA hx hC hy _he
  by_cases hn6 : n1 + n2 ≤ 65536
  · have dn : decide ((65536 : Int) < (n1 : Int) + (n2 : Int)) = false := decide_eq_false (by omega)
    by_cases he : e < 2199023255552
    · have de : decide ((2199023255552 : Int) ≤ (e : Int)) = false := decide_eq_false (by omega)
      go_enter Try.func4, Try.ntmps4
      go_upto_if 32 with (first
      | (refine wpList_box rfl _ _ rfl 1957 s.F rfl ?_; intro w1 hr1 hb1; have HR1 := Lib.hid hr1; have HB1 := Lib.hid hb1; clear hr1 hb1)
      | (go_at_call 6; refine (awake_any _).mono ?_; rintro r w2 ⟨rfl, hb2⟩; have HB2 := Lib.hid hb2; clear hb2)
      | (refine wpList_load_rd rfl 49 _ rfl 1957 _ Try.underlying49 rfl (by kernel_rfl) ⟨w.heap.size, 0, none⟩ rfl s.F (fun i hi => by rw [add_lit0]; exact (row_below HR1.out HB2.out HR1.out.lt).cell hi) ?_)
      | (go_at_call 7; refine (right_any s _ ((HS.out.below (HB1.out.trans (HB2.out.mono HB1.out.size))).more (Nat.le_trans HB1.out.size HB2.out.size))).mono ?_; rintro r w3 ⟨b, rfl, hF, hb3⟩; have HF := Lib.hid hF; have HB3 := Lib.hid (HB2.out.trans (hb3.mono HB2.out.size)); clear hb3 hF))
      · have HRF := Lib.hid (HF.out (by assumption))
        have HW3 := Lib.hid (HB1.out.trans (HB3.out.mono HB1.out.size))
        have ROWS : Hid (∀ wz, Below w3.heap.size w3 wz → wz.rowIs w.heap.size 49 1957 s.F) := Lib.hid (fun wz hz => row_below (row_below HR1.out HB3.out HR1.out.lt) hz (row_below HR1.out HB3.out HR1.out.lt).lt)
        have HE : Hid (∀ i, i < s.nV → effF s.V i ≤ 32000000000) := Lib.hid (fun i hi => (HRF.out.val i hi).1)
        have hcur3 : Below w3.heap.size w3 w3 := Below.refl _ _
        have hcat := Lib.hid (sumTo_cat (wt s.V s.nV) n1 x y n2)
        have hsa := sumTo_small (z := fun k => wt s.V s.nV (x k)) (k := n1) fun i _ => wt_le HE.out (x i)
        have hsb := sumTo_small (z := fun k => wt s.V s.nV (y k)) (k := n2) fun i _ => wt_le HE.out (y i)
        clear HF HB2
        have tok1 := Tok.mk 1
        go_upto_region 7 with (first
          | (refine wpList_load_rd rfl 49 _ rfl 1957 _ Try.underlying49 rfl (by kernel_rfl) ⟨w.heap.size, 0, none⟩ rfl s.F (fun i hi => by rw [add_lit0]; exact (ROWS.out _ (by assumption)).cell hi) ?_)
          | (go_at_call 10; have hx : Tok 1 := (by assumption); clear hx tok1; refine (total_look s.F s.aV s.nV s.cV s.V A n1 c1 x _ ((HS.out.vok.below (HW3.out.trans (hcur3.mono HW3.out.size))).more (HW3.out.trans (hcur3.mono HW3.out.size)).size) HE.out ((HA.out.below (HW3.out.trans (hcur3.mono HW3.out.size))).more (HW3.out.trans (hcur3.mono HW3.out.size)).size) (fun i _ => HX.out i) (by omega)).mono ?_; rintro r w4 ⟨rfl, hb2⟩; have hcur4 : Below w3.heap.size w3 w4 := hcur3.trans (hb2.mono hcur3.size); clear hb2; have tok2 := Tok.mk 2)
          | (go_at_call 10; have hx : Tok 2 := (by assumption); clear hx tok2; refine (total_look s.F s.aV s.nV s.cV s.V C n2 c2 y _ ((HS.out.vok.below (HW3.out.trans (hcur4.mono HW3.out.size))).more (HW3.out.trans (hcur4.mono HW3.out.size)).size) HE.out ((HB.out.below (HW3.out.trans (hcur4.mono HW3.out.size))).more (HW3.out.trans (hcur4.mono HW3.out.size)).size) (fun i _ => HY.out i) (by omega)).mono ?_; rintro r w5 ⟨rfl, hb2⟩; have hcur5 : Below w3.heap.size w3 w5 := hcur4.trans (hb2.mono hcur4.size); clear hb2; have tok3 := Tok.mk 3))
        clear tok3
        have hwc := HW3.out.trans (hcur5.mono HW3.out.size)
        have LS := Lib.hid (ld_all (ROWS.out _ hcur5) (ROWS.out _ hcur5).lt Try.underlying49 rfl (by kernel_rfl))
        obtain ⟨wc, rfl⟩ : ∃ wc : World, wc = w5 := ⟨_, rfl⟩
        have HWC := Lib.hid hwc
        clear hwc
        refine wp_region_own (l := [_, _, _, _, _, _, _, _]) (tl := []) (B := wc.heap.size) (w0 := wc) [OF.is (.agg (arr 1957 s.F)), OF.own0 wc.heap.size 22, OF.is (.slice (A) (n1) (c1)), OF.own wc.heap.size 22 n1 (fun j => .int .u64 ((x j : Nat) : Int)), OF.is (.slice (C) (n2) (c2)), OF.own wc.heap.size 22 (n1 + n2) (fun j => .int .u64 ((catX n1 x y j : Nat) : Int)), OF.is (.int .u64 ((totB (sumTo (fun k => wt s.V s.nV (catX n1 x y k)) (n1 + n2)) : Nat) : Int)), OF.is (.int .u64 ((totB (sumTo (fun k => wt s.V s.nV (catX n1 x y k)) (n1 + n2)) : Nat) : Int))] [none, none, none, some 40, none, some 42, none, none] [false, true, false, true, false, false, false, false] (by kernel_rfl) (by kernel_rfl) rfl (Nat.le_refl _) (Below.refl _ _) ⟨?_, ?_, ?_, ?_, ?_, ?_, ?_, ?_, trivial⟩ ?_
        · exact opObO_is (opOb_ld rfl rfl (OpK.tmp rfl) (fun w' hb => LS.out w' hb))
        · exact opObO_bs0 rfl rfl run_bs0_u64 _ (Nat.le_refl _)
        · exact opObO_is ((opOb_move _ rfl (.inl rfl) rfl))
        · exact opObO_app0 (s := 40) wc.heap.size u64_info Try.underlying37 rfl rfl rfl (by rfl) (OpK.tmp rfl) (fun w' hb => HA.out.below (HWC.out.trans (hb.mono HWC.out.size))) (fun _ _ => rfl) (by omega) (Nat.le_refl _)
        · exact opObO_is ((opOb_move _ rfl (.inl rfl) rfl))
        · exact opObO_app (s := 42) wc.heap.size u64_info Try.underlying37 rfl rfl rfl (by rfl) (Nat.le_refl _) (OpK.tmp rfl) (fun w' hb => HB.out.below (HWC.out.trans (hb.mono HWC.out.size))) (fun _ _ => rfl) (n1 + n2) (fun j => .int .u64 ((catX n1 x y j : Nat) : Int)) rfl (cat_X n1 x y _) (by omega) (Nat.le_refl _)
        · exact opObO_fn ent_t1 44 wc.heap.size 22 (n1 + n2) (fun j => .int .u64 ((catX n1 x y j : Nat) : Int)) (fun A c => #[.agg (arr 1957 s.F), .slice A (n1 + n2) c]) rfl rfl (by rfl) (by simp) (fun a w A c hf e1 => by have h1 : a.eval (.tmp 39) = .agg (arr 1957 s.F) := (getD_eq _ _).trans (hf 39 (by simp [Op.operands, Call.operands])); simp [h1, e1]) (fun w' A c hb ho => total_look s.F s.aV s.nV s.cV s.V A (n1 + n2) c (catX n1 x y) w' ((HS.out.vok.below (HWC.out.trans (hb.mono HWC.out.size))).more (HWC.out.trans (hb.mono HWC.out.size)).size) HE.out ho.rd (fun i _ => catX_lt HX.out HY.out i) hn6)
        · exact opObO_is ((opOb_move _ rfl (.inr rfl) rfl))
        · intro w' hb
          simp only [finO, OF.is, OF.own, forall_eq]
          rintro _ _ _ ⟨_, _, rfl, _⟩
          simp only [Act.put, List.setIfInBounds_toArray, List.set_cons_succ, List.set_cons_zero, seqWp]
          have hcw : Below w3.heap.size w3 w' := hcur5.trans (hb.mono hcur5.size)
          have HCW := Lib.hid hcw
          rw [hcat.out]
          generalize sumTo (fun k => wt s.V s.nV (x k)) n1 = sa at *
          generalize sumTo (fun k => wt s.V s.nV (y k)) n2 = sb at *
          have hta := totB_or sa
          have htb := totB_or sb
          have htu := totB_or (sa + sb)
          have f1 : ¬ ((totB sa : Int) + (totB sb : Int) < (totB (sa + sb) : Int)) := by omega
          have f2 : ¬ ((totB (sa + sb) : Int) < (totB sa : Int)) := by omega
          have f3 : ¬ ((totB (sa + sb) : Int) < (totB sb : Int)) := by omega
          have f4 : 1000000000 < totB sa → 1000000000 < totB sb → totB (sa + sb) = totB sa + totB sb := by omega
          have b1 : totB sa ≤ 4000000000000000 := by omega
          have b2 : totB sb ≤ 4000000000000000 := by omega
          clear hta htb htu hcat hsa hsb LS hb
          generalize totB sa = ta at *
          generalize totB sb = tb at *
          generalize totB (sa + sb) = tu at *
          have F4 := Lib.hid f4
          clear f4
          go_upto_region 8 with fail
          go_cut [75] from 46 to 75 (fun v wx => v = .bool false ∧ w' = wx)
          case first =>
            by_cases g1 : 1000000000 < ta
            · have d1 : decide ((1000000000 : Int) < (ta : Int)) = true := decide_eq_true (by omega)
              by_cases g2 : 1000000000 < tb
              · have d2 : decide ((1000000000 : Int) < (tb : Int)) = true := decide_eq_true (by omega)
                have d3 : ((tu : Int) != (ta : Int) + (tb : Int)) = false := by rw [bne_eq_false_iff_eq]; have := F4.out g1 g2; omega
                clear g1 g2
                go_wp2_with fail
                go_meet
                case rel => exact ⟨rfl, by trivial⟩
              · have d2 : decide ((1000000000 : Int) < (tb : Int)) = false := decide_eq_false (by omega)
                clear g1 g2
                go_wp2_with fail
                go_meet
                case rel => exact ⟨rfl, by trivial⟩
            · have d1 : decide ((1000000000 : Int) < (ta : Int)) = false := decide_eq_false (by omega)
              clear g1
              go_wp2_with fail
              go_meet
              case rel => exact ⟨rfl, by trivial⟩
          case rest =>
            obtain ⟨rfl, rfl⟩ := hcut
            clear f1 f2 f3 b1 b2
            go_wp2_with fail
            go_loopw [12] (fun i wr => ∃ k : Nat, i = .int .i64 (k : Int) ∧ k ≤ s.nV ∧ Below w3.heap.size w3 wr) (fun i _ => s.nV - (intOf i).toNat)
            case atStart => exact ⟨0, rfl, Nat.zero_le _, HCW.out⟩
            case round =>
              clear hcw HCW hcur3 hcur4 hcur5
              obtain ⟨k, rfl, hk, hbr⟩ := hrel
              have HBr := Lib.hid hbr
              have hsz := hbr.size
              have h721 := ((ROWS.out _ hbr).cell (i := 721) (by omega)).trans (congrArg some HS.out.f11)
              clear hbr
              by_cases h1 : k < s.nV
              · obtain ⟨ad, hAA, hb2, hc1, -⟩ := (HS.out.vok.below (HW3.out.trans (HBr.out.mono HW3.out.size))).at_ h1
                rw [hAA] at h721
                have HC1 := Lib.hid hc1
                have hbad : ad.block < wr.heap.size := by have := (HW3.out.trans (HBr.out.mono HW3.out.size)).size; omega
                have HSC := Lib.hid (HS.out.scV k h1)
                have X83 := Lib.hid (HSC.out.u64 83 (by kernel_rfl)).1
                have X84 := Lib.hid (HSC.out.u64 84 (by kernel_rfl)).1
                clear hc1 hAA
                obtain ⟨p, hp⟩ : ∃ p, p = nat (s.V (k * 86 + 83)) := ⟨_, rfl⟩
                obtain ⟨q, hq⟩ : ∃ q, q = nat (s.V (k * 86 + 84)) := ⟨_, rfl⟩
                rw [← hp] at X83
                rw [← hq] at X84
                have tok1 := Tok.mk 1
                obtain ⟨a1, ha1⟩ : ∃ a1, actB p e q = a1 := ⟨_, rfl⟩
                obtain ⟨a2, ha2⟩ : ∃ a2, actB p (e + 1) q = a2 := ⟨_, rfl⟩
                have HA1 : Hid (actB (nat (s.V (k * 86 + 83))) e (nat (s.V (k * 86 + 84))) = a1) := Lib.hid (by rw [← hp, ← hq]; exact ha1)
                have HA2 : Hid (actB (nat (s.V (k * 86 + 83))) (e + 1) (nat (s.V (k * 86 + 84))) = a2) := Lib.hid (by rw [← hp, ← hq]; exact ha2)
                have HC1a := Lib.hid ha1
                have HC2a := Lib.hid ha2
                clear hp hq ha1 ha2
                go_upto_region 16 with (first
                      | (refine wpList_load_rd rfl 60 _ rfl 86 _ Try.underlying60 rfl (by kernel_rfl) (ad.add (k * 86)) rfl (fun q => s.V (k * 86 + q)) HC1.out ?_)
                      | (refine wpList_new rfl rfl 60 60 13 (.tmp 87) rfl rfl rfl 86 (zeroOf Try.prog 60) (by kernel_rfl) (by kernel_rfl) (arr 86 (fun q => s.V (k * 86 + q))) rfl rfl (size_arr _ _) (by kernel_rfl) (HSC.out.one (by kernel_rfl)) (fun q => s.V (k * 86 + q)) (fun q hq => arr_at _ _ _ hq) ?_; intro w6 hr6 hb6; have HB6 := Lib.hid hb6; have ROWV : Hid (∀ wz, Below w6.heap.size w6 wz → wz.rowIs wr.heap.size 60 86 (fun q => s.V (k * 86 + q))) := Lib.hid (fun wz hz => row_below hr6 hz hr6.lt); have hcv0 : Below w6.heap.size w6 w6 := Below.refl _ _; clear hr6 hb6; simp only [Act.put, List.setIfInBounds_toArray, List.set_cons_succ, List.set_cons_zero])
                      | (refine wpList_load_rd rfl 60 _ rfl 86 _ Try.underlying60 rfl (by kernel_rfl) ⟨wr.heap.size, 0, none⟩ rfl (fun q => s.V (k * 86 + q)) (fun i hi => by rw [add_lit0]; exact (ROWV.out _ (by assumption)).cell hi) ?_)
                      | (go_at_call 15; have hx : Tok 1 := (by assumption); clear hx tok1; refine (active_look (fun q => s.V (k * 86 + q)) HSC.out e _).mono ?_; rintro r w7 ⟨hr, hb2⟩; rw [show actB (nat (s.V (k * 86 + 83))) e (nat (s.V (k * 86 + 84))) = _ from HA1.out] at hr; subst hr; have hcv1 : Below w6.heap.size w6 w7 := Below.trans (by assumption) (hb2.mono (Below.size (by assumption))); clear hb2; have tok2 := Tok.mk 2)
                      | (go_at_call 15; have hx : Tok 2 := (by assumption); clear hx tok2; refine (active_look (fun q => s.V (k * 86 + q)) HSC.out (e + 1) _).mono ?_; rintro r w8 ⟨hr, hb2⟩; rw [show actB (nat (s.V (k * 86 + 83))) (e + 1) (nat (s.V (k * 86 + 84))) = _ from HA2.out] at hr; subst hr; have hcv2 : Below w6.heap.size w6 w8 := Below.trans (by assumption) (hb2.mono (Below.size (by assumption))); clear hb2; have tok3 := Tok.mk 3; have d83 := ((ROWV.out _ hcv2).cell (i := 83) (by omega)).trans (congrArg some X83.out); have d84 := ((ROWV.out _ hcv2).cell (i := 84) (by omega)).trans (congrArg some X84.out)))
                go_cut [120] from 95 to 120 (fun v wx => v = .bool false ∧ w8 = wx)
                case first =>
                  cases a1 with
                  | true =>
                    cases a2 with
                    | true =>
                      go_wp2_with fail
                      go_meet
                      case rel => exact ⟨rfl, by trivial⟩
                    | false =>
                      have dq : ((q : Int) != (e : Int) + 1) = false := by rw [bne_eq_false_iff_eq]; have h1 := of_decide_eq_true HC1a.out; have h2 := of_decide_eq_false HC2a.out; omega
                      go_wp2_with fail
                      go_meet
                      case rel => exact ⟨rfl, by trivial⟩
                  | false =>
                    cases a2 with
                    | true =>
                      have dq : ((p : Int) != (e : Int) + 1) = false := by rw [bne_eq_false_iff_eq]; have h1 := of_decide_eq_false HC1a.out; have h2 := of_decide_eq_true HC2a.out; omega
                      go_wp2_with fail
                      go_meet
                      case rel => exact ⟨rfl, by trivial⟩
                    | false =>
                      go_wp2_with fail
                      go_meet
                      case rel => exact ⟨rfl, by trivial⟩
                case rest =>
                  obtain ⟨rfl, rfl⟩ := hcut
                  go_wp2_with fail
                  go_roundw
                  case rel => exact ⟨k + 1, by go_num, by omega, HBr.out.trans ((HB6.out.trans (hcv2.mono HB6.out.size)).mono hsz)⟩
                  case measure => simp [intOf]; omega
              · go_wp2_with fail
                go_ret
                exact ⟨rfl, HW3.out.trans (HBr.out.mono HW3.out.size)⟩
      · go_wp2_with fail
        go_ret
        exact ⟨rfl, HB1.out.trans (HB3.out.mono HB1.out.size)⟩
    · have de : decide ((2199023255552 : Int) ≤ (e : Int)) = true := decide_eq_true (by omega)
      clear he
      go_enter Try.func4, Try.ntmps4
      go_upto_if 32 with (first
        | (refine wpList_box rfl _ _ rfl 1957 s.F rfl ?_; intro w1 hr1 hb1; have HR1 := Lib.hid hr1; have HB1 := Lib.hid hb1; clear hr1 hb1)
        | (go_at_call 6; refine (awake_any _).mono ?_; rintro r w2 ⟨rfl, hb2⟩; have HB2 := Lib.hid hb2; clear hb2)
        | (refine wpList_load_rd rfl 49 _ rfl 1957 _ Try.underlying49 rfl (by kernel_rfl) ⟨w.heap.size, 0, none⟩ rfl s.F (fun i hi => by rw [add_lit0]; exact (row_below HR1.out HB2.out HR1.out.lt).cell hi) ?_)
        | (go_at_call 7; refine (right_any s _ ((HS.out.below (HB1.out.trans (HB2.out.mono HB1.out.size))).more (Nat.le_trans HB1.out.size HB2.out.size))).mono ?_; rintro r w3 ⟨b, rfl, hF, hb3⟩; have HF := Lib.hid hF; have HB3 := Lib.hid (HB2.out.trans (hb3.mono HB2.out.size)); clear hb3 hF))
      all_goals go_wp2_with fail
      all_goals go_ret
      all_goals exact ⟨rfl, HB1.out.trans (HB3.out.mono HB1.out.size)⟩
  · have dn : decide ((65536 : Int) < (n1 : Int) + (n2 : Int)) = true := decide_eq_true (by omega)
    clear hn6
    go_enter Try.func4, Try.ntmps4
    go_upto_if 32 with (first
      | (refine wpList_box rfl _ _ rfl 1957 s.F rfl ?_; intro w1 hr1 hb1; have HR1 := Lib.hid hr1; have HB1 := Lib.hid hb1; clear hr1 hb1)
      | (go_at_call 6; refine (awake_any _).mono ?_; rintro r w2 ⟨rfl, hb2⟩; have HB2 := Lib.hid hb2; clear hb2)
      | (refine wpList_load_rd rfl 49 _ rfl 1957 _ Try.underlying49 rfl (by kernel_rfl) ⟨w.heap.size, 0, none⟩ rfl s.F (fun i hi => by rw [add_lit0]; exact (row_below HR1.out HB2.out HR1.out.lt).cell hi) ?_)
      | (go_at_call 7; refine (right_any s _ ((HS.out.below (HB1.out.trans (HB2.out.mono HB1.out.size))).more (Nat.le_trans HB1.out.size HB2.out.size))).mono ?_; rintro r w3 ⟨b, rfl, hF, hb3⟩; have HF := Lib.hid hF; have HB3 := Lib.hid (HB2.out.trans (hb3.mono HB2.out.size)); clear hb3 hF))
    all_goals go_wp2_with fail
    all_goals go_ret
    all_goals exact ⟨rfl, HB1.out.trans (HB3.out.mono HB1.out.size)⟩
end Go.Proofs.Ytjphchcjneofhaa
