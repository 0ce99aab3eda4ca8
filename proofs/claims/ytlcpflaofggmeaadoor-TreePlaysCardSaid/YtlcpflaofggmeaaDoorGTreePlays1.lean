/- A part of what the proofs stand on: TreePlaysOut, TreePlaysLaw. -/
import Derived.Test.YtlcpflaofggmeaaDoorGTre23
import Derived.Deep.CutBlock
/- Where there is no tree of this limit. (Printed by a program of mine.) -/
namespace Go.Proofs.YtlcpflaofggmeaaDoor
set_option maxRecDepth 40000
open Go.RowKit
namespace TreePlays
theorem lim_out {L : Int} (h : L < 1 ∨ 1073741824 < L) : limB L = false := by
  unfold limB
  rcases h with h | h
  · rw [decide_eq_false (show ¬ 1 ≤ L by omega)]; rfl
  · rw [decide_eq_false (show ¬ L ≤ 1073741824 by omega), Bool.and_false]
end TreePlays
open TreeLaw TreeAwake TreePlays in
set_option maxHeartbeats 4000000 in
theorem plays_out (w : World) (L : Int) (h : L < 1 ∨ 1073741824 < L) (A1 : Option Addr) (m c1 : Nat) (hp : ShaPkg w) (hpt : TzPkg w) :
    Calls Tryd.prog 7 #[.int .i64 L, .slice A1 m c1] w fun e w' => e = .returned (.bool true) ∧ Below w.heap.size w w' := by
  have HP := Lib.hid hp
  have HPT := Lib.hid hpt
  have HLim := Lib.hid (lim_out h)
  have HLo := Lib.hid h
  clear hp hpt h
  go_enter Tryd.func7, Tryd.ntmps7
  go_wp2_with (first
    | (go_at_call 8; refine (awake06_any _ HP.out HPT.out).mono ?_; rintro r w1 ⟨rfl, hb⟩; have HB1 := Lib.hid hb; clear hb)
    | (go_at_call 9; refine (tnew_out L HLo.out _).mono ?_; rintro r w2 ⟨rfl, hw2⟩; rw [hw2]; clear hw2 w2)
    | (go_at_call 16; refine (rnew_look L _).mono ?_; rintro r w3 ⟨rfl, hb⟩; rw [HLim.out]; have HB3 := Lib.hid (HB1.out.trans (hb.mono HB1.out.size)); clear hb)
    | (refine wpList_allocL rfl 42 6 rfl rfl (HS.nil _) (arr 2 (rfI 0)) TreeRef6B.zero_rf 2 (rfI 0) (size_arr _ _) (fun i hi => arr_at _ _ i hi) ?_; intro b6 w4 hb6 hc6 hs; have HSa4 := Lib.hid hs; clear hs)
    | (refine wpList_storeH rfl 42 (.tmp 6) (.tmp 19) rfl HSa4.out 0 rfl (rfI L) rfl rfl (by kernel_rfl) (fun i _ => by unfold rfI; split <;> rfl) ?_; intro w5 hs; have HB5 := Lib.hid (HB3.out.trans ((hs.out (by simp; omega)).mono HB3.out.size)); clear hs)
    | (go_at_call 14; refine (tlen_nil _).mono ?_; rintro r w6 ⟨rfl, hw⟩; rw [hw]; clear hw w6)
    | (go_at_call 12; refine (troot_nil _).mono ?_; rintro r w7 ⟨rfl, hb⟩; have HB7 := Lib.hid (HB5.out.trans (hb.mono HB5.out.size)); clear hb)
    | (refine wpList_asG rfl rfl rfl 33 rfl (rootV fun _ => 0) ?_ ?_; (· exact TreeCopy.ex_build 30 _ rfl [] rfl _ built0))
    | (refine wpList_asG rfl rfl rfl 34 rfl (.bool true) ?_ ?_; (· exact ex_eqRB (y := fun _ => 0) (z := fun _ => 0) true rfl rfl rfl (by simp)))
    | (go_at_call 18; refine (tcopy_nil _).mono ?_; rintro r w8 ⟨rfl, hw⟩; rw [hw]; clear hw w8)
    | (refine wpList_asG rfl rfl rfl 43 rfl (rootV fun _ => 0) ?_ ?_; (· exact TreeCopy.ex_build 30 _ rfl [] rfl _ built0))
    | (go_at_call 11; refine (tset_nil 0 (fun _ => 0) _).mono ?_; rintro r w9 ⟨rfl, hb⟩; have HB9 := Lib.hid (HB7.out.trans (hb.mono HB7.out.size)); clear hb)
    | (refine wpList_asG rfl rfl rfl 49 rfl (rootV fun _ => 0) ?_ ?_; (· exact TreeCopy.ex_build 30 _ rfl [] rfl _ built0))
    | (go_at_call 10; refine (tapp_nil (fun _ => 0) _).mono ?_; rintro r w10 ⟨rfl, hb⟩; have HB10 := Lib.hid (HB9.out.trans (hb.mono HB9.out.size)); clear hb)
    | (go_at_call 21; refine (thash_nil _).mono ?_; rintro r w11 ⟨rfl, hw⟩; rw [hw]; clear hw w11))
  go_ret
  exact ⟨rfl, HB10.out⟩
end Go.Proofs.YtlcpflaofggmeaaDoor
/- Leaves that are set and appended in any order. (Printed by a program of mine.) -/
namespace Go.Proofs.YtlcpflaofggmeaaDoor
set_option maxRecDepth 40000
open Go.RowKit
namespace TreePlays
theorem ent_set (vs : Array Value) (w : World) : (callFunc 11 vs).run Tryd.prog w = .ok (.enter 11 vs) w := by kernel_rfl
theorem ent_rset (vs : Array Value) (w : World) : (callFunc 20 vs).run Tryd.prog w = .ok (.enter 20 vs) w := by kernel_rfl
theorem ent_app (vs : Array Value) (w : World) : (callFunc 10 vs).run Tryd.prog w = .ok (.enter 10 vs) w := by kernel_rfl
theorem ent_rapp (vs : Array Value) (w : World) : (callFunc 23 vs).run Tryd.prog w = .ok (.enter 23 vs) w := by kernel_rfl
theorem ent_rroot (vs : Array Value) (w : World) : (callFunc 19 vs).run Tryd.prog w = .ok (.enter 19 vs) w := by kernel_rfl
theorem lim_in {l : Nat} (h1 : 1 ≤ l) (h2 : l ≤ 1073741824) : limB (l : Int) = true := by
  unfold limB; simp; omega
theorem ltZ' (i : Int) (h : ¬ i < 0) (w : World) : (binOp .lss 3 (.int .i64 i) (.int .i64 0)).run Tryd.prog w = .ok (.bool false) w := by
  simp [go_sem]; omega
theorem geZ (i : Int) (n : Nat) (h : (n : Int) ≤ i) (w : World) : (binOp .geq 3 (.int .i64 i) (.int .i64 (n : Int))).run Tryd.prog w = .ok (.bool true) w := by
  simp [go_sem]; omega
end TreePlays
open TreeLaw TreeAwake TreeGet TreeRun TreePlays in
set_option maxHeartbeats 16000000 in
theorem plays_in (w : World) (l : Nat) (hl1 : 1 ≤ l) (hl2 : l ≤ 1073741824) (A1 : Option Addr) (m c1 : Nat) (kd ix : Nat → Int) (lf : Nat → Nat) (hA1 : Rd w w.heap.size A1 (m * 34) (opF kd ix lf)) (hkd : ∀ i, -9223372036854775808 ≤ kd i ∧ kd i ≤ 9223372036854775807) (hlf : ∀ i, lf i < 256) (hp : ShaPkg w) (hpr : RefPkg w) (hpt : TzPkg w) :
    Calls Tryd.prog 7 #[.int .i64 (l : Int), .slice A1 m c1] w fun e w' => e = .returned (.bool true) ∧ Below w.heap.size w w' := by
  have HP := Lib.hid hp
  have HPT := Lib.hid hpt
  have HPR := Lib.hid hpr
  have HPB := Lib.hid hp.lt
  have HTB := Lib.hid hpt.lt
  have HA1 := Lib.hid hA1
  have HKd := Lib.hid hkd
  have HLf0 := Lib.hid hlf
  have HLim := Lib.hid (lim_in hl1 hl2)
  clear hp hpt hpr hA1 hkd hlf
  go_enter Tryd.func7, Tryd.ntmps7
  go_wp2_with (first
    | (go_at_call 8; refine (awake06_any _ HP.out HPT.out).mono ?_; rintro r w1 ⟨rfl, hb⟩; have HB1 := Lib.hid hb; clear hb)
    | (go_at_call 9; refine (tnew_look l (by omega) (by omega) _ (HP.out.below HB1.out)).mono ?_; rintro r w2 ⟨T, v, rfl, hm, hst, hl, hH, hD, hd, hb⟩; have HM2 := Lib.hid (TM.mono hm HB1.out.size); have HT2 := Lib.hid hst; have HL2 := Lib.hid hl; have HH2 := Lib.hid hH; have HD2 := Lib.hid hD; have HB2 := Lib.hid (HB1.out.trans (hb.mono HB1.out.size)); clear hm hst hl hH hD hd hb)
    | (go_at_call 16; refine (rnew_look (l : Int) _).mono ?_; rintro r w3 ⟨rfl, hb⟩; rw [HLim.out, rfI_nat]; have HB3 := Lib.hid hb; clear hb)
    | (refine wpList_allocL rfl 42 6 rfl rfl (HS.nil _) (arr 2 (rfI 0)) TreeRef6B.zero_rf 2 (rfI 0) (size_arr _ _) (fun i hi => arr_at _ _ i hi) ?_; intro b6 w4 hb6 hc6 hs; have HSa4 := Lib.hid hs; clear hs)
    | (refine wpList_storeH rfl 42 (.tmp 6) (.tmp 19) rfl HSa4.out 0 rfl (rfF l none 0 0) rfl rfl (by kernel_rfl) (fun i _ => by unfold rfF; split <;> rfl) ?_; intro w5 hs; have HR5 := Lib.hid (hs.row 0 rfl); have HB5 := Lib.hid (HB3.out.trans ((hs.out (by simp; omega)).mono HB3.out.size)); clear hs))
  have HpB : Hid (w.heap.size ≤ b6) := Lib.hid (by have := HB3.out.size; have := HB2.out.size; omega)
  have hTR : TR w5 w.heap.size b6 T v l 0 none 0 (fun _ => 0) :=
    { tm := HM2.out.below HB5.out, st := HT2.out, rm := ⟨HR5.out, (by rw [Nat.zero_mul]; exact Rd.none_), Nat.le_refl _, fun b hb => by obtain ⟨ad, e, _⟩ := hb; cases e⟩, lim := HL2.out, D := HD2.out, x8 := fun _ => by omega, np := fun ho => by have := HM2.out.lt ho; have := HB3.out.size; omega, nz := fun hz => by have := HM2.out.zlt hz; have := HB3.out.size; omega, nA := fun h => by omega }
  have HT0 := Lib.hid hTR
  have HBw5 := Lib.hid (HB2.out.trans (HB5.out.mono HB2.out.size))
  clear hTR HM2 HT2 HR5 HSa4 HB3 HB5
  go_loopw [5, 8] (fun t i wr => ∃ (k T : Nat) (v : TV) (n : Nat) (A : Option Addr) (c : Nat) (x : Nat → Nat), t = tpV T ∧ i = .int .i64 (k : Int) ∧ k ≤ m ∧ k ≤ 100 ∧ TR wr w.heap.size b6 T v l n A c x ∧ Below w.heap.size w wr ∧ v.H ≤ k * 4294967296) (fun _ i _ => 100 - (intOf i).toNat)
  case atStart => exact ⟨0, T, v, 0, none, 0, fun _ => 0, rfl, rfl, Nat.zero_le _, Nat.zero_le _, HT0.out, HBw5.out, by rw [HH2.out]; exact Nat.zero_le _⟩
  case round =>
    obtain ⟨k, T, v, n, A, c, x, rfl, rfl, hkm, hk100, ht, hb, hH⟩ := hrel
    have hnl : n ≤ l := by have h1 := ht.st.nle; rw [ht.lim] at h1; exact h1
    have HNl := Lib.hid hnl
    have HTr := Lib.hid ht
    have HBr := Lib.hid hb
    have HH := Lib.hid hH
    have HHe : Hid (v.H ≤ (k + 1) * 4294967296) := Lib.hid (Nat.le_trans hH (Nat.mul_le_mul_right _ (Nat.le_succ k)))
    clear ht hb hH HT0
    obtain ⟨wo, rfl⟩ : ∃ wo : World, wo = wr := ⟨_, rfl⟩
    by_cases hlt : k < m
    · by_cases hlt2 : k < 100
      · obtain ⟨ad, rfl, hAb, hAc⟩ := HA1.out (by omega)
        have HAo : Hid (∀ q, q < 34 → wo.cell? ((ad.add (k * 34)).add q) = some (opF kd ix lf (k * 34 + q))) := Lib.hid (fun q hq => by
          rw [add_add, HBr.out.cell (by rw [block_of_add]; exact hAb), hAc _ (by omega)])
        clear hAb hAc
        obtain ⟨q6, hq6, hq62, hq63, hq64⟩ := cutK (kd k) 6 (by omega)
        have HQ := Lib.hid hq62
        have hkd6 : -6 < (kd k).tmod 6 ∧ (kd k).tmod 6 < 6 := ⟨hq63, hq64⟩
        clear hq62 hq63 hq64
        have HLf : Hid (∀ q, opL lf k q < 256) := Lib.hid (fun q => HLf0.out _)
        go_upto_region 13 with (first
          | (refine wpList_as rfl 72 rfl (.pointer (some (ad.add (k * 34)))) ?_ ?_; (· exact ex_idx rfl rfl rfl (fun w => run_idxZ (z := 34) w Tryd.underlying40 (by kernel_rfl) ad hlt) _))
          | (refine wpList_load_rd rfl 50 (.tmp 72) rfl 34 _ Tryd.underlying50 rfl (by kernel_rfl) (ad.add (k * 34)) rfl (fun j => opF kd ix lf (k * 34 + j)) HAo.out ?_)
          | (refine wpList_allocL rfl 50 9 rfl rfl (HS.nil _) (arr 34 opZf) op_zero 34 opZf (size_arr _ _) (fun i hi => arr_at _ _ i hi) ?_; intro b9 w8 hb9 hc9 hs; have HSa8 := Lib.hid hs; clear hs)
          | (refine wpList_storeH rfl 50 (.tmp 9) (.tmp 73) rfl HSa8.out 0 rfl (fun j => opF kd ix lf (k * 34 + j)) rfl rfl op_size (fun i _ => op_one kd ix lf _) ?_; intro w9 hs; have HO := Lib.hid (hs.row 0 rfl); have HBs := Lib.hid (hs.out (by simp; omega)); clear hs))
        have HT := Lib.hid (HTr.out.below HBs.out)
        have HBo := Lib.hid (HBr.out.trans (HBs.out.mono HBr.out.size))
        have HNo : Hid (¬ v.own T b9) := Lib.hid (fun ho => by have := HTr.out.tm.lt ho; omega)
        have HPo : Hid (b9 ≠ b6) := Lib.hid (fun e => by have := HTr.out.rm.row.lt; omega)
        clear HAo HSa8 HBs HTr HBr
        go_upto_block 2 with (first
          | (refine wpList_as rfl 75 rfl (.int .i64 (kd k)) ?_ ?_; (· exact ex_ld1 .i64 rfl rfl Tryd.underlying3 (op_kd HO.out)))
          | (refine wpList_as rfl 76 rfl (.int .i64 ((kd k).tmod 6)) ?_ ?_; (· exact ex_bin rfl rfl rfl rfl (fun w => modI (kd k) 6 (by omega) w) _))
          | (refine wpList_as rfl 77 rfl (.int .i64 ((kd k).tmod 6 + 6)) ?_ ?_; (· exact ex_bin rfl rfl rfl rfl (fun w => addZ _ 6 _ rfl (by omega) w) _))
          | (refine wpList_as rfl 78 rfl (.int .i64 (q6 : Int)) ?_ ?_; (· exact ex_bin rfl rfl rfl rfl (fun w => by rw [← HQ.out]; exact modI _ 6 (by omega) w) _)))
        clear HQ hkd6
        simp only [Act.put, List.setIfInBounds_toArray, List.set_cons_succ, List.set_cons_zero]
        go_cut [5, 10, 11] from 79 to 152 (fun t5 _t10 _t11 wx => ∃ T' v' n' A' c' x', t5 = tpV T' ∧ TR wx w.heap.size b6 T' v' l n' A' c' x' ∧ Below w.heap.size w wx ∧ v'.H ≤ (k + 1) * 4294967296)
        case first =>
          rcases (show q6 = 0 ∨ q6 = 1 ∨ q6 = 2 ∨ q6 = 3 ∨ q6 = 4 ∨ q6 = 5 by omega) with rfl | rfl | rfl | rfl | rfl | rfl
          · go_upto_region 14 with fail
            refine wp_region_stage (l := [_, _, _, _, _, _, _, _]) (N := 2) (PJ w9 w.heap.size b6 T v l n A (appM n l) (appX n l x (opL lf k))) [SF.is (tpV T), SF.is (.pointer (some ⟨b9, 2, none⟩)), SF.is (rootV (opL lf k)), SF.is (.int .i64 (((appK n l) : Nat) : Int)), SF.is (.pointer (some ⟨b9, 2, none⟩)), SF.is (rootV (opL lf k)), SF.is (.int .i64 (((appK n l) : Nat) : Int)), SF.is (.bool false)] [none, none, none, some 0, none, none, some 1, none] (by kernel_rfl) (by kernel_rfl) (by kernel_rfl) rfl rfl (fun k w1 w2 hj hb => hj.below hb) (pure_is (Fs := [tpV T, .pointer (some ⟨b9, 2, none⟩), rootV (opL lf k), .int .i64 (((appK n l) : Nat) : Int), .pointer (some ⟨b9, 2, none⟩), rootV (opL lf k), .int .i64 (((appK n l) : Nat) : Int), .bool false])) ((Below.refl _ _ : PJ _ _ _ _ _ _ _ _ _ _ 0 _)) ⟨?_, ?_, ?_, ?_, ?_, ?_, ?_, ?_, trivial⟩ ?_
            · exact fun kj wj hj => (opOb_move _ rfl (.inl rfl) rfl)
            · exact fun kj wj hj => opOb_fld rfl rfl (OpK.tmp rfl) (fun w => by simp [go_sem])
            · exact fun kj wj hj => opOb_ld rfl rfl (OpK.tmp rfl) (fun w' hb => run_loadAt_rd w' _ 32 30 _ _ (op_leaf (row_below (hj.row HO.out HNo.out HPo.out) hb (hj.row HO.out HNo.out HPo.out).lt)) Tryd.underlying30 rfl (by kernel_rfl))
            · exact opJ_fn2 ent_app rfl rfl (OpK.tmp rfl) (OpK.tmp rfl) (fun wj hj => (PJ.app HT.out HLf.out hj).mono fun e w2 ⟨r, he, hr, hj2⟩ => ⟨r, he, hr, hj2⟩)
            · exact fun kj wj hj => opOb_fld rfl rfl (OpK.tmp rfl) (fun w => by simp [go_sem])
            · exact fun kj wj hj => opOb_ld rfl rfl (OpK.tmp rfl) (fun w' hb => run_loadAt_rd w' _ 32 30 _ _ (op_leaf (row_below (hj.row HO.out HNo.out HPo.out) hb (hj.row HO.out HNo.out HPo.out).lt)) Tryd.underlying30 rfl (by kernel_rfl))
            · exact opJ_fn2 ent_rapp rfl rfl (OpK.tmp rfl) (OpK.tmp rfl) (fun wj hj => (PJ.rapp HT.out hl2 HLf.out hj).mono fun e w2 ⟨r, he, hr, hj2⟩ => ⟨r, he, hr, hj2⟩)
            · exact fun kj wj hj => opOb_neSame .i64 _ rfl rfl (OpK.tmp rfl) (OpK.tmp rfl)
            · intro wn hj
              simp only [fin, SF.is, forall_eq]
              simp only [Act.put, List.setIfInBounds_toArray, List.set_cons_succ, List.set_cons_zero]
              obtain ⟨v', A', c', hr, hH, _⟩ := hj.done
              have HR := Lib.hid hr
              have HH' := Lib.hid hH
              have HBe := Lib.hid (HBo.out.trans (hr.base HT.out.tm HpB.out))
              clear hj hr hH
              go_wp2_with fail
              go_meet
              case rel => exact ⟨T, v', appM n l, A', c', appX n l x (opL lf k), rfl, HR.out.tr, HBe.out, by have := HH'.out; have := HH.out; omega⟩
          · go_upto_region 17 with fail
            refine wp_region_stage (l := [_, _, _, _, _, _, _, _, _, _, _, _]) (N := 2) (PJ w9 w.heap.size b6 T v l n A (n) (setX n x (ix k) (opL lf k))) [SF.is (tpV T), SF.is (.pointer (some ⟨b9, 1, none⟩)), SF.is (.int .i64 (ix k)), SF.is (.pointer (some ⟨b9, 2, none⟩)), SF.is (rootV (opL lf k)), SF.is (.int .i64 (((setK n (ix k)) : Nat) : Int)), SF.is (.pointer (some ⟨b9, 1, none⟩)), SF.is (.int .i64 (ix k)), SF.is (.pointer (some ⟨b9, 2, none⟩)), SF.is (rootV (opL lf k)), SF.is (.int .i64 (((setK n (ix k)) : Nat) : Int)), SF.is (.bool false)] [none, none, none, none, none, some 0, none, none, none, none, some 1, none] (by kernel_rfl) (by kernel_rfl) (by kernel_rfl) rfl rfl (fun k w1 w2 hj hb => hj.below hb) (pure_is (Fs := [tpV T, .pointer (some ⟨b9, 1, none⟩), .int .i64 (ix k), .pointer (some ⟨b9, 2, none⟩), rootV (opL lf k), .int .i64 (((setK n (ix k)) : Nat) : Int), .pointer (some ⟨b9, 1, none⟩), .int .i64 (ix k), .pointer (some ⟨b9, 2, none⟩), rootV (opL lf k), .int .i64 (((setK n (ix k)) : Nat) : Int), .bool false])) ((Below.refl _ _ : PJ _ _ _ _ _ _ _ _ _ _ 0 _)) ⟨?_, ?_, ?_, ?_, ?_, ?_, ?_, ?_, ?_, ?_, ?_, ?_, trivial⟩ ?_
            · exact fun kj wj hj => (opOb_move _ rfl (.inl rfl) rfl)
            · exact fun kj wj hj => opOb_fld rfl rfl (OpK.tmp rfl) (fun w => by simp [go_sem])
            · exact fun kj wj hj => opOb_ld rfl rfl (OpK.tmp rfl) (fun w' hb => run_ld1 w' _ _ .i64 _ (op_ix (row_below (hj.row HO.out HNo.out HPo.out) hb (hj.row HO.out HNo.out HPo.out).lt)) Tryd.underlying3)
            · exact fun kj wj hj => opOb_fld rfl rfl (OpK.tmp rfl) (fun w => by simp [go_sem])
            · exact fun kj wj hj => opOb_ld rfl rfl (OpK.tmp rfl) (fun w' hb => run_loadAt_rd w' _ 32 30 _ _ (op_leaf (row_below (hj.row HO.out HNo.out HPo.out) hb (hj.row HO.out HNo.out HPo.out).lt)) Tryd.underlying30 rfl (by kernel_rfl))
            · exact opJ_fn3 ent_set rfl rfl (OpK.tmp rfl) (OpK.tmp rfl) (OpK.tmp rfl) (fun wj hj => (PJ.set (ix k) HT.out HLf.out hj).mono fun e w2 ⟨r, he, hr, hj2⟩ => ⟨r, he, hr, hj2⟩)
            · exact fun kj wj hj => opOb_fld rfl rfl (OpK.tmp rfl) (fun w => by simp [go_sem])
            · exact fun kj wj hj => opOb_ld rfl rfl (OpK.tmp rfl) (fun w' hb => run_ld1 w' _ _ .i64 _ (op_ix (row_below (hj.row HO.out HNo.out HPo.out) hb (hj.row HO.out HNo.out HPo.out).lt)) Tryd.underlying3)
            · exact fun kj wj hj => opOb_fld rfl rfl (OpK.tmp rfl) (fun w => by simp [go_sem])
            · exact fun kj wj hj => opOb_ld rfl rfl (OpK.tmp rfl) (fun w' hb => run_loadAt_rd w' _ 32 30 _ _ (op_leaf (row_below (hj.row HO.out HNo.out HPo.out) hb (hj.row HO.out HNo.out HPo.out).lt)) Tryd.underlying30 rfl (by kernel_rfl))
            · exact opJ_fn3 ent_rset rfl rfl (OpK.tmp rfl) (OpK.tmp rfl) (OpK.tmp rfl) (fun wj hj => (PJ.rset (ix k) HT.out (by have := HNl.out; omega) HLf.out hj).mono fun e w2 ⟨r, he, hr, hj2⟩ => ⟨r, he, hr, hj2⟩)
            · exact fun kj wj hj => opOb_neSame .i64 _ rfl rfl (OpK.tmp rfl) (OpK.tmp rfl)
            · intro wn hj
              simp only [fin, SF.is, forall_eq]
              simp only [Act.put, List.setIfInBounds_toArray, List.set_cons_succ, List.set_cons_zero]
              obtain ⟨v', A', c', hr, hH, _⟩ := hj.done
              have HR := Lib.hid hr
              have HH' := Lib.hid hH
              have HBe := Lib.hid (HBo.out.trans (hr.base HT.out.tm HpB.out))
              clear hj hr hH
              go_wp2_with fail
              go_meet
              case rel => exact ⟨T, v', n, A', c', setX n x (ix k) (opL lf k), rfl, HR.out.tr, HBe.out, by have := HH'.out; have := HH.out; omega⟩
          · go_upto_region 20 with fail
            obtain ⟨Z, hZ⟩ : ∃ Z, treeN (dep l) n x = Z := ⟨_, rfl⟩
            have HZ := Lib.hid hZ
            have HZV : Hid (rootV (treeN v.D n x) = rootV Z) := Lib.hid (by rw [HT.out.D, hZ])
            have HPs := Lib.hid (HP.out.below HBo.out)
            have HPTs := Lib.hid (HPT.out.below HBo.out HTB.out)
            have hrd : ∀ {k} w', RJ w.heap.size T n x w9 v k w' → Rd w' w'.heap.size A (n * 32) (u8v x) := fun w' hj => by
              obtain ⟨v', h1, h2, h3, _, _⟩ := hj
              exact (HT.out.tstep h1 h2 h3).rm.rd
            have hpr' : ∀ {k} w', RJ w.heap.size T n x w9 v k w' → RefPkg w' := fun w' hj => HPR.out.below (HBo.out.trans (hj.base HT.out.tm))
            clear hZ
            refine wp_region_stage (l := [_, _, _, _, _]) (N := 1) (RJ w.heap.size T n x w9 v) [SF.is (tpV T), SF.is (rootV Z), SF.is (.agg (arr 2 (rfF l A n c))), SF.is (rootV Z), SF.is (.bool false)] [none, some 0, none, none, none] (by kernel_rfl) (by kernel_rfl) (by kernel_rfl) rfl rfl (fun k w1 w2 hj hb => hj.below hb) (pure_is (Fs := [tpV T, rootV Z, .agg (arr 2 (rfF l A n c)), rootV Z, .bool false])) (RJ.start HT.out.tm HT.out.st) ⟨?_, ?_, ?_, ?_, ?_, trivial⟩ ?_
            · exact fun kj wj hj => (opOb_move _ rfl (.inl rfl) rfl)
            · exact opJ_fn1 TreeLaw.ent_root rfl rfl (OpK.tmp rfl) (fun wj hj => (hj.root HT.out.tm (by have := HH.out; omega) HPs.out HPB.out HPTs.out HTB.out).mono fun e w2 ⟨r, he, hr, hj2⟩ => ⟨r, he, (by rw [hr, HZV.out]; rfl), hj2⟩)
            · exact fun kj wj hj => opOb_ld rfl rfl (OpK.tmp rfl) (fun w' hb => ld_all (hj.row HT.out.rm.row HT.out.np) (hj.row HT.out.rm.row HT.out.np).lt Tryd.underlying42 rfl (by kernel_rfl) w' hb)
            · exact fun kj wj hj => opOb_fn1 ent_rroot rfl rfl (OpK.tmp rfl) (fun w' hb => (rroot_look l n c A x w' (hrd w' (hj.below hb)) HT.out.x8 HT.out.rm.cap hl2 HNl.out (hpr' w' (hj.below hb))).mono fun e w2 ⟨he, hb2⟩ => ⟨_, he, (by rw [HZ.out]; rfl), hb2⟩)
            · exact fun kj wj hj => TreeSt.opOb_neR true rfl rfl (OpK.tmp rfl) (OpK.tmp rfl) (by simp)
            · intro wn hj
              simp only [fin, SF.is, forall_eq]
              simp only [Act.put, List.setIfInBounds_toArray, List.set_cons_succ, List.set_cons_zero]
              obtain ⟨v3, hm, hs, hst, _, hH3⟩ := hj.done
              have HM3 := Lib.hid hm
              have HS3 := Lib.hid hs
              have HT3 := Lib.hid hst
              have HH3 : Hid (v3.H ≤ (k + 1) * 4294967296) := Lib.hid (by
                have h1 := cost_le n (dirB v.dn v.dw) v.D
                have h2 := HT.out.st.D30
                have h3 := HH.out
                omega)
              have HBe := Lib.hid (HBo.out.trans (hs.below HT.out.tm (Nat.le_refl _) HT.out.tm.base_le))
              clear hj hm hs hst hH3
              go_wp2_with fail
              go_meet
              case rel => exact ⟨T, v3, n, A, c, x, rfl, HT.out.tstep HM3.out HS3.out HT3.out, HBe.out, HH3.out⟩
          · by_cases hin : 0 ≤ ix k ∧ ix k < (n : Int)
            · obtain ⟨j, hj⟩ : ∃ j : Nat, ix k = (j : Int) := ⟨(ix k).toNat, by omega⟩
              have hjn : j < n := by omega
              have HJ := Lib.hid hj
              have HEq : Hid (∀ q, q < 32 → v.g 0 (j * 32 + q) = leafN x j q) := Lib.hid (fun q hq => HT.out.st.x0 _ (by omega))
              obtain ⟨aj, haj, _, _⟩ := HT.out.rm.rd (by omega)
              subst haj
              clear hj hin
              go_upto_region 24 with (first
                | (refine wpList_as rfl 113 rfl (.int .i64 (j : Int)) ?_ ?_; (· exact ex_ld1 .i64 rfl rfl Tryd.underlying3 (by rw [op_ix HO.out, HJ.out])))
                | (go_at_call 15; refine (tget_in v w.heap.size T j n _ HT.out.tm HT.out.st.n0 hjn).mono ?_; rintro r w11 ⟨rfl, hb⟩; have HBg := Lib.hid hb; clear hb)
                | (refine wpList_allocL rfl 30 10 rfl rfl (HS.nil _) (Array.replicate 32 (.int .u8 0)) (by kernel_rfl) 32 (u8v fun _ => 0) (by rfl) (zero_at 32 (.int .u8 0)) ?_; intro b10 wa12 hb10 hc10 hs; have HSa12 := Lib.hid hs; clear hs)
                | (refine wpList_storeH rfl 30 (.tmp 10) (.tmp 115) rfl HSa12.out 0 rfl (u8v fun q => v.g 0 (j * 32 + q)) rfl rfl (by kernel_rfl) (fun _ _ => rfl) ?_; intro w13 hs; have HR13 := Lib.hid (hs.row 0 rfl); have HB13 := Lib.hid (HBg.out.trans ((hs.out (by simp; omega)).mono HBg.out.size)); clear hs))
              have HT13 := Lib.hid (HT.out.below HB13.out)
              have HO13 := Lib.hid (row_below HO.out HB13.out HO.out.lt)
              have HBw13 := Lib.hid (HBo.out.trans (HB13.out.mono HBo.out.size))
              clear HSa12 HBg HB13
              go_upto_region 27 with (first
                | (refine wpList_as rfl 118 rfl (.int .i64 (j : Int)) ?_ ?_; (· exact ex_ld1 .i64 rfl rfl Tryd.underlying3 (by rw [op_ix HO13.out, HJ.out])))
                | (refine wpList_as rfl 119 rfl (.bool false) ?_ ?_; (· exact ex_bin rfl rfl rfl rfl (fun w => ltI0 j w) _))
                | (refine wpList_asG rfl rfl rfl 122 rfl (.int .i64 (j : Int)) ?_ ?_; (· exact ex_ld1 .i64 rfl rfl Tryd.underlying3 (by rw [op_ix HO13.out, HJ.out])))
                | (refine wpList_asG rfl rfl rfl 124 rfl (.slice (some aj) n c) ?_ ?_; (· exact ex_ldSl rfl rfl Tryd.underlying22 (HT13.out.rm.row.cell (i := 1) (by omega)) rfl))
                | (refine wpList_asG rfl rfl rfl 126 rfl (.bool false) ?_ ?_; (· exact ex_bin rfl rfl rfl rfl (fun w => TreeMark.geI' j n hjn w) _)))
              refine wp_region_facts (B := w13.heap.size) (w0 := w13) [SF.is (.int .i64 0), SF.is (.bool false), SF.is (.bool false), SF.is (rootV fun q => v.g 0 (j * 32 + q)), SF.is (.pointer (some ⟨b6, 1, none⟩)), SF.is (.slice (some aj) (n) (c)), SF.is (.pointer (some ⟨b9, 1, none⟩)), SF.is (.int .i64 ((j : Nat) : Int)), SF.is (.pointer (some (aj.add (j * 32)))), SF.is (rootV (leafN x j)), SF.is (.bool false), SF.is (.bool false)] (by kernel_rfl) (by kernel_rfl) rfl (Nat.le_refl _) (Below.refl _ _) ⟨?_, ?_, ?_, ?_, ?_, ?_, ?_, ?_, ?_, ?_, ?_, ?_, trivial⟩ ?_
              · exact (opOb_move _ rfl (.inl rfl) rfl)
              · exact opOb_neSame .i64 0 rfl rfl (OpK.tmp rfl) OpK.const
              · exact (opOb_move _ rfl (.inl rfl) rfl)
              · exact opOb_on 137 rfl rfl (opOb_ld rfl rfl (OpK.tmp rfl) (fun w' hb => ld_all HR13.out HR13.out.lt Tryd.underlying30 rfl (by kernel_rfl) w' hb))
              · exact opOb_on 137 rfl rfl (opOb_fld rfl rfl (OpK.tmp rfl) (fun w => by simp [go_sem]))
              · exact opOb_on 137 rfl rfl (opOb_ld rfl rfl (OpK.tmp rfl) (fun w' hb => PickDraw.run_ldSl w' _ _ _ _ ((HT13.out.below hb).rm.row.cell (show 1 < 2 by omega)) Tryd.underlying22))
              · exact opOb_on 137 rfl rfl (opOb_fld rfl rfl (OpK.tmp rfl) (fun w => by simp [go_sem]))
              · exact opOb_on 137 rfl rfl (opOb_ld rfl rfl (OpK.tmp rfl) (fun w' hb => run_ld1 w' _ _ .i64 _ (by rw [op_ix (row_below HO13.out hb HO13.out.lt), HJ.out]) Tryd.underlying3))
              · exact opOb_on 137 rfl rfl (opOb_idx rfl rfl (OpK.tmp rfl) (OpK.tmp rfl) (fun w => run_idxZ (z := 32) w Tryd.underlying22 (by kernel_rfl) aj hjn))
              · exact opOb_on 137 rfl rfl (opOb_ld rfl rfl (OpK.tmp rfl) (fun w' hb => run_loadAt_rd w' _ 32 30 _ _ (fun q hq => by rw [add_add]; exact (HT13.out.below hb).rm.rd.cells (i := j * 32 + q) (by omega)) Tryd.underlying30 rfl (by kernel_rfl)))
              · exact opOb_on 137 rfl rfl (TreeSt.opOb_neR true rfl rfl (OpK.tmp rfl) (OpK.tmp rfl) (by simp only [true_iff]; exact HEq.out))
              · exact opOb_pickF rfl rfl rfl (OpK.tmp rfl)
              · intro w' hb
                simp only [fin, SF.is, forall_eq]
                simp only [Act.put, List.setIfInBounds_toArray, List.set_cons_succ, List.set_cons_zero]
                have HTe := Lib.hid (HT13.out.below hb)
                have HBe := Lib.hid (HBw13.out.trans (hb.mono HBw13.out.size))
                clear hb
                go_wp2_with fail
                go_meet
                case rel => exact ⟨T, v, n, some aj, c, x, rfl, HTe.out, HBe.out, HHe.out⟩
            · have hout : ix k < 0 ∨ (n : Int) ≤ ix k := by
                by_cases h : ix k < 0
                · exact .inl h
                · exact .inr (Int.not_lt.1 (fun h2 => hin ⟨Int.not_lt.1 h, h2⟩))
              have HIn := Lib.hid hout
              clear hin hout
              go_upto_region 24 with (first
                | (refine wpList_as rfl 113 rfl (.int .i64 (ix k)) ?_ ?_; (· exact ex_ld1 .i64 rfl rfl Tryd.underlying3 (op_ix HO.out)))
                | (go_at_call 15; refine (tget_out v w.heap.size T n (ix k) _ HT.out.tm HT.out.st.n0 HIn.out).mono ?_; rintro r w11 ⟨rfl, hb⟩; have HBg := Lib.hid hb; clear hb)
                | (refine wpList_allocL rfl 30 10 rfl rfl (HS.nil _) (Array.replicate 32 (.int .u8 0)) (by kernel_rfl) 32 (u8v fun _ => 0) (by rfl) (zero_at 32 (.int .u8 0)) ?_; intro b10 wa12 hb10 hc10 hs; have HSa12 := Lib.hid hs; clear hs)
                | (refine wpList_storeH rfl 30 (.tmp 10) (.tmp 115) rfl HSa12.out 0 rfl (u8v fun _ => 0) rfl rfl (by kernel_rfl) (fun _ _ => rfl) ?_; intro w13 hs; have HR13 := Lib.hid (hs.row 0 rfl); have HB13 := Lib.hid (HBg.out.trans ((hs.out (by simp; omega)).mono HBg.out.size)); clear hs))
              have HT13 := Lib.hid (HT.out.below HB13.out)
              have HO13 := Lib.hid (row_below HO.out HB13.out HO.out.lt)
              have HBw13 := Lib.hid (HBo.out.trans (HB13.out.mono HBo.out.size))
              clear HSa12 HBg HB13
              go_cut [127] from 117 to 127 (fun vb wx => vb = .bool true ∧ w13 = wx)
              case first =>
                by_cases h0 : ix k < 0
                · have HI0 := Lib.hid h0
                  clear h0
                  go_wp2_with (first
                    | (refine wpList_as rfl 118 rfl (.int .i64 (ix k)) ?_ ?_; (· exact ex_ld1 .i64 rfl rfl Tryd.underlying3 (op_ix HO13.out)))
                    | (refine wpList_as rfl 119 rfl (.bool true) ?_ ?_; (· exact ex_bin rfl rfl rfl rfl (fun w => ltI0' (ix k) HI0.out w) _)))
                  go_meet
                  case rel => exact ⟨rfl, rfl⟩
                · have HI0 := Lib.hid h0
                  clear h0
                  go_wp2_with (first
                    | (refine wpList_as rfl 118 rfl (.int .i64 (ix k)) ?_ ?_; (· exact ex_ld1 .i64 rfl rfl Tryd.underlying3 (op_ix HO13.out)))
                    | (refine wpList_as rfl 119 rfl (.bool false) ?_ ?_; (· exact ex_bin rfl rfl rfl rfl (fun w => ltZ' (ix k) HI0.out w) _))
                    | (refine wpList_asG rfl rfl rfl 122 rfl (.int .i64 (ix k)) ?_ ?_; (· exact ex_ld1 .i64 rfl rfl Tryd.underlying3 (op_ix HO13.out)))
                    | (refine wpList_asG rfl rfl rfl 124 rfl (.slice A n c) ?_ ?_; (· exact ex_ldSl rfl rfl Tryd.underlying22 (HT13.out.rm.row.cell (i := 1) (by omega)) rfl))
                    | (refine wpList_asG rfl rfl rfl 126 rfl (.bool true) ?_ ?_; (· exact ex_bin rfl rfl rfl rfl (fun w => geZ (ix k) n (HIn.out.resolve_left HI0.out) w) _)))
                  go_meet
                  case rel => exact ⟨rfl, rfl⟩
              case rest =>
                obtain ⟨rfl, rfl⟩ := hcut
                go_wp2_with (first
                  | (refine wpList_load_rdG rfl rfl rfl 30 _ rfl 32 _ Tryd.underlying30 rfl (by kernel_rfl) ⟨b10, 0, none⟩ rfl (u8v fun _ => 0) (fun i hi => by rw [add_lit0]; exact HR13.out.cell hi) ?_)
                  | (refine wpList_asG rfl rfl rfl 132 rfl (rootV fun _ => 0) ?_ ?_; (· exact TreeCopy.ex_build 30 _ rfl [] rfl _ built0))
                  | (refine wpList_asG rfl rfl rfl 133 rfl (.bool false) ?_ ?_; (· exact TreeSt.ex_neR (y := fun _ => 0) (z := fun _ => 0) true rfl rfl rfl (by simp))))
                go_meet
                case rel => exact ⟨T, v, n, A, c, x, rfl, HT13.out, HBw13.out, HHe.out⟩
          · go_wp2_with (go_at_call 18; refine (tcopy_look v w.heap.size T n x _ HT.out.tm HT.out.st).mono ?_; rintro r w10 ⟨T2, v2, rfl, h1, h2, h3, h4, h5, h6, _, h8, h9⟩; have HT2 := Lib.hid (HT.out.copy h1 h2 h3 h4 h5 h8 h9); have HB2e := Lib.hid (HBo.out.trans (h9.mono HBo.out.size)); have HH2e := Lib.hid h6; clear h1 h2 h3 h4 h5 h6 h8 h9)
            go_meet
            case rel => exact ⟨T2, v2, n, A, c, x, rfl, HT2.out, HB2e.out, by rw [HH2e.out]; exact Nat.zero_le _⟩
          · go_upto_region 14 with fail
            refine wp_region_stage (l := [_, _, _, _, _, _, _, _]) (N := 2) (PJ w9 w.heap.size b6 T v l n A (appM n l) (appX n l x (opL lf k))) [SF.is (tpV T), SF.is (.pointer (some ⟨b9, 2, none⟩)), SF.is (rootV (opL lf k)), SF.is (.int .i64 (((appK n l) : Nat) : Int)), SF.is (.pointer (some ⟨b9, 2, none⟩)), SF.is (rootV (opL lf k)), SF.is (.int .i64 (((appK n l) : Nat) : Int)), SF.is (.bool false)] [none, none, none, some 0, none, none, some 1, none] (by kernel_rfl) (by kernel_rfl) (by kernel_rfl) rfl rfl (fun k w1 w2 hj hb => hj.below hb) (pure_is (Fs := [tpV T, .pointer (some ⟨b9, 2, none⟩), rootV (opL lf k), .int .i64 (((appK n l) : Nat) : Int), .pointer (some ⟨b9, 2, none⟩), rootV (opL lf k), .int .i64 (((appK n l) : Nat) : Int), .bool false])) ((Below.refl _ _ : PJ _ _ _ _ _ _ _ _ _ _ 0 _)) ⟨?_, ?_, ?_, ?_, ?_, ?_, ?_, ?_, trivial⟩ ?_
            · exact fun kj wj hj => (opOb_move _ rfl (.inl rfl) rfl)
            · exact fun kj wj hj => opOb_fld rfl rfl (OpK.tmp rfl) (fun w => by simp [go_sem])
            · exact fun kj wj hj => opOb_ld rfl rfl (OpK.tmp rfl) (fun w' hb => run_loadAt_rd w' _ 32 30 _ _ (op_leaf (row_below (hj.row HO.out HNo.out HPo.out) hb (hj.row HO.out HNo.out HPo.out).lt)) Tryd.underlying30 rfl (by kernel_rfl))
            · exact opJ_fn2 ent_app rfl rfl (OpK.tmp rfl) (OpK.tmp rfl) (fun wj hj => (PJ.app HT.out HLf.out hj).mono fun e w2 ⟨r, he, hr, hj2⟩ => ⟨r, he, hr, hj2⟩)
            · exact fun kj wj hj => opOb_fld rfl rfl (OpK.tmp rfl) (fun w => by simp [go_sem])
            · exact fun kj wj hj => opOb_ld rfl rfl (OpK.tmp rfl) (fun w' hb => run_loadAt_rd w' _ 32 30 _ _ (op_leaf (row_below (hj.row HO.out HNo.out HPo.out) hb (hj.row HO.out HNo.out HPo.out).lt)) Tryd.underlying30 rfl (by kernel_rfl))
            · exact opJ_fn2 ent_rapp rfl rfl (OpK.tmp rfl) (OpK.tmp rfl) (fun wj hj => (PJ.rapp HT.out hl2 HLf.out hj).mono fun e w2 ⟨r, he, hr, hj2⟩ => ⟨r, he, hr, hj2⟩)
            · exact fun kj wj hj => opOb_neSame .i64 _ rfl rfl (OpK.tmp rfl) (OpK.tmp rfl)
            · intro wn hj
              simp only [fin, SF.is, forall_eq]
              simp only [Act.put, List.setIfInBounds_toArray, List.set_cons_succ, List.set_cons_zero]
              obtain ⟨v', A', c', hr, hH, _⟩ := hj.done
              have HR := Lib.hid hr
              have HH' := Lib.hid hH
              have HBe := Lib.hid (HBo.out.trans (hr.base HT.out.tm HpB.out))
              clear hj hr hH
              go_wp2_with fail
              go_meet
              case rel => exact ⟨T, v', appM n l, A', c', appX n l x (opL lf k), rfl, HR.out.tr, HBe.out, by have := HH'.out; have := HH.out; omega⟩
        case rest =>
          obtain ⟨T2, v2, n2, A2, c2, x2, rfl, h1, h2, h3⟩ := hcut
          have HT2 := Lib.hid h1
          have HB2e := Lib.hid h2
          have HH2e := Lib.hid h3
          clear h1 h2 h3 HT HO HNo HPo HBo HNl HH
          go_upto_region 33 with fail
          refine wp_region_facts (B := wc.heap.size) (w0 := wc) [SF.is (tpV T2), SF.is (.int .i64 ((n2 : Nat) : Int)), SF.is (.pointer (some ⟨b6, 1, none⟩)), SF.is (.slice (A2) (n2) (c2)), SF.is (.int .i64 ((n2 : Nat) : Int)), SF.is (.bool false)] (by kernel_rfl) (by kernel_rfl) rfl (Nat.le_refl _) (Below.refl _ _) ⟨?_, ?_, ?_, ?_, ?_, ?_, trivial⟩ ?_
          · exact (opOb_move _ rfl (.inl rfl) rfl)
          · exact opOb_fn1 TreeLaw.ent_len rfl rfl (OpK.tmp rfl) (fun w' hb => (tlen_look v2 w.heap.size T2 w' (HT2.out.tm.below hb)).mono fun r w2 ⟨he, hw⟩ => ⟨_, (by rw [he, HT2.out.st.n0]), rfl, by subst hw; exact Below.refl _ _⟩)
          · exact opOb_fld rfl rfl (OpK.tmp rfl) (fun w => by simp [go_sem])
          · exact opOb_ld rfl rfl (OpK.tmp rfl) (fun w' hb => PickDraw.run_ldSl w' _ _ _ _ ((HT2.out.below hb).rm.row.cell (show 1 < 2 by omega)) Tryd.underlying22)
          · exact opOb_len Tryd.underlying22 rfl rfl (OpK.tmp rfl)
          · exact opOb_neSame .i64 _ rfl rfl (OpK.tmp rfl) (OpK.tmp rfl)
          · intro w' hb
            simp only [fin, SF.is, forall_eq]
            simp only [Act.put, List.setIfInBounds_toArray, List.set_cons_succ, List.set_cons_zero]
            have HT3 := Lib.hid (HT2.out.below hb)
            have HB3e := Lib.hid (HB2e.out.trans (hb.mono HB2e.out.size))
            clear hb
            go_wp2_with fail
            go_roundw
            case rel => exact ⟨k + 1, T2, v2, n2, A2, c2, x2, rfl, by go_num, by omega, by omega, HT3.out, HB3e.out, HH2e.out⟩
            case measure => simp [intOf]; omega
      · have hke : 100 ≤ k := by omega
        have HT := Lib.hid HTr.out
        have HBo := Lib.hid HBr.out
        clear HTr HBr
        go_upto_region 35 with fail
        obtain ⟨Z, hZ⟩ : ∃ Z, treeN (dep l) n x = Z := ⟨_, rfl⟩
        have HZ := Lib.hid hZ
        have HZV : Hid (rootV (treeN v.D n x) = rootV Z) := Lib.hid (by rw [HT.out.D, hZ])
        have HPs := Lib.hid (HP.out.below HBo.out)
        have HPTs := Lib.hid (HPT.out.below HBo.out HTB.out)
        have hrd : ∀ {k} w', RJ w.heap.size T n x wo v k w' → Rd w' w'.heap.size A (n * 32) (u8v x) := fun w' hj => by
          obtain ⟨v', h1, h2, h3, _, _⟩ := hj
          exact (HT.out.tstep h1 h2 h3).rm.rd
        have hpr' : ∀ {k} w', RJ w.heap.size T n x wo v k w' → RefPkg w' := fun w' hj => HPR.out.below (HBo.out.trans (hj.base HT.out.tm))
        clear hZ
        refine wp_region_stage (l := [_, _, _, _, _, _]) (N := 1) (RJ w.heap.size T n x wo v) [SF.is (tpV T), SF.is (rootV Z), SF.is (.agg (arr 2 (rfF l A n c))), SF.is (rootV Z), SF.is (.bool true), SF.is (.bool true)] [none, some 0, none, none, none, none] (by kernel_rfl) (by kernel_rfl) (by kernel_rfl) rfl rfl (fun k w1 w2 hj hb => hj.below hb) (pure_is (Fs := [tpV T, rootV Z, .agg (arr 2 (rfF l A n c)), rootV Z, .bool true, .bool true])) (RJ.start HT.out.tm HT.out.st) ⟨?_, ?_, ?_, ?_, ?_, ?_, trivial⟩ ?_
        · exact fun kj wj hj => (opOb_move _ rfl (.inl rfl) rfl)
        · exact opJ_fn1 TreeLaw.ent_root rfl rfl (OpK.tmp rfl) (fun wj hj => (hj.root HT.out.tm (by have := HH.out; omega) HPs.out HPB.out HPTs.out HTB.out).mono fun e w2 ⟨r, he, hr, hj2⟩ => ⟨r, he, (by rw [hr, HZV.out]; rfl), hj2⟩)
        · exact fun kj wj hj => opOb_ld rfl rfl (OpK.tmp rfl) (fun w' hb => ld_all (hj.row HT.out.rm.row HT.out.np) (hj.row HT.out.rm.row HT.out.np).lt Tryd.underlying42 rfl (by kernel_rfl) w' hb)
        · exact fun kj wj hj => opOb_fn1 ent_rroot rfl rfl (OpK.tmp rfl) (fun w' hb => (rroot_look l n c A x w' (hrd w' (hj.below hb)) HT.out.x8 HT.out.rm.cap hl2 HNl.out (hpr' w' (hj.below hb))).mono fun e w2 ⟨he, hb2⟩ => ⟨_, he, (by rw [HZ.out]; rfl), hb2⟩)
        · exact fun kj wj hj => opOb_eqRB true rfl rfl (OpK.tmp rfl) (OpK.tmp rfl) (by simp)
        · exact fun kj wj hj => (opOb_move _ rfl (.inr rfl) rfl)
        · intro wn hj
          simp only [fin, SF.is, forall_eq]
          simp only [Act.put, List.setIfInBounds_toArray, List.set_cons_succ, List.set_cons_zero]
          obtain ⟨v3, hm, hs, hst, _, hH3⟩ := hj.done
          have HBe := Lib.hid (HBo.out.trans (hs.below HT.out.tm (Nat.le_refl _) HT.out.tm.base_le))
          clear hj hm hs hst hH3
          go_wp2_with fail
          go_ret
          exact ⟨rfl, HBe.out⟩
    · have hke : m ≤ k := by omega
      have HT := Lib.hid HTr.out
      have HBo := Lib.hid HBr.out
      clear HTr HBr
      go_upto_region 35 with fail
      obtain ⟨Z, hZ⟩ : ∃ Z, treeN (dep l) n x = Z := ⟨_, rfl⟩
      have HZ := Lib.hid hZ
      have HZV : Hid (rootV (treeN v.D n x) = rootV Z) := Lib.hid (by rw [HT.out.D, hZ])
      have HPs := Lib.hid (HP.out.below HBo.out)
      have HPTs := Lib.hid (HPT.out.below HBo.out HTB.out)
      have hrd : ∀ {k} w', RJ w.heap.size T n x wo v k w' → Rd w' w'.heap.size A (n * 32) (u8v x) := fun w' hj => by
        obtain ⟨v', h1, h2, h3, _, _⟩ := hj
        exact (HT.out.tstep h1 h2 h3).rm.rd
      have hpr' : ∀ {k} w', RJ w.heap.size T n x wo v k w' → RefPkg w' := fun w' hj => HPR.out.below (HBo.out.trans (hj.base HT.out.tm))
      clear hZ
      refine wp_region_stage (l := [_, _, _, _, _, _]) (N := 1) (RJ w.heap.size T n x wo v) [SF.is (tpV T), SF.is (rootV Z), SF.is (.agg (arr 2 (rfF l A n c))), SF.is (rootV Z), SF.is (.bool true), SF.is (.bool true)] [none, some 0, none, none, none, none] (by kernel_rfl) (by kernel_rfl) (by kernel_rfl) rfl rfl (fun k w1 w2 hj hb => hj.below hb) (pure_is (Fs := [tpV T, rootV Z, .agg (arr 2 (rfF l A n c)), rootV Z, .bool true, .bool true])) (RJ.start HT.out.tm HT.out.st) ⟨?_, ?_, ?_, ?_, ?_, ?_, trivial⟩ ?_
      · exact fun kj wj hj => (opOb_move _ rfl (.inl rfl) rfl)
      · exact opJ_fn1 TreeLaw.ent_root rfl rfl (OpK.tmp rfl) (fun wj hj => (hj.root HT.out.tm (by have := HH.out; omega) HPs.out HPB.out HPTs.out HTB.out).mono fun e w2 ⟨r, he, hr, hj2⟩ => ⟨r, he, (by rw [hr, HZV.out]; rfl), hj2⟩)
      · exact fun kj wj hj => opOb_ld rfl rfl (OpK.tmp rfl) (fun w' hb => ld_all (hj.row HT.out.rm.row HT.out.np) (hj.row HT.out.rm.row HT.out.np).lt Tryd.underlying42 rfl (by kernel_rfl) w' hb)
      · exact fun kj wj hj => opOb_fn1 ent_rroot rfl rfl (OpK.tmp rfl) (fun w' hb => (rroot_look l n c A x w' (hrd w' (hj.below hb)) HT.out.x8 HT.out.rm.cap hl2 HNl.out (hpr' w' (hj.below hb))).mono fun e w2 ⟨he, hb2⟩ => ⟨_, he, (by rw [HZ.out]; rfl), hb2⟩)
      · exact fun kj wj hj => opOb_eqRB true rfl rfl (OpK.tmp rfl) (OpK.tmp rfl) (by simp)
      · exact fun kj wj hj => (opOb_move _ rfl (.inr rfl) rfl)
      · intro wn hj
        simp only [fin, SF.is, forall_eq]
        simp only [Act.put, List.setIfInBounds_toArray, List.set_cons_succ, List.set_cons_zero]
        obtain ⟨v3, hm, hs, hst, _, hH3⟩ := hj.done
        have HBe := Lib.hid (HBo.out.trans (hs.below HT.out.tm (Nat.le_refl _) HT.out.tm.base_le))
        clear hj hm hs hst hH3
        go_wp2_with fail
        go_ret
        exact ⟨rfl, HBe.out⟩
theorem treePlays_law (w : World) (L : Int) (_hL : -9223372036854775808 ≤ L ∧ L ≤ 9223372036854775807) (A1 : Option Addr) (m c1 : Nat) (kd ix : Nat → Int) (lf : Nat → Nat) (hA1 : Rd w w.heap.size A1 (m * 34) (opF kd ix lf)) (hkd : ∀ i, -9223372036854775808 ≤ kd i ∧ kd i ≤ 9223372036854775807) (_hix : ∀ i, -9223372036854775808 ≤ ix i ∧ ix i ≤ 9223372036854775807) (hlf : ∀ i, lf i < 256) (_hm : m * 48 ≤ 140737488351232) (_hmc : m ≤ c1) (hp : ShaPkg w) (hpr : RefPkg w) (hpt : TzPkg w) :
    Calls Tryd.prog 7 #[.int .i64 L, .slice A1 m c1] w fun e w' => e = .returned (.bool true) ∧ Below w.heap.size w w' := by
  by_cases h : 1 ≤ L ∧ L ≤ 1073741824
  · obtain ⟨l, rfl⟩ : ∃ l : Nat, L = (l : Int) := ⟨L.toNat, by omega⟩
    exact plays_in w l (by omega) (by omega) A1 m c1 kd ix lf hA1 hkd hlf hp hpr hpt
  · exact plays_out w L (by omega) A1 m c1 hp hpt
end Go.Proofs.YtlcpflaofggmeaaDoor
