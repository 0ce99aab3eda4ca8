/- A part of what the proofs stand on: TreeWorkOut, TreeWorkLaw. -/
import Derived.Test.YtlcpflaofggmeaaDoorGTre23
import Derived.Deep.CutBlock
/- Where there is no tree of this limit. (Printed by a program of mine.) -/
namespace Go.Proofs.YtlcpflaofggmeaaDoor
set_option maxRecDepth 40000
open Go.RowKit
namespace TreeWork
/-- At the head of a list of operations, and nowhere else. -/
theorem at_l {P : Program} {ops : Array Oper} {Q : Exit → Act → World → Prop} {l : List Oper} {a : Act} {w : World} (h : wpList P ops Q l a w) : wpList P ops Q l a w := h
theorem lim_out {L : Int} (h : L < 1 ∨ 1073741824 < L) : limB L = false := by
  unfold limB
  rcases h with h | h
  · rw [decide_eq_false (show ¬ 1 ≤ L by omega)]; rfl
  · rw [decide_eq_false (show ¬ L ≤ 1073741824 by omega), Bool.and_false]
end TreeWork
open TreeLaw TreeAwake TreeWork in
set_option maxHeartbeats 4000000 in
theorem work_out (w : World) (L : Int) (h : L < 1 ∨ 1073741824 < L) (A1 : Option Addr) (m c1 : Nat) (hp : ShaPkg w) (hpt : TzPkg w) :
    Calls Tryd.prog 6 #[.int .i64 L, .slice A1 m c1] w fun e w' => e = .returned (.bool true) ∧ Below w.heap.size w w' := by
  have HP := Lib.hid hp
  have HPT := Lib.hid hpt
  have HLim := Lib.hid (lim_out h)
  have HLo := Lib.hid h
  clear hp hpt h
  go_enter Tryd.func6, Tryd.ntmps6
  go_wp2_with (first
    | (go_at_call 8; refine (awake06_any _ HP.out HPT.out).mono ?_; rintro r w1 ⟨rfl, hb⟩; have HB1 := Lib.hid hb; clear hb)
    | (go_at_call 9; refine (tnew_out L HLo.out _).mono ?_; rintro r w2 ⟨rfl, hw2⟩; rw [hw2]; clear hw2 w2)
    | (go_at_call 16; refine (rnew_look L _).mono ?_; rintro r w3 ⟨rfl, hb⟩; rw [HLim.out]; have HB3 := Lib.hid (HB1.out.trans (hb.mono HB1.out.size)); clear hb)
    | (refine wpList_allocL rfl 42 6 rfl rfl (HS.nil _) (arr 2 (rfI 0)) TreeRef6B.zero_rf 2 (rfI 0) (size_arr _ _) (fun i hi => arr_at _ _ i hi) ?_; intro b6 w4 hb6 hc6 hs; have HSa4 := Lib.hid hs; clear hs)
    | (refine wpList_storeH rfl 42 (.tmp 6) (.tmp 21) rfl HSa4.out 0 rfl (rfI L) rfl rfl (by kernel_rfl) (fun i _ => by unfold rfI; split <;> rfl) ?_; intro w5 hs; have HB5 := Lib.hid (HB3.out.trans ((hs.out (by simp; omega)).mono HB3.out.size)); clear hs))
  go_ret
  exact ⟨rfl, HB5.out⟩
end Go.Proofs.YtlcpflaofggmeaaDoor
/- Behind a few changes just the hashes on their ways are reckoned. (Printed by a program of mine.) -/
namespace Go.Proofs.YtlcpflaofggmeaaDoor
set_option maxRecDepth 40000
open Go.RowKit
namespace TreeWork
open TreeLaw
theorem ent_rroot (vs : Array Value) (w : World) : (callFunc 19 vs).run Tryd.prog w = .ok (.enter 19 vs) w := by kernel_rfl
theorem ent_most (vs : Array Value) (w : World) : (callFunc 22 vs).run Tryd.prog w = .ok (.enter 22 vs) w := by kernel_rfl
theorem ent_hash (vs : Array Value) (w : World) : (callFunc 21 vs).run Tryd.prog w = .ok (.enter 21 vs) w := by kernel_rfl
theorem lim_in {l : Nat} (h1 : 1 ≤ l) (h2 : l ≤ 1073741824) : limB (l : Int) = true := by
  unfold limB; simp; omega
theorem subN (a b c : Nat) (h : a = b + c) (hl : a ≤ 1152921504606846976) (w : World) : (binOp .sub 3 (.int .i64 (a : Int)) (.int .i64 (b : Int))).run Tryd.prog w = .ok (.int .i64 (c : Int)) w := by
  subst h
  simp [go_sem, IntKind.wrap, IntKind.bits, IntKind.signed]
  omega
theorem mark_congr {v v' : TV} (n : Nat) (h : ∀ a, dirB v'.dn v'.dw a = dirB v.dn v.dw a) : markN v' n = markN v n := by
  unfold markN; rw [show dirB v'.dn v'.dw = dirB v.dn v.dw from funext h]
theorem mark_none {v : TV} (n : Nat) (h : ∀ a, dirB v.dn v.dw a = false) : markN v n = 0 := by
  unfold markN
  rw [show dirB v.dn v.dw = fun _ => false from funext h]
  unfold atL
  simp
theorem most_ok {v : TV} {l n e : Nat} (hD : v.D = dep l) (he : markN v n ≤ e) : costN n (dirB v.dn v.dw) v.D ≤ mostN l n e := by
  have h1 := cost_few n (dirB v.dn v.dw) v.D
  have h2 := cost_le n (dirB v.dn v.dw) v.D
  have h3 : (atL n (dirB v.dn v.dw) 0).length * v.D ≤ e * v.D := Nat.mul_le_mul_right _ he
  rw [hD] at h1 h2 h3 ⊢
  unfold mostN
  split
  · rename_i h; rw [h, Nat.zero_mul] at h3; omega
  · split <;> omega
theorem rj_hash {B T n : Nat} {x : Nat → Nat} {w0 wj : World} {v0 : TV} {k : Nat} (h : RJ B T n x w0 v0 k wj) (hm : ∀ a, dirB v0.dn v0.dw a = false) {w2 : World} (hb : Below wj.heap.size wj w2) : Calls Tryd.prog 21 #[tpV T] w2 fun e w' => ∃ r, e = .returned r ∧ r = .int .i64 ((v0.H : Nat) : Int) ∧ Below w2.heap.size w2 w' := by
  obtain ⟨v', h1, h2, h3, h4, h5⟩ := h
  have hH : v'.H = v0.H := by
    rcases Nat.eq_zero_or_pos k with hk | hk
    · rw [h4 hk]
    · rw [(h5 hk).2, cost_none (fun a _ => hm a)]; omega
  refine (thash_look v' B T w2 (h1.below hb)).mono ?_
  rintro e w3 ⟨he, hw⟩
  exact ⟨_, he, by rw [hH], by subst hw; exact Below.refl _ _⟩
end TreeWork
open TreeLaw TreeAwake TreeGet TreeRun TreeWork in
set_option maxHeartbeats 16000000 in
theorem work_in (w : World) (l : Nat) (hl1 : 1 ≤ l) (hl2 : l ≤ 1073741824) (A1 : Option Addr) (m c1 : Nat) (kd ix : Nat → Int) (lf : Nat → Nat) (hA1 : Rd w w.heap.size A1 (m * 34) (opF kd ix lf)) (hkd : ∀ i, -9223372036854775808 ≤ kd i ∧ kd i ≤ 9223372036854775807) (hlf : ∀ i, lf i < 256) (hp : ShaPkg w) (hpr : RefPkg w) (hpt : TzPkg w) :
    Calls Tryd.prog 6 #[.int .i64 (l : Int), .slice A1 m c1] w fun e w' => e = .returned (.bool true) ∧ Below w.heap.size w w' := by
  have HP := Lib.hid hp
  have HPT := Lib.hid hpt
  have HPR := Lib.hid hpr
  have HPB := Lib.hid hp.lt
  have HTB := Lib.hid hpt.lt
  have HA1 := Lib.hid hA1
  have HLf0 := Lib.hid hlf
  have HLim := Lib.hid (lim_in hl1 hl2)
  clear hp hpt hpr hA1 hkd hlf
  go_enter Tryd.func6, Tryd.ntmps6
  go_wp2_with (first
    | (go_at_call 8; refine (awake06_any _ HP.out HPT.out).mono ?_; rintro r w1 ⟨rfl, hb⟩; have HB1 := Lib.hid hb; clear hb)
    | (go_at_call 9; refine (tnew_look l (by omega) (by omega) _ (HP.out.below HB1.out)).mono ?_; rintro r w2 ⟨T, v, rfl, hm, hst, hl, hH, hD, hd, hb⟩; have HM2 := Lib.hid (TM.mono hm HB1.out.size); have HT2 := Lib.hid hst; have HL2 := Lib.hid hl; have HH2 := Lib.hid hH; have HD2 := Lib.hid hD; have HB2 := Lib.hid (HB1.out.trans (hb.mono HB1.out.size)); clear hm hst hl hH hD hd hb)
    | (go_at_call 16; refine (rnew_look (l : Int) _).mono ?_; rintro r w3 ⟨rfl, hb⟩; rw [HLim.out, rfI_nat]; have HB3 := Lib.hid hb; clear hb)
    | ((with_reducible refine at_l ?_); refine wpList_allocL rfl 42 6 rfl rfl (HS.nil _) (arr 2 (rfI 0)) TreeRef6B.zero_rf 2 (rfI 0) (size_arr _ _) (fun i hi => arr_at _ _ i hi) ?_; intro b6 w4 hb6 hc6 hs; have HSa4 := Lib.hid hs; clear hs)
    | ((with_reducible refine at_l ?_); refine wpList_storeH rfl 42 (.tmp 6) (.tmp 21) rfl HSa4.out 0 rfl (rfF l none 0 0) rfl rfl (by kernel_rfl) (fun i _ => by unfold rfF; split <;> rfl) ?_; intro w5 hs; have HR5 := Lib.hid (hs.row 0 rfl); have HB5 := Lib.hid (HB3.out.trans ((hs.out (by simp; omega)).mono HB3.out.size)); clear hs)
    | (go_at_call 12; refine (troot_any v w.heap.size T 0 (fun _ => 0) _ (HM2.out.below HB5.out) HT2.out (by rw [HH2.out]; omega) (HP.out.below (HB2.out.trans (HB5.out.mono HB2.out.size))) HPB.out (HPT.out.below (HB2.out.trans (HB5.out.mono HB2.out.size)) HTB.out) ).mono ?_; rintro r w6 ⟨v1, rfl, h1, h2, h3, h4, h5⟩; have HM6 := Lib.hid h1; have HS6 := Lib.hid h2; have HT6 := Lib.hid h3; have HMk6 := Lib.hid h4; have HH6 := Lib.hid h5; clear h1 h2 h3 h4 h5))
  have HpB : Hid (w.heap.size ≤ b6) := Lib.hid (by have := HB3.out.size; have := HB2.out.size; omega)
  have hTR : TR w5 w.heap.size b6 T v l 0 none 0 (fun _ => 0) :=
    { tm := HM2.out.below HB5.out, st := HT2.out, rm := ⟨HR5.out, (by rw [Nat.zero_mul]; exact Rd.none_), Nat.le_refl _, fun b hb => by obtain ⟨ad, e, _⟩ := hb; cases e⟩, lim := HL2.out, D := HD2.out, x8 := fun _ => by omega, np := fun ho => by have := HM2.out.lt ho; have := HB3.out.size; omega, nz := fun hz => by have := HM2.out.zlt hz; have := HB3.out.size; omega, nA := fun h => by omega }
  have HT0 := Lib.hid (hTR.tstep HM6.out HS6.out HT6.out)
  have HBw5 := Lib.hid ((HB2.out.trans (HB5.out.mono HB2.out.size)).trans (HS6.out.below (HM2.out.below HB5.out) (Nat.le_refl _) (HM2.out.below HB5.out).base_le))
  have HH0 : Hid (v1.H = 0) := Lib.hid (by rw [HH6.out, HH2.out, costN_zero])
  clear hTR HM2 HT2 HR5 HSa4 HB3 HB5 HM6 HS6 HT6 HH6
  go_loopw [5, 8, 9] (fun t s i wr => ∃ (k e T : Nat) (v : TV) (n : Nat) (A : Option Addr) (c : Nat) (x : Nat → Nat), t = tpV T ∧ s = .int .i64 ((e : Nat) : Int) ∧ i = .int .i64 (k : Int) ∧ k ≤ m ∧ k ≤ 100 ∧ TR wr w.heap.size b6 T v l n A c x ∧ Below w.heap.size w wr ∧ v.H ≤ k * 4294967296 ∧ e ≤ k ∧ markN v n ≤ e) (fun _ _ i _ => 100 - (intOf i).toNat)
  case atStart => exact ⟨0, 0, T, v1, 0, none, 0, fun _ => 0, rfl, rfl, rfl, Nat.zero_le _, Nat.zero_le _, HT0.out, HBw5.out, by rw [HH0.out]; exact Nat.zero_le _, Nat.le_refl _, by rw [mark_none _ HMk6.out]; exact Nat.le_refl _⟩
  case round =>
    obtain ⟨k, e, T, v, n, A, c, x, rfl, rfl, rfl, hkm, hk100, ht, hb, hH, hek, hMk⟩ := hrel
    have hnl : n ≤ l := by have h1 := ht.st.nle; rw [ht.lim] at h1; exact h1
    have HNl := Lib.hid hnl
    have HTr := Lib.hid ht
    have HBr := Lib.hid hb
    have HH := Lib.hid hH
    have HHe : Hid (v.H ≤ (k + 1) * 4294967296) := Lib.hid (Nat.le_trans hH (Nat.mul_le_mul_right _ (Nat.le_succ k)))
    have HE : Hid (e ≤ k ∧ k ≤ 100) := Lib.hid ⟨hek, hk100⟩
    have HMk := Lib.hid hMk
    clear ht hb hH HT0 hek hMk hnl
    obtain ⟨wo, rfl⟩ : ∃ wo : World, wo = wr := ⟨_, rfl⟩
    by_cases hlt : k < m
    · by_cases hlt2 : k < 100
      · obtain ⟨ad, rfl, hAb, hAc⟩ := HA1.out (by omega)
        have HAo : Hid (∀ q, q < 34 → wo.cell? ((ad.add (k * 34)).add q) = some (opF kd ix lf (k * 34 + q))) := Lib.hid (fun q hq => by
          rw [add_add, HBr.out.cell (by rw [block_of_add]; exact hAb), hAc _ (by omega)])
        clear hAb hAc
        obtain ⟨q6, hq6, hq62, hq63, hq64⟩ := cutK (kd k) 6 (by omega)
        have HQ := Lib.hid hq62
        have hkd6 : -6 < (kd k).tmod 6 ∧ (kd k).tmod 6 < 6 := ⟨hq63, hq64⟩
        clear hq62 hq63 hq64
        have HLf : Hid (∀ q, opL lf k q < 256) := Lib.hid (fun q => HLf0.out _)
        go_upto_block 1 with fail
        go_cut [5, 8, 10, 11, 12, 13] from 37 to 130 (fun t5 t8 _t10 _t11 _t12 _t13 wx => ∃ T' v' n' A' c' x' e', t5 = tpV T' ∧ t8 = .int .i64 ((e' : Nat) : Int) ∧ TR wx w.heap.size b6 T' v' l n' A' c' x' ∧ Below w.heap.size w wx ∧ v'.H ≤ (k + 1) * 4294967296 ∧ e' ≤ k + 1 ∧ markN v' n' ≤ e')
        case first =>
          go_upto_region 13 with (first
            | ((with_reducible refine at_l ?_); refine wpList_as rfl 49 rfl (.pointer (some (ad.add (k * 34)))) ?_ ?_; (· exact ex_idx rfl rfl rfl (fun w => run_idxZ (z := 34) w Tryd.underlying40 (by kernel_rfl) ad hlt) _))
            | ((with_reducible refine at_l ?_); refine wpList_load_rd rfl 50 (.tmp 49) rfl 34 _ Tryd.underlying50 rfl (by kernel_rfl) (ad.add (k * 34)) rfl (fun j => opF kd ix lf (k * 34 + j)) HAo.out ?_)
            | ((with_reducible refine at_l ?_); refine wpList_allocL rfl 50 10 rfl rfl (HS.nil _) (arr 34 opZf) op_zero 34 opZf (size_arr _ _) (fun i hi => arr_at _ _ i hi) ?_; intro b10 w8 hb10 hc10 hs; have HSa8 := Lib.hid hs; clear hs)
            | ((with_reducible refine at_l ?_); refine wpList_storeH rfl 50 (.tmp 10) (.tmp 50) rfl HSa8.out 0 rfl (fun j => opF kd ix lf (k * 34 + j)) rfl rfl op_size (fun i _ => op_one kd ix lf _) ?_; intro w9 hs; have HO := Lib.hid (hs.row 0 rfl); have HBs := Lib.hid (hs.out (by simp; omega)); clear hs))
          have HT := Lib.hid (HTr.out.below HBs.out)
          have HBo := Lib.hid (HBr.out.trans (HBs.out.mono HBr.out.size))
          have HNo : Hid (¬ v.own T b10) := Lib.hid (fun ho => by have := HTr.out.tm.lt ho; omega)
          have HPo : Hid (b10 ≠ b6) := Lib.hid (fun e => by have := HTr.out.rm.row.lt; omega)
          clear HTr HBr HAo HSa8 HBs
          go_upto_block 2 with (first
            | ((with_reducible refine at_l ?_); refine wpList_as rfl 52 rfl (.int .i64 (kd k)) ?_ ?_; (· exact ex_ld1 .i64 rfl rfl Tryd.underlying3 (op_kd HO.out)))
            | ((with_reducible refine at_l ?_); refine wpList_as rfl 53 rfl (.int .i64 ((kd k).tmod 6)) ?_ ?_; (· exact ex_bin rfl rfl rfl rfl (fun w => modI (kd k) 6 (by omega) w) _))
            | ((with_reducible refine at_l ?_); refine wpList_as rfl 54 rfl (.int .i64 ((kd k).tmod 6 + 6)) ?_ ?_; (· exact ex_bin rfl rfl rfl rfl (fun w => addZ _ 6 _ rfl (by omega) w) _))
            | ((with_reducible refine at_l ?_); refine wpList_as rfl 55 rfl (.int .i64 (q6 : Int)) ?_ ?_; (· exact ex_bin rfl rfl rfl rfl (fun w => by rw [← HQ.out]; exact modI _ 6 (by omega) w) _)))
          clear HQ hkd6
          rcases (show q6 = 0 ∨ q6 = 1 ∨ q6 = 2 ∨ q6 = 3 ∨ q6 = 4 ∨ q6 = 5 by omega) with rfl | rfl | rfl | rfl | rfl | rfl
          ·
            go_wp2_with (first
              | ((with_reducible refine at_l ?_); refine wpList_load_rd rfl 30 (.tmp 57) rfl 32 _ Tryd.underlying30 rfl (by kernel_rfl) ⟨b10, 2, none⟩ rfl (u8v (opL lf k)) (op_leaf (HO.out)) ?_)
              | (go_at_call 10; refine (PJ.app HT.out HLf.out (Below.refl _ _ : PJ w9 w.heap.size b6 T v l n A (appM n l) (appX n l x (opL lf k)) 0 w9)).mono ?_; rintro r w10 ⟨_, rfl, rfl, hj⟩; have HJ1 := Lib.hid hj; have HO1 := Lib.hid (hj.row HO.out HNo.out HPo.out); clear hj)
              | ((with_reducible refine at_l ?_); refine wpList_load_rd rfl 30 (.tmp 60) rfl 32 _ Tryd.underlying30 rfl (by kernel_rfl) ⟨b10, 2, none⟩ rfl (u8v (opL lf k)) (op_leaf (HO1.out)) ?_)
              | (go_at_call 23; refine (PJ.rapp HT.out hl2 HLf.out HJ1.out).mono ?_; rintro r w11 ⟨_, rfl, rfl, hj⟩; have HJ2 := Lib.hid hj; clear hj)
              | ((with_reducible refine at_l ?_); refine wpList_as rfl 64 rfl (.int .i64 ((e + 1 : Nat) : Int)) ?_ ?_; (· exact ex_bin rfl rfl rfl rfl (fun w => TreeRoot.add1I e (e + 1) rfl (by have := HE.out; omega) w) _)))
            obtain ⟨v', A', c', hr, hH, hM⟩ := HJ2.out.done
            have HR := Lib.hid hr
            have HH' := Lib.hid hH
            have HM' := Lib.hid hM
            have HBe := Lib.hid (HBo.out.trans (hr.base HT.out.tm HpB.out))
            clear hr hH hM
            go_meet
            case rel => exact ⟨T, v', appM n l, A', c', appX n l x (opL lf k), e + 1, rfl, rfl, HR.out.tr, HBe.out, by have := HH'.out; have := HHe.out; omega, by have := HE.out; omega, by have := HM'.out; have := HMk.out; omega⟩
          ·
            go_wp2_with (first
              | ((with_reducible refine at_l ?_); refine wpList_as rfl 69 rfl (.int .i64 (ix k)) ?_ ?_; (· exact ex_ld1 .i64 rfl rfl Tryd.underlying3 (op_ix (HO.out))))
              | ((with_reducible refine at_l ?_); refine wpList_load_rd rfl 30 (.tmp 70) rfl 32 _ Tryd.underlying30 rfl (by kernel_rfl) ⟨b10, 2, none⟩ rfl (u8v (opL lf k)) (op_leaf (HO.out)) ?_)
              | (go_at_call 11; refine (PJ.set (ix k) HT.out HLf.out (Below.refl _ _ : PJ w9 w.heap.size b6 T v l n A (n) (setX n x (ix k) (opL lf k)) 0 w9)).mono ?_; rintro r w10 ⟨_, rfl, rfl, hj⟩; have HJ1 := Lib.hid hj; have HO1 := Lib.hid (hj.row HO.out HNo.out HPo.out); clear hj)
              | ((with_reducible refine at_l ?_); refine wpList_as rfl 74 rfl (.int .i64 (ix k)) ?_ ?_; (· exact ex_ld1 .i64 rfl rfl Tryd.underlying3 (op_ix (HO1.out))))
              | ((with_reducible refine at_l ?_); refine wpList_load_rd rfl 30 (.tmp 75) rfl 32 _ Tryd.underlying30 rfl (by kernel_rfl) ⟨b10, 2, none⟩ rfl (u8v (opL lf k)) (op_leaf (HO1.out)) ?_)
              | (go_at_call 20; refine (PJ.rset (ix k) HT.out (by have := HNl.out; omega) HLf.out HJ1.out).mono ?_; rintro r w11 ⟨_, rfl, rfl, hj⟩; have HJ2 := Lib.hid hj; clear hj)
              | ((with_reducible refine at_l ?_); refine wpList_as rfl 79 rfl (.int .i64 ((e + 1 : Nat) : Int)) ?_ ?_; (· exact ex_bin rfl rfl rfl rfl (fun w => TreeRoot.add1I e (e + 1) rfl (by have := HE.out; omega) w) _)))
            obtain ⟨v', A', c', hr, hH, hM⟩ := HJ2.out.done
            have HR := Lib.hid hr
            have HH' := Lib.hid hH
            have HM' := Lib.hid hM
            have HBe := Lib.hid (HBo.out.trans (hr.base HT.out.tm HpB.out))
            clear hr hH hM
            go_meet
            case rel => exact ⟨T, v', n, A', c', setX n x (ix k) (opL lf k), e + 1, rfl, rfl, HR.out.tr, HBe.out, by have := HH'.out; have := HHe.out; omega, by have := HE.out; omega, by have := HM'.out; have := HMk.out; omega⟩
          · obtain ⟨Z, hZ⟩ : ∃ Z, treeN (dep l) n x = Z := ⟨_, rfl⟩
            have HZ := Lib.hid hZ
            have HZV : Hid (rootV (treeN v.D n x) = rootV Z) := Lib.hid (by rw [HT.out.D, hZ])
            obtain ⟨h0, hh0⟩ : ∃ h0, v.H = h0 := ⟨_, rfl⟩
            have HH0 := Lib.hid hh0
            clear hZ hh0
            go_upto_region 24 with (first
              | (go_at_call 21; refine (thash_look v w.heap.size T _ HT.out.tm).mono ?_; rintro r w10 ⟨rfl, hw⟩; obtain rfl : w9 = w10 := hw.symm; rw [HH0.out])
              | (go_at_call 12; refine (troot_any v w.heap.size T n x _ HT.out.tm HT.out.st (by have := HH.out; have := HE.out; omega) (HP.out.below HBo.out) HPB.out (HPT.out.below HBo.out HTB.out)).mono ?_; rintro r w11 ⟨v3, rfl, h1, h2, h3, h4, h5⟩; rw [HZV.out]; have HT3 := Lib.hid (HT.out.tstep h1 h2 h3); have HB11 := Lib.hid (HBo.out.trans (h2.below HT.out.tm (Nat.le_refl _) HT.out.tm.base_le)); have HD3 := Lib.hid h2.D; have HM0 := Lib.hid h4; have HC3 := Lib.hid h5; clear h1 h2 h3 h4 h5)
              | ((with_reducible refine at_l ?_); refine wpList_allocL rfl 30 12 rfl rfl (HS.nil _) (Array.replicate 32 (.int .u8 0)) (by kernel_rfl) 32 (u8v fun _ => 0) (by rfl) (zero_at 32 (.int .u8 0)) ?_; intro b12 wa12 hb12 hc12 hs; have HSa12 := Lib.hid hs; clear hs)
              | ((with_reducible refine at_l ?_); refine wpList_storeH rfl 30 (.tmp 12) (.tmp 85) rfl HSa12.out 0 rfl (u8v Z) rfl rfl (by kernel_rfl) (fun _ _ => rfl) ?_; intro w13 hs; have HR13 := Lib.hid (hs.row 0 rfl); have HBs := Lib.hid (hs.out (by simp; omega)); clear hs))
            obtain ⟨h3, hh3⟩ : ∃ h3, v3.H = h3 := ⟨_, rfl⟩
            have HH3 := Lib.hid hh3
            obtain ⟨q, hq⟩ : ∃ q, costN n (dirB v.dn v.dw) v.D = q := ⟨_, rfl⟩
            have HQ3 : Hid (h3 = h0 + q) := Lib.hid (by rw [← hh3, HC3.out, HH0.out, hq])
            have HMost : Hid (q ≤ mostN l n e) := Lib.hid (by rw [← hq]; exact most_ok HT.out.D HMk.out)
            have HB3 : Hid (h3 ≤ 1152921504606846976 ∧ h3 ≤ (k + 1) * 4294967296) := Lib.hid (by
              have h1 := cost_le n (dirB v.dn v.dw) v.D
              have h2 := HT.out.st.D30
              have h4 := HH.out
              have h5 := HE.out
              have h6 := HH0.out
              have h7 := HQ3.out
              have h8 := HNl.out
              omega)
            have HT13 := Lib.hid (HT3.out.below HBs.out)
            have HB13 := Lib.hid (HB11.out.trans (HBs.out.mono HB11.out.size))
            have HN12 : Hid (¬ v3.own T b12) := Lib.hid (fun ho => by have := HT3.out.tm.lt ho; omega)
            clear hh3 hq HT HO HNo HPo HBo HT3 HB11 HSa12 HBs HC3
            go_upto_region 25 with (go_at_call 21; refine (thash_look v3 w.heap.size T _ HT13.out.tm).mono ?_; rintro r w14 ⟨rfl, hw⟩; obtain rfl : w13 = w14 := hw.symm; rw [HH3.out])
            have HZ3 : Hid (rootV (treeN v3.D n x) = rootV Z) := Lib.hid (by rw [HD3.out, HZV.out])
            have HH60 : Hid (v3.H ≤ 1152921504606846976) := Lib.hid (by rw [HH3.out]; exact HB3.out.1)
            have HPs := Lib.hid (HP.out.below HB13.out)
            have HPTs := Lib.hid (HPT.out.below HB13.out HTB.out)
            have hrd : ∀ {k} w', RJ w.heap.size T n x w13 v3 k w' → Rd w' w'.heap.size A (n * 32) (u8v x) := fun w' hj => by
              obtain ⟨v', h1, h2, h3, _, _⟩ := hj
              exact (HT13.out.tstep h1 h2 h3).rm.rd
            have hpr' : ∀ {k} w', RJ w.heap.size T n x w13 v3 k w' → RefPkg w' := fun w' hj => HPR.out.below (HB13.out.trans (hj.base HT13.out.tm))
            refine wp_region_stage (l := [_, _, _, _, _, _, _, _, _, _, _, _, _, _, _, _, _, _, _, _, _, _, _, _, _, _, _, _, _, _]) (N := 1) (RJ w.heap.size T n x w13 v3) [SF.is (rootV Z), SF.is (.agg (arr 2 (rfF l A n c))), SF.is (rootV Z), SF.is (.bool false), SF.is (.bool false), SF.is (.int .i64 ((h3 : Nat) : Int)), SF.is (.int .i64 ((h0 : Nat) : Int)), SF.is (.int .i64 ((q : Nat) : Int)), SF.is (.agg (arr 2 (rfF l A n c))), SF.is (.int .i64 ((e : Nat) : Int)), SF.is (.int .i64 ((mostN l n e : Nat) : Int)), SF.is (.bool false), SF.is (.bool false), SF.is (.bool false), SF.is (.int .i64 ((h3 : Nat) : Int)), SF.is (.int .i64 ((h0 : Nat) : Int)), SF.is (.bool false), SF.is (.bool false), SF.is (.bool false), SF.is (tpV T), SF.is (rootV Z), SF.is (rootV Z), SF.is (.bool false), SF.is (.bool false), SF.is (.bool false), SF.is (tpV T), SF.is (.int .i64 ((h3 : Nat) : Int)), SF.is (.int .i64 ((h3 : Nat) : Int)), SF.is (.bool false), SF.is (.bool false)] [none, none, none, none, none, none, none, none, none, none, none, none, none, none, none, none, none, none, none, none, some 0, none, none, none, none, none, none, none, none, none] (by kernel_rfl) (by kernel_rfl) (by kernel_rfl) rfl rfl (fun k w1 w2 hj hb => hj.below hb) (pure_is (Fs := [rootV Z, .agg (arr 2 (rfF l A n c)), rootV Z, .bool false, .bool false, .int .i64 ((h3 : Nat) : Int), .int .i64 ((h0 : Nat) : Int), .int .i64 ((q : Nat) : Int), .agg (arr 2 (rfF l A n c)), .int .i64 ((e : Nat) : Int), .int .i64 ((mostN l n e : Nat) : Int), .bool false, .bool false, .bool false, .int .i64 ((h3 : Nat) : Int), .int .i64 ((h0 : Nat) : Int), .bool false, .bool false, .bool false, tpV T, rootV Z, rootV Z, .bool false, .bool false, .bool false, tpV T, .int .i64 ((h3 : Nat) : Int), .int .i64 ((h3 : Nat) : Int), .bool false, .bool false])) (RJ.start HT13.out.tm HT13.out.st) ⟨?_, ?_, ?_, ?_, ?_, ?_, ?_, ?_, ?_, ?_, ?_, ?_, ?_, ?_, ?_, ?_, ?_, ?_, ?_, ?_, ?_, ?_, ?_, ?_, ?_, ?_, ?_, ?_, ?_, ?_, trivial⟩ ?_
            · exact fun kj wj hj => opOb_ld rfl rfl (OpK.tmp rfl) (fun w' hb => ld_all (hj.row HR13.out HN12.out) (hj.row HR13.out HN12.out).lt Tryd.underlying30 rfl (by kernel_rfl) w' hb)
            · exact fun kj wj hj => opOb_ld rfl rfl (OpK.tmp rfl) (fun w' hb => ld_all (hj.row HT13.out.rm.row HT13.out.np) (hj.row HT13.out.rm.row HT13.out.np).lt Tryd.underlying42 rfl (by kernel_rfl) w' hb)
            · exact fun kj wj hj => opOb_fn1 ent_rroot rfl rfl (OpK.tmp rfl) (fun w' hb => (rroot_look l n c A x w' (hrd w' (hj.below hb)) HT13.out.x8 HT13.out.rm.cap hl2 HNl.out (hpr' w' (hj.below hb))).mono fun e w2 ⟨he, hb2⟩ => ⟨_, he, (by rw [HZ.out]; rfl), hb2⟩)
            · exact fun kj wj hj => TreeSt.opOb_neR true rfl rfl (OpK.tmp rfl) (OpK.tmp rfl) (by simp)
            · exact fun kj wj hj => (opOb_move _ rfl (.inl rfl) rfl)
            · exact fun kj wj hj => opOb_on 92 rfl rfl ((opOb_move _ rfl (.inl rfl) rfl))
            · exact fun kj wj hj => opOb_on 92 rfl rfl ((opOb_move _ rfl (.inl rfl) rfl))
            · exact fun kj wj hj => opOb_on 92 rfl rfl (opOb_bin rfl rfl rfl (OpK.tmp rfl) (OpK.tmp rfl) (fun w => subN h3 h0 q HQ3.out HB3.out.1 w))
            · exact fun kj wj hj => opOb_on 92 rfl rfl (opOb_ld rfl rfl (OpK.tmp rfl) (fun w' hb => ld_all (hj.row HT13.out.rm.row HT13.out.np) (hj.row HT13.out.rm.row HT13.out.np).lt Tryd.underlying42 rfl (by kernel_rfl) w' hb))
            · exact fun kj wj hj => opOb_on 92 rfl rfl ((opOb_move _ rfl (.inl rfl) rfl))
            · exact fun kj wj hj => opOb_on 92 rfl rfl (opOb_fn2 ent_most rfl rfl (OpK.tmp rfl) (OpK.tmp rfl) (fun w' hb => (rmost_look l n c e A w' hl2 (by have := HNl.out; omega) (by have := HE.out; omega)).mono fun r w2 ⟨he, hb2⟩ => ⟨_, he, rfl, hb2⟩))
            · exact fun kj wj hj => opOb_on 92 rfl rfl (opOb_bin rfl rfl rfl (OpK.tmp rfl) (OpK.tmp rfl) (fun w => TreeRef6B.gtB q (mostN l n e) false (by have := HMost.out; simp; omega) w))
            · exact fun kj wj hj => opOb_pickF rfl rfl rfl (OpK.tmp rfl)
            · exact fun kj wj hj => (opOb_move _ rfl (.inl rfl) rfl)
            · exact fun kj wj hj => opOb_on 101 rfl rfl ((opOb_move _ rfl (.inl rfl) rfl))
            · exact fun kj wj hj => opOb_on 101 rfl rfl ((opOb_move _ rfl (.inl rfl) rfl))
            · exact fun kj wj hj => opOb_on 101 rfl rfl (opOb_bin rfl rfl rfl (OpK.tmp rfl) (OpK.tmp rfl) (fun w => TreeRoot.ltB h3 h0 false (by have := HQ3.out; simp; omega) w))
            · exact fun kj wj hj => opOb_pickF rfl rfl rfl (OpK.tmp rfl)
            · exact fun kj wj hj => (opOb_move _ rfl (.inl rfl) rfl)
            · exact fun kj wj hj => opOb_on 106 rfl rfl ((opOb_move _ rfl (.inl rfl) rfl))
            · exact opJ_on 106 rfl rfl (opJ_fn1 TreeLaw.ent_root rfl rfl (OpK.tmp rfl) (fun wj hj => (hj.root HT13.out.tm HH60.out HPs.out HPB.out HPTs.out HTB.out).mono fun e w2 ⟨r, he, hr, hj2⟩ => ⟨r, he, (by rw [hr, HZ3.out]; rfl), hj2⟩))
            · exact fun kj wj hj => opOb_on 106 rfl rfl (opOb_ld rfl rfl (OpK.tmp rfl) (fun w' hb => ld_all (hj.row HR13.out HN12.out) (hj.row HR13.out HN12.out).lt Tryd.underlying30 rfl (by kernel_rfl) w' hb))
            · exact fun kj wj hj => opOb_on 106 rfl rfl (TreeSt.opOb_neR true rfl rfl (OpK.tmp rfl) (OpK.tmp rfl) (by simp))
            · exact fun kj wj hj => opOb_pickF rfl rfl rfl (OpK.tmp rfl)
            · exact fun kj wj hj => (opOb_move _ rfl (.inl rfl) rfl)
            · exact fun kj wj hj => opOb_on 112 rfl rfl ((opOb_move _ rfl (.inl rfl) rfl))
            · exact fun kj wj hj => opOb_on 112 rfl rfl (opOb_fn1 ent_hash rfl rfl (OpK.tmp rfl) (fun w' hb => (rj_hash hj HM0.out hb).mono fun e w3 ⟨r, he, hr, hb2⟩ => ⟨r, he, (by rw [hr, HH3.out]; rfl), hb2⟩))
            · exact fun kj wj hj => opOb_on 112 rfl rfl ((opOb_move _ rfl (.inl rfl) rfl))
            · exact fun kj wj hj => opOb_on 112 rfl rfl (opOb_neSame .i64 _ rfl rfl (OpK.tmp rfl) (OpK.tmp rfl))
            · exact fun kj wj hj => opOb_pickF rfl rfl rfl (OpK.tmp rfl)
            · intro wn hj
              simp only [fin, SF.is, forall_eq]
              simp only [Act.put, List.setIfInBounds_toArray, List.set_cons_succ, List.set_cons_zero]
              obtain ⟨v4, hm, hs, hst, h4, hH4⟩ := hj.done
              have HM4 := Lib.hid hm
              have HS4 := Lib.hid hs
              have HT4 := Lib.hid hst
              have HK4 := Lib.hid h4
              have HH4 : Hid (v4.H = v3.H) := Lib.hid (by rw [hH4, cost_none (fun a _ => HM0.out a)]; rfl)
              have HBe := Lib.hid (HB13.out.trans (hs.below HT13.out.tm (Nat.le_refl _) HT13.out.tm.base_le))
              clear hj hm hs hst h4 hH4 hrd hpr'
              go_wp2_with fail
              go_meet
              case rel => exact ⟨T, v4, n, A, c, x, 0, rfl, rfl, HT13.out.tstep HM4.out HS4.out HT4.out, HBe.out, by rw [HH4.out, HH3.out]; exact HB3.out.2, Nat.zero_le _, by rw [mark_none _ HK4.out]; exact Nat.le_refl _⟩
          · go_wp2_with fail
            go_meet
            case rel => exact ⟨T, v, n, A, c, x, e, rfl, rfl, HT.out, HBo.out, HHe.out, by have := HE.out; omega, HMk.out⟩
          · go_wp2_with (first
              | (go_at_call 18; refine (tcopy_look v w.heap.size T n x _ HT.out.tm HT.out.st).mono ?_; rintro r w10 ⟨T2, v2, rfl, h1, h2, h3, h4, h5, h6, h7, h8, h9⟩; have HT2 := Lib.hid (HT.out.copy h1 h2 h3 h4 h5 h8 h9); have HB2e := Lib.hid (HBo.out.trans (h9.mono HBo.out.size)); have HH2e := Lib.hid h6; have HM2e := Lib.hid (mark_congr n h7); clear h1 h2 h3 h4 h5 h6 h7 h8 h9)
              | (go_at_call 21; refine (thash_look v2 w.heap.size T2 _ HT2.out.tm).mono ?_; rintro r w11 ⟨rfl, hw⟩; subst hw; rw [HH2e.out]))
            go_meet
            case rel => exact ⟨T2, v2, n, A, c, x, e, rfl, rfl, HT2.out, HB2e.out, by rw [HH2e.out]; exact Nat.zero_le _, by have := HE.out; omega, by rw [HM2e.out]; exact HMk.out⟩
          ·
            go_wp2_with (first
              | ((with_reducible refine at_l ?_); refine wpList_load_rd rfl 30 (.tmp 57) rfl 32 _ Tryd.underlying30 rfl (by kernel_rfl) ⟨b10, 2, none⟩ rfl (u8v (opL lf k)) (op_leaf (HO.out)) ?_)
              | (go_at_call 10; refine (PJ.app HT.out HLf.out (Below.refl _ _ : PJ w9 w.heap.size b6 T v l n A (appM n l) (appX n l x (opL lf k)) 0 w9)).mono ?_; rintro r w10 ⟨_, rfl, rfl, hj⟩; have HJ1 := Lib.hid hj; have HO1 := Lib.hid (hj.row HO.out HNo.out HPo.out); clear hj)
              | ((with_reducible refine at_l ?_); refine wpList_load_rd rfl 30 (.tmp 60) rfl 32 _ Tryd.underlying30 rfl (by kernel_rfl) ⟨b10, 2, none⟩ rfl (u8v (opL lf k)) (op_leaf (HO1.out)) ?_)
              | (go_at_call 23; refine (PJ.rapp HT.out hl2 HLf.out HJ1.out).mono ?_; rintro r w11 ⟨_, rfl, rfl, hj⟩; have HJ2 := Lib.hid hj; clear hj)
              | ((with_reducible refine at_l ?_); refine wpList_as rfl 64 rfl (.int .i64 ((e + 1 : Nat) : Int)) ?_ ?_; (· exact ex_bin rfl rfl rfl rfl (fun w => TreeRoot.add1I e (e + 1) rfl (by have := HE.out; omega) w) _)))
            obtain ⟨v', A', c', hr, hH, hM⟩ := HJ2.out.done
            have HR := Lib.hid hr
            have HH' := Lib.hid hH
            have HM' := Lib.hid hM
            have HBe := Lib.hid (HBo.out.trans (hr.base HT.out.tm HpB.out))
            clear hr hH hM
            go_meet
            case rel => exact ⟨T, v', appM n l, A', c', appX n l x (opL lf k), e + 1, rfl, rfl, HR.out.tr, HBe.out, by have := HH'.out; have := HHe.out; omega, by have := HE.out; omega, by have := HM'.out; have := HMk.out; omega⟩
        case rest =>
          obtain ⟨T2, v2, n2, A2, c2, x2, e2, rfl, rfl, h1, h2, h3, h4, h5⟩ := hcut
          have HT2 := Lib.hid h1
          have HB2e := Lib.hid h2
          have HH2e := Lib.hid h3
          have HE2 := Lib.hid h4
          have HM2e := Lib.hid h5
          clear h1 h2 h3 h4 h5 HTr HBr HNl HH HE HMk
          go_wp2_with fail
          go_roundw
          case rel => exact ⟨k + 1, e2, T2, v2, n2, A2, c2, x2, rfl, rfl, by go_num, by omega, by omega, HT2.out, HB2e.out, HH2e.out, HE2.out, HM2e.out⟩
          case measure => simp [intOf]; omega
      · have hke : 100 ≤ k := by omega
        go_wp2_with fail
        go_ret
        exact ⟨rfl, HBr.out⟩
    · have hke : m ≤ k := by omega
      go_wp2_with fail
      go_ret
      exact ⟨rfl, HBr.out⟩
theorem treeWork_law (w : World) (L : Int) (_hL : -9223372036854775808 ≤ L ∧ L ≤ 9223372036854775807) (A1 : Option Addr) (m c1 : Nat) (kd ix : Nat → Int) (lf : Nat → Nat) (hA1 : Rd w w.heap.size A1 (m * 34) (opF kd ix lf)) (hkd : ∀ i, -9223372036854775808 ≤ kd i ∧ kd i ≤ 9223372036854775807) (_hix : ∀ i, -9223372036854775808 ≤ ix i ∧ ix i ≤ 9223372036854775807) (hlf : ∀ i, lf i < 256) (_hm : m * 48 ≤ 140737488351232) (_hmc : m ≤ c1) (hp : ShaPkg w) (hpr : RefPkg w) (hpt : TzPkg w) :
    Calls Tryd.prog 6 #[.int .i64 L, .slice A1 m c1] w fun e w' => e = .returned (.bool true) ∧ Below w.heap.size w w' := by
  by_cases h : 1 ≤ L ∧ L ≤ 1073741824
  · obtain ⟨l, rfl⟩ : ∃ l : Nat, L = (l : Int) := ⟨L.toNat, by omega⟩
    exact work_in w l (by omega) (by omega) A1 m c1 kd ix lf hA1 hkd hlf hp hpr hpt
  · exact work_out w L (by omega) A1 m c1 hp hpt
end Go.Proofs.YtlcpflaofggmeaaDoor
