/- A part of what the proofs stand on: TreeGrowsLaw. -/
import Derived.Test.YtlcpflaofggmeaaDoorGTre22
/- Leaves that come one by one make the roots of trees. (Printed by a program of mine.) -/
namespace Go.Proofs.YtlcpflaofggmeaaDoor
set_option maxRecDepth 40000
open Go.RowKit
open TreeLaw TreeAwake TreeGet in
set_option maxHeartbeats 16000000 in
theorem treeGrows_law (w : World) (A : Option Addr) (n c : Nat) (x : Nat → Nat) (hA : Rd w w.heap.size A (n * 32) (u8v x)) (hx : ∀ i, x i < 256) (_hn : n * 32 ≤ 140737488351232) (hnc : n ≤ c) (A1 : Option Addr) (n1 c1 : Nat) (y : Nat → Bool) (hA1 : Rd w w.heap.size A1 n1 (fun i => .bool (y i))) (_hn1 : n1 ≤ 140737488351232) (L : Int) (_hL : -9223372036854775808 ≤ L ∧ L ≤ 9223372036854775807) (hp : ShaPkg w) (hpt : TzPkg w) :
    Calls Tryd.prog 4 #[.slice A n c, .slice A1 n1 c1, .int .i64 L] w fun e w' => e = .returned (.bool true) ∧ Below w.heap.size w w' := by
  have HP := Lib.hid hp
  have HPT := Lib.hid hpt
  have HPB := Lib.hid hp.lt
  have HTB := Lib.hid hpt.lt
  have HA := Lib.hid hA
  have HA1 := Lib.hid hA1
  have HX := Lib.hid hx
  obtain ⟨q, hq, hq2, hq3, hq4⟩ := cutK L 1000 (by omega)
  have HQ := Lib.hid hq2
  obtain ⟨l, hl⟩ : ∃ l, 60 + q = l := ⟨_, rfl⟩
  have HL := Lib.hid hl
  have hl1 : 60 ≤ l := by omega
  have hl2 : l ≤ 1060 := by omega
  have hLm : -1000 < L.tmod 1000 ∧ L.tmod 1000 < 1000 := ⟨hq3, hq4⟩
  clear hp hpt hA hA1 hx hq2 hq3 hq4 hl
  go_enter Tryd.func4, Tryd.ntmps4
  go_wp2_with (first
    | (go_at_call 8; refine (awake06_any _ HP.out HPT.out).mono ?_; rintro r w1 ⟨rfl, hb⟩; have HB1 := Lib.hid hb; clear hb)
    | (refine wpList_as rfl 19 rfl (.int .i64 (L.tmod 1000)) ?_ ?_; (· exact ex_bin rfl rfl rfl rfl (fun w => modI L 1000 (by omega) w) _))
    | (refine wpList_as rfl 20 rfl (.int .i64 (L.tmod 1000 + 1000)) ?_ ?_; (· exact ex_bin rfl rfl rfl rfl (fun w => addZ _ 1000 _ rfl (by omega) w) _))
    | (refine wpList_as rfl 21 rfl (.int .i64 (q : Int)) ?_ ?_; (· exact ex_bin rfl rfl rfl rfl (fun w => by rw [← HQ.out]; exact modI _ 1000 (by omega) w) _))
    | (refine wpList_as rfl 22 rfl (.int .i64 (l : Int)) ?_ ?_; (· exact ex_bin rfl rfl rfl rfl (fun w => addZ 60 (q : Int) (l : Int) (by have := HL.out; omega) (by omega) w) _))
    | (go_at_call 9; refine (tnew_look l (by omega) (by omega) _ (HP.out.below HB1.out)).mono ?_; rintro r w2 ⟨T, v, rfl, hm, hst, hl, hH, hD, hd, hb⟩; have HM2 := Lib.hid (TM.mono hm HB1.out.size); have HT2 := Lib.hid (hst.x_congr (x' := x) (fun i hi => by omega)); have HL2 := Lib.hid hl; have HH2 := Lib.hid hH; have HD2 := Lib.hid hD; have HB2 := Lib.hid (HB1.out.trans (hb.mono HB1.out.size)); clear hm hst hl hH hD hd hb))
  have hz2 := HB2.out.size
  go_loopw [8] (fun i wr => ∃ (k : Nat) (v1 : TV), i = .int .i64 (k : Int) ∧ k ≤ n ∧ k ≤ 60 ∧ TM wr w.heap.size T v1 ∧ TStep w2 wr T v v1 ∧ TSt v1 k x ∧ v1.H ≤ k * 1000) (fun i _ => 60 - (intOf i).toNat)
  case atStart => exact ⟨0, v, rfl, Nat.zero_le _, Nat.zero_le _, HM2.out, TStep.refl (Below.refl _ _), HT2.out, by rw [HH2.out]; exact Nat.zero_le _⟩
  case round =>
    obtain ⟨k, v1, rfl, hkn, hk60, hm, hs, hst, hH⟩ := hrel
    have HMk := Lib.hid hm
    have HSk := Lib.hid hs
    have HTk := Lib.hid hst
    have HHk := Lib.hid hH
    have HBk : Hid (Below w.heap.size w wr) := Lib.hid (HB2.out.trans (hs.below HM2.out (Nat.le_refl _) HM2.out.base_le))
    clear hm hs hst hH
    obtain ⟨wo, rfl⟩ : ∃ wo : World, wo = wr := ⟨_, rfl⟩
    by_cases hlt : k < n
    · by_cases hlt60 : k < 60
      · obtain ⟨ad, hAd, hAb, hAc⟩ := HA.out (by omega)
        have HAc : Hid (∀ w', Below w.heap.size w w' → ∀ q, q < 32 → w'.cell? ((ad.add (k * 32)).add q) = some (u8v (leafN x k) q)) := Lib.hid (fun w' hb q hq => by
          rw [add_add, (hb.cell (by rw [block_of_add]; exact hAb)), hAc _ (by omega)]
          rfl)
        have HAr : Hid (Rd w w.heap.size (some ad) (n * 32) (u8v x)) := Lib.hid (by rw [← hAd]; exact HA.out)
        subst hAd
        clear hAb hAc
        go_upto_region 13 with (first
          | (refine wpList_as rfl 40 rfl (.pointer (some (ad.add (k * 32)))) ?_ ?_; (· exact ex_idx rfl rfl rfl (fun w => run_idxZ (z := 32) w Tryd.underlying22 (by kernel_rfl) ad hlt) _))
          | (refine wpList_load_rd rfl 30 (.tmp 40) rfl 32 _ Tryd.underlying30 rfl (by kernel_rfl) (ad.add (k * 32)) rfl (u8v (leafN x k)) (HAc.out _ HBk.out) ?_)
          | (go_at_call 10; refine (tapp_any v1 w.heap.size T k l x (leafN x k) _ HMk.out HTk.out (HSk.out.lim.trans HL2.out) (fun _ => HX.out _)).mono ?_; rintro r w3 ⟨v2, rfl, hm, hs, hst, _, hH⟩; rw [show appK k l = 0 by unfold appK; rw [if_pos (by omega)]]; rw [show appM k l = k + 1 by unfold appM; rw [if_pos (by omega)], show appX k l x (leafN x k) = x by unfold appX; rw [if_pos (by omega)]; exact app_leaf x k] at hst; have HM3 := Lib.hid hm; have HS3 := Lib.hid (HSk.out.trans hs); have HT3 := Lib.hid hst; have HH3 := Lib.hid (show v2.H ≤ k * 1000 by rw [hH]; exact HHk.out); clear hm hs hst hH)
          | (go_at_call 14; refine (tlen_look v2 w.heap.size T _ HM3.out).mono ?_; rintro r w4 ⟨rfl, hw⟩; subst hw; rw [HT3.out.n0])
          | (refine wpList_asG rfl rfl rfl 48 rfl (.int .i64 ((k + 1 : Nat) : Int)) ?_ ?_; (· exact ex_bin rfl rfl rfl rfl (fun w => TreeRoot.add1I k (k + 1) rfl (by omega) w) _))
          | (go_at_call 15; refine (tget_in v2 w.heap.size T k (k + 1) _ HM3.out HT3.out.n0 (by omega)).mono ?_; rintro r w5 ⟨rfl, hb⟩; have HB5 := Lib.hid hb; clear hb)
          | (refine wpList_allocL rfl 30 9 rfl rfl (HS.nil _) (Array.replicate 32 (.int .u8 0)) (by kernel_rfl) 32 (u8v fun _ => 0) (by rfl) (zero_at 32 (.int .u8 0)) ?_; intro b9 wa6 hb9 hc9 hs; have HSa6 := Lib.hid hs; clear hs)
          | (refine wpList_storeH rfl 30 (.tmp 9) (.tmp 55) rfl HSa6.out 0 rfl (u8v fun q => v2.g 0 (k * 32 + q)) rfl rfl (by kernel_rfl) (fun _ _ => rfl) ?_; intro w7 hs; have HR7 := Lib.hid (hs.row 0 rfl); have HB7 := Lib.hid (HB5.out.trans ((hs.out (by simp; omega)).mono HB5.out.size)); clear hs))
        have HBw7 : Hid (Below w.heap.size w w7) := Lib.hid (HB2.out.trans ((HS3.out.below HM2.out (Nat.le_refl _) HM2.out.base_le).trans (HB7.out.mono (HM3.out.base_le))))
        have HM7 := Lib.hid (HM3.out.below HB7.out)
        have HS7 := Lib.hid (HS3.out.trans (TStep.refl HB7.out))
        have HEq : Hid (∀ q, q < 32 → v2.g 0 (k * 32 + q) = leafN x k q) := Lib.hid (fun q hq => HT3.out.x0 _ (by omega))
        clear HMk HSk HTk HHk HBk HM3 HS3 HB5 HB7 HSa6
        refine wp_region_facts (B := w7.heap.size) (w0 := w7) [SF.is (.int .i64 0), SF.is (.bool false), SF.is (.bool false), SF.is (rootV fun q => v2.g 0 (k * 32 + q)), SF.is (.slice (some ad) (n) (c)), SF.is (.int .i64 ((k : Nat) : Int)), SF.is (.pointer (some (ad.add (k * 32)))), SF.is (rootV (leafN x k)), SF.is (.bool false), SF.is (.bool false)] (by kernel_rfl) (by kernel_rfl) rfl (Nat.le_refl _) (Below.refl _ _) ⟨?_, ?_, ?_, ?_, ?_, ?_, ?_, ?_, ?_, ?_, trivial⟩ ?_
        · exact (opOb_move _ rfl (.inl rfl) rfl)
        · exact opOb_neSame .i64 0 rfl rfl (OpK.tmp rfl) OpK.const
        · exact (opOb_move _ rfl (.inl rfl) rfl)
        · exact opOb_on 59 rfl rfl (opOb_ld rfl rfl (OpK.tmp rfl) (fun w' hb => ld_all HR7.out HR7.out.lt Tryd.underlying30 rfl (by kernel_rfl) w' hb))
        · exact opOb_on 59 rfl rfl ((opOb_move _ rfl (.inl rfl) rfl))
        · exact opOb_on 59 rfl rfl ((opOb_move _ rfl (.inl rfl) rfl))
        · exact opOb_on 59 rfl rfl (opOb_idx rfl rfl (OpK.tmp rfl) (OpK.tmp rfl) (fun w => run_idxZ (z := 32) w Tryd.underlying22 (by kernel_rfl) ad hlt))
        · exact opOb_on 59 rfl rfl (opOb_ld rfl rfl (OpK.tmp rfl) (fun w' hb => run_loadAt_rd w' _ 32 30 _ _ (HAc.out w' (HBw7.out.trans (hb.mono HBw7.out.size))) Tryd.underlying30 rfl (by kernel_rfl)))
        · exact opOb_on 59 rfl rfl (TreeSt.opOb_neR true rfl rfl (OpK.tmp rfl) (OpK.tmp rfl) (by simp only [true_iff]; exact HEq.out))
        · exact opOb_pickF rfl rfl rfl (OpK.tmp rfl)
        · intro w' hb
          simp only [fin, SF.is, forall_eq]
          simp only [Act.put, List.setIfInBounds_toArray, List.set_cons_succ, List.set_cons_zero]
          have HBw8 := Lib.hid (HBw7.out.trans (hb.mono HBw7.out.size))
          have HM8 := Lib.hid (HM7.out.below hb)
          have HS8 := Lib.hid (HS7.out.trans (TStep.refl hb))
          obtain ⟨w8, hw8⟩ : ∃ w8 : World, w8 = w' := ⟨_, rfl⟩
          subst hw8
          clear hb HM7 HS7 HBw7 HR7
          go_upto_region 15 with fail
          go_cut [76] from 67 to 76 (fun vb wx => (∃ b, vb = .bool b) ∧ w8 = wx)
          case first =>
            by_cases hk1 : k < n1
            · obtain ⟨ad1, rfl, hAb1, hAc1⟩ := HA1.out (by omega)
              have HAy : Hid (w8.cell? (ad1.add (k * 1)) = some (.bool (y k))) := Lib.hid (by
                rw [Nat.mul_one, HBw8.out.cell (by rw [block_of_add]; exact hAb1), hAc1 k hk1])
              clear hAb1 hAc1
              go_wp2_with (refine wpList_as rfl 70 rfl (.bool true) ?_ ?_; (· exact ex_bin rfl rfl rfl rfl (fun w => TreeRoot.ltB k n1 true (by simp [hk1]) w) _); refine PickRich.stop_here ?_)
              refine Lib.hid ?_
              refine wpList_as rfl 71 rfl (.bool true) (by apply TreeRoot.ex_mv <;> rfl) ?_
              simp only [Act.put, List.setIfInBounds_toArray, List.set_cons_succ, List.set_cons_zero]
              refine wpList_asG rfl rfl rfl 72 rfl (.slice (some ad1) n1 c1) (by apply TreeRoot.ex_mv <;> rfl) ?_
              simp only [Act.put, List.setIfInBounds_toArray, List.set_cons_succ, List.set_cons_zero]
              refine wpList_asG rfl rfl rfl 73 rfl (.int .i64 (k : Int)) (by apply TreeRoot.ex_mv <;> rfl) ?_
              simp only [Act.put, List.setIfInBounds_toArray, List.set_cons_succ, List.set_cons_zero]
              refine wpList_asG rfl rfl rfl 74 rfl (.pointer (some (ad1.add (k * 1)))) (by exact ex_idx rfl rfl rfl (fun w => run_idxZ (z := 1) w Tryd.underlying36 (by kernel_rfl) ad1 hk1) _) ?_
              simp only [Act.put, List.setIfInBounds_toArray, List.set_cons_succ, List.set_cons_zero]
              refine wpList_asG rfl rfl rfl 75 rfl (.bool (y k)) (by exact ex_ldB rfl rfl Tryd.underlying4 HAy.out) ?_
              simp only [Act.put, List.setIfInBounds_toArray, List.set_cons_succ, List.set_cons_zero]
              go_wp2_with fail
              go_meet
              case rel => exact ⟨⟨_, rfl⟩, rfl⟩
            · go_wp2_with (refine wpList_as rfl 70 rfl (.bool false) ?_ ?_; (· exact ex_bin rfl rfl rfl rfl (fun w => TreeRoot.ltB k n1 false (by simp [hk1]) w) _))
              go_meet
              case rel => exact ⟨⟨_, rfl⟩, rfl⟩
          case rest =>
            obtain ⟨⟨b, rfl⟩, rfl⟩ := hcut
            cases b with
            | false =>
              go_wp2_with fail
              go_roundw
              case rel => exact ⟨k + 1, v2, by go_num, by omega, by omega, HM8.out, HS8.out, HT3.out, by have := HH3.out; omega⟩
              case measure => simp [intOf]; omega
            | true =>
              obtain ⟨Z, hZ⟩ : ∃ Z, treeN (dep l) (k + 1) x = Z := ⟨_, rfl⟩
              have HZ := Lib.hid hZ
              have HZV : Hid (rootV (treeN v2.D (k + 1) x) = rootV Z) := Lib.hid (by rw [HS8.out.D, HD2.out, hZ])
              clear hZ
              go_upto_region 17 with (first
                | (refine wpList_as rfl 80 rfl (.int .i64 ((k + 1 : Nat) : Int)) ?_ ?_; (· exact ex_bin rfl rfl rfl rfl (fun w => TreeRoot.add1I k (k + 1) rfl (by omega) w) _))
                | (refine wpList_as rfl 81 rfl (.slice (some ad) (k + 1) c) ?_ ?_; (· exact ex_slice rfl rfl rfl rfl (fun w => cut_toZ (z := 32) Tryd.underlying22 (by kernel_rfl) (some ad) n c (k + 1) (by omega) w) _))
                | (go_at_call 13; refine (tree_any (k + 1) c (some ad) x (l : Int) _ (((HAr.out.below (HBw8.out)).more HBw8.out.size).short (by omega)) HX.out (by omega) (HP.out.below HBw8.out)).mono ?_; rintro r w9 ⟨rfl, hb⟩; rw [treeR_ok x (by omega) (by omega), treeK_ok (by omega) (by omega), HZ.out]; have HBt := Lib.hid hb; clear hb)
                | (refine wpList_allocL rfl 30 11 rfl rfl (HS.nil _) (Array.replicate 32 (.int .u8 0)) (by kernel_rfl) 32 (u8v fun _ => 0) (by rfl) (zero_at 32 (.int .u8 0)) ?_; intro b11 wa10 hb11 hc11 hs; have HSa10 := Lib.hid hs; clear hs)
                | (refine wpList_storeH rfl 30 (.tmp 11) (.tmp 84) rfl HSa10.out 0 rfl (u8v Z) rfl rfl (by kernel_rfl) (fun _ _ => rfl) ?_; intro w11 hs; have HR11 := Lib.hid (hs.row 0 rfl); have HB11 := Lib.hid (HBt.out.trans ((hs.out (by simp; omega)).mono HBt.out.size)); clear hs))
              have HM11 := Lib.hid (HM8.out.below HB11.out)
              have HS11 := Lib.hid (HS8.out.trans (TStep.refl HB11.out))
              have HBw11 := Lib.hid (HBw8.out.trans (HB11.out.mono HBw8.out.size))
              have HP11 := Lib.hid (HP.out.below HBw11.out)
              have HPT11 := Lib.hid (HPT.out.below HBw11.out HTB.out)
              have HN11 : Hid (¬ v2.own T b11) := Lib.hid (fun ho => by have := HM8.out.lt ho; have := HBt.out.size; omega)
              have HTt11 := Lib.hid HT3.out
              have HH11 := Lib.hid HH3.out
              clear HM8 HS8 HBw8 HSa10 HBt HB11
              refine wp_region_stage (l := [_, _, _, _, _, _, _, _]) (N := 1) (RJ w.heap.size T (k + 1) x w11 v2) [SF.is (.int .i64 0), SF.is (.bool false), SF.is (.bool false), SF.is (tpV T), SF.is (rootV Z), SF.is (rootV Z), SF.is (.bool false), SF.is (.bool false)] [none, none, none, none, some 0, none, none, none] (by kernel_rfl) (by kernel_rfl) (by kernel_rfl) rfl rfl (fun k w1 w2 hj hb => hj.below hb) (pure_is (Fs := [.int .i64 0, .bool false, .bool false, tpV T, rootV Z, rootV Z, .bool false, .bool false])) (RJ.start HM11.out HTt11.out) ⟨?_, ?_, ?_, ?_, ?_, ?_, ?_, ?_, trivial⟩ ?_
              · exact fun kj wj hj => (opOb_move _ rfl (.inl rfl) rfl)
              · exact fun kj wj hj => opOb_neSame .i64 0 rfl rfl (OpK.tmp rfl) OpK.const
              · exact fun kj wj hj => (opOb_move _ rfl (.inl rfl) rfl)
              · exact fun kj wj hj => opOb_on 88 rfl rfl ((opOb_move _ rfl (.inl rfl) rfl))
              · exact opJ_on 88 rfl rfl (opJ_fn1 TreeLaw.ent_root rfl rfl (OpK.tmp rfl) (fun wj hj => (hj.root HM11.out (by have := HH11.out; omega) HP11.out HPB.out HPT11.out HTB.out).mono fun e w2 ⟨r, he, hr, hj2⟩ => ⟨r, he, (by rw [hr, HZV.out]; rfl), hj2⟩))
              · exact fun kj wj hj => opOb_on 88 rfl rfl (opOb_ld rfl rfl (OpK.tmp rfl) (fun w' hb => ld_all (hj.row HR11.out HN11.out) (hj.row HR11.out HN11.out).lt Tryd.underlying30 rfl (by kernel_rfl) w' hb))
              · exact fun kj wj hj => opOb_on 88 rfl rfl (TreeSt.opOb_neR true rfl rfl (OpK.tmp rfl) (OpK.tmp rfl) (by simp))
              · exact fun kj wj hj => opOb_pickF rfl rfl rfl (OpK.tmp rfl)
              · intro wn hj
                simp only [fin, SF.is, forall_eq]
                simp only [Act.put, List.setIfInBounds_toArray, List.set_cons_succ, List.set_cons_zero]
                obtain ⟨v3, hm, hs, hst, _, hH⟩ := hj.done
                have HM12 := Lib.hid hm
                have HS12 := Lib.hid (HS11.out.trans hs)
                have HT12 := Lib.hid hst
                have HH12 : Hid (v3.H ≤ (k + 1) * 1000) := Lib.hid (by
                  have h1 := cost_le (k + 1) (dirB v2.dn v2.dw) v2.D
                  have h2 := HT3.out.D30
                  have h3 := HH3.out
                  omega)
                clear hj hm hs hst hH
                go_wp2_with fail
                go_roundw
                case rel => exact ⟨k + 1, v3, by go_num, by omega, by omega, HM12.out, HS12.out, HT12.out, HH12.out⟩
                case measure => simp [intOf]; omega
      · have hke : 60 ≤ k := by omega
        obtain ⟨Z, hZ⟩ : ∃ Z, treeN (dep l) k x = Z := ⟨_, rfl⟩
        have HZ := Lib.hid hZ
        have HZV : Hid (rootV (treeN v1.D k x) = rootV Z) := Lib.hid (by rw [HSk.out.D, HD2.out, hZ])
        have HMin : Hid ((k : Int) = if (60 : Int) < (n : Int) then 60 else (n : Int)) := Lib.hid (by split <;> omega)
        clear hZ
        go_upto_region 21 with (first
          | (refine wpList_min rfl rfl .i64 (n : Int) 60 (k : Int) rfl rfl HMin.out ?_)
          | (refine wpList_as rfl 100 rfl (.slice A k c) ?_ ?_; (· exact ex_slice rfl rfl rfl rfl (fun w => cut_toZ (z := 32) Tryd.underlying22 (by kernel_rfl) A n c k (by omega) w) _))
          | (go_at_call 13; refine (tree_any k c A x (l : Int) _ (((HA.out.below (HBk.out)).more HBk.out.size).short (by omega)) HX.out (by omega) (HP.out.below HBk.out)).mono ?_; rintro r w12 ⟨rfl, hb⟩; rw [treeR_ok x (by omega) (by omega), treeK_ok (by omega) (by omega), HZ.out]; have HBt := Lib.hid hb; clear hb)
          | (refine wpList_allocL rfl 30 14 rfl rfl (HS.nil _) (Array.replicate 32 (.int .u8 0)) (by kernel_rfl) 32 (u8v fun _ => 0) (by rfl) (zero_at 32 (.int .u8 0)) ?_; intro b14 wa13 hb14 hc14 hs; have HSa13 := Lib.hid hs; clear hs)
          | (refine wpList_storeH rfl 30 (.tmp 14) (.tmp 103) rfl HSa13.out 0 rfl (u8v Z) rfl rfl (by kernel_rfl) (fun _ _ => rfl) ?_; intro w14 hs; have HR14 := Lib.hid (hs.row 0 rfl); have HB14 := Lib.hid (HBt.out.trans ((hs.out (by simp; omega)).mono HBt.out.size)); clear hs))
        have HM14 := Lib.hid (HMk.out.below HB14.out)
        have HBw14 := Lib.hid (HBk.out.trans (HB14.out.mono HBk.out.size))
        have HP14 := Lib.hid (HP.out.below HBw14.out)
        have HPT14 := Lib.hid (HPT.out.below HBw14.out HTB.out)
        have HN14 : Hid (¬ v1.own T b14) := Lib.hid (fun ho => by have := HMk.out.lt ho; have := HBt.out.size; omega)
        have HTt14 := Lib.hid HTk.out
        have HH14 := Lib.hid HHk.out
        refine wp_region_stage (l := [_, _, _, _, _, _, _, _, _, _, _, _, _, _, _]) (N := 1) (RJ w.heap.size T k x w14 v1) [SF.is (.int .i64 0), SF.is (.bool true), SF.is (.bool true), SF.is (tpV T), SF.is (rootV Z), SF.is (rootV Z), SF.is (.bool true), SF.is (.bool true), SF.is (.bool true), SF.is (tpV T), SF.is (.int .i64 ((k : Nat) : Int)), SF.is (.int .i64 ((k : Nat) : Int)), SF.is (.bool true), SF.is (.bool true), SF.is (.bool true)] [none, none, none, none, some 0, none, none, none, none, none, none, none, none, none, none] (by kernel_rfl) (by kernel_rfl) (by kernel_rfl) rfl rfl (fun k w1 w2 hj hb => hj.below hb) (pure_is (Fs := [.int .i64 0, .bool true, .bool true, tpV T, rootV Z, rootV Z, .bool true, .bool true, .bool true, tpV T, .int .i64 ((k : Nat) : Int), .int .i64 ((k : Nat) : Int), .bool true, .bool true, .bool true])) (RJ.start HM14.out HTt14.out) ⟨?_, ?_, ?_, ?_, ?_, ?_, ?_, ?_, ?_, ?_, ?_, ?_, ?_, ?_, ?_, trivial⟩ ?_
        · exact fun kj wj hj => (opOb_move _ rfl (.inl rfl) rfl)
        · exact fun kj wj hj => opOb_eqInt .i64 0 0 true Tryd.underlying27 (by simp) rfl rfl (OpK.tmp rfl) OpK.const
        · exact fun kj wj hj => (opOb_move _ rfl (.inl rfl) rfl)
        · exact fun kj wj hj => opOb_on 107 rfl rfl ((opOb_move _ rfl (.inl rfl) rfl))
        · exact opJ_on 107 rfl rfl (opJ_fn1 TreeLaw.ent_root rfl rfl (OpK.tmp rfl) (fun wj hj => (hj.root HM14.out (by have := HH14.out; omega) HP14.out HPB.out HPT14.out HTB.out).mono fun e w2 ⟨r, he, hr, hj2⟩ => ⟨r, he, (by rw [hr, HZV.out]; rfl), hj2⟩))
        · exact fun kj wj hj => opOb_on 107 rfl rfl (opOb_ld rfl rfl (OpK.tmp rfl) (fun w' hb => ld_all (hj.row HR14.out HN14.out) (hj.row HR14.out HN14.out).lt Tryd.underlying30 rfl (by kernel_rfl) w' hb))
        · exact fun kj wj hj => opOb_on 107 rfl rfl (opOb_eqRB true rfl rfl (OpK.tmp rfl) (OpK.tmp rfl) (by simp))
        · exact fun kj wj hj => opOb_pickT rfl rfl rfl (OpK.tmp rfl)
        · exact fun kj wj hj => (opOb_move _ rfl (.inl rfl) rfl)
        · exact fun kj wj hj => opOb_on 113 rfl rfl ((opOb_move _ rfl (.inl rfl) rfl))
        · exact fun kj wj hj => opOb_on 113 rfl rfl (opOb_fn1 TreeLaw.ent_len rfl rfl (OpK.tmp rfl) (fun w2 hb => (hj.len hb).mono fun e w3 ⟨r, he, hr, hb2⟩ => ⟨r, he, hr, hb2⟩))
        · exact fun kj wj hj => opOb_on 113 rfl rfl ((opOb_move _ rfl (.inl rfl) rfl))
        · exact fun kj wj hj => opOb_on 113 rfl rfl (opOb_eqInt .i64 (k : Int) (k : Int) true Tryd.underlying3 (by simp) rfl rfl (OpK.tmp rfl) (OpK.tmp rfl))
        · exact fun kj wj hj => opOb_pickT rfl rfl rfl (OpK.tmp rfl)
        · exact fun kj wj hj => (opOb_move _ rfl (.inr rfl) rfl)
        · intro wn hj
          simp only [fin, SF.is, forall_eq]
          simp only [Act.put, List.setIfInBounds_toArray, List.set_cons_succ, List.set_cons_zero]
          obtain ⟨v3, hm, hs, hst, _, hH⟩ := hj.done
          have HBe := Lib.hid (HBw14.out.trans ((hs.below HM14.out (Nat.le_refl _) HM14.out.base_le)))
          clear hj hm hs hst hH
          go_wp2_with fail
          go_ret
          exact ⟨rfl, HBe.out⟩
    · have hke : n ≤ k := by omega
      obtain ⟨Z, hZ⟩ : ∃ Z, treeN (dep l) k x = Z := ⟨_, rfl⟩
      have HZ := Lib.hid hZ
      have HZV : Hid (rootV (treeN v1.D k x) = rootV Z) := Lib.hid (by rw [HSk.out.D, HD2.out, hZ])
      have HMin : Hid ((k : Int) = if (60 : Int) < (n : Int) then 60 else (n : Int)) := Lib.hid (by split <;> omega)
      clear hZ
      go_upto_region 21 with (first
        | (refine wpList_min rfl rfl .i64 (n : Int) 60 (k : Int) rfl rfl HMin.out ?_)
        | (refine wpList_as rfl 100 rfl (.slice A k c) ?_ ?_; (· exact ex_slice rfl rfl rfl rfl (fun w => cut_toZ (z := 32) Tryd.underlying22 (by kernel_rfl) A n c k (by omega) w) _))
        | (go_at_call 13; refine (tree_any k c A x (l : Int) _ (((HA.out.below (HBk.out)).more HBk.out.size).short (by omega)) HX.out (by omega) (HP.out.below HBk.out)).mono ?_; rintro r w12 ⟨rfl, hb⟩; rw [treeR_ok x (by omega) (by omega), treeK_ok (by omega) (by omega), HZ.out]; have HBt := Lib.hid hb; clear hb)
        | (refine wpList_allocL rfl 30 14 rfl rfl (HS.nil _) (Array.replicate 32 (.int .u8 0)) (by kernel_rfl) 32 (u8v fun _ => 0) (by rfl) (zero_at 32 (.int .u8 0)) ?_; intro b14 wa13 hb14 hc14 hs; have HSa13 := Lib.hid hs; clear hs)
        | (refine wpList_storeH rfl 30 (.tmp 14) (.tmp 103) rfl HSa13.out 0 rfl (u8v Z) rfl rfl (by kernel_rfl) (fun _ _ => rfl) ?_; intro w14 hs; have HR14 := Lib.hid (hs.row 0 rfl); have HB14 := Lib.hid (HBt.out.trans ((hs.out (by simp; omega)).mono HBt.out.size)); clear hs))
      have HM14 := Lib.hid (HMk.out.below HB14.out)
      have HBw14 := Lib.hid (HBk.out.trans (HB14.out.mono HBk.out.size))
      have HP14 := Lib.hid (HP.out.below HBw14.out)
      have HPT14 := Lib.hid (HPT.out.below HBw14.out HTB.out)
      have HN14 : Hid (¬ v1.own T b14) := Lib.hid (fun ho => by have := HMk.out.lt ho; have := HBt.out.size; omega)
      have HTt14 := Lib.hid HTk.out
      have HH14 := Lib.hid HHk.out
      refine wp_region_stage (l := [_, _, _, _, _, _, _, _, _, _, _, _, _, _, _]) (N := 1) (RJ w.heap.size T k x w14 v1) [SF.is (.int .i64 0), SF.is (.bool true), SF.is (.bool true), SF.is (tpV T), SF.is (rootV Z), SF.is (rootV Z), SF.is (.bool true), SF.is (.bool true), SF.is (.bool true), SF.is (tpV T), SF.is (.int .i64 ((k : Nat) : Int)), SF.is (.int .i64 ((k : Nat) : Int)), SF.is (.bool true), SF.is (.bool true), SF.is (.bool true)] [none, none, none, none, some 0, none, none, none, none, none, none, none, none, none, none] (by kernel_rfl) (by kernel_rfl) (by kernel_rfl) rfl rfl (fun k w1 w2 hj hb => hj.below hb) (pure_is (Fs := [.int .i64 0, .bool true, .bool true, tpV T, rootV Z, rootV Z, .bool true, .bool true, .bool true, tpV T, .int .i64 ((k : Nat) : Int), .int .i64 ((k : Nat) : Int), .bool true, .bool true, .bool true])) (RJ.start HM14.out HTt14.out) ⟨?_, ?_, ?_, ?_, ?_, ?_, ?_, ?_, ?_, ?_, ?_, ?_, ?_, ?_, ?_, trivial⟩ ?_
      · exact fun kj wj hj => (opOb_move _ rfl (.inl rfl) rfl)
      · exact fun kj wj hj => opOb_eqInt .i64 0 0 true Tryd.underlying27 (by simp) rfl rfl (OpK.tmp rfl) OpK.const
      · exact fun kj wj hj => (opOb_move _ rfl (.inl rfl) rfl)
      · exact fun kj wj hj => opOb_on 107 rfl rfl ((opOb_move _ rfl (.inl rfl) rfl))
      · exact opJ_on 107 rfl rfl (opJ_fn1 TreeLaw.ent_root rfl rfl (OpK.tmp rfl) (fun wj hj => (hj.root HM14.out (by have := HH14.out; omega) HP14.out HPB.out HPT14.out HTB.out).mono fun e w2 ⟨r, he, hr, hj2⟩ => ⟨r, he, (by rw [hr, HZV.out]; rfl), hj2⟩))
      · exact fun kj wj hj => opOb_on 107 rfl rfl (opOb_ld rfl rfl (OpK.tmp rfl) (fun w' hb => ld_all (hj.row HR14.out HN14.out) (hj.row HR14.out HN14.out).lt Tryd.underlying30 rfl (by kernel_rfl) w' hb))
      · exact fun kj wj hj => opOb_on 107 rfl rfl (opOb_eqRB true rfl rfl (OpK.tmp rfl) (OpK.tmp rfl) (by simp))
      · exact fun kj wj hj => opOb_pickT rfl rfl rfl (OpK.tmp rfl)
      · exact fun kj wj hj => (opOb_move _ rfl (.inl rfl) rfl)
      · exact fun kj wj hj => opOb_on 113 rfl rfl ((opOb_move _ rfl (.inl rfl) rfl))
      · exact fun kj wj hj => opOb_on 113 rfl rfl (opOb_fn1 TreeLaw.ent_len rfl rfl (OpK.tmp rfl) (fun w2 hb => (hj.len hb).mono fun e w3 ⟨r, he, hr, hb2⟩ => ⟨r, he, hr, hb2⟩))
      · exact fun kj wj hj => opOb_on 113 rfl rfl ((opOb_move _ rfl (.inl rfl) rfl))
      · exact fun kj wj hj => opOb_on 113 rfl rfl (opOb_eqInt .i64 (k : Int) (k : Int) true Tryd.underlying3 (by simp) rfl rfl (OpK.tmp rfl) (OpK.tmp rfl))
      · exact fun kj wj hj => opOb_pickT rfl rfl rfl (OpK.tmp rfl)
      · exact fun kj wj hj => (opOb_move _ rfl (.inr rfl) rfl)
      · intro wn hj
        simp only [fin, SF.is, forall_eq]
        simp only [Act.put, List.setIfInBounds_toArray, List.set_cons_succ, List.set_cons_zero]
        obtain ⟨v3, hm, hs, hst, _, hH⟩ := hj.done
        have HBe := Lib.hid (HBw14.out.trans ((hs.below HM14.out (Nat.le_refl _) HM14.out.base_le)))
        clear hj hm hs hst hH
        go_wp2_with fail
        go_ret
        exact ⟨rfl, HBe.out⟩
end Go.Proofs.YtlcpflaofggmeaaDoor
