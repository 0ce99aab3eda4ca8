/- A part of what the proofs stand on: MerkleBranchesIn, MerkleBranchesOut, MerkleBranchesLaw. -/
import Derived.Test.YtjmbgdldnnmipaaDoorGMerkleBranches1
/- The law MerkleBranches, for a chunk that is there. (Printed by a program of mine.) -/
namespace Go.Proofs.YtjmbgdldnnmipaaDoor
set_option maxRecDepth 40000
open Go.RowKit
open MerkleBranchesLaw in
set_option maxHeartbeats 16000000 in
theorem branches_in (w : World) (A : Option Addr) (n c : Nat) (x : Nat → Nat) (hA : Rd w w.heap.size A (n * 32) (u8v x)) (hx : ∀ i, x i < 256) (_hn : n * 32 ≤ 140737488351232) (hnc : n ≤ c) (l i : Nat) (j : Int) (hj' : -9223372036854775808 ≤ j ∧ j ≤ 9223372036854775807) (y : Nat → Nat) (hy : ∀ i, y i < 256) (hl : l ≤ 1099511627776) (hnl : n ≤ l) (hi : i < 2 ^ dep l) (hin : i < n) (hp : ShaPkg w) (hpr : RefPkg w) :
    Calls Tryd.prog 8 #[.slice A n c, .int .i64 (l : Int), .int .i64 (i : Int), .int .i64 j, rootV y] w fun e w' => e = .returned (.bool true) ∧ Below w.heap.size w w' := by
  have HX := Lib.hid hA
  have HXl := Lib.hid hx
  have HYl := Lib.hid hy
  have HP := Lib.hid hp
  have HPR := Lib.hid hpr
  have HS0 := Lib.hid (HS.nil w)
  have HB1 := Lib.hid (fun (w : World) (hA : Rd w w.heap.size A (n * 32) (u8v x)) hp => branch_ok n c A x l i w hA hx hnc hl hnl hi hp)
  have HB2 := Lib.hid (fun (w : World) (hA : Rd w w.heap.size A (n * 32) (u8v x)) hp => branch_ref n c A x l i w hA hx hnc hl hnl hi hp)
  have hnD : n ≤ 2 ^ dep l := Nat.le_trans hnl (dep_ge l)
  have hD40 : dep l ≤ 40 := dep_le (k := 40) (by omega)
  have hi2 : i < 1099511627776 := Nat.lt_of_lt_of_le hi (Nat.pow_le_pow_right (n := 2) (by omega) hD40)
  obtain ⟨L, hL⟩ : ∃ L : Nat → Nat, L = fun q => padN (n * 32) x (i * 32 + q) := ⟨_, rfl⟩
  obtain ⟨R, hR⟩ : ∃ R, R = treeN (dep l) n x := ⟨_, rfl⟩
  obtain ⟨B, hB⟩ : ∃ B, B = brN n x i := ⟨_, rfl⟩
  have HR := Lib.hid hR.symm
  have HLl := Lib.hid (show ∀ q, L q < 256 by rw [hL]; exact fun q => padN_lt hx _)
  have HBl := Lib.hid (show ∀ q, B q < 256 by rw [hB]; exact fun q => levN_lt (padN_lt hx) _ _)
  have HH := Lib.hid (show holdsB (dep l) B L R i = true by
    unfold holdsB
    rw [if_pos (by omega), hB, hR]
    refine eqB_of (fun q hq => ?_)
    rw [up_branch n x i L (fun q _ => by rw [hL]) (dep l) q hq, tree_lev (dep l) n x hnD q hq, Nat.div_eq_of_lt hi, Nat.zero_mul, Nat.zero_add])
  have HLx := Lib.hid (show ∀ q, q < 32 → u8v x (i * 32 + q) = u8v L q by
    intro q hq
    rw [hL]
    simp only [u8v, padN]
    rw [if_pos (by omega)])
  rw [← hB] at HB1 HB2
  obtain ⟨D, hD⟩ : ∃ D, D = dep l := ⟨_, rfl⟩
  rw [← hD] at HB1 HB2 HH hD40
  have ti : decide ((i : Int) < (n : Int)) = true := decide_eq_true (by omega)
  obtain ⟨ad, hAe, _, _⟩ := HX.out (by omega)
  subst hAe
  clear hA hx hy hp hpr hL hR hB hD hi hnD
  go_enter Tryd.func8, Tryd.ntmps8
  go_upto_region 15 with (first
    | (refine wpList_boxL rfl 23 _ 9 rfl rfl HS0.out 32 (u8v y) rfl ?_; intro b9 w9 hb9 hc9 hs; have HS9 := Lib.hid hs; clear hs)
    | (go_at_call 14; refine (awake05_any _ (HP.out.below (HS9.out.out (by simp; omega)))).mono ?_; rintro e w1 ⟨rfl, hb⟩; have HS1 := Lib.hid (HS9.out.below hb); clear hb)
    | (go_at_call 27; refine (HB1.out _ ((HX.out.below (HS1.out.out (by simp; omega))).more HS1.out.size) (HP.out.below (HS1.out.out (by simp; omega)))).mono ?_; rintro e w2 ⟨b3, rfl, hr, hb3, hb⟩; have HS2 := Lib.hid ((HS1.out.below hb).add hr (by have := HS1.out.size; omega) (by have := HS1.out.lt 0 rfl; simp; omega)); have hsz1 := HS1.out.size; clear hr hb)
    | (go_at_call 28; refine (HB2.out _ ((HX.out.below (HS2.out.out (by simp; omega))).more HS2.out.size) (HPR.out.below (HS2.out.out (by simp; omega)))).mono ?_; rintro e w3 ⟨A4, c4, rfl, ho, hb⟩; have HS3 := Lib.hid (HS2.out.below hb); have HO3 := Lib.hid ho.rd; clear ho hb)
    | (go_at_call 21; refine (sameR_any D D c4 (some ⟨b3, 0, none⟩) A4 B _ (Rd.of_row (HS3.out.row 0 rfl) (Nat.le_refl _) (HS3.out.lt 0 rfl)) HO3.out (by omega)).mono ?_; rintro e w4 ⟨rfl, hb⟩; have HS4 := Lib.hid (HS3.out.below hb); clear hb)
    | (go_at_call 17; refine (tree_ok n c _ x l _ ((HX.out.below (HS4.out.out (by simp; omega))).more HS4.out.size) HXl.out hnc (by omega) (by omega) (HP.out.below (HS4.out.out (by simp; omega)))).mono ?_; rintro e w5 ⟨rfl, hb⟩; rw [HR.out]; have HS5 := Lib.hid (HS4.out.below hb); clear hb)
    | (refine wpList_allocL rfl 23 15 rfl rfl HS5.out (Array.replicate 32 (.int .u8 0)) (by kernel_rfl) 32 (u8v fun _ => 0) (by rfl) (zero_at 32 (.int .u8 0)) ?_; intro b15 w6 hb15 hcb15 hs; have HS6 := Lib.hid hs; clear hs)
    | (refine wpList_storeH rfl 23 (.tmp 15) (.tmp 52) rfl HS6.out 0 rfl (u8v R) rfl rfl (by kernel_rfl) (fun _ _ => rfl) ?_; intro w7 hs; have HS7 := Lib.hid hs; clear hs)
    | (refine wpList_build_as rfl 23 #[] rfl [] rfl (arr 32 (u8v fun _ => 0)) (by kernel_rfl) ?_)
    | (refine wpList_allocL rfl 23 17 rfl rfl HS7.out (Array.replicate 32 (.int .u8 0)) (by kernel_rfl) 32 (u8v fun _ => 0) (by rfl) (zero_at 32 (.int .u8 0)) ?_; intro b17 w8 hb17 hcb17 hs; have HS8 := Lib.hid hs; clear hs)
    | (refine wpList_storeH rfl 23 (.tmp 17) (.tmp 54) rfl HS8.out 0 rfl (u8v fun _ => 0) rfl rfl (by kernel_rfl) (fun _ _ => rfl) ?_; intro w10 hs; have HS10 := Lib.hid hs; clear hs)
    | (refine wpList_as rfl 61 rfl (.pointer (some (ad.add (i * 32)))) ?_ ?_; (· exact ex_idx rfl rfl rfl (fun w => run_idxZ (z := 32) w Tryd.underlying24 (by kernel_rfl) ad (by omega)) _))
    | (refine wpList_load_rd rfl 23 _ rfl 32 _ Tryd.underlying23 rfl (by kernel_rfl) (ad.add (i * 32)) rfl (u8v L) (fun q hq => by rw [add_add]; exact (((HX.out.below (HS10.out.out (by simp; omega))).more HS10.out.size).cell_ (show i * 32 + q < n * 32 by omega)).trans (congrArg some (HLx.out q hq))) ?_)
    | (refine wpList_storeH rfl 23 (.tmp 17) (.tmp 62) rfl HS10.out 0 rfl (u8v L) rfl rfl (by kernel_rfl) (fun _ _ => rfl) ?_; intro w11 hs; have HSL := Lib.hid hs; clear hs)
    | (refine wpList_load_rdG rfl rfl rfl 23 _ rfl 32 _ Tryd.underlying23 rfl (by kernel_rfl) ⟨b17, 0, none⟩ rfl (u8v L) (fun q hq => by rw [add_lit0]; exact HSL.out.cell 0 q rfl hq) ?_)
    | (refine wpList_load_rdG rfl rfl rfl 23 _ rfl 32 _ Tryd.underlying23 rfl (by kernel_rfl) ⟨b15, 0, none⟩ rfl (u8v R) (fun q hq => by rw [add_lit0]; exact HSL.out.cell 1 q rfl hq) ?_)
    | (refine wpList_asG rfl rfl rfl 69 rfl (.int .u64 (i : Int)) ?_ ?_; (· exact ex_cnv rfl rfl (fun w => cvU i (by omega) w) _))
    | (go_at_call 15; refine (holds_any D D (some ⟨b3, 0, none⟩) B L R i _ (Rd.of_row (HSL.out.row 2 rfl) (Nat.le_refl _) (HSL.out.lt 2 rfl)) HBl.out HLl.out (Nat.le_refl _) (by omega) (HP.out.below (HSL.out.out (by simp; omega)))).mono ?_; rintro e wa ⟨rfl, hb⟩; rw [HH.out]; have HSA := Lib.hid (HSL.out.below hb); clear hb))
  have hA : HS w wa [⟨b17, 23, 32, u8v L⟩, ⟨b15, 23, 32, u8v R⟩, ⟨b3, 23, D * 32, u8v B⟩, ⟨b9, 23, 32, u8v y⟩] := HSA.out
  have HA := Lib.hid hA
  have HW := Lib.hid (hA.out (by simp; omega))
  clear hA HSA
  refine wp_region_facts (B := wa.heap.size) (w0 := wa) [SF.is (rootV y), SF.is (.slice (some ⟨b3, 0, none⟩) (D) (D)), SF.is (.int .i64 ((i : Nat) : Int)), SF.is (.int .u64 ((i : Nat) : Int)), SF.is (rootV R), SF.is (.bool (holdsB D B y R i)), SF.is (rootV y), SF.is (.slice (some ⟨b3, 0, none⟩) (D) (D)), SF.is (.int .i64 ((i : Nat) : Int)), SF.is (.int .u64 ((i : Nat) : Int)), SF.is (rootV R), SF.is (.bool (holdsB D B y R i)), SF.is (.bool false)] (by kernel_rfl) (by kernel_rfl) rfl (Nat.le_refl _) (Below.refl _ _) ⟨?_, ?_, ?_, ?_, ?_, ?_, ?_, ?_, ?_, ?_, ?_, ?_, ?_, trivial⟩ ?_
  · exact opOb_ld rfl rfl (OpK.tmp rfl) (fun w' hb => ld_all (HA.out.row 3 rfl) (HA.out.row 3 rfl).lt Tryd.underlying23 rfl (by kernel_rfl) w' hb)
  · exact (opOb_move _ rfl (.inl rfl) rfl)
  · exact (opOb_move _ rfl (.inl rfl) rfl)
  · exact opOb_cnv rfl rfl (OpK.tmp rfl) (fun w => cvU i (by omega) w)
  · exact opOb_ld rfl rfl (OpK.tmp rfl) (fun w' hb => ld_all (HA.out.row 1 rfl) (HA.out.row 1 rfl).lt Tryd.underlying23 rfl (by kernel_rfl) w' hb)
  · exact opOb_fn4 ent_h1 rfl rfl (OpK.tmp rfl) (OpK.tmp rfl) (OpK.tmp rfl) (OpK.tmp rfl) (fun w' hb => (holds_any D D (some ⟨b3, 0, none⟩) B y R i w' (Rd.of_row ((HA.out.below hb).row 2 rfl) (Nat.le_refl _) ((HA.out.below hb).lt 2 rfl)) HBl.out HYl.out (Nat.le_refl _) (by omega) (HP.out.below (HW.out.trans (hb.mono HW.out.size)))).mono fun e w'' ⟨he, hb2⟩ => ⟨_, he, rfl, hb2⟩)
  · exact opOb_ld rfl rfl (OpK.tmp rfl) (fun w' hb => ld_all (HA.out.row 3 rfl) (HA.out.row 3 rfl).lt Tryd.underlying23 rfl (by kernel_rfl) w' hb)
  · exact (opOb_move _ rfl (.inl rfl) rfl)
  · exact (opOb_move _ rfl (.inl rfl) rfl)
  · exact opOb_cnv rfl rfl (OpK.tmp rfl) (fun w => cvU i (by omega) w)
  · exact opOb_ld rfl rfl (OpK.tmp rfl) (fun w' hb => ld_all (HA.out.row 1 rfl) (HA.out.row 1 rfl).lt Tryd.underlying23 rfl (by kernel_rfl) w' hb)
  · exact opOb_fn4 ent_h2 rfl rfl (OpK.tmp rfl) (OpK.tmp rfl) (OpK.tmp rfl) (OpK.tmp rfl) (fun w' hb => (holds_refA D D (some ⟨b3, 0, none⟩) B y R i w' (Rd.of_row ((HA.out.below hb).row 2 rfl) (Nat.le_refl _) ((HA.out.below hb).lt 2 rfl)) HBl.out HYl.out (Nat.le_refl _) (by omega) (HPR.out.below (HW.out.trans (hb.mono HW.out.size)))).mono fun e w'' ⟨he, hb2⟩ => ⟨_, he, rfl, hb2⟩)
  · exact opOb_neBool (holdsB D B y R i) Tryd.underlying4 rfl rfl (OpK.tmp rfl) (OpK.tmp rfl)
  · intro w' hb
    simp only [fin, SF.is, forall_eq]
    simp only [Act.put, List.setIfInBounds_toArray, List.set_cons_succ, List.set_cons_zero]
    have hend := Lib.hid (HW.out.trans (hb.mono HW.out.size))
    by_cases hj : j < 0
    · have s1 : decide (j < 0) = true := decide_eq_true hj
      go_wp2_with fail
      go_ret
      exact ⟨rfl, hend.out⟩
    · have s1 : decide (j < 0) = false := decide_eq_false hj
      by_cases hD0 : D = 0
      · have s2 : ((D : Int) == 0) = true := by rw [beq_iff_eq]; omega
        go_wp2_with fail
        go_ret
        exact ⟨rfl, hend.out⟩
      · have s2 : ((D : Int) == 0) = false := by rw [beq_eq_false_iff_ne]; omega
        obtain ⟨m, rfl⟩ : ∃ m : Nat, j = (m : Int) := ⟨j.toNat, by omega⟩
        have HA2 := Lib.hid (HA.out.below hb)
        clear HA HW hb
        go_upto_region 19 with fail
        obtain ⟨wv, hwv⟩ : ∃ wv, wv = w' := ⟨_, rfl⟩
        rw [← hwv] at HA2 hend ⊢
        clear hwv
        refine wp_region_facts (B := wv.heap.size) (w0 := wv) [SF.is (rootV L), SF.is (.slice (some ⟨b3, 0, none⟩) (D) (D)), SF.is (.int .i64 ((m : Nat) : Int)), SF.is (.int .u64 ((m : Nat) : Int)), SF.is (rootV R), SF.is (.bool (holdsB D B L R m)), SF.is (rootV L), SF.is (.slice (some ⟨b3, 0, none⟩) (D) (D)), SF.is (.int .i64 ((m : Nat) : Int)), SF.is (.int .u64 ((m : Nat) : Int)), SF.is (rootV R), SF.is (.bool (holdsB D B L R m)), SF.is (.bool true), SF.is (.bool true)] (by kernel_rfl) (by kernel_rfl) rfl (Nat.le_refl _) (Below.refl _ _) ⟨?_, ?_, ?_, ?_, ?_, ?_, ?_, ?_, ?_, ?_, ?_, ?_, ?_, ?_, trivial⟩ ?_
        · exact opOb_ld rfl rfl (OpK.tmp rfl) (fun w' hb => ld_all (HA2.out.row 0 rfl) (HA2.out.row 0 rfl).lt Tryd.underlying23 rfl (by kernel_rfl) w' hb)
        · exact (opOb_move _ rfl (.inl rfl) rfl)
        · exact (opOb_move _ rfl (.inl rfl) rfl)
        · exact opOb_cnv rfl rfl (OpK.tmp rfl) (fun w => cvU m (by omega) w)
        · exact opOb_ld rfl rfl (OpK.tmp rfl) (fun w' hb => ld_all (HA2.out.row 1 rfl) (HA2.out.row 1 rfl).lt Tryd.underlying23 rfl (by kernel_rfl) w' hb)
        · exact opOb_fn4 ent_h1 rfl rfl (OpK.tmp rfl) (OpK.tmp rfl) (OpK.tmp rfl) (OpK.tmp rfl) (fun w' hb => (holds_any D D (some ⟨b3, 0, none⟩) B L R m w' (Rd.of_row ((HA2.out.below hb).row 2 rfl) (Nat.le_refl _) ((HA2.out.below hb).lt 2 rfl)) HBl.out HLl.out (Nat.le_refl _) (by omega) (HP.out.below (hend.out.trans (hb.mono hend.out.size)))).mono fun e w'' ⟨he, hb2⟩ => ⟨_, he, rfl, hb2⟩)
        · exact opOb_ld rfl rfl (OpK.tmp rfl) (fun w' hb => ld_all (HA2.out.row 0 rfl) (HA2.out.row 0 rfl).lt Tryd.underlying23 rfl (by kernel_rfl) w' hb)
        · exact (opOb_move _ rfl (.inl rfl) rfl)
        · exact (opOb_move _ rfl (.inl rfl) rfl)
        · exact opOb_cnv rfl rfl (OpK.tmp rfl) (fun w => cvU m (by omega) w)
        · exact opOb_ld rfl rfl (OpK.tmp rfl) (fun w' hb => ld_all (HA2.out.row 1 rfl) (HA2.out.row 1 rfl).lt Tryd.underlying23 rfl (by kernel_rfl) w' hb)
        · exact opOb_fn4 ent_h2 rfl rfl (OpK.tmp rfl) (OpK.tmp rfl) (OpK.tmp rfl) (OpK.tmp rfl) (fun w' hb => (holds_refA D D (some ⟨b3, 0, none⟩) B L R m w' (Rd.of_row ((HA2.out.below hb).row 2 rfl) (Nat.le_refl _) ((HA2.out.below hb).lt 2 rfl)) HBl.out HLl.out (Nat.le_refl _) (by omega) (HPR.out.below (hend.out.trans (hb.mono hend.out.size)))).mono fun e w'' ⟨he, hb2⟩ => ⟨_, he, rfl, hb2⟩)
        · exact opOb_eqBool (holdsB D B L R m) Tryd.underlying4 rfl rfl (OpK.tmp rfl) (OpK.tmp rfl)
        · exact (opOb_move _ rfl (.inr rfl) rfl)
        · intro w' hb
          simp only [fin, SF.is, forall_eq]
          simp only [Act.put, List.setIfInBounds_toArray, List.set_cons_succ, List.set_cons_zero]
          have hfin := Lib.hid (hend.out.trans (hb.mono hend.out.size))
          clear hend hb HA2
          go_wp2_with fail
          go_ret
          exact ⟨rfl, hfin.out⟩
end Go.Proofs.YtjmbgdldnnmipaaDoor
/- The law MerkleBranches, for a chunk that is missing. (Printed by a program of mine.) -/
namespace Go.Proofs.YtjmbgdldnnmipaaDoor
set_option maxRecDepth 40000
open Go.RowKit
open MerkleBranchesLaw in
set_option maxHeartbeats 16000000 in
theorem branches_out (w : World) (A : Option Addr) (n c : Nat) (x : Nat → Nat) (hA : Rd w w.heap.size A (n * 32) (u8v x)) (hx : ∀ i, x i < 256) (_hn : n * 32 ≤ 140737488351232) (hnc : n ≤ c) (l i : Nat) (j : Int) (hj' : -9223372036854775808 ≤ j ∧ j ≤ 9223372036854775807) (y : Nat → Nat) (hy : ∀ i, y i < 256) (hl : l ≤ 1099511627776) (hnl : n ≤ l) (hi : i < 2 ^ dep l) (hin : ¬ i < n) (hp : ShaPkg w) (hpr : RefPkg w) :
    Calls Tryd.prog 8 #[.slice A n c, .int .i64 (l : Int), .int .i64 (i : Int), .int .i64 j, rootV y] w fun e w' => e = .returned (.bool true) ∧ Below w.heap.size w w' := by
  have HX := Lib.hid hA
  have HXl := Lib.hid hx
  have HYl := Lib.hid hy
  have HP := Lib.hid hp
  have HPR := Lib.hid hpr
  have HS0 := Lib.hid (HS.nil w)
  have HB1 := Lib.hid (fun (w : World) (hA : Rd w w.heap.size A (n * 32) (u8v x)) hp => branch_ok n c A x l i w hA hx hnc hl hnl hi hp)
  have HB2 := Lib.hid (fun (w : World) (hA : Rd w w.heap.size A (n * 32) (u8v x)) hp => branch_ref n c A x l i w hA hx hnc hl hnl hi hp)
  have hnD : n ≤ 2 ^ dep l := Nat.le_trans hnl (dep_ge l)
  have hD40 : dep l ≤ 40 := dep_le (k := 40) (by omega)
  have hi2 : i < 1099511627776 := Nat.lt_of_lt_of_le hi (Nat.pow_le_pow_right (n := 2) (by omega) hD40)
  obtain ⟨L, hL⟩ : ∃ L : Nat → Nat, L = fun q => padN (n * 32) x (i * 32 + q) := ⟨_, rfl⟩
  obtain ⟨R, hR⟩ : ∃ R, R = treeN (dep l) n x := ⟨_, rfl⟩
  obtain ⟨B, hB⟩ : ∃ B, B = brN n x i := ⟨_, rfl⟩
  have HR := Lib.hid hR.symm
  have HLl := Lib.hid (show ∀ q, L q < 256 by rw [hL]; exact fun q => padN_lt hx _)
  have HBl := Lib.hid (show ∀ q, B q < 256 by rw [hB]; exact fun q => levN_lt (padN_lt hx) _ _)
  have HH := Lib.hid (show holdsB (dep l) B L R i = true by
    unfold holdsB
    rw [if_pos (by omega), hB, hR]
    refine eqB_of (fun q hq => ?_)
    rw [up_branch n x i L (fun q _ => by rw [hL]) (dep l) q hq, tree_lev (dep l) n x hnD q hq, Nat.div_eq_of_lt hi, Nat.zero_mul, Nat.zero_add])
  have HLx := Lib.hid (show ∀ q, q < 32 → Value.int .u8 0 = u8v L q by
    intro q hq
    rw [hL]
    simp only [u8v, padN]
    rw [if_neg (by omega)]; rfl)
  rw [← hB] at HB1 HB2
  obtain ⟨D, hD⟩ : ∃ D, D = dep l := ⟨_, rfl⟩
  rw [← hD] at HB1 HB2 HH hD40
  have ti : decide ((i : Int) < (n : Int)) = false := decide_eq_false (by omega)
  clear hA hx hy hp hpr hL hR hB hD hi hnD
  go_enter Tryd.func8, Tryd.ntmps8
  go_upto_region 15 with (first
    | (refine wpList_boxL rfl 23 _ 9 rfl rfl HS0.out 32 (u8v y) rfl ?_; intro b9 w9 hb9 hc9 hs; have HS9 := Lib.hid hs; clear hs)
    | (go_at_call 14; refine (awake05_any _ (HP.out.below (HS9.out.out (by simp; omega)))).mono ?_; rintro e w1 ⟨rfl, hb⟩; have HS1 := Lib.hid (HS9.out.below hb); clear hb)
    | (go_at_call 27; refine (HB1.out _ ((HX.out.below (HS1.out.out (by simp; omega))).more HS1.out.size) (HP.out.below (HS1.out.out (by simp; omega)))).mono ?_; rintro e w2 ⟨b3, rfl, hr, hb3, hb⟩; have HS2 := Lib.hid ((HS1.out.below hb).add hr (by have := HS1.out.size; omega) (by have := HS1.out.lt 0 rfl; simp; omega)); have hsz1 := HS1.out.size; clear hr hb)
    | (go_at_call 28; refine (HB2.out _ ((HX.out.below (HS2.out.out (by simp; omega))).more HS2.out.size) (HPR.out.below (HS2.out.out (by simp; omega)))).mono ?_; rintro e w3 ⟨A4, c4, rfl, ho, hb⟩; have HS3 := Lib.hid (HS2.out.below hb); have HO3 := Lib.hid ho.rd; clear ho hb)
    | (go_at_call 21; refine (sameR_any D D c4 (some ⟨b3, 0, none⟩) A4 B _ (Rd.of_row (HS3.out.row 0 rfl) (Nat.le_refl _) (HS3.out.lt 0 rfl)) HO3.out (by omega)).mono ?_; rintro e w4 ⟨rfl, hb⟩; have HS4 := Lib.hid (HS3.out.below hb); clear hb)
    | (go_at_call 17; refine (tree_ok n c _ x l _ ((HX.out.below (HS4.out.out (by simp; omega))).more HS4.out.size) HXl.out hnc (by omega) (by omega) (HP.out.below (HS4.out.out (by simp; omega)))).mono ?_; rintro e w5 ⟨rfl, hb⟩; rw [HR.out]; have HS5 := Lib.hid (HS4.out.below hb); clear hb)
    | (refine wpList_allocL rfl 23 15 rfl rfl HS5.out (Array.replicate 32 (.int .u8 0)) (by kernel_rfl) 32 (u8v fun _ => 0) (by rfl) (zero_at 32 (.int .u8 0)) ?_; intro b15 w6 hb15 hcb15 hs; have HS6 := Lib.hid hs; clear hs)
    | (refine wpList_storeH rfl 23 (.tmp 15) (.tmp 52) rfl HS6.out 0 rfl (u8v R) rfl rfl (by kernel_rfl) (fun _ _ => rfl) ?_; intro w7 hs; have HS7 := Lib.hid hs; clear hs)
    | (refine wpList_build_as rfl 23 #[] rfl [] rfl (arr 32 (u8v fun _ => 0)) (by kernel_rfl) ?_)
    | (refine wpList_allocL rfl 23 17 rfl rfl HS7.out (Array.replicate 32 (.int .u8 0)) (by kernel_rfl) 32 (u8v fun _ => 0) (by rfl) (zero_at 32 (.int .u8 0)) ?_; intro b17 w8 hb17 hcb17 hs; have HS8 := Lib.hid hs; clear hs)
    | (refine wpList_storeH rfl 23 (.tmp 17) (.tmp 54) rfl HS8.out 0 rfl (u8v fun _ => 0) rfl rfl (by kernel_rfl) (fun _ _ => rfl) ?_; intro w10 hs; have HSL := Lib.hid (hs.congr 0 rfl (g := u8v L) (fun q hq => HLx.out q hq)); clear hs)
    | (refine wpList_load_rdG rfl rfl rfl 23 _ rfl 32 _ Tryd.underlying23 rfl (by kernel_rfl) ⟨b17, 0, none⟩ rfl (u8v L) (fun q hq => by rw [add_lit0]; exact HSL.out.cell 0 q rfl hq) ?_)
    | (refine wpList_load_rdG rfl rfl rfl 23 _ rfl 32 _ Tryd.underlying23 rfl (by kernel_rfl) ⟨b15, 0, none⟩ rfl (u8v R) (fun q hq => by rw [add_lit0]; exact HSL.out.cell 1 q rfl hq) ?_)
    | (refine wpList_asG rfl rfl rfl 69 rfl (.int .u64 (i : Int)) ?_ ?_; (· exact ex_cnv rfl rfl (fun w => cvU i (by omega) w) _))
    | (go_at_call 15; refine (holds_any D D (some ⟨b3, 0, none⟩) B L R i _ (Rd.of_row (HSL.out.row 2 rfl) (Nat.le_refl _) (HSL.out.lt 2 rfl)) HBl.out HLl.out (Nat.le_refl _) (by omega) (HP.out.below (HSL.out.out (by simp; omega)))).mono ?_; rintro e wa ⟨rfl, hb⟩; rw [HH.out]; have HSA := Lib.hid (HSL.out.below hb); clear hb))
  have hA : HS w wa [⟨b17, 23, 32, u8v L⟩, ⟨b15, 23, 32, u8v R⟩, ⟨b3, 23, D * 32, u8v B⟩, ⟨b9, 23, 32, u8v y⟩] := HSA.out
  have HA := Lib.hid hA
  have HW := Lib.hid (hA.out (by simp; omega))
  clear hA HSA
  refine wp_region_facts (B := wa.heap.size) (w0 := wa) [SF.is (rootV y), SF.is (.slice (some ⟨b3, 0, none⟩) (D) (D)), SF.is (.int .i64 ((i : Nat) : Int)), SF.is (.int .u64 ((i : Nat) : Int)), SF.is (rootV R), SF.is (.bool (holdsB D B y R i)), SF.is (rootV y), SF.is (.slice (some ⟨b3, 0, none⟩) (D) (D)), SF.is (.int .i64 ((i : Nat) : Int)), SF.is (.int .u64 ((i : Nat) : Int)), SF.is (rootV R), SF.is (.bool (holdsB D B y R i)), SF.is (.bool false)] (by kernel_rfl) (by kernel_rfl) rfl (Nat.le_refl _) (Below.refl _ _) ⟨?_, ?_, ?_, ?_, ?_, ?_, ?_, ?_, ?_, ?_, ?_, ?_, ?_, trivial⟩ ?_
  · exact opOb_ld rfl rfl (OpK.tmp rfl) (fun w' hb => ld_all (HA.out.row 3 rfl) (HA.out.row 3 rfl).lt Tryd.underlying23 rfl (by kernel_rfl) w' hb)
  · exact (opOb_move _ rfl (.inl rfl) rfl)
  · exact (opOb_move _ rfl (.inl rfl) rfl)
  · exact opOb_cnv rfl rfl (OpK.tmp rfl) (fun w => cvU i (by omega) w)
  · exact opOb_ld rfl rfl (OpK.tmp rfl) (fun w' hb => ld_all (HA.out.row 1 rfl) (HA.out.row 1 rfl).lt Tryd.underlying23 rfl (by kernel_rfl) w' hb)
  · exact opOb_fn4 ent_h1 rfl rfl (OpK.tmp rfl) (OpK.tmp rfl) (OpK.tmp rfl) (OpK.tmp rfl) (fun w' hb => (holds_any D D (some ⟨b3, 0, none⟩) B y R i w' (Rd.of_row ((HA.out.below hb).row 2 rfl) (Nat.le_refl _) ((HA.out.below hb).lt 2 rfl)) HBl.out HYl.out (Nat.le_refl _) (by omega) (HP.out.below (HW.out.trans (hb.mono HW.out.size)))).mono fun e w'' ⟨he, hb2⟩ => ⟨_, he, rfl, hb2⟩)
  · exact opOb_ld rfl rfl (OpK.tmp rfl) (fun w' hb => ld_all (HA.out.row 3 rfl) (HA.out.row 3 rfl).lt Tryd.underlying23 rfl (by kernel_rfl) w' hb)
  · exact (opOb_move _ rfl (.inl rfl) rfl)
  · exact (opOb_move _ rfl (.inl rfl) rfl)
  · exact opOb_cnv rfl rfl (OpK.tmp rfl) (fun w => cvU i (by omega) w)
  · exact opOb_ld rfl rfl (OpK.tmp rfl) (fun w' hb => ld_all (HA.out.row 1 rfl) (HA.out.row 1 rfl).lt Tryd.underlying23 rfl (by kernel_rfl) w' hb)
  · exact opOb_fn4 ent_h2 rfl rfl (OpK.tmp rfl) (OpK.tmp rfl) (OpK.tmp rfl) (OpK.tmp rfl) (fun w' hb => (holds_refA D D (some ⟨b3, 0, none⟩) B y R i w' (Rd.of_row ((HA.out.below hb).row 2 rfl) (Nat.le_refl _) ((HA.out.below hb).lt 2 rfl)) HBl.out HYl.out (Nat.le_refl _) (by omega) (HPR.out.below (HW.out.trans (hb.mono HW.out.size)))).mono fun e w'' ⟨he, hb2⟩ => ⟨_, he, rfl, hb2⟩)
  · exact opOb_neBool (holdsB D B y R i) Tryd.underlying4 rfl rfl (OpK.tmp rfl) (OpK.tmp rfl)
  · intro w' hb
    simp only [fin, SF.is, forall_eq]
    simp only [Act.put, List.setIfInBounds_toArray, List.set_cons_succ, List.set_cons_zero]
    have hend := Lib.hid (HW.out.trans (hb.mono HW.out.size))
    by_cases hj : j < 0
    · have s1 : decide (j < 0) = true := decide_eq_true hj
      go_wp2_with fail
      go_ret
      exact ⟨rfl, hend.out⟩
    · have s1 : decide (j < 0) = false := decide_eq_false hj
      by_cases hD0 : D = 0
      · have s2 : ((D : Int) == 0) = true := by rw [beq_iff_eq]; omega
        go_wp2_with fail
        go_ret
        exact ⟨rfl, hend.out⟩
      · have s2 : ((D : Int) == 0) = false := by rw [beq_eq_false_iff_ne]; omega
        obtain ⟨m, rfl⟩ : ∃ m : Nat, j = (m : Int) := ⟨j.toNat, by omega⟩
        have HA2 := Lib.hid (HA.out.below hb)
        clear HA HW hb
        go_upto_region 19 with fail
        obtain ⟨wv, hwv⟩ : ∃ wv, wv = w' := ⟨_, rfl⟩
        rw [← hwv] at HA2 hend ⊢
        clear hwv
        refine wp_region_facts (B := wv.heap.size) (w0 := wv) [SF.is (rootV L), SF.is (.slice (some ⟨b3, 0, none⟩) (D) (D)), SF.is (.int .i64 ((m : Nat) : Int)), SF.is (.int .u64 ((m : Nat) : Int)), SF.is (rootV R), SF.is (.bool (holdsB D B L R m)), SF.is (rootV L), SF.is (.slice (some ⟨b3, 0, none⟩) (D) (D)), SF.is (.int .i64 ((m : Nat) : Int)), SF.is (.int .u64 ((m : Nat) : Int)), SF.is (rootV R), SF.is (.bool (holdsB D B L R m)), SF.is (.bool true), SF.is (.bool true)] (by kernel_rfl) (by kernel_rfl) rfl (Nat.le_refl _) (Below.refl _ _) ⟨?_, ?_, ?_, ?_, ?_, ?_, ?_, ?_, ?_, ?_, ?_, ?_, ?_, ?_, trivial⟩ ?_
        · exact opOb_ld rfl rfl (OpK.tmp rfl) (fun w' hb => ld_all (HA2.out.row 0 rfl) (HA2.out.row 0 rfl).lt Tryd.underlying23 rfl (by kernel_rfl) w' hb)
        · exact (opOb_move _ rfl (.inl rfl) rfl)
        · exact (opOb_move _ rfl (.inl rfl) rfl)
        · exact opOb_cnv rfl rfl (OpK.tmp rfl) (fun w => cvU m (by omega) w)
        · exact opOb_ld rfl rfl (OpK.tmp rfl) (fun w' hb => ld_all (HA2.out.row 1 rfl) (HA2.out.row 1 rfl).lt Tryd.underlying23 rfl (by kernel_rfl) w' hb)
        · exact opOb_fn4 ent_h1 rfl rfl (OpK.tmp rfl) (OpK.tmp rfl) (OpK.tmp rfl) (OpK.tmp rfl) (fun w' hb => (holds_any D D (some ⟨b3, 0, none⟩) B L R m w' (Rd.of_row ((HA2.out.below hb).row 2 rfl) (Nat.le_refl _) ((HA2.out.below hb).lt 2 rfl)) HBl.out HLl.out (Nat.le_refl _) (by omega) (HP.out.below (hend.out.trans (hb.mono hend.out.size)))).mono fun e w'' ⟨he, hb2⟩ => ⟨_, he, rfl, hb2⟩)
        · exact opOb_ld rfl rfl (OpK.tmp rfl) (fun w' hb => ld_all (HA2.out.row 0 rfl) (HA2.out.row 0 rfl).lt Tryd.underlying23 rfl (by kernel_rfl) w' hb)
        · exact (opOb_move _ rfl (.inl rfl) rfl)
        · exact (opOb_move _ rfl (.inl rfl) rfl)
        · exact opOb_cnv rfl rfl (OpK.tmp rfl) (fun w => cvU m (by omega) w)
        · exact opOb_ld rfl rfl (OpK.tmp rfl) (fun w' hb => ld_all (HA2.out.row 1 rfl) (HA2.out.row 1 rfl).lt Tryd.underlying23 rfl (by kernel_rfl) w' hb)
        · exact opOb_fn4 ent_h2 rfl rfl (OpK.tmp rfl) (OpK.tmp rfl) (OpK.tmp rfl) (OpK.tmp rfl) (fun w' hb => (holds_refA D D (some ⟨b3, 0, none⟩) B L R m w' (Rd.of_row ((HA2.out.below hb).row 2 rfl) (Nat.le_refl _) ((HA2.out.below hb).lt 2 rfl)) HBl.out HLl.out (Nat.le_refl _) (by omega) (HPR.out.below (hend.out.trans (hb.mono hend.out.size)))).mono fun e w'' ⟨he, hb2⟩ => ⟨_, he, rfl, hb2⟩)
        · exact opOb_eqBool (holdsB D B L R m) Tryd.underlying4 rfl rfl (OpK.tmp rfl) (OpK.tmp rfl)
        · exact (opOb_move _ rfl (.inr rfl) rfl)
        · intro w' hb
          simp only [fin, SF.is, forall_eq]
          simp only [Act.put, List.setIfInBounds_toArray, List.set_cons_succ, List.set_cons_zero]
          have hfin := Lib.hid (hend.out.trans (hb.mono hend.out.size))
          clear hend hb HA2
          go_wp2_with fail
          go_ret
          exact ⟨rfl, hfin.out⟩
end Go.Proofs.YtjmbgdldnnmipaaDoor
/- The law MerkleBranches. (Printed by a program of mine.) -/
namespace Go.Proofs.YtjmbgdldnnmipaaDoor
set_option maxRecDepth 40000
open Go.RowKit
open MerkleBranchesLaw in
set_option maxHeartbeats 8000000 in
theorem branches_err (w : World) (A : Option Addr) (n c : Nat) (x : Nat → Nat) (_hA : Rd w w.heap.size A (n * 32) (u8v x)) (_hx : ∀ i, x i < 256) (l i j : Int) (y : Nat → Nat) (k : Nat) (hk : k = 1 ∨ k = 6) (h1 : ∀ w, Calls Tryd.prog 27 #[.slice A n c, .int .i64 l, .int .i64 i] w fun e w' => e = noBranch k ∧ w' = w) (h2 : ∀ w, Calls Tryd.prog 28 #[.slice A n c, .int .i64 l, .int .i64 i] w fun e w' => e = noBranch k ∧ w' = w) (hp : ShaPkg w) :
    Calls Tryd.prog 8 #[.slice A n c, .int .i64 l, .int .i64 i, .int .i64 j, rootV y] w fun e w' => e = .returned (.bool true) ∧ Below w.heap.size w w' := by
  have HP := Lib.hid hp
  have HS0 := Lib.hid (HS.nil w)
  have H1 := Lib.hid h1
  have H2 := Lib.hid h2
  clear hp h1 h2
  rcases hk with rfl | rfl
  all_goals
    go_enter Tryd.func8, Tryd.ntmps8
    go_wp2_with (first
      | (refine wpList_boxL rfl 23 _ 9 rfl rfl HS0.out 32 (u8v y) rfl ?_; intro b9 w9 hb9 hc9 hs; have HS9 := Lib.hid hs; clear hs)
      | (go_at_call 14; refine (awake05_any _ (HP.out.below (HS9.out.out (by simp; omega)))).mono ?_; rintro e w1 ⟨rfl, hb⟩; have HS1 := Lib.hid (HS9.out.below hb); clear hb)
      | (go_at_call 27; refine (H1.out _).mono ?_; rintro e w2 ⟨rfl, hw⟩; rw [hw]; clear hw w2)
      | (go_at_call 28; refine (H2.out _).mono ?_; rintro e w2 ⟨rfl, hw⟩; rw [hw]; clear hw w2)
      | (go_at_call 21; refine (sameR_any 0 0 0 none none (fun _ => 0) _ (fun h => by omega) (fun h => by omega) (by omega)).mono ?_; rintro e w4 ⟨rfl, hb⟩; have HS4 := Lib.hid (HS1.out.below hb); clear hb))
    go_ret
    exact ⟨rfl, HS4.out.out (by simp; omega)⟩
theorem merkleBranches_law (w : World) (A : Option Addr) (n c : Nat) (x : Nat → Nat) (hA : Rd w w.heap.size A (n * 32) (u8v x)) (hx : ∀ i, x i < 256) (hn : n * 32 ≤ 140737488351232) (hnc : n ≤ c) (l : Int) (_hl : -9223372036854775808 ≤ l ∧ l ≤ 9223372036854775807) (i : Int) (_hi : -9223372036854775808 ≤ i ∧ i ≤ 9223372036854775807) (j : Int) (hj : -9223372036854775808 ≤ j ∧ j ≤ 9223372036854775807) (y : Nat → Nat) (hy : ∀ i, y i < 256) (hp : ShaPkg w) (hpr : RefPkg w) :
    Calls Tryd.prog 8 #[.slice A n c, .int .i64 l, .int .i64 i, .int .i64 j, rootV y] w fun e w' => e = .returned (.bool true) ∧ Below w.heap.size w w' := by
  by_cases h1 : l < 0 ∨ 1099511627776 < l
  · exact branches_err w A n c x hA hx l i j y 1 (.inl rfl) (fun w => branch_arg n c A l i w h1) (fun w => branchRef_arg n c A l i w h1) hp
  · obtain ⟨l, rfl⟩ : ∃ m : Nat, l = (m : Int) := ⟨l.toNat, by omega⟩
    by_cases h2 : i < 0 ∨ ((2 ^ dep l : Nat) : Int) ≤ i
    · exact branches_err w A n c x hA hx l i j y 1 (.inl rfl) (fun w => branch_place n c A l i w (by omega) h2) (fun w => branchRef_place n c A l i w (by omega) h2) hp
    · obtain ⟨i, rfl⟩ : ∃ m : Nat, i = (m : Int) := ⟨i.toNat, by omega⟩
      have hi : i < 2 ^ dep l := by
        generalize 2 ^ dep l = N at h2
        omega
      by_cases h3 : l < n
      · exact branches_err w A n c x hA hx l i j y 6 (.inr rfl) (fun w => branch_long n c A l i w (by omega) hi h3) (fun w => branchRef_long n c A l i w (by omega) hi h3) hp
      · by_cases h4 : i < n
        · exact branches_in w A n c x hA hx hn hnc l i j hj y hy (by omega) (by omega) hi h4 hp hpr
        · exact branches_out w A n c x hA hx hn hnc l i j hj y hy (by omega) (by omega) hi h4 hp hpr
end Go.Proofs.YtjmbgdldnnmipaaDoor
