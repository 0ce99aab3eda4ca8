/- A part of what the proofs stand on: PickSum, PickNext, EqDeep. -/
import Derived.Test.YtjhgndnpihnidaaDoorGPic22
import Derived.Test.YtjhgndnpihnidaaDoorGPic16
import Derived.Test.YtjhgndnpihnidaaDoorGPic21
import Derived.Test.YtjhgndnpihnidaaDoorGPic13
import Derived.Test.YtjhgndnpihnidaaDoorGPic15
import Derived.Test.YtjhgndnpihnidaaDoorGPic7
import Derived.Test.YtjhgndnpihnidaaDoorGPic4
/- Sums of keys: the program and the reference. -/
namespace Go.Proofs.YtjhgndnpihnidaaDoor
set_option maxRecDepth 40000
open Go.RowKit
/-- The sum of n keys. -/
def keyN (x : Nat → Nat) (n : Nat) : Nat → Nat := catN 32 (shaB x (n * 48)) (shaB (shaB x (n * 48)) 32)
theorem keyN_lt {x : Nat → Nat} {n : Nat} : ∀ i, keyN x n i < 256 := catN_lt (fun i => shaB_lt _ _ i) (fun i => shaB_lt _ _ i)
namespace PickSum
theorem cut_ptr {P : Program} {T e : TypeId} {n : Nat} (hu : P.underlying T = some (.array n e)) (z : Nat) (hz : (P.info? e).map (·.size) = some z) (ad : Addr) (w : World) :
    (Instr.sliceAt T (.pointer (some ad)) none none none).run P w = .ok (.slice (some ad) n n) w := by
  have hsz := sizeOf_run hz w
  simp [Instr.sliceAt, Instr.sureAddr, run_underlying hu, Instr.sliceBounds, hsz, add_zero']
theorem cat_x (j : Nat) (x : Nat → Nat) : ∀ i, i < j * 48 + 48 → catN (j * 48) x (fun q => x (j * 48 + q)) i = x i := fun i _ => by
  unfold catN
  split
  · rfl
  · exact congrArg x (by omega)
theorem cat_o (j : Nat) (x : Nat → Nat) (N : Nat) : ∀ i, i < N → catF (j * 48) (u8v x) (u8v fun q => x (j * 48 + q)) i = u8v x i := fun i _ => by
  simp only [catF, u8v]
  split
  · rfl
  · rw [show j * 48 + (i - j * 48) = i by omega]
theorem c1 (s : Nat → Nat) : ∀ j, j < 48 → (if 0 ≤ j ∧ j < 0 + 32 then u8v s (j - 0) else u8v (fun _ => 0) j) = u8v (padN 32 s) j := fun j _ => by
  unfold padN
  by_cases h : j < 32
  · rw [if_pos (by omega)]; simp only [u8v]; rw [if_pos h]; rfl
  · rw [if_neg (by omega)]; simp only [u8v]; rw [if_neg h]
theorem c2 (s t : Nat → Nat) : ∀ j, j < 48 → (if 32 ≤ j ∧ j < 32 + 16 then u8v t (j - 32) else u8v (padN 32 s) j) = u8v (catN 32 s t) j := fun j hj => by
  unfold padN catN
  by_cases h4 : j < 32
  · rw [if_neg (by omega)]; simp only [u8v]; rw [if_pos h4, if_pos h4]
  · rw [if_pos (by omega)]; simp only [u8v]; rw [if_neg h4]
/-- The first k bytes of a key that is laid byte by byte. -/
def upto (y : Nat → Nat) (k : Nat) : Nat → Nat := fun q => if q < k then y q else 0
theorem up_step {y : Nat → Nat} {k : Nat} (v : Value) (hv : v = .int .u8 ((y k : Nat) : Int)) (N : Nat) : ∀ i, i < N → (if i = k then v else u8v (upto y k) i) = u8v (upto y (k + 1)) i := fun i _ => by
  unfold upto
  by_cases e : i = k
  · subst e; rw [if_pos rfl, hv]; simp only [u8v]; rw [if_pos (by omega)]
  · rw [if_neg e]; simp only [u8v]
    by_cases e2 : i < k
    · rw [if_pos e2, if_pos (by omega)]
    · rw [if_neg e2, if_neg (by omega)]
theorem up_all {y : Nat → Nat} {k : Nat} : ∀ i, i < k → u8v (upto y k) i = u8v y i := fun i hi => by
  unfold upto; simp only [u8v]; rw [if_pos hi]
end PickSum
open PickSum in
set_option maxHeartbeats 8000000 in
theorem psum_look (n c : Nat) (A : Option Addr) (x : Nat → Nat) (w : World) (hb : Rd w w.heap.size A (n * 48) (u8v x)) (hx : ∀ i, x i < 256) (hn : n * 48 ≤ 140737488355328) (hnc : n ≤ c) (hp : ShaPkg w) :
    Calls Tryd.prog 27 #[.slice A n c] w fun r w' => r = .returned (.agg (arr 48 (u8v (keyN x n)))) ∧ Below w.heap.size w w' := by
  have HP := Lib.hid hp
  have hlt := hp.lt
  have HX := Lib.hid hb
  have HXl := Lib.hid hx
  have HS0 := Lib.hid (HS.nil w)
  obtain ⟨s, hsd⟩ : ∃ s, s = shaB x (n * 48) := ⟨_, rfl⟩
  obtain ⟨t, htd⟩ : ∃ t, t = shaB s 32 := ⟨_, rfl⟩
  have HR := Lib.hid (show catN 32 s t = keyN x n by rw [htd, hsd]; rfl)
  have HSd := Lib.hid hsd.symm
  have HTd := Lib.hid htd.symm
  have HSl := Lib.hid (show ∀ i, s i < 256 from fun i => by rw [hsd]; exact shaB_lt _ _ i)
  clear hp hb hx hsd htd
  go_enter Tryd.func27, Tryd.ntmps27
  go_wp2_with (first
    | (refine wpList_allocL rfl 44 2 rfl rfl HS0.out (Array.replicate 48 (.int .u8 0)) (by kernel_rfl) 48 (u8v fun _ => 0) (by rfl) (zero_at 48 (.int .u8 0)) ?_; intro b2 w2 hb2 hc2 hs; have HS2 := Lib.hid hs; clear hs)
    | (refine wpList_allocL rfl 44 3 rfl rfl HS2.out (Array.replicate 48 (.int .u8 0)) (by kernel_rfl) 48 (u8v fun _ => 0) (by rfl) (zero_at 48 (.int .u8 0)) ?_; intro b3 w3 hb3 hc3 hs; have HS3 := Lib.hid hs; clear hs)
    | (go_at_call 62; refine (new_any _ (HP.out.below (HS3.out.out (by simp; omega))) x).mono ?_; rintro e w4 ⟨g, rfl, hg, hrow, hb⟩; have hb3g : b3 < g := Nat.lt_of_lt_of_le (HS3.out.lt 0 rfl) hg; have hb2g : b2 < g := Nat.lt_of_lt_of_le (HS3.out.lt 1 rfl) hg; have hwg : w.heap.size ≤ g := Nat.le_trans HS3.out.size hg; have HS4 := Lib.hid (HS3.out.below hb); have HD4 := Lib.hid (dig_new x hrow); clear hb hrow))
  go_loopw [12] (fun i wr => ∃ j : Nat, i = .int .i64 (j : Int) ∧ j ≤ n ∧ HS w wr [⟨b3, 44, 48, u8v fun _ => 0⟩, ⟨b2, 44, 48, u8v fun _ => 0⟩] ∧ Dig wr g x (j * 48)) (fun i _ => n - (intOf i).toNat)
  case atStart => exact ⟨0, rfl, by omega, HS4.out, by rw [Nat.zero_mul]; exact HD4.out⟩
  case round =>
    obtain ⟨j, rfl, hj, hs, hd⟩ := hrel
    have HSq := Lib.hid hs
    have HDq := Lib.hid hd
    have hgw : g < wr.heap.size := hd.lt
    clear hs hd HS4 HD4 HS3 HS2 HS0
    by_cases hjn : j < n
    · obtain ⟨ad, hA, _, _⟩ := HX.out (by omega)
      subst hA
      have HN := Lib.hid (HS.nil wr)
      go_wp2_with (first
        | (refine wpList_as rfl 14 rfl (.pointer (some (ad.add (j * 48)))) ?_ ?_; (· exact ex_idx rfl rfl rfl (fun w => run_idxZ (z := 48) w Tryd.underlying74 (by kernel_rfl) ad (by omega)) _))
        | (refine wpList_load_rd rfl 44 _ rfl 48 _ Tryd.underlying44 rfl (by kernel_rfl) (ad.add (j * 48)) rfl (u8v (fun q => x (j * 48 + q))) (fun q hq => by rw [add_add]; exact ((HX.out.below (HSq.out.out (by simp; omega))).cell_ (show j * 48 + q < n * 48 by omega))) ?_)
        | (refine wpList_allocL rfl 44 6 rfl rfl HN.out (Array.replicate 48 (.int .u8 0)) (by kernel_rfl) 48 (u8v fun _ => 0) (by rfl) (zero_at 48 (.int .u8 0)) ?_; intro b6 w5 hb6 hc6 hs; have HS5 := Lib.hid hs; clear hs)
        | (refine wpList_storeH rfl 44 (.tmp 6) (.tmp 15) rfl HS5.out 0 rfl (u8v (fun q => x (j * 48 + q))) rfl rfl (by kernel_rfl) (fun _ _ => rfl) ?_; intro w6 hs; have HS6 := Lib.hid hs; have HB6 := Lib.hid (hs.out (by simp; omega)); clear hs)
        | (go_at_call 63
           refine (write_any g (j * 48) 48 48 (some ⟨b6, 0, none⟩) x (fun q => x (j * 48 + q)) _ (HDq.out.below HB6.out hgw) (Rd.of_row (HS6.out.row 0 rfl) (Nat.le_refl _) (HS6.out.lt 0 rfl)) (fun _ ad e => by injection e with e; subst e; show b6 ≠ g; omega) (fun _ => HXl.out _) HXl.out (by omega) (by omega) (HP.out.below ((HSq.out.below HB6.out).out (by simp; omega))) ⟨by omega, by omega⟩).mono ?_
           rintro e w7 ⟨rfl, hd7, hg7⟩; have HS7 := Lib.hid ((HSq.out.below HB6.out).other hg7 (by omega) (by simp; omega)); have HD7 := Lib.hid (hd7.congr (cat_x j x)); clear hd7 hg7))
      go_roundw
      case rel => exact ⟨j + 1, by go_num, by omega, HS7.out, by rw [show (j + 1) * 48 = j * 48 + 48 by omega]; exact HD7.out⟩
      case measure => simp [intOf]; omega
    · obtain rfl : j = n := by omega
      have hex := hgw
      go_upto_region 10 with (first
        | (go_at_call 64; refine (sumd_any g (j * 48) x _ HDq.out HXl.out (HP.out.below (HSq.out.out (by simp; omega)))).mono ?_; rintro e w5 ⟨rfl, hb⟩; rw [HSd.out]; have HS5 := Lib.hid (HSq.out.below hb); clear hb)
        | (refine wpList_allocL rfl 24 7 rfl rfl HS5.out (Array.replicate 32 (.int .u8 0)) (by kernel_rfl) 32 (u8v fun _ => 0) (by rfl) (zero_at 32 (.int .u8 0)) ?_; intro b7 w6 hb7 hc7 hs; have HS6 := Lib.hid hs; clear hs)
        | (refine wpList_storeH rfl 24 (.tmp 7) (.tmp 21) rfl HS6.out 0 rfl (u8v s) rfl rfl (by kernel_rfl) (fun _ _ => rfl) ?_; intro w7 hs; have HS7 := Lib.hid hs; clear hs)
        | (go_at_call 65; refine (sum_any 32 32 (some ⟨b7, 0, none⟩) s _ (Rd.of_row (HS7.out.row 0 rfl) (Nat.le_refl _) (HS7.out.lt 0 rfl)) HSl.out (by omega) (by omega) (HP.out.below (HS7.out.out (by simp; omega)))).mono ?_; rintro e w8 ⟨rfl, hb⟩; rw [HTd.out]; have HS8 := Lib.hid (HS7.out.below hb); clear hb)
        | (refine wpList_allocL rfl 24 8 rfl rfl HS8.out (Array.replicate 32 (.int .u8 0)) (by kernel_rfl) 32 (u8v fun _ => 0) (by rfl) (zero_at 32 (.int .u8 0)) ?_; intro b8 w9 hb8 hc8 hs; have HS9 := Lib.hid hs; clear hs)
        | (refine wpList_storeH rfl 24 (.tmp 8) (.tmp 23) rfl HS9.out 0 rfl (u8v t) rfl rfl (by kernel_rfl) (fun _ _ => rfl) ?_; intro wx hs; have HSx := Lib.hid hs; clear hs))
      refine ord_enter (n := 6) (by kernel_rfl) (by kernel_rfl) ?_
      have HSv0 := Lib.hid HSx.out.drew
      generalize wx.drew = wv at HSv0 ⊢
      have HSv := Lib.hid HSv0.out
      clear HSv0 HSx HS9 HS8 HS7 HS6 HS5
      refine ord_take (i := 0) (.slice (some ⟨b3, 0, none⟩) 48 48) rfl (by kernel_rfl) (by kernel_rfl) (by kernel_rfl) rfl (fun _ _ _ h => h) (ex_slice rfl rfl rfl rfl (fun w => cut_ptr Tryd.underlying44 1 (by kernel_rfl) _ w)) ?_
      refine ord_take (i := 1) (.slice (some ⟨b7, 0, none⟩) 32 32) rfl (by kernel_rfl) (by kernel_rfl) (by kernel_rfl) rfl (fun _ _ _ h => h) (ex_slice rfl rfl rfl rfl (fun w => cut_ptr Tryd.underlying24 1 (by kernel_rfl) _ w)) ?_
      refine ord_take (i := 4) (.slice (some ⟨b8, 0, none⟩) 32 32) rfl (by kernel_rfl) (by kernel_rfl) (by kernel_rfl) rfl (fun _ _ _ h => h) (ex_slice rfl rfl rfl rfl (fun w => cut_ptr Tryd.underlying24 1 (by kernel_rfl) _ w)) ?_
      simp only [Act.put, List.setIfInBounds_toArray, List.set_cons_succ, List.set_cons_zero]
      refine ord_step (i := 2) rfl (by kernel_rfl) rfl (fun K hK => ?_)
      refine wp_copyL rfl Tryd.underlying39 (by kernel_rfl) HSv.out 2 rfl 0 48 48 (Rd.of_row (HSv.out.row 1 rfl) (Nat.le_refl _) (HSv.out.lt 1 rfl)) (fun _ _ => rfl) 32 rfl (by omega) rfl rfl _ (c1 s) ?_
      intro wa hs
      have HA := Lib.hid hs
      clear hs
      refine hK _ _ ?_
      clear hK HSv
      simp only [Act.put, List.setIfInBounds_toArray, List.set_cons_succ, List.set_cons_zero]
      refine ord_take (i := 3) (.slice (some ⟨b3, 32, none⟩) 16 16) rfl (by kernel_rfl) (by kernel_rfl) (by kernel_rfl) rfl (fun _ _ _ h => h) (ex_slice rfl rfl rfl rfl (fun w => cut_arr Tryd.underlying44 1 (by kernel_rfl) _ _ 32 48 (.inr rfl) (.inl ⟨rfl, rfl⟩) (by omega) (by omega) (by omega) (by omega) (by omega) (by omega))) ?_
      simp only [Act.put, List.setIfInBounds_toArray, List.set_cons_succ, List.set_cons_zero]
      refine ord_step (i := 5) rfl (by kernel_rfl) rfl (fun K hK => ?_)
      refine wp_copyL rfl Tryd.underlying39 (by kernel_rfl) HA.out 2 rfl 32 16 16 (Rd.of_row (HA.out.row 0 rfl) (Nat.le_refl _) (HA.out.lt 0 rfl)) (fun _ _ => rfl) 16 rfl (by omega) rfl rfl _ (c2 s t) ?_
      intro wb hs
      rw [HR.out] at hs
      have HB := Lib.hid hs
      clear hs
      refine hK _ _ ?_
      clear hK HA
      simp only [Act.put, List.setIfInBounds_toArray, List.set_cons_succ, List.set_cons_zero]
      refine wpAny_done (by kernel_rfl) ?_ _
      go_wp2_with (first
        | (refine wpList_load_rd rfl 44 _ rfl 48 _ Tryd.underlying44 rfl (by kernel_rfl) ⟨b3, 0, none⟩ rfl (u8v (keyN x j)) (fun i hi => by rw [add_lit0]; exact HB.out.cell 2 i rfl hi) ?_)
        | (refine wpList_storeH rfl 44 (.tmp 2) (.tmp 30) rfl HB.out 3 rfl (u8v (keyN x j)) rfl rfl (by kernel_rfl) (fun _ _ => rfl) ?_; intro wh hs; have HH := Lib.hid hs; clear hs))
      exact ret_rowIs rfl (HH.out.row 3 rfl) _ rfl Tryd.underlying44 rfl (by kernel_rfl) rfl ⟨rfl, HH.out.out (by simp; omega)⟩
open PickSum in
set_option maxHeartbeats 8000000 in
theorem psum_ref (n c : Nat) (A : Option Addr) (x : Nat → Nat) (w : World) (hb : Rd w w.heap.size A (n * 48) (u8v x)) (hx : ∀ i, x i < 256) (hn : n * 48 ≤ 140737488355200) (hp : RefPkg w) :
    Calls Tryd.prog 28 #[.slice A n c] w fun r w' => r = .returned (.agg (arr 48 (u8v (keyN x n)))) ∧ Below w.heap.size w w' := by
  have HP := Lib.hid hp
  have HX := Lib.hid hb
  have HXl := Lib.hid hx
  have HS0 := Lib.hid (HS.nil w)
  obtain ⟨s, hsd⟩ : ∃ s, s = shaB x (n * 48) := ⟨_, rfl⟩
  obtain ⟨t, htd⟩ : ∃ t, t = shaB s 32 := ⟨_, rfl⟩
  obtain ⟨y, hyd⟩ : ∃ y, y = keyN x n := ⟨_, rfl⟩
  have HY1 := Lib.hid (show ∀ k, k < 32 → y k = s k from fun k hk => by rw [hyd, hsd]; unfold keyN catN; rw [if_pos hk])
  have HY2 := Lib.hid (show ∀ k, y (32 + k) = t k from fun k => by rw [hyd, htd, hsd]; unfold keyN catN; rw [if_neg (by omega), show 32 + k - 32 = k by omega])
  have HSd := Lib.hid hsd.symm
  have HTd := Lib.hid htd.symm
  have HSl := Lib.hid (show ∀ i, s i < 256 from fun i => by rw [hsd]; exact shaB_lt _ _ i)
  rw [← hyd]
  clear hp hb hx hsd htd hyd
  have tok1 := Tok.mk 1
  go_enter Tryd.func28, Tryd.ntmps28
  go_wp2_with (first
    | (refine wpList_allocL rfl 44 2 rfl rfl HS0.out (Array.replicate 48 (.int .u8 0)) (by kernel_rfl) 48 (u8v fun _ => 0) (by rfl) (zero_at 48 (.int .u8 0)) ?_; intro b2 w2 hb2 hc2 hs; have HS2 := Lib.hid hs; have hl2 : b2 < w2.heap.size := hs.lt 0 rfl; have hz2 : w.heap.size ≤ w2.heap.size := hs.size; clear hs))
  go_loopw [3, 4] (fun v i wr => ∃ (j : Nat) (C : Option Addr) (cC : Nat), v = .slice C (j * 48) cC ∧ i = .int .i64 (j : Int) ∧ j ≤ n ∧ Own wr w2.heap.size 5 C (j * 48) cC (u8v x) ∧ Below w2.heap.size w2 wr) (fun _ i _ => n - (intOf i).toNat)
  case atStart => exact ⟨0, none, 0, by rw [Nat.zero_mul], rfl, by omega, by rw [Nat.zero_mul]; exact Own.nil _ _ _ _, Below.refl _ _⟩
  case round =>
    obtain ⟨j, C, cC, rfl, rfl, hj, ho, hbw⟩ := hrel
    have HO := Lib.hid ho
    have HW := Lib.hid hbw
    have hsz := hbw.size
    clear ho hbw
    obtain ⟨wo, rfl⟩ : ∃ wo : World, wo = wr := ⟨_, rfl⟩
    by_cases hjn : j < n
    · obtain ⟨ad, hA, _, _⟩ := HX.out (by omega)
      subst hA
      go_wp2_with (first
        | (refine wpList_as rfl 19 rfl (.pointer (some (ad.add (j * 48)))) ?_ ?_; (· exact ex_idx rfl rfl rfl (fun w => run_idxZ (z := 48) w Tryd.underlying74 (by kernel_rfl) ad (by omega)) _))
        | (refine wpList_as rfl 20 rfl (.slice (some (ad.add (j * 48))) 48 48) ?_ ?_; (· exact ex_slice rfl rfl rfl rfl (fun w => cut_ptr Tryd.underlying44 1 (by kernel_rfl) _ w) _))
        | (at_builtin; refine wpList_app _ (.tmp 16) (.tmp 20) 39 w2.heap.size u8_info Tryd.underlying39 rfl rfl rfl (j * 48 + 48) (u8v x) rfl rfl HO.out (show Rd wo wo.heap.size (some (ad.add (j * 48))) 48 (u8v fun q => x (j * 48 + q)) from fun _ => ⟨_, rfl, by obtain ⟨ad2, e2, hbk, _⟩ := HX.out (by omega); injection e2 with e2; subst e2; rw [add_blk]; omega, fun q hq => by rw [add_add]; exact ((HX.out.below (HS2.out.below HW.out |>.out (by simp; omega))).cell_ (show j * 48 + q < n * 48 by omega))⟩) (fun _ _ => rfl) rfl (cat_o j x _) ⟨by omega, by omega⟩ hsz ?_; intro A36 c36 w36 ho36 hg36 ha36; have HO36 := Lib.hid ho36; have HB36 := Lib.hid (below_app HW.out hg36 hsz (fun ad e => (HO.out.base_le ad e).1)); clear ho36 hg36 ha36))
      go_roundw
      case rel => exact ⟨j + 1, A36, c36, by rw [show (j + 1) * 48 = j * 48 + 48 by omega], by go_num, by omega, by rw [show (j + 1) * 48 = j * 48 + 48 by omega]; exact HO36.out, HB36.out⟩
      case measure => simp [intOf]; omega
    · obtain rfl : j = n := by omega
      have HSq := Lib.hid (HS2.out.below HW.out)
      have HRd := Lib.hid (show Rd wo wo.heap.size C (j * 48) (u8v x) from HO.out.rd)
      go_wp2_with (first
        | (go_at_call 53; have hx : Tok 1 := (by assumption); clear hx tok1; refine (refSum_any (j * 48) cC C x _ HRd.out HXl.out (by omega) (HP.out.below (HSq.out.out (by simp; omega)))).mono ?_; rintro e w5 ⟨rfl, hb⟩; rw [HSd.out]; have HS5 := Lib.hid (HSq.out.below hb); clear hb; have tok2 := Tok.mk 2)
        | (refine wpList_allocL rfl 24 5 rfl rfl HS5.out (Array.replicate 32 (.int .u8 0)) (by kernel_rfl) 32 (u8v fun _ => 0) (by rfl) (zero_at 32 (.int .u8 0)) ?_; intro b5 w6 hb5 hc5 hs; have HS6 := Lib.hid hs; clear hs)
        | (refine wpList_storeH rfl 24 (.tmp 5) (.tmp 23) rfl HS6.out 0 rfl (u8v s) rfl rfl (by kernel_rfl) (fun _ _ => rfl) ?_; intro w7 hs; have HS7 := Lib.hid hs; clear hs)
        | (go_at_call 53; have hx : Tok 2 := (by assumption); clear hx tok2; refine (refSum_any 32 32 (some ⟨b5, 0, none⟩) s _ (Rd.of_row (HS7.out.row 0 rfl) (Nat.le_refl _) (HS7.out.lt 0 rfl)) HSl.out (by omega) (HP.out.below (HS7.out.out (by simp; omega)))).mono ?_; rintro e w8 ⟨rfl, hb⟩; rw [HTd.out]; have HS8 := Lib.hid (HS7.out.below hb); clear hb)
        | (refine wpList_allocL rfl 24 6 rfl rfl HS8.out (Array.replicate 32 (.int .u8 0)) (by kernel_rfl) 32 (u8v fun _ => 0) (by rfl) (zero_at 32 (.int .u8 0)) ?_; intro b6 w9 hb6 hc6 hs; have HS9 := Lib.hid hs; clear hs)
        | (refine wpList_storeH rfl 24 (.tmp 6) (.tmp 25) rfl HS9.out 0 rfl (u8v t) rfl rfl (by kernel_rfl) (fun _ _ => rfl) ?_; intro wx hs; have HSx := Lib.hid hs; clear hs)
        | (refine wpList_allocL rfl 44 7 rfl rfl HSx.out (Array.replicate 48 (.int .u8 0)) (by kernel_rfl) 48 (u8v (upto y 0)) (by rfl) (zero_at 48 (.int .u8 0)) ?_; intro b7 wy hb7 hc7 hs; have HSy := Lib.hid hs; clear hs))
      clear HS9 HS8 HS7 HS6 HS5
      go_loopw [8] (fun i wq => ∃ k : Nat, i = .int .i64 (k : Int) ∧ k ≤ 32 ∧ HS w wq [⟨b7, 44, 48, u8v (upto y k)⟩, ⟨b6, 24, 32, u8v t⟩, ⟨b5, 24, 32, u8v s⟩, ⟨b2, 44, 48, u8v fun _ => 0⟩]) (fun i _ => 32 - (intOf i).toNat)
      case atStart => exact ⟨0, rfl, by omega, HSy.out⟩
      case round =>
        clear HSy HSx
        obtain ⟨k, rfl, hk, hs⟩ := hrel
        obtain ⟨wp, rfl⟩ : ∃ wp : World, wp = wr := ⟨_, rfl⟩
        by_cases h32 : k < 32
        · have co := hs.cell 0 k rfl (show k < 48 by omega)
          have fo := hs.frozen 0 k rfl
          have h1 := hs.cell 2 k rfl h32
          have HSq := Lib.hid hs
          clear hs
          go_wp2_with fail
          go_roundw
          case rel => exact ⟨k + 1, by go_num, by omega, (HSq.out.set 0 k rfl _).congr 0 rfl (up_step _ (by rw [HY1.out k h32]) 48)⟩
          case measure => simp [intOf]; omega
        · obtain rfl : k = 32 := by omega
          have HSz := Lib.hid hs
          clear hs
          go_wp2_with fail
          go_loopw [9] (fun i wq => ∃ k : Nat, i = .int .i64 (k : Int) ∧ k ≤ 16 ∧ HS w wq [⟨b7, 44, 48, u8v (upto y (32 + k))⟩, ⟨b6, 24, 32, u8v t⟩, ⟨b5, 24, 32, u8v s⟩, ⟨b2, 44, 48, u8v fun _ => 0⟩]) (fun i _ => 16 - (intOf i).toNat)
          case atStart => exact ⟨0, rfl, by omega, HSz.out⟩
          case round =>
            clear HSz
            obtain ⟨k, rfl, hk, hs⟩ := hrel
            by_cases h16 : k < 16
            · have co := hs.cell 0 (32 + k) rfl (show 32 + k < 48 by omega)
              have fo := hs.frozen 0 (32 + k) rfl
              have h1 := hs.cell 1 k rfl (show k < 32 by omega)
              have HSq := Lib.hid hs
              clear hs
              go_wp2_with fail
              go_roundw
              case rel => exact ⟨k + 1, by go_num, by omega, (HSq.out.set 0 (32 + k) rfl _).congr 0 rfl (up_step _ (by rw [HY2.out k]) 48)⟩
              case measure => simp [intOf]; omega
            · obtain rfl : k = 16 := by omega
              have HSq := Lib.hid (hs.congr 0 rfl up_all)
              clear hs
              go_wp2_with (first
                | (refine wpList_load_rd rfl 44 _ rfl 48 _ Tryd.underlying44 rfl (by kernel_rfl) ⟨b7, 0, none⟩ rfl (u8v y) (fun i hi => by rw [add_lit0]; exact HSq.out.cell 0 i rfl hi) ?_)
                | (refine wpList_storeH rfl 44 (.tmp 2) (.tmp 45) rfl HSq.out 3 rfl (u8v y) rfl rfl (by kernel_rfl) (fun _ _ => rfl) ?_; intro wh hs; have HH := Lib.hid hs; clear hs))
              exact ret_rowIs rfl (HH.out.row 3 rfl) _ rfl Tryd.underlying44 rfl (by kernel_rfl) rfl ⟨rfl, HH.out.out (by simp; omega)⟩
end Go.Proofs.YtjhgndnpihnidaaDoor
/- The next sync committee: the program and the reference. (Printed by a program of mine.) -/
namespace Go.Proofs.YtjhgndnpihnidaaDoor
set_option maxRecDepth 40000
open Go.RowKit
/-- The keys of listed validators. -/
def keysK (V : Nat → Value) (PL : List Nat) : Nat → Nat := fun i => nat (V (PL.getD (i / 48) 0 * 86 + i % 48)) % 256
/-- Eight keys and their sum. -/
def comK (K : Nat → Nat) : Nat → Nat := fun i => if i < 384 then K i else keyN K 8 (i - 384)
/-- The next committee. -/
def comN (F V : Nat → Value) (n s : Nat) : Nat → Nat := if (syncL F V n s).length = 0 then fun _ => 0 else comK (keysK V (syncL F V n s))
namespace PickNext
theorem sync_lt {F V : Nat → Value} {n s j : Nat} (h : j < (syncL F V n s).length) : (syncL F V n s).getD j 0 < n := by
  obtain ⟨q, hq, e⟩ := pick_mem h
  exact Nat.lt_of_le_of_lt (Nat.le_of_eq e) (ax_lt hq)
theorem next_cases (F V : Nat → Value) (n s : Nat) : ((syncL F V n s).length = 0 ∧ pickE (syncL F V n s) = 7 ∧ comN F V n s = fun _ => 0) ∨ ((syncL F V n s).length = 8 ∧ pickE (syncL F V n s) = 0 ∧ comN F V n s = comK (keysK V (syncL F V n s))) := by
  have h := pick_len (E := effF V) (l := ax V (s / 4 + 1) n) (s := shaB (seedF 7 (s / 4 + 1) (mixN F (s / 4 + 1))) 44) (n := (actIx V (s / 4 + 1) n).length) (want := 8)
  have h2 : (syncL F V n s).length = 0 ∨ (syncL F V n s).length = 8 := h
  rcases h2 with h | h
  · have e : syncL F V n s = [] := List.length_eq_zero_iff.1 h
    exact .inl ⟨h, by rw [e]; rfl, by unfold comN; rw [if_pos h]⟩
  · exact .inr ⟨h, by unfold pickE; rw [if_neg (fun e => by rw [e] at h; cases h)], by unfold comN; rw [if_neg (by omega)]⟩
theorem key_leaf : ∀ q, q < 48 → leafAt Tryd.prog 8 57 q = some 5 := fun q hq => by
  have h : (List.range 48).all (fun q => leafAt Tryd.prog 8 57 q == some 5) = true := by kernel_rfl
  exact eq_of_beq (List.all_eq_true.1 h q (List.mem_range.2 hq))
theorem key_at {w : World} {B n c v j q : Nat} {F V : Nat → Value} {A : Option Addr} {PL : List Nat} (hV : VOk w B F A n c V) (hv : v < n) (hq : q < 48) (e : v = PL.getD j 0) : V (v * 86 + q) = u8v (fun q => keysK V PL (j * 48 + q)) q := by
  have h := (hV.sc v hv).u8 q (key_leaf q hq)
  simp only [u8v, keysK]
  rw [show (j * 48 + q) / 48 = j by omega, show (j * 48 + q) % 48 = q by omega, ← e, Nat.mod_eq_of_lt h.2]
  exact h.1
theorem idxK (w : World) (b j : Nat) (hj : j < 8) : (Instr.indexAt 45 (.pointer (some ⟨b, 0, none⟩)) (.int .i64 (j : Int))).run Tryd.prog w = .ok (.pointer (some ⟨b, j * 48, none⟩)) w := by
  simp [go_sem, Instr.indexAt]
  omega
theorem lay_key (K : Nat → Nat) (j N : Nat) : ∀ i, i < N → (if j * 48 ≤ i ∧ i < j * 48 + 48 then u8v (fun q => K (j * 48 + q)) (i - j * 48) else u8v (PickSum.upto K (j * 48)) i) = u8v (PickSum.upto K ((j + 1) * 48)) i := fun i _ => by
  unfold PickSum.upto
  simp only [u8v]
  by_cases h : j * 48 ≤ i ∧ i < j * 48 + 48
  · rw [if_pos h, if_pos (show i < (j + 1) * 48 by omega), show j * 48 + (i - j * 48) = i by omega]
  · rw [if_neg h]
    by_cases h2 : i < j * 48
    · rw [if_pos h2, if_pos (show i < (j + 1) * 48 by omega)]
    · rw [if_neg h2, if_neg (show ¬ i < (j + 1) * 48 by omega)]
theorem lay_sum (K : Nat → Nat) : ∀ i, i < 432 → (if 384 ≤ i ∧ i < 384 + 48 then u8v (keyN K 8) (i - 384) else u8v (PickSum.upto K (8 * 48)) i) = u8v (comK K) i := fun i hi => by
  unfold PickSum.upto comK
  simp only [u8v]
  by_cases h : i < 384
  · rw [if_neg (by omega), if_pos h, if_pos h]
  · rw [if_pos (by omega), if_neg h]
end PickNext
open PickNext in
set_option maxHeartbeats 8000000 in
theorem next_look (F : Nat → Value) (hF : Sc F 49) (A : Option Addr) (n c : Nat) (V : Nat → Value) (s e : Nat) (hse : s / 4 + 1 = e) (w : World) (hs : F 33 = .int .u64 (s : Int)) (hs2 : s < 1099511627776) (hV : VOk w w.heap.size F A n c V) (hn : n ≤ 65536) (hp : ShaPkg w) :
    Calls Tryd.prog 35 #[.agg (arr 1957 F)] w fun r w' => r = .returned (.tuple #[.agg (arr 432 (u8v (comN F V n s))), .int .i64 (pickE (syncL F V n s))]) ∧ Below w.heap.size w w' := by
  have HV := Lib.hid hV
  have HS0 := Lib.hid (HS.nil w)
  have HP := Lib.hid hp
  have HSc := Lib.hid hF
  have HF33 := Lib.hid hs
  have HSe := Lib.hid hse
  obtain ⟨PL, hPL⟩ : ∃ PL, PL = syncL F V n s := ⟨_, rfl⟩
  obtain ⟨m, hm⟩ : ∃ m, m = PL.length := ⟨_, rfl⟩
  obtain ⟨k, hk⟩ : ∃ k, k = pickE PL := ⟨_, rfl⟩
  obtain ⟨y, hy⟩ : ∃ y, y = comN F V n s := ⟨_, rfl⟩
  obtain ⟨K, hK⟩ : ∃ K, K = keysK V PL := ⟨_, rfl⟩
  have HPL := Lib.hid hPL
  have HMk := Lib.hid (And.intro hm.symm hk.symm)
  have HKd := Lib.hid hK
  have HKl := Lib.hid (show ∀ i, K i < 256 from fun i => by rw [hK]; exact Nat.mod_lt _ (by omega))
  have HLt := Lib.hid (show ∀ j, j < m → PL.getD j 0 < n from fun j hj => by rw [hPL]; exact sync_lt (by rw [← hPL, ← hm]; exact hj))
  have hcase : (m = 0 ∧ k = 7 ∧ y = fun _ => 0) ∨ (m = 8 ∧ k = 0 ∧ y = comK K) := by
    rw [hm, hk, hy, hK, hPL]; exact next_cases F V n s
  rw [← hPL, ← hk, ← hy]
  clear hV hp hF hs hse hPL hm hk hy hK
  go_enter Tryd.func35, Tryd.ntmps35
  go_upto_region 2 with (first
    | (refine wpList_boxL rfl 49 _ 1 rfl rfl HS0.out 1957 F rfl ?_; intro b1 w1 hb1 hc1 hs; have HS1 := Lib.hid hs; clear hs)
    | (refine wpList_allocL rfl 47 2 rfl rfl HS1.out (Array.replicate 432 (.int .u8 0)) (by kernel_rfl) 432 (u8v fun _ => 0) (by rfl) (zero_at 432 (.int .u8 0)) ?_; intro b2 w2 hb2 hc2 hs; have HS2 := Lib.hid hs; clear hs)
    | (refine wpList_load_rd rfl 49 _ rfl 1957 _ Tryd.underlying49 rfl (by kernel_rfl) ⟨b1, 0, none⟩ rfl F (fun i hi => by rw [add_lit0]; exact (HS2.out.row 1 rfl).cell hi) ?_)
    | (go_at_call 33; refine (sync_look F HSc.out A n c V s e HSe.out _ HF33.out hs2 ((HV.out.below (HS2.out.out (by simp; omega))).more HS2.out.size) hn (HP.out.below (HS2.out.out (by simp; omega)))).mono ?_; rintro r wa ⟨A2, c2, rfl, ho, hb⟩; rw [← HPL.out, HMk.out.1, HMk.out.2]; rw [← HPL.out, HMk.out.1] at ho; have HSa := Lib.hid (HS2.out.below hb); have HRa := Lib.hid (show Rd wa wa.heap.size A2 m (u64v fun j => PL.getD j 0) from by have h := ho.rd; rwa [Nat.mul_one] at h); have HCa := Lib.hid (ShufLawOps.own_cap0 ho); clear hb ho))
  rcases hcase with ⟨rfl, rfl, rfl⟩ | ⟨rfl, rfl, hy⟩
  · go_wp2_with (first
      | (refine wpList_build_as rfl 47 #[] rfl [] rfl (arr 432 (u8v fun _ => 0)) (by kernel_rfl) ?_)
      | (refine wpList_storeH rfl 47 (.tmp 2) (.tmp 16) rfl HSa.out 0 rfl (u8v fun _ => 0) rfl rfl (by kernel_rfl) (fun _ _ => rfl) ?_; intro wh hs; have HH := Lib.hid hs; clear hs))
    exact ret_rowTmp rfl (HH.out.row 0 rfl) _ (.int .i64 7) rfl rfl Tryd.underlying47 rfl (by kernel_rfl) rfl ⟨rfl, HH.out.out (by simp; omega)⟩
  · have HYd := Lib.hid hy
    have HN := Lib.hid (HS.nil wa)
    obtain ⟨a2, hA2, _, _⟩ := HRa.out (by omega)
    subst hA2
    clear hy
    go_wp2_with (first
      | (refine wpList_allocL rfl 47 6 rfl rfl HN.out (Array.replicate 432 (.int .u8 0)) (by kernel_rfl) 432 (u8v (PickSum.upto K 0)) (by rfl) (zero_at 432 (.int .u8 0)) ?_; intro b6 wb hb6 hc6 hs; have HSb := Lib.hid hs; clear hs))
    go_loopw [20] (fun i wr => ∃ j : Nat, i = .int .i64 (j : Int) ∧ j ≤ 8 ∧ HS wa wr [⟨b6, 47, 432, u8v (PickSum.upto K (j * 48))⟩]) (fun i _ => 8 - (intOf i).toNat)
    case atStart => exact ⟨0, rfl, by omega, HSb.out⟩
    case round =>
      clear HSb
      obtain ⟨j, rfl, hj, hs⟩ := hrel
      have HSq := Lib.hid hs
      have HBq := Lib.hid (hs.out (by simp; omega))
      clear hs
      obtain ⟨wq, rfl⟩ : ∃ wq : World, wq = wr := ⟨_, rfl⟩
      have HSo := Lib.hid (HSa.out.below HBq.out)
      by_cases hjn : j < 8
      · obtain ⟨v, hv⟩ : ∃ v, v = PL.getD j 0 := ⟨_, rfl⟩
        have hvn : v < n := by rw [hv]; exact HLt.out j hjn
        have HC2 := Lib.hid (show wq.cell? (a2.add (j * 1)) = some (.int .u64 ((v : Nat) : Int)) by rw [hv, Nat.mul_one]; exact (HRa.out.below HBq.out).cell_ hjn)
        have HVq := Lib.hid ((HV.out.below (HSo.out.out (by simp; omega))).more HSo.out.size)
        obtain ⟨ad, hAd, _, hcv, _⟩ := HVq.out.at_ hvn
        have HC721 := Lib.hid (show wq.cell? ⟨b1, 721, none⟩ = some (.slice (some ad) n c) by rw [← hAd, ← HVq.out.f]; exact (HSo.out.row 1 rfl).cell (show 721 < 1957 by omega))
        have HCK := Lib.hid (show ∀ q, q < 48 → wq.cell? ((ad.add (v * 86)).add q) = some (u8v (fun q => K (j * 48 + q)) q) from fun q hq => by rw [hcv q (by omega), HKd.out]; exact congrArg some (key_at HVq.out hvn hq (by rw [hv])))
        clear hAd hcv hv
        have h721 := HC721.out
        go_wp2_with (first
          | (refine wpList_as rfl 23 rfl (.pointer (some (a2.add (j * 1)))) ?_ ?_; (· exact ex_idx rfl rfl rfl (fun w => run_idxZ (z := 1) w Tryd.underlying37 (by kernel_rfl) a2 (by omega)) _))
          | (refine wpList_as rfl 24 rfl (.int .u64 ((v : Nat) : Int)) ?_ ?_; (· exact ex_ld1 .u64 rfl rfl Tryd.underlying22 HC2.out))
          | (refine wpList_as rfl 29 rfl (.pointer (some (ad.add (v * 86)))) ?_ ?_; (· exact ex_idx rfl rfl rfl (fun w => ShufRefList.run_idxZV (z := 86) w Tryd.underlying36 (by kernel_rfl) ad hvn) _))
          | (refine wpList_as rfl 30 rfl (.pointer (some (ad.add (v * 86)))) ?_ ?_; (· exact ex_fld rfl rfl (fun w => by simp [go_sem]) _))
          | (refine wpList_load_rd rfl 44 _ rfl 48 _ Tryd.underlying44 rfl (by kernel_rfl) (ad.add (v * 86)) rfl (u8v fun q => K (j * 48 + q)) HCK.out ?_)
          | (refine wpList_as rfl 33 rfl (.pointer (some ⟨b6, j * 48, none⟩)) ?_ ?_; (· exact ex_idx rfl rfl rfl (fun w => idxK w b6 j (by omega)) _))
          | (refine wpList_storeP rfl 44 (.tmp 33) (.tmp 31) rfl HSq.out 0 rfl (j * 48) 48 (u8v fun q => K (j * 48 + q)) rfl rfl (by kernel_rfl) (by omega) (fun _ _ => rfl) (u8v (PickSum.upto K ((j + 1) * 48))) (lay_key K j 432) ?_; intro wf hs; have HF := Lib.hid hs; clear hs))
        go_roundw
        case rel => exact ⟨j + 1, by go_num, by omega, HF.out⟩
        case measure => simp [intOf]; omega
      · obtain rfl : j = 8 := by omega
        have HRb := Lib.hid (show Rd wq wq.heap.size (some ⟨b6, 0, none⟩) (8 * 48) (u8v K) from ((Rd.of_row (n := 384) (HSq.out.row 0 rfl) (show 384 ≤ 432 by omega) (HSq.out.lt 0 rfl))).congr PickSum.up_all)
        have HPq := Lib.hid (HP.out.below (HSo.out.out (by simp; omega)))
        go_wp2_with (first
          | (go_at_call 27; refine (psum_look 8 8 (some ⟨b6, 0, none⟩) K _ HRb.out HKl.out (by omega) (by omega) HPq.out).mono ?_; rintro r wc ⟨rfl, hb⟩; have HSc2 := Lib.hid (HSq.out.below hb); have HSo2 := Lib.hid (HSo.out.below hb); have hbo2 := hb.size; clear hb)
          | (refine wpList_as rfl 38 rfl (.pointer (some ⟨b6, 384, none⟩)) ?_ ?_; (· exact ex_fld rfl rfl (fun w => by simp [go_sem]) _))
          | (refine wpList_storeP rfl 44 (.tmp 38) (.tmp 37) rfl HSc2.out 0 rfl 384 48 (u8v (keyN K 8)) rfl rfl (by kernel_rfl) (by omega) (fun _ _ => rfl) (u8v (comK K)) (lay_sum K) ?_; intro wd hs; have HSd := Lib.hid hs; have HSod := Lib.hid (HSa.out.below (hs.out (by simp; omega))); clear hs)
          | (refine wpList_load_rd rfl 47 _ rfl 432 _ Tryd.underlying47 rfl (by kernel_rfl) ⟨b6, 0, none⟩ rfl (u8v (comK K)) (fun i hi => by rw [add_lit0]; exact HSd.out.cell 0 i rfl hi) ?_)
          | (refine wpList_storeH rfl 47 (.tmp 2) (.tmp 39) rfl HSod.out 0 rfl (u8v (comK K)) rfl rfl (by kernel_rfl) (fun _ _ => rfl) ?_; intro wh hs; have HH := Lib.hid hs; clear hs))
        rw [HYd.out]
        exact ret_rowTmp rfl (HH.out.row 0 rfl) _ (.int .i64 0) rfl rfl Tryd.underlying47 rfl (by kernel_rfl) rfl ⟨rfl, HH.out.out (by simp; omega)⟩
open PickNext in
set_option maxHeartbeats 8000000 in
theorem next_ref (F : Nat → Value) (hF : Sc F 49) (A : Option Addr) (n c : Nat) (V : Nat → Value) (s e : Nat) (hse : s / 4 + 1 = e) (w : World) (hs : F 33 = .int .u64 (s : Int)) (hs2 : s < 1099511627776) (hV : VOk w w.heap.size F A n c V) (hn : n ≤ 65536) (hp : RefPkg w) :
    Calls Tryd.prog 36 #[.agg (arr 1957 F)] w fun r w' => r = .returned (.tuple #[.agg (arr 432 (u8v (comN F V n s))), .int .i64 (pickE (syncL F V n s))]) ∧ Below w.heap.size w w' := by
  have HV := Lib.hid hV
  have HS0 := Lib.hid (HS.nil w)
  have HP := Lib.hid hp
  have HSc := Lib.hid hF
  have HF33 := Lib.hid hs
  have HSe := Lib.hid hse
  obtain ⟨PL, hPL⟩ : ∃ PL, PL = syncL F V n s := ⟨_, rfl⟩
  obtain ⟨m, hm⟩ : ∃ m, m = PL.length := ⟨_, rfl⟩
  obtain ⟨k, hk⟩ : ∃ k, k = pickE PL := ⟨_, rfl⟩
  obtain ⟨y, hy⟩ : ∃ y, y = comN F V n s := ⟨_, rfl⟩
  obtain ⟨K, hK⟩ : ∃ K, K = keysK V PL := ⟨_, rfl⟩
  have HPL := Lib.hid hPL
  have HMk := Lib.hid (And.intro hm.symm hk.symm)
  have HKd := Lib.hid hK
  have HKl := Lib.hid (show ∀ i, K i < 256 from fun i => by rw [hK]; exact Nat.mod_lt _ (by omega))
  have HLt := Lib.hid (show ∀ j, j < m → PL.getD j 0 < n from fun j hj => by rw [hPL]; exact sync_lt (by rw [← hPL, ← hm]; exact hj))
  have hcase : (m = 0 ∧ k = 7 ∧ y = fun _ => 0) ∨ (m = 8 ∧ k = 0 ∧ y = comK K) := by
    rw [hm, hk, hy, hK, hPL]; exact next_cases F V n s
  rw [← hPL, ← hk, ← hy]
  clear hV hp hF hs hse hPL hm hk hy hK
  go_enter Tryd.func36, Tryd.ntmps36
  go_upto_region 2 with (first
    | (refine wpList_boxL rfl 49 _ 1 rfl rfl HS0.out 1957 F rfl ?_; intro b1 w1 hb1 hc1 hs; have HS1 := Lib.hid hs; clear hs)
    | (refine wpList_allocL rfl 47 2 rfl rfl HS1.out (Array.replicate 432 (.int .u8 0)) (by kernel_rfl) 432 (u8v fun _ => 0) (by rfl) (zero_at 432 (.int .u8 0)) ?_; intro b2 w2 hb2 hc2 hs; have HS2 := Lib.hid hs; clear hs)
    | (refine wpList_load_rd rfl 49 _ rfl 1957 _ Tryd.underlying49 rfl (by kernel_rfl) ⟨b1, 0, none⟩ rfl F (fun i hi => by rw [add_lit0]; exact (HS2.out.row 1 rfl).cell hi) ?_)
    | (go_at_call 34; refine (sync_ref F HSc.out A n c V s e HSe.out _ HF33.out hs2 ((HV.out.below (HS2.out.out (by simp; omega))).more HS2.out.size) hn (HP.out.below (HS2.out.out (by simp; omega)))).mono ?_; rintro r wa ⟨A2, c2, rfl, ho, hb⟩; rw [← HPL.out, HMk.out.1, HMk.out.2]; rw [← HPL.out, HMk.out.1] at ho; have HSa := Lib.hid (HS2.out.below hb); have HRa := Lib.hid (show Rd wa wa.heap.size A2 m (u64v fun j => PL.getD j 0) from by have h := ho.rd; rwa [Nat.mul_one] at h); have HCa := Lib.hid (ShufLawOps.own_cap0 ho); clear hb ho))
  rcases hcase with ⟨rfl, rfl, rfl⟩ | ⟨rfl, rfl, hy⟩
  · go_wp2_with (first
      | (refine wpList_build_as rfl 47 #[] rfl [] rfl (arr 432 (u8v fun _ => 0)) (by kernel_rfl) ?_)
      | (refine wpList_storeH rfl 47 (.tmp 2) (.tmp 15) rfl HSa.out 0 rfl (u8v fun _ => 0) rfl rfl (by kernel_rfl) (fun _ _ => rfl) ?_; intro wh hs; have HH := Lib.hid hs; clear hs))
    exact ret_rowTmp rfl (HH.out.row 0 rfl) _ (.int .i64 7) rfl rfl Tryd.underlying47 rfl (by kernel_rfl) rfl ⟨rfl, HH.out.out (by simp; omega)⟩
  · have HYd := Lib.hid hy
    have HN := Lib.hid (HS.nil wa)
    obtain ⟨a2, hA2, _, _⟩ := HRa.out (by omega)
    subst hA2
    clear hy
    go_wp2_with (first
      | (refine wpList_allocL rfl 47 6 rfl rfl HN.out (Array.replicate 432 (.int .u8 0)) (by kernel_rfl) 432 (u8v (PickSum.upto K 0)) (by rfl) (zero_at 432 (.int .u8 0)) ?_; intro b6 wb hb6 hc6 hs; have HSb := Lib.hid hs; clear hs))
    go_loopw [7] (fun i wr => ∃ j : Nat, i = .int .i64 (j : Int) ∧ j ≤ 8 ∧ HS wa wr [⟨b6, 47, 432, u8v (PickSum.upto K (j * 48))⟩]) (fun i _ => 8 - (intOf i).toNat)
    case atStart => exact ⟨0, rfl, by omega, HSb.out⟩
    case round =>
      clear HSb
      obtain ⟨j, rfl, hj, hs⟩ := hrel
      have HSq := Lib.hid hs
      have HBq := Lib.hid (hs.out (by simp; omega))
      clear hs
      obtain ⟨wq, rfl⟩ : ∃ wq : World, wq = wr := ⟨_, rfl⟩
      have HSo := Lib.hid (HSa.out.below HBq.out)
      by_cases hjn : j < 8
      · obtain ⟨v, hv⟩ : ∃ v, v = PL.getD j 0 := ⟨_, rfl⟩
        have hvn : v < n := by rw [hv]; exact HLt.out j hjn
        have HC2 := Lib.hid (show wq.cell? (a2.add (j * 1)) = some (.int .u64 ((v : Nat) : Int)) by rw [hv, Nat.mul_one]; exact (HRa.out.below HBq.out).cell_ hjn)
        have HVq := Lib.hid ((HV.out.below (HSo.out.out (by simp; omega))).more HSo.out.size)
        obtain ⟨ad, hAd, _, hcv, _⟩ := HVq.out.at_ hvn
        have HC721 := Lib.hid (show wq.cell? ⟨b1, 721, none⟩ = some (.slice (some ad) n c) by rw [← hAd, ← HVq.out.f]; exact (HSo.out.row 1 rfl).cell (show 721 < 1957 by omega))
        have HCK := Lib.hid (show ∀ q, q < 48 → wq.cell? ((ad.add (v * 86)).add q) = some (u8v (fun q => K (j * 48 + q)) q) from fun q hq => by rw [hcv q (by omega), HKd.out]; exact congrArg some (key_at HVq.out hvn hq (by rw [hv])))
        have HD2 : Hid (∀ w', Below wq.heap.size wq w' → w'.cell? (a2.add (j * 1)) = some (.int .u64 ((v : Nat) : Int))) := Lib.hid (fun w' hb => by rw [hv, Nat.mul_one]; exact (HRa.out.below (HBq.out.trans (hb.mono HBq.out.size))).cell_ hjn)
        have HD721 : Hid (∀ w', Below wq.heap.size wq w' → w'.cell? ⟨b1, 721, none⟩ = some (.slice (some ad) n c)) := Lib.hid (fun w' hb => by rw [← hAd, ← HVq.out.f]; exact (row_below (HSo.out.row 1 rfl) hb (HSo.out.lt 1 rfl)).cell (show 721 < 1957 by omega))
        have HDK : Hid (∀ w', Below wq.heap.size wq w' → ∀ q, q < 48 → w'.cell? ((ad.add (v * 86)).add q) = some (u8v (fun q => K (j * 48 + q)) q)) := Lib.hid (fun w' hb q hq => by
          obtain ⟨ad2, e2, _, h3, _⟩ := (HVq.out.below hb).at_ hvn
          rw [hAd] at e2; injection e2 with e2; subst e2
          rw [h3 q (by omega), HKd.out]; exact congrArg some (key_at HVq.out hvn hq (by rw [hv])))
        clear hAd hcv hv
        go_upto_region 8 with fail
        refine wp_region_factsS (l := [_, _, _, _, _, _, _, _, _, _, _, _]) (tl := []) (B := wq.heap.size) (w0 := wq) [SF.is (.int .i64 ((j : Nat) : Int)), SF.is (.pointer (some ⟨b1, 721, none⟩)), SF.is (.slice (some ad) (n) (c)), SF.is (.slice (some a2) (8) (c2)), SF.is (.int .i64 ((j : Nat) : Int)), SF.is (.pointer (some (a2.add (j * 1)))), SF.is (.int .u64 ((v : Nat) : Int)), SF.is (.pointer (some (ad.add (v * 86)))), SF.is (.pointer (some (ad.add (v * 86)))), SF.is (.agg (arr 48 (u8v fun q => K (j * 48 + q)))), SF.is (.pointer (some ⟨b6, 0, none⟩)), SF.is (.pointer (some ⟨b6, j * 48, none⟩))] (by kernel_rfl) (by kernel_rfl) rfl (Nat.le_refl _) (Below.refl _ _) ⟨?_, ?_, ?_, ?_, ?_, ?_, ?_, ?_, ?_, ?_, ?_, ?_, trivial⟩ ?_
        · exact (opOb_move _ rfl (.inl rfl) rfl)
        · exact opOb_fld rfl rfl (OpK.tmp rfl) (fun w => by simp [go_sem])
        · exact opOb_ld rfl rfl (OpK.tmp rfl) (fun w' hb => PickDraw.run_ldSl w' _ _ _ _ (HD721.out w' hb) Tryd.underlying36)
        · exact (opOb_move _ rfl (.inl rfl) rfl)
        · exact (opOb_move _ rfl (.inl rfl) rfl)
        · exact opOb_idx rfl rfl (OpK.tmp rfl) (OpK.tmp rfl) (fun w => run_idxZ (z := 1) w Tryd.underlying37 (by kernel_rfl) a2 (by omega))
        · exact opOb_ld rfl rfl (OpK.tmp rfl) (fun w' hb => run_ld1 w' _ _ .u64 _ (HD2.out w' hb) Tryd.underlying22)
        · exact opOb_idx rfl rfl (OpK.tmp rfl) (OpK.tmp rfl) (fun w => ShufRefList.run_idxZV (z := 86) w Tryd.underlying36 (by kernel_rfl) ad hvn)
        · exact opOb_fld rfl rfl (OpK.tmp rfl) (fun w => by simp [go_sem])
        · exact opOb_ld rfl rfl (OpK.tmp rfl) (fun w' hb => run_loadAt_rd w' (ad.add (v * 86)) 48 44 _ (u8v fun q => K (j * 48 + q)) (fun q hq => HDK.out w' hb q hq) Tryd.underlying44 rfl (by kernel_rfl))
        · exact opOb_fld rfl rfl (OpK.tmp rfl) (fun w => by simp [go_sem])
        · exact opOb_idx rfl rfl (OpK.tmp rfl) (OpK.tmp rfl) (fun w => idxK w b6 j (by omega))
        · intro w' hb
          simp only [fin, SF.is, forall_eq]
          simp only [Act.put, List.setIfInBounds_toArray, List.set_cons_succ, List.set_cons_zero]
          have hs := HSq.out.below hb
          refine wp_storeP 44 (.tmp 32) (.tmp 30) rfl hs 0 rfl (j * 48) 48 (u8v fun q => K (j * 48 + q)) rfl rfl (by kernel_rfl) (by omega) (fun _ _ => rfl) (u8v (PickSum.upto K ((j + 1) * 48))) (lay_key K j 432) ?_
          clear hs hb
          intro wf hs
          have HF := Lib.hid hs
          clear hs
          simp only [seqWp, Act.put]
          go_wp2_with fail
          go_roundw
          case rel => exact ⟨j + 1, by go_num, by omega, HF.out⟩
          case measure => simp [intOf]; omega
      · obtain rfl : j = 8 := by omega
        have HRb := Lib.hid (show Rd wq wq.heap.size (some ⟨b6, 0, none⟩) (8 * 48) (u8v K) from ((Rd.of_row (n := 384) (HSq.out.row 0 rfl) (show 384 ≤ 432 by omega) (HSq.out.lt 0 rfl))).congr PickSum.up_all)
        have HPq := Lib.hid (HP.out.below (HSo.out.out (by simp; omega)))
        go_wp2_with (first
          | (go_at_call 28; refine (psum_ref 8 8 (some ⟨b6, 0, none⟩) K _ HRb.out HKl.out (by omega) HPq.out).mono ?_; rintro r wc ⟨rfl, hb⟩; have HSc2 := Lib.hid (HSq.out.below hb); have HSo2 := Lib.hid (HSo.out.below hb); have hbo2 := hb.size; clear hb)
          | (refine wpList_as rfl 36 rfl (.pointer (some ⟨b6, 384, none⟩)) ?_ ?_; (· exact ex_fld rfl rfl (fun w => by simp [go_sem]) _))
          | (refine wpList_storeP rfl 44 (.tmp 36) (.tmp 35) rfl HSc2.out 0 rfl 384 48 (u8v (keyN K 8)) rfl rfl (by kernel_rfl) (by omega) (fun _ _ => rfl) (u8v (comK K)) (lay_sum K) ?_; intro wd hs; have HSd := Lib.hid hs; have HSod := Lib.hid (HSa.out.below (hs.out (by simp; omega))); clear hs)
          | (refine wpList_load_rd rfl 47 _ rfl 432 _ Tryd.underlying47 rfl (by kernel_rfl) ⟨b6, 0, none⟩ rfl (u8v (comK K)) (fun i hi => by rw [add_lit0]; exact HSd.out.cell 0 i rfl hi) ?_)
          | (refine wpList_storeH rfl 47 (.tmp 2) (.tmp 37) rfl HSod.out 0 rfl (u8v (comK K)) rfl rfl (by kernel_rfl) (fun _ _ => rfl) ?_; intro wh hs; have HH := Lib.hid hs; clear hs))
        rw [HYd.out]
        exact ret_rowTmp rfl (HH.out.row 0 rfl) _ (.int .i64 0) rfl rfl Tryd.underlying47 rfl (by kernel_rfl) rfl ⟨rfl, HH.out.out (by simp; omega)⟩
end Go.Proofs.YtjhgndnpihnidaaDoor
/- Equality of values that lie flat: structs and arrays of numbers and bools, however deep. -/
namespace Go.Proofs.YtjhgndnpihnidaaDoor
set_option maxRecDepth 40000
open Go.RowKit
def fieldsB (chk : TypeId → Bool) (sz : TypeId → Nat) : List Field → Nat → Nat → Bool
  | [], o, n => o == n
  | x :: r, o, n => x.offset == o && x.name != "_" && chk x.type && decide (0 < sz x.type) && fieldsB chk sz r (o + sz x.type) n
/-- Numbers, bools, arrays and structs of these: n cells. -/
def flatB (P : Program) : Nat → TypeId → Nat → Bool
  | 0, _, _ => false
  | f + 1, t, n => decide ((P.info? t).map (·.size) = some n) && match P.underlying t with
    | some (.int _) => n == 1
    | some .bool => n == 1
    | some (.array m e) => flatB P f e (P.cellsOf e) && (m * P.cellsOf e == n) && decide (0 < P.cellsOf e)
    | some (.struct fs) => !P.stoodInHeld t && fieldsB (fun e => flatB P f e (P.cellsOf e)) P.cellsOf fs.toList 0 n
    | _ => false
/-- Cells that can be compared as cells of this type. -/
def kindsOk (P : Program) (l : TypeId) (a b : Value) : Prop := match P.underlying l with
  | some (.int k) => ∃ x y, a = .int k x ∧ b = .int k y
  | some .bool => ∃ x y, a = .bool x ∧ b = .bool y
  | _ => True
/-- The value of type t whose cells lie from o on. -/
def vAt (P : Program) (t : TypeId) (n o : Nat) (F : Nat → Value) : Value := match P.underlying t with
  | some (.array _ _) => .agg (arr n fun q => F (o + q))
  | some (.struct _) => .agg (arr n fun q => F (o + q))
  | _ => F o
theorem arr_extract (N : Nat) (F : Nat → Value) (a z : Nat) (h : a + z ≤ N) : (arr N F).extract a (a + z) = arr z (fun q => F (a + q)) := by
  apply Array.ext_getElem?
  intro i
  by_cases hi : i < z
  · rw [arr_at _ _ i hi, Array.getElem?_extract]
    simp only [size_arr]
    rw [if_pos (by omega), arr_at N F (a + i) (by omega)]
  · rw [Array.getElem?_eq_none (by simp [size_arr]; omega), Array.getElem?_eq_none (by rw [size_arr]; omega)]
section
variable {P : Program}
theorem run_part_flat (w : World) {e : TypeId} {z f : Nat} (hf : flatB P f e z = true) (N : Nat) (F : Nat → Value) (o a : Nat) (h : a + z ≤ N) (hz : 0 < z) : (part e (arr N fun q => F (o + q)) a).run P w = .ok (vAt P e z (o + a) F) w := by
  cases f with
  | zero => cases hf
  | succ f =>
    unfold flatB at hf
    simp only [Bool.and_eq_true, decide_eq_true_eq] at hf
    obtain ⟨h1, h2⟩ := hf
    have hs := sizeOf_run h1
    have one : ∀ (hag : (isAgg e).run P w = .ok false w), (part e (arr N fun q => F (o + q)) a).run P w = .ok (F (o + a)) w := fun hag => by
      have ha : (arr N fun q => F (o + q))[a]? = some (F (o + a)) := arr_at _ _ a (by omega)
      simp [part, hag, ha]
    have many : ∀ (hag : (isAgg e).run P w = .ok true w), (part e (arr N fun q => F (o + q)) a).run P w = .ok (.agg (arr z fun q => F (o + a + q))) w := fun hag => by
      simp only [part, Sem.run_bind, hag, hs, Result.andThen_ok, Sem.run_pure, if_true, arr_extract N _ a z h]
      exact congrArg (fun c => Result.ok (Value.agg c) w) (arr_congr fun i _ => by rw [Nat.add_assoc])
    cases hu : P.underlying e with
    | none => rw [hu] at h2; cases h2
    | some d =>
      have hag : (isAgg e).run P w = .ok (match d with | .struct _ | .array _ _ => true | _ => false) w := by
        unfold isAgg
        rw [Sem.run_bind, run_underlying hu w]
        cases d <;> rfl
      unfold vAt
      rw [hu] at h2 ⊢
      cases d <;> first | (cases h2; done) | exact one hag | exact many hag
theorem fields_get {chk : TypeId → Bool} {sz : TypeId → Nat} : ∀ (l : List Field) (o n : Nat), fieldsB chk sz l o n = true → o ≤ n ∧ ∀ x ∈ l, x.name ≠ "_" ∧ chk x.type = true ∧ 0 < sz x.type ∧ o ≤ x.offset ∧ x.offset + sz x.type ≤ n ∧
    ∀ j, j < sz x.type → l.find? (fun y => decide (y.offset ≤ x.offset + j) && decide (x.offset + j < y.offset + sz y.type)) = some x
  | [], o, n, h => ⟨by simp [fieldsB] at h; omega, fun x hx => by cases hx⟩
  | y :: r, o, n, h => by
    simp only [fieldsB, Bool.and_eq_true, beq_iff_eq, bne_iff_ne, decide_eq_true_eq] at h
    obtain ⟨⟨⟨⟨h1, h2⟩, h3⟩, h4⟩, h5⟩ := h
    obtain ⟨h6, h7⟩ := fields_get r _ _ h5
    refine ⟨by omega, fun x hx => ?_⟩
    rcases List.mem_cons.1 hx with rfl | hx
    · refine ⟨h2, h3, h4, by omega, by omega, fun j hj => ?_⟩
      rw [List.find?_cons_of_pos]
      simp only [Bool.and_eq_true, decide_eq_true_eq]; omega
    · obtain ⟨a1, a2, a3, a4, a5, a6⟩ := h7 x hx
      refine ⟨a1, a2, a3, by omega, a5, fun j hj => ?_⟩
      rw [List.find?_cons_of_neg, a6 j hj]
      simp only [Bool.and_eq_true, decide_eq_true_eq]; omega
/-- The fields of a struct, one behind the other. -/
theorem run_eqFields {chk : TypeId → Bool} (w : World) (D N : Nat) (o : Nat) (F G : Nat → Value) (hpart : ∀ e, chk e = true → ∃ f, flatB P f e (P.cellsOf e) = true) :
    ∀ (l : List Field) (a n : Nat), n ≤ N → fieldsB chk P.cellsOf l a n = true →
      (∀ x ∈ l, ∃ b, (Op.equalIn D x.type (vAt P x.type (P.cellsOf x.type) (o + x.offset) F) (vAt P x.type (P.cellsOf x.type) (o + x.offset) G)).run P w = .ok b w ∧ (b = true ↔ ∀ q, q < P.cellsOf x.type → F (o + x.offset + q) = G (o + x.offset + q))) →
      ∃ b, (Op.eqFields D (arr N fun q => F (o + q)) (arr N fun q => G (o + q)) l).run P w = .ok b w ∧ (b = true ↔ ∀ i, a ≤ i → i < n → F (o + i) = G (o + i))
  | [], a, n, _, h, _ => by
    refine ⟨true, by simp [Op.eqFields], ?_⟩
    simp [fieldsB] at h
    exact ⟨fun _ i h1 h2 => by omega, fun _ => rfl⟩
  | x :: r, a, n, hN, h, he => by
    simp only [fieldsB, Bool.and_eq_true, beq_iff_eq, bne_iff_ne, decide_eq_true_eq] at h
    obtain ⟨⟨⟨⟨h1, h2⟩, h3⟩, h4⟩, h5⟩ := h
    obtain ⟨f, hf⟩ := hpart _ h3
    have h6 := (fields_get r _ _ h5).1
    obtain ⟨b1, hb1, hq1⟩ := he x List.mem_cons_self
    obtain ⟨b2, hb2, hq2⟩ := run_eqFields w D N o F G hpart r _ _ hN h5 (fun y hy => he y (List.mem_cons_of_mem _ hy))
    have hrun : (Op.eqFields D (arr N fun q => F (o + q)) (arr N fun q => G (o + q)) (x :: r)).run P w = .ok (b1 && b2) w := by
      rw [Op.eqFields]
      simp only [ne_eq, h2, not_false_eq_true, if_true, Sem.run_bind, run_part_flat w hf N _ o x.offset (by omega) h4, Result.andThen_ok, hb1]
      cases b1 with
      | false => simp
      | true => simp [hb2]
    refine ⟨_, hrun, ?_⟩
    rw [Bool.and_eq_true, hq1, hq2]
    constructor
    · rintro ⟨k1, k2⟩ i hi1 hi2
      by_cases hi : i < a + P.cellsOf x.type
      · have := k1 (i - x.offset) (by omega)
        rwa [show o + x.offset + (i - x.offset) = o + i by omega] at this
      · exact k2 i (by omega) hi2
    · intro k
      refine ⟨fun q hq => ?_, fun i hi1 hi2 => k i (by omega) hi2⟩
      have := k (x.offset + q) (by omega) (by omega)
      rwa [← Nat.add_assoc] at this
/-- Two such values are equal where all their cells are. -/
theorem equal_flat (w : World) : ∀ (f D : Nat) (t : TypeId) (n o : Nat) (F G : Nat → Value), flatB P f t n = true → f ≤ D → (∀ i l, i < n → leafAt P f t i = some l → kindsOk P l (F (o + i)) (G (o + i))) →
    ∃ b, (Op.equalIn D t (vAt P t n o F) (vAt P t n o G)).run P w = .ok b w ∧ (b = true ↔ ∀ i, i < n → F (o + i) = G (o + i)) := by
  intro f
  induction f with
  | zero => intro D t n o F G h _ _; cases h
  | succ f ih =>
    intro D t n o F G hf hD hk
    obtain ⟨D, rfl⟩ : ∃ D', D = D' + 1 := ⟨D - 1, by omega⟩
    unfold flatB at hf
    simp only [Bool.and_eq_true, decide_eq_true_eq] at hf
    obtain ⟨hsz, hf⟩ := hf
    cases hu : P.underlying t with
    | none => rw [hu] at hf; cases hf
    | some d =>
      rw [hu] at hf
      cases d with
      | int k =>
        have hn : n = 1 := by simpa using hf
        subst hn
        have h1 := hk 0 t (by omega) (by unfold leafAt; rw [hu]; rfl)
        unfold kindsOk at h1
        rw [hu] at h1
        obtain ⟨x, y, hx, hy⟩ := h1
        rw [Nat.add_zero] at hx hy
        unfold vAt
        simp only [hu, hx, hy]
        refine ⟨x == y, run_equalIn_int w D t k k x y hu, ?_⟩
        rw [beq_iff_eq]
        refine ⟨fun e i hi => ?_, fun h => ?_⟩
        · obtain rfl : i = 0 := by omega
          rw [Nat.add_zero, hx, hy, e]
        · have := h 0 (by omega)
          rw [Nat.add_zero, hx, hy] at this
          injection this
      | bool =>
        have hn : n = 1 := by simpa using hf
        subst hn
        have h1 := hk 0 t (by omega) (by unfold leafAt; rw [hu]; rfl)
        unfold kindsOk at h1
        rw [hu] at h1
        obtain ⟨x, y, hx, hy⟩ := h1
        rw [Nat.add_zero] at hx hy
        unfold vAt
        simp only [hu, hx, hy]
        refine ⟨x == y, run_equalIn_bool' w D t x y hu, ?_⟩
        rw [beq_iff_eq]
        refine ⟨fun e i hi => ?_, fun h => ?_⟩
        · obtain rfl : i = 0 := by omega
          rw [Nat.add_zero, hx, hy, e]
        · have := h 0 (by omega)
          rw [Nat.add_zero, hx, hy] at this
          injection this
      | array m e =>
        simp only [Bool.and_eq_true, beq_iff_eq, decide_eq_true_eq] at hf
        obtain ⟨⟨he, hmn⟩, hz⟩ := hf
        obtain ⟨z, hzd⟩ : ∃ z, z = P.cellsOf e := ⟨_, rfl⟩
        rw [← hzd] at he hmn hz
        have hes : (P.info? e).map (·.size) = some z := by
          cases f with
          | zero => cases he
          | succ f => unfold flatB at he; simp only [Bool.and_eq_true, decide_eq_true_eq] at he; exact he.1
        have hs := sizeOf_run hes
        have fit : ∀ i, i < m → i * z + z ≤ n := fun i hi => by
          have := Nat.mul_le_mul_right z (show i + 1 ≤ m from hi)
          rw [Nat.succ_mul] at this; omega
        have each : ∀ i, i < m → ∃ b, (Op.equalIn D e (vAt P e z (o + i * z) F) (vAt P e z (o + i * z) G)).run P w = .ok b w ∧ (b = true ↔ ∀ q, q < z → F (o + i * z + q) = G (o + i * z + q)) := fun i hi =>
          ih D e z (o + i * z) F G he (by omega) (fun q l hq hl => by
            have := hk (i * z + q) l (by have := fit i hi; omega) (by
              unfold leafAt
              rw [hu]
              simp only
              rw [← hzd, show (i * z + q) / z = i by rw [Nat.mul_comm, Nat.mul_add_div hz]; simp [Nat.div_eq_of_lt hq], if_pos hi, show (i * z + q) % z = q by rw [Nat.mul_comm, Nat.mul_add_mod]; exact Nat.mod_eq_of_lt hq]
              exact hl)
            rwa [← Nat.add_assoc] at this)
        have key : ∀ j a, j + a = m → (∀ i, i < a → ∀ q, q < z → F (o + i * z + q) = G (o + i * z + q)) → ∃ b, (forIn (List.range' a j) ((none, ()) : Option Bool × Unit) fun i __s => (do
            let __do_lift ← part e (arr n fun q => F (o + q)) (i * z)
            let __do_lift_1 ← part e (arr n fun q => G (o + q)) (i * z)
            let __do_lift ← Op.equalIn D e __do_lift __do_lift_1
            if __do_lift = false then pure (ForInStep.done (some false, ())) else pure (ForInStep.yield (none, ())) : Sem (ForInStep (Option Bool × Unit)))).run P w = .ok (if b = true then (none, ()) else (some false, ())) w ∧ (b = true ↔ ∀ i, i < m → ∀ q, q < z → F (o + i * z + q) = G (o + i * z + q)) := by
          intro j
          induction j with
          | zero =>
            intro a ha hlt
            exact ⟨true, by simp, ⟨fun _ i hi => hlt i (by omega), fun _ => rfl⟩⟩
          | succ j jh =>
            intro a ha hlt
            obtain ⟨b, hb, hq⟩ := each a (by omega)
            simp only [List.range'_succ, List.forIn_cons, Sem.run_bind, run_part_flat w he n F o (a * z) (fit a (by omega)) hz, run_part_flat w he n G o (a * z) (fit a (by omega)) hz, Result.andThen_ok, hb]
            cases b with
            | true =>
              simp only [Bool.true_eq_false, if_false, Sem.run_pure, Result.andThen_ok]
              exact jh (a + 1) (by omega) (fun i hi => by
                by_cases h : i = a
                · subst h; exact hq.1 rfl
                · exact hlt i (by omega))
            | false =>
              refine ⟨false, by simp, ⟨(fun h => by cases h), fun h => ?_⟩⟩
              exact hq.2 (h a (by omega))
        obtain ⟨b, hb, hq⟩ := key m 0 (by omega) (fun i hi => by omega)
        refine ⟨b, ?_, ?_⟩
        · unfold vAt
          simp only [hu]
          rw [Op.equalIn]
          simp [run_underlying hu, hs]
          rw [hb]
          cases b <;> simp
        · rw [hq]
          constructor
          · intro h i hi
            have h1 : i / z < m := by rw [Nat.div_lt_iff_lt_mul hz]; omega
            have := h (i / z) h1 (i % z) (Nat.mod_lt _ hz)
            rwa [show o + i / z * z + i % z = o + i by rw [Nat.add_assoc, Nat.div_add_mod']] at this
          · intro h i hi q hq
            have := h (i * z + q) (by have := fit i hi; omega)
            rwa [← Nat.add_assoc] at this
      | struct fs =>
        simp only [Bool.and_eq_true, Bool.not_eq_true'] at hf
        obtain ⟨hst, hfs⟩ := hf
        have hfo : P.fieldsOf t = fs := by unfold Program.fieldsOf; rw [hu]
        obtain ⟨b, hb, hq⟩ := run_eqFields (P := P) w D n o F G (fun e he => ⟨f, he⟩) fs.toList 0 n (Nat.le_refl _) hfs (fun x hx => by
          obtain ⟨_, a2, a3, _, a5, a6⟩ := (fields_get _ _ _ hfs).2 x hx
          refine ih D x.type (P.cellsOf x.type) (o + x.offset) F G a2 (by omega) (fun q l hq hl => ?_)
          have := hk (x.offset + q) l (by omega) (by
            unfold leafAt
            rw [hu]
            simp only
            rw [a6 q hq]
            simp only [Option.bind_some]
            rw [show x.offset + q - x.offset = q by omega]
            exact hl)
          rwa [← Nat.add_assoc] at this)
        refine ⟨b, ?_, ?_⟩
        · unfold vAt
          simp only [hu]
          rw [run_equalIn_struct w D t _ _ (by rw [hfo]; exact hu) hst, hfo]
          exact hb
        · rw [hq]
          exact ⟨fun h i hi => h i (Nat.zero_le _) hi, fun h i _ hi => h i hi⟩
      | _ => cases hf
/-- The comparison of two such values, as an operation. -/
theorem equal_agg (w : World) {f : Nat} {ty : TypeId} {n : Nat} {F G : Nat → Value} {b : Bool} {d : TypeDesc} (hu : P.underlying ty = some d) (hd : (match d with | .struct _ | .array _ _ => true | _ => false) = true) (hf : flatB P f ty n = true) (hf2 : f ≤ 10000)
    (hk : ∀ i l, i < n → leafAt P f ty i = some l → kindsOk P l (F i) (G i)) (hb : b = true ↔ ∀ i, i < n → F i = G i) : (Op.equal ty (.agg (arr n F)) (.agg (arr n G))).run P w = .ok b w := by
  obtain ⟨b', h1, h2⟩ := equal_flat (P := P) w f 10000 ty n 0 F G hf hf2 (fun i l hi hl => by rw [Nat.zero_add]; exact hk i l hi hl)
  have hbb : b' = b := by
    have h3 : b' = true ↔ b = true := by rw [h2, hb]; simp only [Nat.zero_add]
    cases b <;> cases b' <;> simp_all
  subst hbb
  have hv : ∀ F : Nat → Value, vAt P ty n 0 F = .agg (arr n F) := fun F => by
    unfold vAt
    rw [hu]
    cases d <;> first | (cases hd; done) | simp only [Nat.zero_add]
  rw [hv, hv] at h1
  exact h1
theorem ex_eqFlat {o : Oper} {a : Act} {ty rt : TypeId} {xo yo : Operand} {w : World} (f n : Nat) (F G : Nat → Value) (b : Bool) {d : TypeDesc} (hop : o.op = .binOp .eql ty xo yo rt) (hx : a.eval xo = .agg (arr n F)) (hy : a.eval yo = .agg (arr n G)) (hu : P.underlying ty = some d) (hd : (match d with | .struct _ | .array _ _ => true | _ => false) = true) (hf : flatB P f ty n = true) (hf2 : f ≤ 10000) (hq : P.eqGuardType P.depth ty = false)
    (hk : ∀ i l, i < n → leafAt P f ty i = some l → kindsOk P l (F i) (G i)) (hb : b = true ↔ ∀ i, i < n → F i = G i) : (execOp a.eval o).run P w = .ok (.value (.bool b)) w := by
  unfold execOp
  rw [hop]
  simp only [hx, hy]
  simp [eqGuard, hq, binOp, equal_agg w hu hd hf hf2 hk hb]
theorem ex_neFlat {o : Oper} {a : Act} {ty rt : TypeId} {xo yo : Operand} {w : World} (f n : Nat) (F G : Nat → Value) (b : Bool) {d : TypeDesc} (hop : o.op = .binOp .neq ty xo yo rt) (hx : a.eval xo = .agg (arr n F)) (hy : a.eval yo = .agg (arr n G)) (hu : P.underlying ty = some d) (hd : (match d with | .struct _ | .array _ _ => true | _ => false) = true) (hf : flatB P f ty n = true) (hf2 : f ≤ 10000) (hq : P.eqGuardType P.depth ty = false)
    (hk : ∀ i l, i < n → leafAt P f ty i = some l → kindsOk P l (F i) (G i)) (hb : b = true ↔ ∀ i, i < n → F i = G i) : (execOp a.eval o).run P w = .ok (.value (.bool (!b))) w := by
  unfold execOp
  rw [hop]
  simp only [hx, hy]
  simp [eqGuard, hq, binOp, equal_agg w hu hd hf hf2 hk hb]
end
end Go.Proofs.YtjhgndnpihnidaaDoor
