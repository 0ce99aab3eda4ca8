/- Domains, by the reference. (Printed by a program of mine.) -/
import Derived.Test.YtecgogeebponlaaDoorSignOf
import Derived.Test.YtecgogeebponlaaDoorPackRef
import Derived.Test.YtecgogeebponlaaDoorPtr
import Derived.Test.YtecgogeebponlaaDoorShaRef2
namespace Go.Proofs.YtecgogeebponlaaDoor
set_option maxRecDepth 40000
open Go.RowKit
namespace SignDom
theorem ent_pack (vs : Array Value) (w : World) : (callFunc 37 vs).run Tryd.prog w = .ok (.enter 37 vs) w := by kernel_rfl
theorem ent_two (vs : Array Value) (w : World) : (callFunc 30 vs).run Tryd.prog w = .ok (.enter 30 vs) w := by kernel_rfl
theorem dq1 (K : Nat) {j i : Nat} (v : Value) (hv : v = .int .u8 ((leB K j : Nat) : Int)) : (if i = j then v else u8v (fun i => if i < j then leB K i else 0) i) = u8v (fun i => if i < j + 1 then leB K i else 0) i := le_step v hv
theorem dq2 (K : Nat) (h : Nat → Nat) : ∀ i, i < 32 → u8v (fun i => if i < 4 then leB K i else 0) i = u8v (fun i => if i < 4 + 0 then catN 4 (leB K) h i else 0) i := fun i _ => by
  simp only [u8v, catN]
  by_cases e : i < 4
  · rw [if_pos e, if_pos (show i < 4 + 0 by omega), if_pos e]
  · rw [if_neg e, if_neg (show ¬ i < 4 + 0 by omega)]
theorem dq3 (K : Nat) (h : Nat → Nat) {j i : Nat} (v : Value) (hv : v = .int .u8 ((h j : Nat) : Int)) : (if i = 4 + j then v else u8v (fun i => if i < 4 + j then catN 4 (leB K) h i else 0) i) = u8v (fun i => if i < 4 + (j + 1) then catN 4 (leB K) h i else 0) i := by
  by_cases e : i = 4 + j
  · subst e
    rw [if_pos rfl, hv]
    simp only [u8v, catN]
    rw [if_pos (show 4 + j < 4 + (j + 1) by omega), if_neg (show ¬ 4 + j < 4 by omega), show 4 + j - 4 = j by omega]
  · rw [if_neg e]
    simp only [u8v]
    by_cases e2 : i < 4 + j
    · rw [if_pos e2, if_pos (show i < 4 + (j + 1) by omega)]
    · rw [if_neg e2, if_neg (show ¬ i < 4 + (j + 1) by omega)]
theorem dq4 (K : Nat) (h : Nat → Nat) : ∀ i, i < 32 → u8v (fun i => if i < 4 + 28 then catN 4 (leB K) h i else 0) i = u8v (catN 4 (leB K) h) i := fun i hi => by
  simp only [u8v]; rw [if_pos (by omega)]
end SignDom
open SignDom in
set_option maxHeartbeats 4000000 in
theorem dom_ref (k : Int) (K : Nat) (hk : k % 4294967296 = (K : Int)) (v r : Nat → Nat) (hv : ∀ i, v i < 256) (hr : ∀ i, r i < 256) (w : World) (hp : RefPkg w) :
    Calls Tryd.prog 28 #[.int .i64 k, .agg (arr 4 (u8v v)), rootV r] w fun e w' => e = .returned (rootV (domN K v r)) ∧ Below w.heap.size w w' := by
  have HP := Lib.hid hp
  have HV := Lib.hid hv
  have HR := Lib.hid hr
  have HK := Lib.hid hk
  have HS0 := Lib.hid (HS.nil w)
  clear hp hv hr hk
  go_enter Tryd.func28, Tryd.ntmps28
  go_wp2_with (first
    | (refine wpList_boxL rfl 26 _ 4 rfl rfl HS0.out 4 (u8v v) rfl ?_; intro b4 w4 hb4 hc4 hs4; have HS4 := Lib.hid hs4; clear hs4)
    | (refine wpList_boxL rfl 24 _ 5 rfl rfl HS4.out 32 (u8v r) rfl ?_; intro b5 w5 hb5 hc5 hs5; have HS5 := Lib.hid hs5; clear hs5)
    | (refine wpList_allocL rfl 24 6 rfl rfl HS5.out (Array.replicate 32 (.int .u8 0)) (by kernel_rfl) 32 (u8v fun _ => 0) (by rfl) (zero_at 32 (.int .u8 0)) ?_; intro b6 w6 hb6 hc6 hs6; have HS6 := Lib.hid hs6; clear hs6)
    | (go_at_call 35; rw [HK.out]; refine (bytes_ref K _).mono ?_; rintro e w6b ⟨rfl, hbb⟩; have HS6b := Lib.hid (HS6.out.below hbb); clear hbb)
    | (refine wpList_allocL rfl 84 7 rfl rfl HS6b.out (Array.replicate 8 (.int .u8 0)) (by kernel_rfl) 8 (u8v fun _ => 0) (by rfl) (zero_at 8 (.int .u8 0)) ?_; intro b7 w7 hb7 hc7 hs7; have HS7 := Lib.hid hs7; clear hs7)
    | (refine wpList_storeH rfl 84 (.tmp 7) (.tmp 15) rfl HS7.out 0 rfl (u8v (leB K)) rfl rfl (by kernel_rfl) (fun _ _ => rfl) ?_; intro wa hs; have HA := Lib.hid hs; clear hs))
  have hs : HS w wa [⟨b7, 84, 8, u8v (leB K)⟩, ⟨b6, 24, 32, u8v fun _ => 0⟩, ⟨b5, 24, 32, u8v r⟩, ⟨b4, 26, 4, u8v v⟩] := HA.out
  clear HA
  have HA := Lib.hid hs
  clear hs HS0 HS4 HS5 HS6 HS6b HS7
  refine wp_region_factsS (l := [_, _, _, _, _, _, _]) (tl := []) (B := wa.heap.size) (w0 := wa) [SF.is (.slice (some ⟨b4, 0, none⟩) (4) (4)), SF.rdZ 1 32 (u8v (padN 4 v)), SF.ptr 32 (u8v (padN 4 v)), SF.is (rootV (padN 4 v)), SF.is (rootV r), SF.is (rootV (shaB (catN 32 (padN 4 v) r) 64)), SF.new wa.heap.size 24 32 (u8v fun _ => 0)] (by kernel_rfl) (by kernel_rfl) rfl (Nat.le_refl _) (Below.refl _ _) ⟨?_, ?_, ?_, ?_, ?_, ?_, ?_, trivial⟩ ?_
  · exact opOb_slc rfl rfl (OpK.tmp rfl) (OpKo.no) (OpKo.no) (fun w => cut_arr Tryd.underlying26 1 (by kernel_rfl) none none (0) (4) (.inl ⟨rfl, rfl⟩) (.inl ⟨rfl, rfl⟩) (by omega) (by omega) (by omega) (by omega) (by omega) (by omega))
  · exact opOb_fn1 ent_pack rfl rfl (OpK.tmp rfl) (fun w' hb => (pack_ref 4 4 _ v w' (Rd.of_row (row_below (HA.out.row 3 rfl) hb (HA.out.row 3 rfl).lt) (Nat.le_refl _) (row_below (HA.out.row 3 rfl) hb (HA.out.row 3 rfl).lt).lt) (by omega)).mono fun e w'' ⟨A', c', he, ho, hb2⟩ => ⟨_, he, ⟨A', c', rfl, ho.rd⟩, hb2⟩)
  · exact opOb_idxZ (k := 0) (u8v (padN 4 v)) (fun q _ => congrArg (u8v (padN 4 v)) (by omega)) Tryd.underlying32 (by kernel_rfl) (by omega) (by omega) rfl rfl rfl OpK.const
  · exact opOb_ldP Tryd.underlying24 rfl (by kernel_rfl) rfl rfl rfl
  · exact opOb_ld rfl rfl (OpK.tmp rfl) (fun w' hb => ld_all (HA.out.row 2 rfl) (HA.out.row 2 rfl).lt Tryd.underlying24 rfl (by kernel_rfl) w' hb)
  · exact opOb_fn2 ent_two rfl rfl (OpK.tmp rfl) (OpK.tmp rfl) (fun w' hb => (refTwo_any (padN 4 v) r (padN_lt HV.out) HR.out w' (HP.out.below ((HA.out.out (by simp; omega)).trans (hb.mono HA.out.size)))).mono fun e w'' ⟨he, hb2⟩ => ⟨_, he, rfl, hb2⟩)
  · exact opOb_new wa.heap.size rfl rfl (Array.replicate 32 (.int .u8 0)) (by kernel_rfl) 32 (u8v fun _ => 0) (by rfl) (zero_at 32 (.int .u8 0)) (Nat.le_refl _)
  · intro w' hb
    simp only [fin, SF.is, SF.new, SF.ptr, SF.rdZ, forall_eq]
    simp only [Act.put, List.setIfInBounds_toArray, List.set_cons_succ, List.set_cons_zero]
    rintro _ ⟨A17, c17, rfl, _⟩ _ ⟨a18, rfl, _, _⟩ _ ⟨b8, rfl, hc8, hr8⟩
    have hs := HA.out.below hb
    have hsz := HA.out.size
    have hs1 := hs.add hr8 (by omega) (fun r hr => by have := (HA.out.has r hr).lt; omega)
    clear hs hb hr8
    refine wp_storeL 24 (.tmp 8) (.tmp 21) rfl hs1 0 rfl (u8v (shaB (catN 32 (padN 4 v) r) 64)) rfl rfl (by kernel_rfl) (fun _ _ => rfl) ?_
    clear hs1
    intro wb hs
    have HBB : Hid (HS w wb [⟨b8, 24, 32, u8v (shaB (catN 32 (padN 4 v) r) 64)⟩, ⟨b7, 84, 8, u8v (leB K)⟩, ⟨b6, 24, 32, u8v fun _ => 0⟩, ⟨b5, 24, 32, u8v r⟩, ⟨b4, 26, 4, u8v v⟩]) := Lib.hid hs
    clear hs HA
    obtain ⟨H, hH⟩ : ∃ H, H = shaB (catN 32 (padN 4 v) r) 64 := ⟨_, rfl⟩
    have hres : domN K v r = catN 4 (leB K) H := by rw [hH]; rfl
    rw [← hH] at HBB
    have HRES := Lib.hid hres.symm
    clear hH hres
    simp only [seqWp]
    go_wp2_with (first
      | (refine wpList_allocL rfl 24 9 rfl rfl HBB.out (Array.replicate 32 (.int .u8 0)) (by kernel_rfl) 32 (u8v fun _ => 0) (by rfl) (zero_at 32 (.int .u8 0)) ?_; intro b9 w9 hb9 hc9 hs9; have HS9 := Lib.hid hs9; clear hs9))
    go_loopw [10] (fun i wq => ∃ j : Nat, i = .int .i64 (j : Int) ∧ j ≤ 4 ∧ HS w wq [⟨b9, 24, 32, u8v fun q => if q < j then leB K q else 0⟩, ⟨b8, 24, 32, u8v H⟩, ⟨b7, 84, 8, u8v (leB K)⟩, ⟨b6, 24, 32, u8v fun _ => 0⟩, ⟨b5, 24, 32, u8v r⟩, ⟨b4, 26, 4, u8v v⟩]) (fun i _ => 4 - (intOf i).toNat)
    case atStart => exact ⟨0, rfl, by omega, HS9.out.congr 0 rfl (fun i _ => by simp [u8v])⟩
    case round =>
      clear HS9 HBB
      obtain ⟨j, rfl, hj, hs⟩ := hrel
      by_cases hj4 : j < 4
      · have c7 := hs.cell 2 j rfl (by show j < 8; omega)
        have c9 := hs.cell 0 j rfl (by show j < 32; omega)
        have f9 := hs.frozen 0 j rfl
        have HSq := Lib.hid hs
        clear hs
        go_wp2_with fail
        go_roundw
        case rel => exact ⟨j + 1, by go_num, by omega, (HSq.out.set 0 j rfl _).congr 0 rfl (fun i _ => dq1 K _ rfl)⟩
        case measure => simp [intOf]; omega
      · obtain rfl : j = 4 := by omega
        have HS2 := Lib.hid (hs.congr 0 rfl (dq2 K H))
        clear hs
        obtain ⟨wo, rfl⟩ : ∃ wo : World, wo = wr := ⟨_, rfl⟩
        go_wp2_with fail
        go_loopw [11] (fun i wq => ∃ j : Nat, i = .int .i64 (j : Int) ∧ j ≤ 28 ∧ HS w wq [⟨b9, 24, 32, u8v fun q => if q < 4 + j then catN 4 (leB K) H q else 0⟩, ⟨b8, 24, 32, u8v H⟩, ⟨b7, 84, 8, u8v (leB K)⟩, ⟨b6, 24, 32, u8v fun _ => 0⟩, ⟨b5, 24, 32, u8v r⟩, ⟨b4, 26, 4, u8v v⟩]) (fun i _ => 28 - (intOf i).toNat)
        case atStart => exact ⟨0, rfl, by omega, HS2.out⟩
        case round =>
          clear HS2
          obtain ⟨j, rfl, hj, hs⟩ := hrel
          by_cases hj28 : j < 28
          · have c8 := hs.cell 1 j rfl (by show j < 32; omega)
            have c9 := hs.cell 0 (4 + j) rfl (by show 4 + j < 32; omega)
            have f9 := hs.frozen 0 (4 + j) rfl
            have HSq := Lib.hid hs
            clear hs
            go_wp2_with fail
            go_roundw
            case rel => exact ⟨j + 1, by go_num, by omega, (HSq.out.set 0 (4 + j) rfl _).congr 0 rfl (fun i _ => dq3 K H _ rfl)⟩
            case measure => simp [intOf]; omega
          · obtain rfl : j = 28 := by omega
            have HG := Lib.hid (hs.congr 0 rfl (dq4 K H))
            clear hs
            go_wp2_with (first
              | (refine wpList_load_rd rfl 24 _ rfl 32 _ Tryd.underlying24 rfl (by kernel_rfl) ⟨b9, 0, none⟩ rfl (u8v (catN 4 (leB K) H)) (fun i hi => by rw [add_lit0]; exact HG.out.cell 0 i rfl hi) ?_)
              | (refine wpList_storeH rfl 24 (.tmp 6) (.tmp 41) rfl HG.out 3 rfl (u8v (catN 4 (leB K) H)) rfl rfl (by kernel_rfl) (fun _ _ => rfl) ?_; intro wh hs; have HH := Lib.hid hs; clear hs))
            exact ret_rowIs rfl (HH.out.row 3 rfl) _ rfl Tryd.underlying24 rfl (by kernel_rfl) rfl ⟨by rw [← HRES.out], HH.out.out (by simp; omega)⟩
end Go.Proofs.YtecgogeebponlaaDoor
