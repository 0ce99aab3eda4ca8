/- Part 16 of what the proof of SignRoots stands on: SignDom, SignDomain, SignMsgRef, SignMsg, Guard, SignAwake, SignRootsLaw. -/
import Derived.Test.YtecgogeebponlaaDoorGSignRoots15
import Derived.Test.YtecgogeebponlaaDoorGSignRoots11
import Derived.Test.YtecgogeebponlaaDoorGSignRoots12
import Derived.Test.YtecgogeebponlaaDoorGSignRoots3
import Derived.Test.YtecgogeebponlaaDoorGSignRoots7
import Derived.Test.YtecgogeebponlaaDoorGSignRoots13
/- Domains, by the reference. (Printed by a program of mine.) -/
namespace Go.Proofs.YtecgogeebponlaaDoor
set_option maxRecDepth 40000
open Go.RowKit
namespace SignDom
theorem ent_pack (vs : Array Value) (w : World) : (callFunc 37 vs).run Tryd.prog w = .ok (.enter 37 vs) w := by kernel_rfl
theorem ent_two (vs : Array Value) (w : World) : (callFunc 30 vs).run Tryd.prog w = .ok (.enter 30 vs) w := by kernel_rfl
theorem dq1 (K : Nat) {j i : Nat} (v : Value) (hv : v = .int .u8 ((leB K j : Nat) : Int)) : (if i = j then v else u8v (fun i => if i < j then leB K i else 0) i) = u8v (fun i => if i < j + 1 then leB K i else 0) i := le_step v hv
theorem dq2 (K : Nat) (h : Nat → Nat) : ∀ i, i < 32 → u8v (fun i => if i < 4 then leB K i else 0) i = u8v (fun i => if i < 4 + 0 then catN 4 (leB K) h i else 0) i := fun i _ => by
  simp only [u8v, catN]
  by_cases e : i < 4
  · rw [if_pos e, if_pos (show i < 4 + 0 by omega), if_pos e]
  · rw [if_neg e, if_neg (show ¬ i < 4 + 0 by omega)]
theorem dq3 (K : Nat) (h : Nat → Nat) {j i : Nat} (v : Value) (hv : v = .int .u8 ((h j : Nat) : Int)) : (if i = 4 + j then v else u8v (fun i => if i < 4 + j then catN 4 (leB K) h i else 0) i) = u8v (fun i => if i < 4 + (j + 1) then catN 4 (leB K) h i else 0) i := by
  by_cases e : i = 4 + j
  · subst e
    rw [if_pos rfl, hv]
    simp only [u8v, catN]
    rw [if_pos (show 4 + j < 4 + (j + 1) by omega), if_neg (show ¬ 4 + j < 4 by omega), show 4 + j - 4 = j by omega]
  · rw [if_neg e]
    simp only [u8v]
    by_cases e2 : i < 4 + j
    · rw [if_pos e2, if_pos (show i < 4 + (j + 1) by omega)]
    · rw [if_neg e2, if_neg (show ¬ i < 4 + (j + 1) by omega)]
theorem dq4 (K : Nat) (h : Nat → Nat) : ∀ i, i < 32 → u8v (fun i => if i < 4 + 28 then catN 4 (leB K) h i else 0) i = u8v (catN 4 (leB K) h) i := fun i hi => by
  simp only [u8v]; rw [if_pos (by omega)]
end SignDom
open SignDom in
set_option maxHeartbeats 4000000 in
theorem dom_ref (k : Int) (K : Nat) (hk : k % 4294967296 = (K : Int)) (v r : Nat → Nat) (hv : ∀ i, v i < 256) (hr : ∀ i, r i < 256) (w : World) (hp : RefPkg w) :
    Calls Tryd.prog 28 #[.int .i64 k, .agg (arr 4 (u8v v)), rootV r] w fun e w' => e = .returned (rootV (domN K v r)) ∧ Below w.heap.size w w' := by
  have HP := Lib.hid hp
  have HV := Lib.hid hv
  have HR := Lib.hid hr
  have HK := Lib.hid hk
  have HS0 := Lib.hid (HS.nil w)
  clear hp hv hr hk
  go_enter Tryd.func28, Tryd.ntmps28
  go_wp2_with (first
    | (refine wpList_boxL rfl 26 _ 4 rfl rfl HS0.out 4 (u8v v) rfl ?_; intro b4 w4 hb4 hc4 hs4; have HS4 := Lib.hid hs4; clear hs4)
    | (refine wpList_boxL rfl 24 _ 5 rfl rfl HS4.out 32 (u8v r) rfl ?_; intro b5 w5 hb5 hc5 hs5; have HS5 := Lib.hid hs5; clear hs5)
    | (refine wpList_allocL rfl 24 6 rfl rfl HS5.out (Array.replicate 32 (.int .u8 0)) (by kernel_rfl) 32 (u8v fun _ => 0) (by rfl) (zero_at 32 (.int .u8 0)) ?_; intro b6 w6 hb6 hc6 hs6; have HS6 := Lib.hid hs6; clear hs6)
    | (go_at_call 35; rw [HK.out]; refine (bytes_ref K _).mono ?_; rintro e w6b ⟨rfl, hbb⟩; have HS6b := Lib.hid (HS6.out.below hbb); clear hbb)
    | (refine wpList_allocL rfl 84 7 rfl rfl HS6b.out (Array.replicate 8 (.int .u8 0)) (by kernel_rfl) 8 (u8v fun _ => 0) (by rfl) (zero_at 8 (.int .u8 0)) ?_; intro b7 w7 hb7 hc7 hs7; have HS7 := Lib.hid hs7; clear hs7)
    | (refine wpList_storeH rfl 84 (.tmp 7) (.tmp 15) rfl HS7.out 0 rfl (u8v (leB K)) rfl rfl (by kernel_rfl) (fun _ _ => rfl) ?_; intro wa hs; have HA := Lib.hid hs; clear hs))
  have hs : HS w wa [⟨b7, 84, 8, u8v (leB K)⟩, ⟨b6, 24, 32, u8v fun _ => 0⟩, ⟨b5, 24, 32, u8v r⟩, ⟨b4, 26, 4, u8v v⟩] := HA.out
  clear HA
  have HA := Lib.hid hs
  clear hs HS0 HS4 HS5 HS6 HS6b HS7
  refine wp_region_factsS (l := [_, _, _, _, _, _, _]) (tl := []) (B := wa.heap.size) (w0 := wa) [SF.is (.slice (some ⟨b4, 0, none⟩) (4) (4)), SF.rdZ 1 32 (u8v (padN 4 v)), SF.ptr 32 (u8v (padN 4 v)), SF.is (rootV (padN 4 v)), SF.is (rootV r), SF.is (rootV (shaB (catN 32 (padN 4 v) r) 64)), SF.new wa.heap.size 24 32 (u8v fun _ => 0)] (by kernel_rfl) (by kernel_rfl) rfl (Nat.le_refl _) (Below.refl _ _) ⟨?_, ?_, ?_, ?_, ?_, ?_, ?_, trivial⟩ ?_
  · exact opOb_slc rfl rfl (OpK.tmp rfl) (OpKo.no) (OpKo.no) (fun w => cut_arr Tryd.underlying26 1 (by kernel_rfl) none none (0) (4) (.inl ⟨rfl, rfl⟩) (.inl ⟨rfl, rfl⟩) (by omega) (by omega) (by omega) (by omega) (by omega) (by omega))
  · exact opOb_fn1 ent_pack rfl rfl (OpK.tmp rfl) (fun w' hb => (pack_ref 4 4 _ v w' (Rd.of_row (row_below (HA.out.row 3 rfl) hb (HA.out.row 3 rfl).lt) (Nat.le_refl _) (row_below (HA.out.row 3 rfl) hb (HA.out.row 3 rfl).lt).lt) (by omega)).mono fun e w'' ⟨A', c', he, ho, hb2⟩ => ⟨_, he, ⟨A', c', rfl, ho.rd⟩, hb2⟩)
  · exact opOb_idxZ (k := 0) (u8v (padN 4 v)) (fun q _ => congrArg (u8v (padN 4 v)) (by omega)) Tryd.underlying32 (by kernel_rfl) (by omega) (by omega) rfl rfl rfl OpK.const
  · exact opOb_ldP Tryd.underlying24 rfl (by kernel_rfl) rfl rfl rfl
  · exact opOb_ld rfl rfl (OpK.tmp rfl) (fun w' hb => ld_all (HA.out.row 2 rfl) (HA.out.row 2 rfl).lt Tryd.underlying24 rfl (by kernel_rfl) w' hb)
  · exact opOb_fn2 ent_two rfl rfl (OpK.tmp rfl) (OpK.tmp rfl) (fun w' hb => (refTwo_any (padN 4 v) r (padN_lt HV.out) HR.out w' (HP.out.below ((HA.out.out (by simp; omega)).trans (hb.mono HA.out.size)))).mono fun e w'' ⟨he, hb2⟩ => ⟨_, he, rfl, hb2⟩)
  · exact opOb_new wa.heap.size rfl rfl (Array.replicate 32 (.int .u8 0)) (by kernel_rfl) 32 (u8v fun _ => 0) (by rfl) (zero_at 32 (.int .u8 0)) (Nat.le_refl _)
  · intro w' hb
    simp only [fin, SF.is, SF.new, SF.ptr, SF.rdZ, forall_eq]
    simp only [Act.put, List.setIfInBounds_toArray, List.set_cons_succ, List.set_cons_zero]
    rintro _ ⟨A17, c17, rfl, _⟩ _ ⟨a18, rfl, _, _⟩ _ ⟨b8, rfl, hc8, hr8⟩
    have hs := HA.out.below hb
    have hsz := HA.out.size
    have hs1 := hs.add hr8 (by omega) (fun r hr => by have := (HA.out.has r hr).lt; omega)
    clear hs hb hr8
    refine wp_storeL 24 (.tmp 8) (.tmp 21) rfl hs1 0 rfl (u8v (shaB (catN 32 (padN 4 v) r) 64)) rfl rfl (by kernel_rfl) (fun _ _ => rfl) ?_
    clear hs1
    intro wb hs
    have HBB : Hid (HS w wb [⟨b8, 24, 32, u8v (shaB (catN 32 (padN 4 v) r) 64)⟩, ⟨b7, 84, 8, u8v (leB K)⟩, ⟨b6, 24, 32, u8v fun _ => 0⟩, ⟨b5, 24, 32, u8v r⟩, ⟨b4, 26, 4, u8v v⟩]) := Lib.hid hs
    clear hs HA
    obtain ⟨H, hH⟩ : ∃ H, H = shaB (catN 32 (padN 4 v) r) 64 := ⟨_, rfl⟩
    have hres : domN K v r = catN 4 (leB K) H := by rw [hH]; rfl
    rw [← hH] at HBB
    have HRES := Lib.hid hres.symm
    clear hH hres
    simp only [seqWp]
    go_wp2_with (first
      | (refine wpList_allocL rfl 24 9 rfl rfl HBB.out (Array.replicate 32 (.int .u8 0)) (by kernel_rfl) 32 (u8v fun _ => 0) (by rfl) (zero_at 32 (.int .u8 0)) ?_; intro b9 w9 hb9 hc9 hs9; have HS9 := Lib.hid hs9; clear hs9))
    go_loopw [10] (fun i wq => ∃ j : Nat, i = .int .i64 (j : Int) ∧ j ≤ 4 ∧ HS w wq [⟨b9, 24, 32, u8v fun q => if q < j then leB K q else 0⟩, ⟨b8, 24, 32, u8v H⟩, ⟨b7, 84, 8, u8v (leB K)⟩, ⟨b6, 24, 32, u8v fun _ => 0⟩, ⟨b5, 24, 32, u8v r⟩, ⟨b4, 26, 4, u8v v⟩]) (fun i _ => 4 - (intOf i).toNat)
    case atStart => exact ⟨0, rfl, by omega, HS9.out.congr 0 rfl (fun i _ => by simp [u8v])⟩
    case round =>
      clear HS9 HBB
      obtain ⟨j, rfl, hj, hs⟩ := hrel
      by_cases hj4 : j < 4
      · have c7 := hs.cell 2 j rfl (by show j < 8; omega)
        have c9 := hs.cell 0 j rfl (by show j < 32; omega)
        have f9 := hs.frozen 0 j rfl
        have HSq := Lib.hid hs
        clear hs
        go_wp2_with fail
        go_roundw
        case rel => exact ⟨j + 1, by go_num, by omega, (HSq.out.set 0 j rfl _).congr 0 rfl (fun i _ => dq1 K _ rfl)⟩
        case measure => simp [intOf]; omega
      · obtain rfl : j = 4 := by omega
        have HS2 := Lib.hid (hs.congr 0 rfl (dq2 K H))
        clear hs
        obtain ⟨wo, rfl⟩ : ∃ wo : World, wo = wr := ⟨_, rfl⟩
        go_wp2_with fail
        go_loopw [11] (fun i wq => ∃ j : Nat, i = .int .i64 (j : Int) ∧ j ≤ 28 ∧ HS w wq [⟨b9, 24, 32, u8v fun q => if q < 4 + j then catN 4 (leB K) H q else 0⟩, ⟨b8, 24, 32, u8v H⟩, ⟨b7, 84, 8, u8v (leB K)⟩, ⟨b6, 24, 32, u8v fun _ => 0⟩, ⟨b5, 24, 32, u8v r⟩, ⟨b4, 26, 4, u8v v⟩]) (fun i _ => 28 - (intOf i).toNat)
        case atStart => exact ⟨0, rfl, by omega, HS2.out⟩
        case round =>
          clear HS2
          obtain ⟨j, rfl, hj, hs⟩ := hrel
          by_cases hj28 : j < 28
          · have c8 := hs.cell 1 j rfl (by show j < 32; omega)
            have c9 := hs.cell 0 (4 + j) rfl (by show 4 + j < 32; omega)
            have f9 := hs.frozen 0 (4 + j) rfl
            have HSq := Lib.hid hs
            clear hs
            go_wp2_with fail
            go_roundw
            case rel => exact ⟨j + 1, by go_num, by omega, (HSq.out.set 0 (4 + j) rfl _).congr 0 rfl (fun i _ => dq3 K H _ rfl)⟩
            case measure => simp [intOf]; omega
          · obtain rfl : j = 28 := by omega
            have HG := Lib.hid (hs.congr 0 rfl (dq4 K H))
            clear hs
            go_wp2_with (first
              | (refine wpList_load_rd rfl 24 _ rfl 32 _ Tryd.underlying24 rfl (by kernel_rfl) ⟨b9, 0, none⟩ rfl (u8v (catN 4 (leB K) H)) (fun i hi => by rw [add_lit0]; exact HG.out.cell 0 i rfl hi) ?_)
              | (refine wpList_storeH rfl 24 (.tmp 6) (.tmp 41) rfl HG.out 3 rfl (u8v (catN 4 (leB K) H)) rfl rfl (by kernel_rfl) (fun _ _ => rfl) ?_; intro wh hs; have HH := Lib.hid hs; clear hs))
            exact ret_rowIs rfl (HH.out.row 3 rfl) _ rfl Tryd.underlying24 rfl (by kernel_rfl) rfl ⟨by rw [← HRES.out], HH.out.out (by simp; omega)⟩
end Go.Proofs.YtecgogeebponlaaDoor
/- The domain of a state, and of deposits. (Printed by a program of mine.) -/
namespace Go.Proofs.YtecgogeebponlaaDoor
set_option maxRecDepth 40000
open Go.RowKit
/-- The bytes that lie from cell o on. -/
def byF (F : Nat → Value) (o : Nat) : Nat → Nat := fun q => nat (F (o + q)) % 256
theorem byF_lt (F : Nat → Value) (o : Nat) : ∀ i, byF F o i < 256 := fun _ => Nat.mod_lt _ (by omega)
theorem byF_eq {F : Nat → Value} (hF : Sc F 49) (o q : Nat) (hl : leafAt Tryd.prog 8 49 (o + q) = some 5) : F (o + q) = u8v (byF F o) q := by
  have h2 := hF.u8 _ hl
  show _ = Value.int .u8 ((nat (F (o + q)) % 256 : Nat) : Int)
  rw [Nat.mod_eq_of_lt h2.2]
  exact h2.1
theorem leaf_34 : ∀ q, q < 4 → leafAt Tryd.prog 8 49 (34 + q) = some 5 := by decide +kernel
theorem leaf_38 : ∀ q, q < 4 → leafAt Tryd.prog 8 49 (38 + q) = some 5 := by decide +kernel
theorem leaf_1 : ∀ q, q < 32 → leafAt Tryd.prog 8 49 (1 + q) = some 5 := by decide +kernel
/-- The version that holds in epoch E. -/
def verN (F : Nat → Value) (E : Nat) : Nat → Nat := if E < nat (F 42) then byF F 34 else byF F 38
set_option maxHeartbeats 4000000 in
theorem domain_look (F : Nat → Value) (hF : Sc F 49) (E : Nat) (k : Int) (K : Nat) (hk : IntKind.u64.wrap k = (K : Int)) (w : World) (hp : ShaPkg w) :
    Calls Tryd.prog 9 #[.agg (arr 1957 F), .int .i64 k, .int .u64 (E : Int)] w fun e w' => e = .returned (rootV (domN K (verN F E) (byF F 1))) ∧ Below w.heap.size w w' := by
  have HP := Lib.hid hp
  have HSc := Lib.hid hF
  have HK := Lib.hid hk
  have HS0 := Lib.hid (HS.nil w)
  obtain ⟨m, hm⟩ : ∃ m, m = nat (F 42) := ⟨_, rfl⟩
  have H42 := Lib.hid (show F 42 = .int .u64 (m : Int) by rw [hm]; exact (hF.u64 42 (by kernel_rfl)).1)
  have HVe := Lib.hid (show verN F E = if E < m then byF F 34 else byF F 38 by rw [hm]; rfl)
  clear hp hF hk hm
  by_cases hE : E < m
  · have hd : decide ((E : Int) < (m : Int)) = true := by simp; omega
    go_enter Tryd.func9, Tryd.ntmps9
    go_wp2_with (first
      | (refine wpList_boxL rfl 49 _ 3 rfl rfl HS0.out 1957 F rfl ?_; intro b3 w3 hb3 hc3 hs3; have HS3 := Lib.hid hs3; clear hs3; have c42 := (HS3.out.cell 0 42 rfl (by show 42 < 1957; omega)).trans (congrArg some H42.out))
      | (refine wpList_allocL rfl 24 6 rfl rfl HS3.out (Array.replicate 32 (.int .u8 0)) (by kernel_rfl) 32 (u8v fun _ => 0) (by rfl) (zero_at 32 (.int .u8 0)) ?_; intro b6 w6 hb6 hc6 hs6; have HS6 := Lib.hid hs6; clear hs6; have c42 := (HS6.out.cell 1 42 rfl (by show 42 < 1957; omega)).trans (congrArg some H42.out))
      | (refine wpList_load_rd rfl 26 _ rfl 4 _ Tryd.underlying26 rfl (by kernel_rfl) ⟨b3, 38, none⟩ rfl (u8v (byF F 38)) (fun q hq => by rw [add_litO]; exact (HS6.out.cell 1 (38 + q) rfl (by show _ < 1957; omega)).trans (congrArg some (byF_eq HSc.out 38 q (leaf_38 q hq)))) ?_)
      | (refine wpList_allocL rfl 26 7 rfl rfl HS6.out (Array.replicate 4 (.int .u8 0)) (by kernel_rfl) 4 (u8v fun _ => 0) (by rfl) (zero_at 4 (.int .u8 0)) ?_; intro b7 w7 hb7 hc7 hs7; have HS7 := Lib.hid hs7; clear hs7)
      | (refine wpList_storeH rfl 26 (.tmp 7) (.tmp 10) rfl HS7.out 0 rfl (u8v (byF F 38)) rfl rfl (by kernel_rfl) (fun _ _ => rfl) ?_; intro w8 hs; have HS8 := Lib.hid hs; clear hs; have c42 := (HS8.out.cell 2 42 rfl (by show 42 < 1957; omega)).trans (congrArg some H42.out))
      | (refine wpList_load_rd rfl 26 _ rfl 4 _ Tryd.underlying26 rfl (by kernel_rfl) ⟨b3, 34, none⟩ rfl (u8v (byF F 34)) (fun q hq => by rw [add_litO]; exact (HS8.out.cell 2 (34 + q) rfl (by show _ < 1957; omega)).trans (congrArg some (byF_eq HSc.out 34 q (leaf_34 q hq)))) ?_)
      | (refine wpList_storeH rfl 26 (.tmp 7) (.tmp 18) rfl HS8.out 0 rfl (u8v (byF F 34)) rfl rfl (by kernel_rfl) (fun _ _ => rfl) ?_; intro w9 hs; have HS9 := Lib.hid hs; clear hs)
      | (refine wpList_load_rd rfl 26 _ rfl 4 _ Tryd.underlying26 rfl (by kernel_rfl) ⟨b7, 0, none⟩ rfl (u8v (byF F 34)) (fun q hq => by rw [add_lit0]; exact (HS9.out.cell 0 q rfl (by show _ < 4; omega)).trans (congrArg some (rfl))) ?_)
      | (refine wpList_load_rd rfl 24 _ rfl 32 _ Tryd.underlying24 rfl (by kernel_rfl) ⟨b3, 1, none⟩ rfl (u8v (byF F 1)) (fun q hq => by rw [add_litO]; exact (HS9.out.cell 2 (1 + q) rfl (by show _ < 1957; omega)).trans (congrArg some (byF_eq HSc.out 1 q (leaf_1 q hq)))) ?_)
      | (go_at_call 27; refine (of_look k K HK.out (byF F 34) (byF F 1) (byF_lt F _) (byF_lt F _) _ (HP.out.below (HS9.out.out (by simp; omega)))).mono ?_; rintro e wx ⟨rfl, hbx⟩; have HX := Lib.hid (HS9.out.below hbx); clear hbx)
      | (refine wpList_storeH rfl 24 (.tmp 6) (.tmp 23) rfl HX.out 1 rfl (u8v (domN K (byF F 34) (byF F 1))) rfl rfl (by kernel_rfl) (fun _ _ => rfl) ?_; intro wy hs; have HY := Lib.hid hs; clear hs))
    exact ret_rowIs rfl (HY.out.row 1 rfl) _ rfl Tryd.underlying24 rfl (by kernel_rfl) rfl ⟨by rw [HVe.out, if_pos hE], HY.out.out (by simp; omega)⟩
  · have hd : decide ((E : Int) < (m : Int)) = false := by simp; omega
    go_enter Tryd.func9, Tryd.ntmps9
    go_wp2_with (first
      | (refine wpList_boxL rfl 49 _ 3 rfl rfl HS0.out 1957 F rfl ?_; intro b3 w3 hb3 hc3 hs3; have HS3 := Lib.hid hs3; clear hs3; have c42 := (HS3.out.cell 0 42 rfl (by show 42 < 1957; omega)).trans (congrArg some H42.out))
      | (refine wpList_allocL rfl 24 6 rfl rfl HS3.out (Array.replicate 32 (.int .u8 0)) (by kernel_rfl) 32 (u8v fun _ => 0) (by rfl) (zero_at 32 (.int .u8 0)) ?_; intro b6 w6 hb6 hc6 hs6; have HS6 := Lib.hid hs6; clear hs6; have c42 := (HS6.out.cell 1 42 rfl (by show 42 < 1957; omega)).trans (congrArg some H42.out))
      | (refine wpList_load_rd rfl 26 _ rfl 4 _ Tryd.underlying26 rfl (by kernel_rfl) ⟨b3, 38, none⟩ rfl (u8v (byF F 38)) (fun q hq => by rw [add_litO]; exact (HS6.out.cell 1 (38 + q) rfl (by show _ < 1957; omega)).trans (congrArg some (byF_eq HSc.out 38 q (leaf_38 q hq)))) ?_)
      | (refine wpList_allocL rfl 26 7 rfl rfl HS6.out (Array.replicate 4 (.int .u8 0)) (by kernel_rfl) 4 (u8v fun _ => 0) (by rfl) (zero_at 4 (.int .u8 0)) ?_; intro b7 w7 hb7 hc7 hs7; have HS7 := Lib.hid hs7; clear hs7)
      | (refine wpList_storeH rfl 26 (.tmp 7) (.tmp 10) rfl HS7.out 0 rfl (u8v (byF F 38)) rfl rfl (by kernel_rfl) (fun _ _ => rfl) ?_; intro w8 hs; have HS8 := Lib.hid hs; clear hs; have c42 := (HS8.out.cell 2 42 rfl (by show 42 < 1957; omega)).trans (congrArg some H42.out))
      | (refine wpList_load_rd rfl 26 _ rfl 4 _ Tryd.underlying26 rfl (by kernel_rfl) ⟨b7, 0, none⟩ rfl (u8v (byF F 38)) (fun q hq => by rw [add_lit0]; exact (HS8.out.cell 0 q rfl (by show _ < 4; omega)).trans (congrArg some (rfl))) ?_)
      | (refine wpList_load_rd rfl 24 _ rfl 32 _ Tryd.underlying24 rfl (by kernel_rfl) ⟨b3, 1, none⟩ rfl (u8v (byF F 1)) (fun q hq => by rw [add_litO]; exact (HS8.out.cell 2 (1 + q) rfl (by show _ < 1957; omega)).trans (congrArg some (byF_eq HSc.out 1 q (leaf_1 q hq)))) ?_)
      | (go_at_call 27; refine (of_look k K HK.out (byF F 38) (byF F 1) (byF_lt F _) (byF_lt F _) _ (HP.out.below (HS8.out.out (by simp; omega)))).mono ?_; rintro e wx ⟨rfl, hbx⟩; have HX := Lib.hid (HS8.out.below hbx); clear hbx)
      | (refine wpList_storeH rfl 24 (.tmp 6) (.tmp 23) rfl HX.out 1 rfl (u8v (domN K (byF F 38) (byF F 1))) rfl rfl (by kernel_rfl) (fun _ _ => rfl) ?_; intro wy hs; have HY := Lib.hid hs; clear hs))
    exact ret_rowIs rfl (HY.out.row 1 rfl) _ rfl Tryd.underlying24 rfl (by kernel_rfl) rfl ⟨by rw [HVe.out, if_neg hE], HY.out.out (by simp; omega)⟩
set_option maxHeartbeats 4000000 in
theorem domain_ref (F : Nat → Value) (hF : Sc F 49) (E : Nat) (k : Int) (K : Nat) (hk : k % 4294967296 = (K : Int)) (w : World) (hp : RefPkg w) :
    Calls Tryd.prog 10 #[.agg (arr 1957 F), .int .i64 k, .int .u64 (E : Int)] w fun e w' => e = .returned (rootV (domN K (verN F E) (byF F 1))) ∧ Below w.heap.size w w' := by
  have HP := Lib.hid hp
  have HSc := Lib.hid hF
  have HK := Lib.hid hk
  have HS0 := Lib.hid (HS.nil w)
  obtain ⟨m, hm⟩ : ∃ m, m = nat (F 42) := ⟨_, rfl⟩
  have H42 := Lib.hid (show F 42 = .int .u64 (m : Int) by rw [hm]; exact (hF.u64 42 (by kernel_rfl)).1)
  have HVe := Lib.hid (show verN F E = if E < m then byF F 34 else byF F 38 by rw [hm]; rfl)
  clear hp hF hk hm
  by_cases hE : E < m
  · have hd : decide ((E : Int) < (m : Int)) = true := by simp; omega
    go_enter Tryd.func10, Tryd.ntmps10
    go_wp2_with (first
      | (refine wpList_boxL rfl 49 _ 3 rfl rfl HS0.out 1957 F rfl ?_; intro b3 w3 hb3 hc3 hs3; have HS3 := Lib.hid hs3; clear hs3; have c42 := (HS3.out.cell 0 42 rfl (by show 42 < 1957; omega)).trans (congrArg some H42.out))
      | (refine wpList_allocL rfl 24 6 rfl rfl HS3.out (Array.replicate 32 (.int .u8 0)) (by kernel_rfl) 32 (u8v fun _ => 0) (by rfl) (zero_at 32 (.int .u8 0)) ?_; intro b6 w6 hb6 hc6 hs6; have HS6 := Lib.hid hs6; clear hs6; have c42 := (HS6.out.cell 1 42 rfl (by show 42 < 1957; omega)).trans (congrArg some H42.out))
      | (refine wpList_load_rd rfl 26 _ rfl 4 _ Tryd.underlying26 rfl (by kernel_rfl) ⟨b3, 34, none⟩ rfl (u8v (byF F 34)) (fun q hq => by rw [add_litO]; exact (HS6.out.cell 1 (34 + q) rfl (by show _ < 1957; omega)).trans (congrArg some (byF_eq HSc.out 34 q (leaf_34 q hq)))) ?_)
      | (refine wpList_load_rd rfl 24 _ rfl 32 _ Tryd.underlying24 rfl (by kernel_rfl) ⟨b3, 1, none⟩ rfl (u8v (byF F 1)) (fun q hq => by rw [add_litO]; exact (HS6.out.cell 1 (1 + q) rfl (by show _ < 1957; omega)).trans (congrArg some (byF_eq HSc.out 1 q (leaf_1 q hq)))) ?_)
      | (go_at_call 28; refine (dom_ref k K HK.out (byF F 34) (byF F 1) (byF_lt F _) (byF_lt F _) _ (HP.out.below (HS6.out.out (by simp; omega)))).mono ?_; rintro e wx ⟨rfl, hbx⟩; have HX := Lib.hid (HS6.out.below hbx); clear hbx)
      | (refine wpList_storeH rfl 24 (.tmp 6) (.tmp 18) rfl HX.out 0 rfl (u8v (domN K (byF F 34) (byF F 1))) rfl rfl (by kernel_rfl) (fun _ _ => rfl) ?_; intro wy hs; have HY := Lib.hid hs; clear hs))
    exact ret_rowIs rfl (HY.out.row 0 rfl) _ rfl Tryd.underlying24 rfl (by kernel_rfl) rfl ⟨by rw [HVe.out, if_pos hE], HY.out.out (by simp; omega)⟩
  · have hd : decide ((E : Int) < (m : Int)) = false := by simp; omega
    go_enter Tryd.func10, Tryd.ntmps10
    go_wp2_with (first
      | (refine wpList_boxL rfl 49 _ 3 rfl rfl HS0.out 1957 F rfl ?_; intro b3 w3 hb3 hc3 hs3; have HS3 := Lib.hid hs3; clear hs3; have c42 := (HS3.out.cell 0 42 rfl (by show 42 < 1957; omega)).trans (congrArg some H42.out))
      | (refine wpList_allocL rfl 24 6 rfl rfl HS3.out (Array.replicate 32 (.int .u8 0)) (by kernel_rfl) 32 (u8v fun _ => 0) (by rfl) (zero_at 32 (.int .u8 0)) ?_; intro b6 w6 hb6 hc6 hs6; have HS6 := Lib.hid hs6; clear hs6; have c42 := (HS6.out.cell 1 42 rfl (by show 42 < 1957; omega)).trans (congrArg some H42.out))
      | (refine wpList_load_rd rfl 26 _ rfl 4 _ Tryd.underlying26 rfl (by kernel_rfl) ⟨b3, 38, none⟩ rfl (u8v (byF F 38)) (fun q hq => by rw [add_litO]; exact (HS6.out.cell 1 (38 + q) rfl (by show _ < 1957; omega)).trans (congrArg some (byF_eq HSc.out 38 q (leaf_38 q hq)))) ?_)
      | (refine wpList_load_rd rfl 24 _ rfl 32 _ Tryd.underlying24 rfl (by kernel_rfl) ⟨b3, 1, none⟩ rfl (u8v (byF F 1)) (fun q hq => by rw [add_litO]; exact (HS6.out.cell 1 (1 + q) rfl (by show _ < 1957; omega)).trans (congrArg some (byF_eq HSc.out 1 q (leaf_1 q hq)))) ?_)
      | (go_at_call 28; refine (dom_ref k K HK.out (byF F 38) (byF F 1) (byF_lt F _) (byF_lt F _) _ (HP.out.below (HS6.out.out (by simp; omega)))).mono ?_; rintro e wx ⟨rfl, hbx⟩; have HX := Lib.hid (HS6.out.below hbx); clear hbx)
      | (refine wpList_storeH rfl 24 (.tmp 6) (.tmp 25) rfl HX.out 0 rfl (u8v (domN K (byF F 38) (byF F 1))) rfl rfl (by kernel_rfl) (fun _ _ => rfl) ?_; intro wy hs; have HY := Lib.hid hs; clear hs))
    exact ret_rowIs rfl (HY.out.row 0 rfl) _ rfl Tryd.underlying24 rfl (by kernel_rfl) rfl ⟨by rw [HVe.out, if_neg hE], HY.out.out (by simp; omega)⟩
set_option maxHeartbeats 1000000 in
theorem deposits_look (w : World) (hp : ShaPkg w) : Calls Tryd.prog 11 #[] w fun e w' => e = .returned (rootV (domN 3 (fun _ => 0) (fun _ => 0))) ∧ Below w.heap.size w w' := by
  have HP := Lib.hid hp
  have HS0 := Lib.hid (HS.nil w)
  clear hp
  go_enter Tryd.func11, Tryd.ntmps11
  go_wp2_with (first
    | (refine wpList_allocL rfl 24 0 rfl rfl HS0.out (Array.replicate 32 (.int .u8 0)) (by kernel_rfl) 32 (u8v fun _ => 0) (by rfl) (zero_at 32 (.int .u8 0)) ?_; intro b6 w6 hb6 hc6 hs6; have HS6 := Lib.hid hs6; clear hs6)
    | (refine wpList_build_as rfl 26 #[] rfl [] rfl (arr 4 (u8v fun _ => 0)) (by kernel_rfl) ?_)
    | (refine wpList_build_as rfl 24 #[] rfl [] rfl (arr 32 (u8v fun _ => 0)) (by kernel_rfl) ?_)
    | (go_at_call 27; refine (of_look 3 3 (by decide) (fun _ => 0) (fun _ => 0) (fun _ => by omega) (fun _ => by omega) _ (HP.out.below (HS6.out.out (by simp; omega)))).mono ?_; rintro e wx ⟨rfl, hbx⟩; have HX := Lib.hid (HS6.out.below hbx); clear hbx)
    | (refine wpList_storeH rfl 24 (.tmp 0) (.tmp 3) rfl HX.out 0 rfl (u8v (domN 3 (fun _ => 0) (fun _ => 0))) rfl rfl (by kernel_rfl) (fun _ _ => rfl) ?_; intro wy hs; have HY := Lib.hid hs; clear hs))
  exact ret_rowIs rfl (HY.out.row 0 rfl) _ rfl Tryd.underlying24 rfl (by kernel_rfl) rfl ⟨rfl, HY.out.out (by simp; omega)⟩
set_option maxHeartbeats 1000000 in
theorem deposits_ref (w : World) (hp : RefPkg w) : Calls Tryd.prog 12 #[] w fun e w' => e = .returned (rootV (domN 3 (fun _ => 0) (fun _ => 0))) ∧ Below w.heap.size w w' := by
  have HP := Lib.hid hp
  have HS0 := Lib.hid (HS.nil w)
  clear hp
  go_enter Tryd.func12, Tryd.ntmps12
  go_wp2_with (first
    | (refine wpList_allocL rfl 24 0 rfl rfl HS0.out (Array.replicate 32 (.int .u8 0)) (by kernel_rfl) 32 (u8v fun _ => 0) (by rfl) (zero_at 32 (.int .u8 0)) ?_; intro b6 w6 hb6 hc6 hs6; have HS6 := Lib.hid hs6; clear hs6)
    | (refine wpList_build_as rfl 26 #[] rfl [] rfl (arr 4 (u8v fun _ => 0)) (by kernel_rfl) ?_)
    | (refine wpList_build_as rfl 24 #[] rfl [] rfl (arr 32 (u8v fun _ => 0)) (by kernel_rfl) ?_)
    | (go_at_call 28; refine (dom_ref 3 3 (by decide) (fun _ => 0) (fun _ => 0) (fun _ => by omega) (fun _ => by omega) _ (HP.out.below (HS6.out.out (by simp; omega)))).mono ?_; rintro e wx ⟨rfl, hbx⟩; have HX := Lib.hid (HS6.out.below hbx); clear hbx)
    | (refine wpList_storeH rfl 24 (.tmp 0) (.tmp 3) rfl HX.out 0 rfl (u8v (domN 3 (fun _ => 0) (fun _ => 0))) rfl rfl (by kernel_rfl) (fun _ _ => rfl) ?_; intro wy hs; have HY := Lib.hid hs; clear hs))
  exact ret_rowIs rfl (HY.out.row 0 rfl) _ rfl Tryd.underlying24 rfl (by kernel_rfl) rfl ⟨rfl, HY.out.out (by simp; omega)⟩
end Go.Proofs.YtecgogeebponlaaDoor
/- Messages of deposits, by the reference. (Printed by a program of mine.) -/
namespace Go.Proofs.YtecgogeebponlaaDoor
set_option maxRecDepth 40000
open Go.RowKit
theorem byT_eq {F : Nat → Value} {T : TypeId} (hF : Sc F T) (o q : Nat) (hl : leafAt Tryd.prog 8 T (o + q) = some 5) : F (o + q) = u8v (byF F o) q := by
  have h2 := hF.u8 _ hl
  show _ = Value.int .u8 ((nat (F (o + q)) % 256 : Nat) : Int)
  rw [Nat.mod_eq_of_lt h2.2]
  exact h2.1
theorem leafD0 : ∀ q, q < 48 → leafAt Tryd.prog 8 58 (0 + q) = some 5 := by decide +kernel
theorem leafD48 : ∀ q, q < 32 → leafAt Tryd.prog 8 58 (48 + q) = some 5 := by decide +kernel
/-- Three, one behind the other. -/
def cat3N (z : Nat) (f g h : Nat → Nat) : Nat → Nat := fun i => if i < z then f i else if i < 2 * z then g (i - z) else h (i - 2 * z)
theorem cat3N_lt {z : Nat} {f g h : Nat → Nat} (hf : ∀ i, f i < 256) (hg : ∀ i, g i < 256) (hh : ∀ i, h i < 256) : ∀ i, cat3N z f g h i < 256 := fun i => by
  unfold cat3N; split; exact hf _; split; exact hg _; exact hh _
theorem cat3_u8 {n z : Nat} (f g h : Nat → Nat) : ∀ i, i < n → cat3 z (u8v f) (u8v g) (u8v h) i = u8v (cat3N z f g h) i := fun i _ => by
  simp only [cat3, cat3N, u8v]; split; rfl; split <;> rfl
/-- The root of a deposit's message. -/
def msgN (F : Nat → Value) : Nat → Nat := treeN (dep 3) 3 (cat3N 32 (treeN (dep 2) 2 (padN 48 (byF F 0))) (byF F 48) (padN 8 (leB (nat (F 80)))))
namespace SignMsgRef
theorem ent_pack (vs : Array Value) (w : World) : (callFunc 37 vs).run Tryd.prog w = .ok (.enter 37 vs) w := by kernel_rfl
theorem ent_must (vs : Array Value) (w : World) : (callFunc 36 vs).run Tryd.prog w = .ok (.enter 36 vs) w := by kernel_rfl
end SignMsgRef
open SignMsgRef in
set_option maxHeartbeats 4000000 in
theorem message_ref (F : Nat → Value) (hF : Sc F 58) (w : World) (hp : RefPkg w) :
    Calls Tryd.prog 16 #[.agg (arr 177 F)] w fun e w' => e = .returned (rootV (msgN F)) ∧ Below w.heap.size w w' := by
  have HP := Lib.hid hp
  have HSc := Lib.hid hF
  have HS0 := Lib.hid (HS.nil w)
  have H80 := Lib.hid (hF.u64 80 (by kernel_rfl)).1
  clear hp hF
  go_enter Tryd.func16, Tryd.ntmps16
  go_wp2_with (first
    | (refine wpList_boxL rfl 58 _ 1 rfl rfl HS0.out 177 F rfl ?_; intro b1 w1 hb1 hc1 hs1; have HS1 := Lib.hid hs1; clear hs1)
    | (refine wpList_allocL rfl 24 2 rfl rfl HS1.out (Array.replicate 32 (.int .u8 0)) (by kernel_rfl) 32 (u8v fun _ => 0) (by rfl) (zero_at 32 (.int .u8 0)) ?_; intro b2 w2 hb2 hc2 hs2; have c80 := (hs2.cell 1 80 rfl (by show 80 < 177; omega)).trans (congrArg some H80.out); have HS2 := Lib.hid hs2; clear hs2)
    | (go_at_call 35; refine (bytes_ref (nat (F 80)) _).mono ?_; rintro e w3 ⟨rfl, hb⟩; have HS3 := Lib.hid (HS2.out.below hb); clear hb)
    | (refine wpList_allocL rfl 84 3 rfl rfl HS3.out (Array.replicate 8 (.int .u8 0)) (by kernel_rfl) 8 (u8v fun _ => 0) (by rfl) (zero_at 8 (.int .u8 0)) ?_; intro b3 w4 hb3 hc3 hs; have HS4 := Lib.hid hs; clear hs)
    | (refine wpList_storeH rfl 84 (.tmp 3) (.tmp 7) rfl HS4.out 0 rfl (u8v (leB (nat (F 80)))) rfl rfl (by kernel_rfl) (fun _ _ => rfl) ?_; intro w5 hs; have HS5 := Lib.hid hs; clear hs)
    | (go_at_call 37; refine (pack_ref 48 48 (some ⟨b1, 0, none⟩) (byF F 0) _ (Rd.of_part (HS5.out.row 2 rfl) (show 0 + 48 ≤ 177 by omega) (fun i hi => byT_eq HSc.out 0 i (leafD0 i hi))) (by omega)).mono ?_; rintro e w6 ⟨A6, c6, rfl, ho, hb⟩; have HO6 := Lib.hid ho; have HS6 := Lib.hid (HS5.out.below hb); clear ho hb)
    | (go_at_call 36; refine (must_ok 2 c6 2 A6 (padN 48 (byF F 0)) _ HO6.out.rd (padN_lt (byF_lt F 0)) HO6.out.cap (by omega) (by omega) (HP.out.below (HS6.out.out (by simp; omega)))).mono ?_; rintro e w7 ⟨rfl, hb⟩; have HS7 := Lib.hid (HS6.out.below hb); clear hb)
    | (refine wpList_allocL rfl 24 4 rfl rfl HS7.out (Array.replicate 32 (.int .u8 0)) (by kernel_rfl) 32 (u8v fun _ => 0) (by rfl) (zero_at 32 (.int .u8 0)) ?_; intro b4 w8 hb4 hc4 hs; have HS8 := Lib.hid hs; clear hs)
    | (refine wpList_storeH rfl 24 (.tmp 4) (.tmp 11) rfl HS8.out 0 rfl (u8v (treeN (dep 2) 2 (padN 48 (byF F 0)))) rfl rfl (by kernel_rfl) (fun _ _ => rfl) ?_; intro wa hs; have HA' := Lib.hid hs; clear hs))
  have hs : HS w wa [⟨b4, 24, 32, u8v (treeN (dep 2) 2 (padN 48 (byF F 0)))⟩, ⟨b3, 84, 8, u8v (leB (nat (F 80)))⟩, ⟨b2, 24, 32, u8v fun _ => 0⟩, ⟨b1, 58, 177, F⟩] := HA'.out
  have HA := Lib.hid hs
  have HW := Lib.hid (hs.out (by simp; omega))
  clear hs HA' HS0 HS1 HS2 HS3 HS4 HS5 HO6 HS6 HS7 HS8
  refine wp_region_factsS (l := [_, _, _, _, _, _, _, _, _]) (tl := []) (B := wa.heap.size) (w0 := wa) [SF.is (rootV (treeN (dep 2) 2 (padN 48 (byF F 0)))), SF.is (.pointer (some ⟨b1, 48, none⟩)), SF.is (rootV (byF F 48)), SF.is (.slice (some ⟨b3, 0, none⟩) (8) (8)), SF.rdZ 1 32 (u8v (padN 8 (leB (nat (F 80))))), SF.ptr 32 (u8v (padN 8 (leB (nat (F 80))))), SF.is (rootV (padN 8 (leB (nat (F 80))))), SF.rdC 3 32 (cat3 32 (u8v (treeN (dep 2) 2 (padN 48 (byF F 0)))) (u8v (byF F 48)) (u8v (padN 8 (leB (nat (F 80)))))), SF.is (rootV (msgN F))] (by kernel_rfl) (by kernel_rfl) rfl (Nat.le_refl _) (Below.refl _ _) ⟨?_, ?_, ?_, ?_, ?_, ?_, ?_, ?_, ?_, trivial⟩ ?_
  · exact opOb_ld rfl rfl (OpK.tmp rfl) (fun w' hb => ld_all (HA.out.row 0 rfl) (HA.out.row 0 rfl).lt Tryd.underlying24 rfl (by kernel_rfl) w' hb)
  · exact opOb_fld rfl rfl (OpK.tmp rfl) (fun w => by simp [go_sem])
  · exact opOb_ld rfl rfl (OpK.tmp rfl) (fun w' hb => run_loadAt_part w' _ 48 32 _ _ (u8v (byF F 48)) (fun i hi => ((row_below (HA.out.row 3 rfl) hb (HA.out.row 3 rfl).lt).cell (i := 48 + i) (show 48 + i < 177 by omega)).trans (congrArg some (byT_eq HSc.out 48 i (leafD48 i hi)))) Tryd.underlying24 rfl (by kernel_rfl))
  · exact opOb_slc rfl rfl (OpK.tmp rfl) (OpKo.no) (OpKo.no) (fun w => cut_arr Tryd.underlying84 1 (by kernel_rfl) none none (0) (8) (.inl ⟨rfl, rfl⟩) (.inl ⟨rfl, rfl⟩) (by omega) (by omega) (by omega) (by omega) (by omega) (by omega))
  · exact opOb_fn1 ent_pack rfl rfl (OpK.tmp rfl) (fun w' hb => (pack_ref 8 8 _ (leB (nat (F 80))) w' (Rd.of_row (row_below (HA.out.row 1 rfl) hb (HA.out.row 1 rfl).lt) (Nat.le_refl _) (row_below (HA.out.row 1 rfl) hb (HA.out.row 1 rfl).lt).lt) (by omega)).mono fun e w'' ⟨A', c', he, ho, hb2⟩ => ⟨_, he, ⟨A', c', rfl, ho.rd⟩, hb2⟩)
  · exact opOb_idxZ (k := 0) (u8v (padN 8 (leB (nat (F 80))))) (fun q _ => congrArg (u8v (padN 8 (leB (nat (F 80))))) (by omega)) Tryd.underlying32 (by kernel_rfl) (by omega) (by omega) rfl rfl rfl OpK.const
  · exact opOb_ldP Tryd.underlying24 rfl (by kernel_rfl) rfl rfl rfl
  · exact opOb_bs3Z Tryd.underlying32 (z := 32) (by kernel_rfl) (by omega) (by omega) (v0 := .agg (Array.replicate 32 (.int .u8 0))) (by kernel_rfl) rfl rfl _ _ _ (OpK.tmp rfl) (OpK.tmp rfl) (OpK.tmp rfl)
  · exact opOb_fnC ent_must rfl rfl rfl OpK.const (fun w' A c hb hc hr => (must_ok 3 c 3 A (cat3N 32 (treeN (dep 2) 2 (padN 48 (byF F 0))) (byF F 48) (padN 8 (leB (nat (F 80))))) w' (hr.congr (cat3_u8 _ _ _)) (cat3N_lt (treeN_lt (padN_lt (byF_lt F 0)) _ _) (byF_lt F 48) (padN_lt (leB_lt _))) hc (by omega) (by omega) (HP.out.below (HW.out.trans (hb.mono HW.out.size)))).mono fun e w'' ⟨he, hb2⟩ => ⟨_, he, rfl, hb2⟩)
  · intro w' hb
    simp only [fin, SF.is, SF.ptr, SF.rdC, SF.rdZ, forall_eq]
    simp only [Act.put, List.setIfInBounds_toArray, List.set_cons_succ, List.set_cons_zero]
    rintro _ ⟨A16, c16, rfl, _⟩ _ ⟨a17, rfl, _, _⟩ _ ⟨A19, c19, rfl, _, _⟩
    have hs := HA.out.below hb
    refine wp_storeL 24 (.tmp 2) (.tmp 20) rfl hs 2 rfl (u8v (msgN F)) rfl rfl (by kernel_rfl) (fun _ _ => rfl) ?_
    clear hs hb
    intro wy hs
    have HY := Lib.hid hs
    clear hs
    simp only [seqWp]
    go_wp2_with fail
    exact ret_rowIs rfl (HY.out.row 2 rfl) _ rfl Tryd.underlying24 rfl (by kernel_rfl) rfl ⟨rfl, HY.out.out (by simp; omega)⟩
end Go.Proofs.YtecgogeebponlaaDoor
/- The message of a deposit, by the program. (Printed by a program of mine.) -/
namespace Go.Proofs.YtecgogeebponlaaDoor
set_option maxRecDepth 40000
open Go.RowKit
theorem treeN_congr {d n : Nat} {x y : Nat → Nat} (hn : n ≤ 2 ^ d) (h : ∀ i, i < n * 32 → x i = y i) : ∀ i, i < 32 → treeN d n x i = treeN d n y i := fun i hi => by
  rw [tree_full d n x hn i hi, tree_full d n y hn i hi]
  refine fullN_congr d _ _ (fun j _ => ?_) i hi
  unfold padN
  by_cases e : j < n * 32
  · rw [if_pos e, if_pos e, h j e]
  · rw [if_neg e, if_neg e]
theorem rootV_of {f g : Nat → Nat} (h : ∀ i, i < 32 → f i = g i) : rootV f = rootV g := congrArg Value.agg (arr_congr fun i hi => congrArg (fun k : Nat => Value.int .u8 (k : Int)) (h i hi))
namespace SignMsg
theorem cats (x a b c : Nat → Nat) : ∀ i, i < 3 * 32 → catN (2 * 32) (catN (1 * 32) (catN (0 * 32) x a) b) c i = cat3N 32 a b c i := fun i hi => by
  unfold catN cat3N
  by_cases h1 : i < 32
  · rw [if_pos (by omega), if_pos (by omega), if_neg (by omega), if_pos h1]; rfl
  · by_cases h2 : i < 2 * 32
    · rw [if_pos h2, if_neg (by omega), if_neg h1, if_pos h2]
    · rw [if_neg h2, if_neg h1, if_neg h2]
end SignMsg
open SignMsg in
set_option maxHeartbeats 8000000 in
theorem message_look (F : Nat → Value) (hF : Sc F 58) (w : World) (hp : ShaPkg w) :
    Calls Tryd.prog 15 #[.agg (arr 177 F)] w fun e w' => e = .returned (rootV (msgN F)) ∧ Below w.heap.size w w' := by
  obtain ⟨R, hR⟩ : ∃ R, R = treeN (dep 2) 2 (padN 48 (byF F 0)) := ⟨_, rfl⟩
  have HM := Lib.hid (show rootV (treeN (dep 3) 3 (catN (2 * 32) (catN (1 * 32) (catN (0 * 32) (fun _ => 0) R) (byF F 48)) (padN 8 (leB (nat (F 80)))))) = rootV (msgN F) by
    rw [hR]; exact rootV_of (treeN_congr (dep_ge 3) (cats _ _ _ _)))
  have HRl := Lib.hid (show ∀ i, R i < 256 by rw [hR]; exact treeN_lt (padN_lt (byF_lt F 0)) _ _)
  have HR := Lib.hid (show treeN (dep (nch 48)) (nch 48) (padN 48 (byF F 0)) = R by rw [hR]; rfl)
  have HP := Lib.hid hp
  have hpl := hp.lt
  have HSc := Lib.hid hF
  have HS0 := Lib.hid (HS.nil w)
  have H80 := Lib.hid (hF.u64 80 (by kernel_rfl)).1
  clear hp hF hR
  go_enter Tryd.func15, Tryd.ntmps15
  go_wp2_with (first
    | (refine wpList_boxL rfl 58 _ 1 rfl rfl HS0.out 177 F rfl ?_; intro b1 w1 hb1 hc1 hs1; have HS1 := Lib.hid hs1; clear hs1)
    | (refine wpList_allocL rfl 24 2 rfl rfl HS1.out (Array.replicate 32 (.int .u8 0)) (by kernel_rfl) 32 (u8v fun _ => 0) (by rfl) (zero_at 32 (.int .u8 0)) ?_; intro b2 wB hb2 hc2 hs2; have HSB := Lib.hid hs2; have hszB := hs2.size; clear hs2)
    | (refine wpList_allocL rfl 79 3 rfl rfl (HS.nil wB) _ zero_hash 2 (hashF none 0 0) (size_arr _ _) (fun i hi => arr_at _ _ i hi) ?_; intro b3 w3 hb3 hc3 hs; have HB3 := Lib.hid (hs.out (by simp; omega)); have hH3 : HashIs w3 wB.heap.size b3 0 (fun _ => 0) := ⟨none, 0, hs.row 0 rfl, OwnZ.nil w3 _ _ _ _, fun ad e => by cases e⟩; have HH3 := Lib.hid hH3; have HS3 := Lib.hid (HSB.out.below (hs.out (by simp; omega))); clear hs hH3)
    | (go_at_call 31; refine (hbytes_look wB.heap.size wB.heap.size b3 0 (fun _ => 0) _ HH3.out (Nat.le_refl _) (by omega) HB3.out.size (by omega) 48 48 (some ⟨b1, 0, none⟩) (byF F 0) (Rd.of_part (HS3.out.row 1 rfl) (show 0 + 48 ≤ 177 by omega) (fun i hi => byT_eq HSc.out 0 i (leafD0 i hi))) (byF_lt F 0) (Nat.le_refl _) (by omega) (by omega) (HP.out.below (HS3.out.out (by simp; omega))) (by omega)).mono ?_; rintro e w4 ⟨rfl, hH, hb⟩; rw [HR.out] at hH; have HH4 := Lib.hid hH; have HB4 := Lib.hid (HB3.out.trans hb); have HS4 := Lib.hid (HSB.out.below (HB3.out.trans hb)); clear hH hb)
    | (refine wpList_load_part rfl 24 _ rfl b1 48 32 (u8v (byF F 48)) rfl _ (fun i hi => (HS4.out.cell 1 (48 + i) rfl (show 48 + i < 177 by omega)).trans (congrArg some (byT_eq HSc.out 48 i (leafD48 i hi)))) Tryd.underlying24 rfl (by kernel_rfl) _ rfl ?_)
    | (go_at_call 32; refine (put_look wB.heap.size wB.heap.size b3 1 _ (byF F 48) _ HH4.out (Nat.le_refl _) (by omega) HB4.out.size (by omega)).mono ?_; rintro e w5 ⟨rfl, hH, hb⟩; have HH5 := Lib.hid hH; have HB5 := Lib.hid (HB4.out.trans hb); have hS5 := HSB.out.below (HB4.out.trans hb); have c80 := (hS5.cell 1 80 rfl (by show 80 < 177; omega)).trans (congrArg some H80.out); have HS5 := Lib.hid hS5; clear hH hb hS5)
    | (go_at_call 33; refine (u64_look wB.heap.size wB.heap.size b3 2 (nat (F 80)) _ _ HH5.out (Nat.le_refl _) (by omega) HB5.out.size (by omega)).mono ?_; rintro e w6 ⟨rfl, hH, hb⟩; have HH6 := Lib.hid hH; have HB6 := Lib.hid (HB5.out.trans hb); have HS6 := Lib.hid (HSB.out.below (HB5.out.trans hb)); clear hH hb)
    | (go_at_call 34; refine (done_look wB.heap.size wB.heap.size b3 3 _ _ HH6.out (catN_lt (catN_lt (catN_lt (fun _ => by omega) HRl.out) (byF_lt F 48)) (padN_lt (leB_lt _))) (Nat.le_refl _) (by omega) HB6.out.size (by omega) (by omega) (HP.out.below (HS6.out.out (by simp; omega))) (by omega)).mono ?_; rintro e w7 ⟨rfl, hb⟩; rw [HM.out]; have HS7 := Lib.hid (HSB.out.below (HB6.out.trans hb)); clear hb)
    | (refine wpList_allocL rfl 24 4 rfl rfl HS7.out (Array.replicate 32 (.int .u8 0)) (by kernel_rfl) 32 (u8v fun _ => 0) (by rfl) (zero_at 32 (.int .u8 0)) ?_; intro b4 w8 hb4 hc4 hs; have HS8 := Lib.hid hs; clear hs)
    | (refine wpList_storeH rfl 24 (.tmp 4) (.tmp 17) rfl HS8.out 0 rfl (u8v (msgN F)) rfl rfl (by kernel_rfl) (fun _ _ => rfl) ?_; intro w9 hs; have HS9 := Lib.hid hs; clear hs)
    | (refine wpList_load_rd rfl 24 _ rfl 32 _ Tryd.underlying24 rfl (by kernel_rfl) ⟨b4, 0, none⟩ rfl (u8v (msgN F)) (fun i hi => by rw [add_lit0]; exact HS9.out.cell 0 i rfl hi) ?_)
    | (refine wpList_storeH rfl 24 (.tmp 2) (.tmp 19) rfl HS9.out 1 rfl (u8v (msgN F)) rfl rfl (by kernel_rfl) (fun _ _ => rfl) ?_; intro wy hs; have HY := Lib.hid hs; clear hs))
  exact ret_rowIs rfl (HY.out.row 1 rfl) _ rfl Tryd.underlying24 rfl (by kernel_rfl) rfl ⟨rfl, HY.out.out (by simp; omega)⟩
end Go.Proofs.YtecgogeebponlaaDoor
/- Steps whose guard says yes. -/
namespace Go.Proofs.YtecgogeebponlaaDoor
set_option maxRecDepth 40000
open Go.RowKit
section
variable {P : Program}
theorem wpList_asG {ops : Array Oper} {rest : List Oper} {o : Oper} {a : Act} {w : World} {Q : Exit → Act → World → Prop} {j : Nat} {want : Bool} {dd : Tmp} (hg : o.guard = some (j, want)) (hj : (ops[j]?).bind (·.dst) = some dd) (hv : a.tmps[dd]? = some (.bool want)) (d : Tmp) (_hd : o.dst = some d) (v : Value) (h : (execOp a.eval o).run P w = .ok (.value v) w) (hK : wpList P ops Q rest (a.put o.dst v) w) : wpList P ops Q (o :: rest) a w :=
  wpList_guarded hg hj hv fun _ hK' => by
    unfold Oper.wp
    rw [h]
    exact hK' _ _ hK
theorem wpList_bs1G {ops : Array Oper} {rest : List Oper} {o : Oper} {a : Act} {w w0 : World} {Q : Exit → Act → World → Prop} {rows : List RowSpec} {j : Nat} {want : Bool} {dd : Tmp} (hg : o.guard = some (j, want)) (hj : (ops[j]?).bind (·.dst) = some dd) (hv : a.tmps[dd]? = some (.bool want)) {t e : TypeId} {z : Nat} (ht : P.underlying t = some (.slice e)) (hz : (P.info? e).map (·.size) = some z) (hlen : z ≤ 16777216) (h0 : 0 < z) {v0 : Value} (hzero : (P.info? e).bind (·.zero) = some v0)
    (x : Operand) (ho : o.op = .buildSlice t 1 #[(0, x)]) (f : Nat → Value) (hx : a.eval x = .agg (arr z f)) (h : HS w0 w rows)
    (hK : ∀ b w', w0.heap.size ≤ b → w.heap.size ≤ b → HS w0 w' (⟨b, e, z, f⟩ :: rows) → wpList P ops Q rest (a.put o.dst (.slice (some ⟨b, 0, none⟩) 1 1)) w') : wpList P ops Q (o :: rest) a w :=
  wpList_guarded hg hj hv fun _ hK' => by
    have hr := run_bsN (P := P) w (t := t) (len := 1) ht hz (by omega) (by omega) hzero #[(0, .agg (arr z f))] f (fun g => by
      rw [show (#[((0 : Nat), Value.agg (arr z f))] : Array (Nat × Value)).toList = [(0, .agg (arr z f))] from rfl, fill_step z (1 * z) 0 f g [] (by omega)]
      show some _ = some _
      exact congrArg some (arr_congr fun i hi => by rw [if_pos (by omega)]; simp))
    rw [Nat.one_mul] at hr
    have hrun : (execOp a.eval o).run P w = .ok (.value (.slice (some ⟨w.heap.size, 0, none⟩) 1 1)) (w.alloc (.cells (arr z f) e)) := by
      unfold execOp
      rw [ho]
      simp only [List.map_toArray, List.map_cons, List.map_nil, hx]
      simp [hr]
    unfold Oper.wp
    rw [hrun]
    exact hK' _ _ (hK _ _ h.size (Nat.le_refl _) (h.alloc (arr z f) e z f (size_arr _ _) (fun i hi => arr_at _ _ i hi)))
end
end Go.Proofs.YtecgogeebponlaaDoor
/- The program is awake: its fixed answers in chapter 16. -/
namespace Go.Proofs.YtecgogeebponlaaDoor
set_option maxRecDepth 40000
open Go.RowKit
namespace SignAwake
abbrev D3 : Nat → Nat := domN 3 (fun _ => 0) (fun _ => 0)
theorem z64 : shaB (fun _ => 0) 64 0 = 245 := by kernel_rfl
theorem d0 : u8v D3 0 = .int .u8 3 := by
  show Value.int .u8 ((leB 3 0 : Nat) : Int) = _
  rw [show leB 3 0 = 3 by decide]; rfl
theorem d4 : u8v D3 4 = .int .u8 245 := by
  show Value.int .u8 ((shaB (catN 32 (padN 4 fun _ => 0) fun _ => 0) 64 0 : Nat) : Int) = _
  rw [shaB_congr (m' := fun _ => 0) (fun i _ => by unfold catN padN; split <;> (try split) <;> rfl), z64]; rfl
theorem s0 : shaB (catN 32 (fun _ => 0) (fun _ => 0)) 64 0 = 245 := by
  rw [shaB_congr (m' := fun _ => 0) (fun i _ => by unfold catN; split <;> rfl), z64]
theorem idx0 (X : Nat → Nat) (w : World) : (Instr.index 24 (rootV X) (.int .i64 0)).run Tryd.prog w = .ok (.int .u8 ((X 0 : Nat) : Int)) w := by kernel_rfl
theorem idx_op {o : Oper} {a : Act} {x : Operand} (X : Nat → Nat) (w : World) (ho : o.op = .index 24 x (.const (.int .i64 0))) (hx : a.eval x = rootV X) : (execOp a.eval o).run Tryd.prog w = .ok (.value (.int .u8 ((X 0 : Nat) : Int))) w := by
  unfold execOp
  rw [ho]
  simp only [hx]
  have h : a.eval (.const (.int .i64 0)) = .int .i64 0 := rfl
  simp [h, idx0]
theorem idx245 {o : Oper} {a : Act} {x : Operand} (w : World) (ho : o.op = .index 24 x (.const (.int .i64 0))) (hx : a.eval x = rootV (shaB (catN 32 (fun _ => 0) (fun _ => 0)) 64)) : (execOp a.eval o).run Tryd.prog w = .ok (.value (.int .u8 245)) w := by
  have h := idx_op _ w ho hx
  rw [s0] at h
  exact h
theorem one_in : inB D3 1 D3 = true := inB_t (j := 0) (by omega) (fun i _ => by rw [show 0 * 32 + i = i by omega])
end SignAwake
open SignAwake in
set_option maxHeartbeats 4000000 in
theorem awake_any (w : World) (hp : ShaPkg w) : Calls Tryd.prog 7 #[] w fun e w' => e = .returned (.bool true) ∧ Below w.heap.size w w' := by
  have HP := Lib.hid hp
  have HS0 := Lib.hid (HS.nil w)
  obtain ⟨D, hD⟩ : ∃ D, D = D3 := ⟨_, rfl⟩
  have HD := Lib.hid (show domN 3 (fun _ => 0) (fun _ => 0) = D from hD.symm)
  have d0' := Lib.hid (show u8v D 0 = .int .u8 3 by rw [hD]; exact d0)
  have d4' := Lib.hid (show u8v D 4 = .int .u8 245 by rw [hD]; exact d4)
  have D1 := Lib.hid (show inB D 1 D = true by rw [hD]; exact one_in)
  clear hp hD
  have tok1 := Tok.mk 1
  go_enter Tryd.func7, Tryd.ntmps7
  go_wp2_with (first
    | (go_at_call 11; refine (deposits_look _ HP.out).mono ?_; rintro e w1 ⟨rfl, hb1⟩; rw [HD.out]; have HS1 := Lib.hid (HS0.out.below hb1); clear hb1)
    | (refine wpList_allocL rfl 24 1 rfl rfl HS1.out (Array.replicate 32 (.int .u8 0)) (by kernel_rfl) 32 (u8v fun _ => 0) (by rfl) (zero_at 32 (.int .u8 0)) ?_; intro b2 w2 hb2 hc2 hs2; have HS2 := Lib.hid hs2; clear hs2)
    | (refine wpList_storeH rfl 24 (.tmp 1) (.tmp 2) rfl HS2.out 0 rfl (u8v D) rfl rfl (by kernel_rfl) (fun _ _ => rfl) ?_; intro w3 hs; have c0 := (hs.cell 0 0 rfl (by show 0 < 32; omega)).trans (congrArg some d0'.out); have c4 := (hs.cell 0 4 rfl (by show 4 < 32; omega)).trans (congrArg some d4'.out); have HS3 := Lib.hid hs; clear hs)
    | (have hx : Tok 1 := (by assumption); refine wpList_load_rdG rfl rfl rfl 24 _ rfl 32 _ Tryd.underlying24 rfl (by kernel_rfl) ⟨b2, 0, none⟩ rfl (u8v D) (fun i hi => by rw [add_lit0]; exact HS3.out.cell 0 i rfl hi) ?_; clear hx)
    | (go_at_call 19; have hx : Tok 1 := (by assumption); clear hx tok1; refine (good_look 0 0 none (fun _ => 0) D _ Rd.none_ (by omega)).mono ?_; rintro e w4 ⟨rfl, hb4⟩; rw [inB_f (fun j h => absurd h (by omega))]; have HS4 := Lib.hid (HS3.out.below hb4); clear hb4; have tok2 := Tok.mk 2)
    | (have hx : Tok 2 := (by assumption); refine wpList_load_rdG rfl rfl rfl 24 _ rfl 32 _ Tryd.underlying24 rfl (by kernel_rfl) ⟨b2, 0, none⟩ rfl (u8v D) (fun i hi => by rw [add_lit0]; exact HS4.out.cell 0 i rfl hi) ?_; clear hx)
    | (have hx : Tok 2 := (by assumption); refine wpList_bs1G rfl rfl rfl Tryd.underlying32 (z := 32) (by kernel_rfl) (by omega) (by omega) (v0 := .agg (Array.replicate 32 (.int .u8 0))) (by kernel_rfl) _ rfl (u8v D) rfl HS4.out ?_; clear hx; intro b5 w5 hb5 hc5 hs5; have HS5 := Lib.hid hs5; clear hs5)
    | (go_at_call 19; have hx : Tok 2 := (by assumption); clear hx tok2; refine (good_look 1 1 (some ⟨b5, 0, none⟩) D D _ (Rd.of_row (HS5.out.row 0 rfl) (by show 1 * 32 ≤ 32; omega) (HS5.out.lt 0 rfl)) (by omega)).mono ?_; rintro e w6 ⟨rfl, hb6⟩; rw [D1.out]; have HS6 := Lib.hid (HS5.out.below hb6); clear hb6)
    | (go_at_call 13; refine (sroot_look (fun _ => 0) (fun _ => 0) (fun _ => by omega) (fun _ => by omega) _ (HP.out.below (HS6.out.out (by simp; omega)))).mono ?_; rintro e w7 ⟨rfl, hb7⟩; have HS7 := Lib.hid (HS6.out.below hb7); clear hb7)
    | (refine wpList_asG rfl rfl rfl 26 rfl (.int .u8 245) ?_ ?_; (· exact idx245 _ rfl rfl)))
  go_ret
  exact ⟨rfl, HS7.out.out (by simp; omega)⟩
end Go.Proofs.YtecgogeebponlaaDoor
/- The law SignRoots. (Printed by a program of mine.) -/
namespace Go.Proofs.YtecgogeebponlaaDoor
set_option maxRecDepth 40000
open Go.RowKit
namespace SignRootsLaw
theorem ent_r1 (vs : Array Value) (w : World) : (callFunc 13 vs).run Tryd.prog w = .ok (.enter 13 vs) w := by kernel_rfl
theorem ent_r2 (vs : Array Value) (w : World) : (callFunc 14 vs).run Tryd.prog w = .ok (.enter 14 vs) w := by kernel_rfl
theorem ent_m1 (vs : Array Value) (w : World) : (callFunc 15 vs).run Tryd.prog w = .ok (.enter 15 vs) w := by kernel_rfl
theorem ent_m2 (vs : Array Value) (w : World) : (callFunc 16 vs).run Tryd.prog w = .ok (.enter 16 vs) w := by kernel_rfl
/-- A deposit's data with another signature. -/
def sigF (F : Nat → Value) (s : Nat → Nat) : Nat → Value := fun j => if 81 ≤ j ∧ j < 81 + 96 then u8v s (j - 81) else F j
theorem leafS : ∀ q, q < 96 → leafAt Tryd.prog 8 58 (81 + q) = some 5 := by decide +kernel
theorem sig_sc {F : Nat → Value} {s : Nat → Nat} (hF : Sc F 58) (hs : ∀ i, s i < 256) : Sc (sigF F s) 58 := fun i l hl => by
  by_cases h : 81 ≤ i ∧ i < 81 + 96
  · have e : sigF F s i = u8v s (i - 81) := if_pos h
    have h2 := leafS (i - 81) (by omega)
    rw [show 81 + (i - 81) = i by omega, hl] at h2
    injection h2 with h2
    subst h2
    rw [e, Tryd.underlying5]
    exact ⟨rfl, hs _⟩
  · have e : sigF F s i = F i := if_neg h
    rw [e]
    exact hF i l hl
theorem sig_low {F : Nat → Value} {s : Nat → Nat} {i : Nat} (h : i < 81) : sigF F s i = F i := if_neg (by omega)
theorem sig_msg (F : Nat → Value) (s : Nat → Nat) : rootV (msgN (sigF F s)) = rootV (msgN F) := by
  have e1 : padN 48 (byF (sigF F s) 0) = padN 48 (byF F 0) := funext fun i => by
    unfold padN
    by_cases h : i < 48
    · rw [if_pos h, if_pos h]; unfold byF; rw [sig_low (by omega)]
    · rw [if_neg h, if_neg h]
  unfold msgN
  rw [e1, sig_low (show 80 < 81 by omega)]
  refine rootV_of (treeN_congr (dep_ge 3) fun i hi => ?_)
  unfold cat3N
  by_cases h1 : i < 32
  · rw [if_pos h1, if_pos h1]
  · rw [if_neg h1, if_neg h1]
    by_cases h2 : i < 2 * 32
    · rw [if_pos h2, if_pos h2]; unfold byF; rw [sig_low (by omega)]
    · rw [if_neg h2, if_neg h2]
/-- A deposit's data that hold nothing. -/
def ddz : Nat → Value := fun i => if i = 80 then .int .u64 0 else .int .u8 0
theorem zero_dd : (Tryd.prog.info? 58).bind (·.zero) = some (.agg (arr 177 ddz)) := by kernel_rfl
theorem dd_one {F : Nat → Value} (hF : Sc F 58) : ∀ i, i < 177 → (F i).oneCell' = true := fun i hi => by
  obtain ⟨v, h1, h2⟩ := hF.one (n := 177) (by decide +kernel) i hi
  rw [arr_at _ _ _ hi] at h1
  injection h1 with h1
  rw [h1]; exact h2
end SignRootsLaw
open SignRootsLaw in
set_option maxHeartbeats 4000000 in
theorem signRoots_law (w : World) (x : Nat → Nat) (hx : ∀ i, x i < 256) (y : Nat → Nat) (hy : ∀ i, y i < 256) (F : Nat → Value) (hF : Sc F 58) (s : Nat → Nat) (hs : ∀ i, s i < 256) (hp : ShaPkg w) (hpr : RefPkg w) :
    Calls Tryd.prog 4 #[rootV x, rootV y, .agg (arr 177 F), .agg (arr 96 (u8v s))] w fun r w' => r = .returned (.bool true) ∧ Below w.heap.size w w' := by
  have HP := Lib.hid hp
  have HPR := Lib.hid hpr
  have HX := Lib.hid hx
  have HY := Lib.hid hy
  have HF := Lib.hid hF
  have HFs := Lib.hid (sig_sc hF hs)
  have HSE := Lib.hid (show Ending.returned (rootV (msgN (sigF F s))) = .returned (rootV (msgN F)) by rw [sig_msg])
  have HS0 := Lib.hid (HS.nil w)
  have tok4 := Tok.mk 4
  have tok5 := Tok.mk 5
  clear hp hpr hx hy hF hs
  go_enter Tryd.func4, Tryd.ntmps4
  go_upto_region 5 with (first
    | (refine wpList_boxL rfl 24 _ 4 rfl rfl HS0.out 32 (u8v x) rfl ?_; intro b4 w4 hb4 hc4 hs4; have HS4 := Lib.hid hs4; clear hs4)
    | (refine wpList_boxL rfl 24 _ 5 rfl rfl HS4.out 32 (u8v y) rfl ?_; intro b5 w5 hb5 hc5 hs5; have HS5 := Lib.hid hs5; clear hs5)
    | (refine wpList_boxL rfl 58 _ 6 rfl rfl HS5.out 177 F rfl ?_; intro b6 w6 hb6 hc6 hs6; have HS6 := Lib.hid hs6; clear hs6)
    | (refine wpList_boxL rfl 56 _ 7 rfl rfl HS6.out 96 (u8v s) rfl ?_; intro b7 w7 hb7 hc7 hs7; have HS7 := Lib.hid hs7; clear hs7)
    | (go_at_call 7; refine (awake_any _ (HP.out.below (HS7.out.out (by simp; omega)))).mono ?_; rintro r w8 ⟨rfl, hb⟩; have HS8 := Lib.hid (HS7.out.below hb); clear hb)
    | (refine wpList_load_rd rfl 58 _ rfl 177 _ Tryd.underlying58 rfl (by kernel_rfl) ⟨b6, 0, none⟩ rfl F (fun i hi => by rw [add_lit0]; exact HS8.out.cell 1 i rfl hi) ?_)
    | (refine wpList_allocL rfl 58 9 rfl rfl HS8.out _ zero_dd 177 ddz (size_arr _ _) (fun i hi => arr_at _ _ i hi) ?_; intro b9 w9 hb9 hc9 hs; have HS9 := Lib.hid hs; clear hs)
    | (refine wpList_storeH rfl 58 (.tmp 9) (.tmp 12) rfl HS9.out 0 rfl F rfl rfl (by kernel_rfl) (dd_one HF.out) ?_; intro w10 hs; have HS10 := Lib.hid hs; clear hs)
    | (refine wpList_load_rd rfl 56 _ rfl 96 _ Tryd.underlying56 rfl (by kernel_rfl) ⟨b7, 0, none⟩ rfl (u8v s) (fun i hi => by rw [add_lit0]; exact HS10.out.cell 1 i rfl hi) ?_)
    | (refine wpList_storeP rfl 56 (.tmp 14) (.tmp 13) rfl HS10.out 0 rfl 81 96 (u8v s) rfl rfl (by kernel_rfl) (by omega) (fun _ _ => rfl) (sigF F s) (fun _ _ => rfl) ?_; intro wc hs; have HSc := Lib.hid hs; clear hs))
  have hA : HS w wc [⟨b9, 58, 177, sigF F s⟩, ⟨b7, 56, 96, u8v s⟩, ⟨b6, 58, 177, F⟩, ⟨b5, 24, 32, u8v y⟩, ⟨b4, 24, 32, u8v x⟩] := HSc.out
  have HA := Lib.hid hA
  have HW := Lib.hid (hA.out (by simp; omega))
  clear hA HSc HS0 HS4 HS5 HS6 HS7 HS8 HS9 HS10
  refine wp_region_facts (B := wc.heap.size) (w0 := wc) [SF.is (rootV x), SF.is (rootV y), SF.is (rootV (shaB (catN 32 x y) 64)), SF.is (rootV x), SF.is (rootV y), SF.is (rootV (shaB (catN 32 x y) 64)), SF.is (.bool true), SF.is (.bool true), SF.is (.agg (arr 177 F)), SF.is (rootV (msgN F)), SF.is (.agg (arr 177 F)), SF.is (rootV (msgN F)), SF.is (.bool true), SF.is (.bool true), SF.is (.bool true), SF.is (.agg (arr 177 (sigF F s))), SF.is (rootV (msgN F)), SF.is (.agg (arr 177 F)), SF.is (rootV (msgN F)), SF.is (.bool true), SF.is (.bool true), SF.is (.bool true)] (by kernel_rfl) (by kernel_rfl) rfl (Nat.le_refl _) (Below.refl _ _) ⟨?_, ?_, ?_, ?_, ?_, ?_, ?_, ?_, ?_, ?_, ?_, ?_, ?_, ?_, ?_, ?_, ?_, ?_, ?_, ?_, ?_, ?_, trivial⟩ ?_
  · exact opOb_ld rfl rfl (OpK.tmp rfl) (fun w' hb => ld_all (HA.out.row 4 rfl) (HA.out.row 4 rfl).lt Tryd.underlying24 rfl (by kernel_rfl) w' hb)
  · exact opOb_ld rfl rfl (OpK.tmp rfl) (fun w' hb => ld_all (HA.out.row 3 rfl) (HA.out.row 3 rfl).lt Tryd.underlying24 rfl (by kernel_rfl) w' hb)
  · exact opOb_fn2 ent_r1 rfl rfl (OpK.tmp rfl) (OpK.tmp rfl) (fun w' hb => (sroot_look x y HX.out HY.out w' (HP.out.below (HW.out.trans (hb.mono HW.out.size)))).mono fun r w'' ⟨he', hb2⟩ => ⟨_, he', rfl, hb2⟩)
  · exact opOb_ld rfl rfl (OpK.tmp rfl) (fun w' hb => ld_all (HA.out.row 4 rfl) (HA.out.row 4 rfl).lt Tryd.underlying24 rfl (by kernel_rfl) w' hb)
  · exact opOb_ld rfl rfl (OpK.tmp rfl) (fun w' hb => ld_all (HA.out.row 3 rfl) (HA.out.row 3 rfl).lt Tryd.underlying24 rfl (by kernel_rfl) w' hb)
  · exact opOb_fn2 ent_r2 rfl rfl (OpK.tmp rfl) (OpK.tmp rfl) (fun w' hb => (sroot_ref x y HX.out HY.out w' (HPR.out.below (HW.out.trans (hb.mono HW.out.size)))).mono fun r w'' ⟨he', hb2⟩ => ⟨_, he', rfl, hb2⟩)
  · exact opOb_eqArr 5 32 .u8 (fun i => ((shaB (catN 32 x y) 64 i : Nat) : Int)) (fun i => ((shaB (catN 32 x y) 64 i : Nat) : Int)) true Tryd.underlying24 Tryd.underlying5 (by kernel_rfl) (by kernel_rfl) (by simp) rfl rfl (OpK.tmp rfl) (OpK.tmp rfl)
  · exact (opOb_move _ rfl (.inl rfl) rfl)
  · exact opOb_on 22 rfl rfl (opOb_ld rfl rfl (OpK.tmp rfl) (fun w' hb => ld_all (HA.out.row 2 rfl) (HA.out.row 2 rfl).lt Tryd.underlying58 rfl (by kernel_rfl) w' hb))
  · exact opOb_on 22 rfl rfl (opOb_fn1 ent_m1 rfl rfl (OpK.tmp rfl) (fun w' hb => (message_look F HF.out w' (HP.out.below (HW.out.trans (hb.mono HW.out.size)))).mono fun r w'' ⟨he', hb2⟩ => ⟨_, he', rfl, hb2⟩))
  · exact opOb_on 22 rfl rfl (opOb_ld rfl rfl (OpK.tmp rfl) (fun w' hb => ld_all (HA.out.row 2 rfl) (HA.out.row 2 rfl).lt Tryd.underlying58 rfl (by kernel_rfl) w' hb))
  · exact opOb_on 22 rfl rfl (opOb_fn1 ent_m2 rfl rfl (OpK.tmp rfl) (fun w' hb => (message_ref F HF.out w' (HPR.out.below (HW.out.trans (hb.mono HW.out.size)))).mono fun r w'' ⟨he', hb2⟩ => ⟨_, he', rfl, hb2⟩))
  · exact opOb_on 22 rfl rfl (opOb_eqArr 5 32 .u8 (fun i => ((msgN F i : Nat) : Int)) (fun i => ((msgN F i : Nat) : Int)) true Tryd.underlying24 Tryd.underlying5 (by kernel_rfl) (by kernel_rfl) (by simp) rfl rfl (OpK.tmp rfl) (OpK.tmp rfl))
  · exact opOb_pickT rfl rfl rfl (OpK.tmp rfl)
  · exact (opOb_move _ rfl (.inl rfl) rfl)
  · exact opOb_on 29 rfl rfl (opOb_ld rfl rfl (OpK.tmp rfl) (fun w' hb => ld_all (HA.out.row 0 rfl) (HA.out.row 0 rfl).lt Tryd.underlying58 rfl (by kernel_rfl) w' hb))
  · exact opOb_on 29 rfl rfl (opOb_fn1 ent_m1 rfl rfl (OpK.tmp rfl) (fun w' hb => (message_look (sigF F s) HFs.out w' (HP.out.below (HW.out.trans (hb.mono HW.out.size)))).mono fun r w'' ⟨he', hb2⟩ => ⟨_, he'.trans HSE.out, rfl, hb2⟩))
  · exact opOb_on 29 rfl rfl (opOb_ld rfl rfl (OpK.tmp rfl) (fun w' hb => ld_all (HA.out.row 2 rfl) (HA.out.row 2 rfl).lt Tryd.underlying58 rfl (by kernel_rfl) w' hb))
  · exact opOb_on 29 rfl rfl (opOb_fn1 ent_m1 rfl rfl (OpK.tmp rfl) (fun w' hb => (message_look F HF.out w' (HP.out.below (HW.out.trans (hb.mono HW.out.size)))).mono fun r w'' ⟨he', hb2⟩ => ⟨_, he', rfl, hb2⟩))
  · exact opOb_on 29 rfl rfl (opOb_eqArr 5 32 .u8 (fun i => ((msgN F i : Nat) : Int)) (fun i => ((msgN F i : Nat) : Int)) true Tryd.underlying24 Tryd.underlying5 (by kernel_rfl) (by kernel_rfl) (by simp) rfl rfl (OpK.tmp rfl) (OpK.tmp rfl))
  · exact opOb_pickT rfl rfl rfl (OpK.tmp rfl)
  · exact (opOb_move _ rfl (.inr rfl) rfl)
  · intro w' hb
    simp only [fin, SF.is, forall_eq]
    simp only [Act.put, List.setIfInBounds_toArray, List.set_cons_succ, List.set_cons_zero]
    have hend := HW.out.trans (hb.mono HW.out.size)
    go_wp2_with fail
    go_ret
    exact ⟨rfl, hend⟩
end Go.Proofs.YtecgogeebponlaaDoor
