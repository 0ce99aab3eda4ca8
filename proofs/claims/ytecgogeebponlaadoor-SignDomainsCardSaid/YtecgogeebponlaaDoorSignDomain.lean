/- The domain of a state, and of deposits. (Printed by a program of mine.) -/
import Derived.Test.YtecgogeebponlaaDoorSignDom
import Derived.Test.YtecgogeebponlaaDoorLookSt
namespace Go.Proofs.YtecgogeebponlaaDoor
set_option maxRecDepth 40000
open Go.RowKit
/-- The bytes that lie from cell o on. -/
def byF (F : Nat → Value) (o : Nat) : Nat → Nat := fun q => nat (F (o + q)) % 256
theorem byF_lt (F : Nat → Value) (o : Nat) : ∀ i, byF F o i < 256 := fun _ => Nat.mod_lt _ (by omega)
theorem byF_eq {F : Nat → Value} (hF : Sc F 49) (o q : Nat) (hl : leafAt Tryd.prog 8 49 (o + q) = some 5) : F (o + q) = u8v (byF F o) q := by
  have h2 := hF.u8 _ hl
  show _ = Value.int .u8 ((nat (F (o + q)) % 256 : Nat) : Int)
  rw [Nat.mod_eq_of_lt h2.2]
  exact h2.1
theorem leaf_34 : ∀ q, q < 4 → leafAt Tryd.prog 8 49 (34 + q) = some 5 := by decide +kernel
theorem leaf_38 : ∀ q, q < 4 → leafAt Tryd.prog 8 49 (38 + q) = some 5 := by decide +kernel
theorem leaf_1 : ∀ q, q < 32 → leafAt Tryd.prog 8 49 (1 + q) = some 5 := by decide +kernel
/-- The version that holds in epoch E. -/
def verN (F : Nat → Value) (E : Nat) : Nat → Nat := if E < nat (F 42) then byF F 34 else byF F 38
set_option maxHeartbeats 4000000 in
theorem domain_look (F : Nat → Value) (hF : Sc F 49) (E : Nat) (k : Int) (K : Nat) (hk : IntKind.u64.wrap k = (K : Int)) (w : World) (hp : ShaPkg w) :
    Calls Tryd.prog 9 #[.agg (arr 1957 F), .int .i64 k, .int .u64 (E : Int)] w fun e w' => e = .returned (rootV (domN K (verN F E) (byF F 1))) ∧ Below w.heap.size w w' := by
  have HP := Lib.hid hp
  have HSc := Lib.hid hF
  have HK := Lib.hid hk
  have HS0 := Lib.hid (HS.nil w)
  obtain ⟨m, hm⟩ : ∃ m, m = nat (F 42) := ⟨_, rfl⟩
  have H42 := Lib.hid (show F 42 = .int .u64 (m : Int) by rw [hm]; exact (hF.u64 42 (by kernel_rfl)).1)
  have HVe := Lib.hid (show verN F E = if E < m then byF F 34 else byF F 38 by rw [hm]; rfl)
  clear hp hF hk hm
  by_cases hE : E < m
  · have hd : decide ((E : Int) < (m : Int)) = true := by simp; omega
    go_enter Tryd.func9, Tryd.ntmps9
    go_wp2_with (first
      | (refine wpList_boxL rfl 49 _ 3 rfl rfl HS0.out 1957 F rfl ?_; intro b3 w3 hb3 hc3 hs3; have HS3 := Lib.hid hs3; clear hs3; have c42 := (HS3.out.cell 0 42 rfl (by show 42 < 1957; omega)).trans (congrArg some H42.out))
      | (refine wpList_allocL rfl 24 6 rfl rfl HS3.out (Array.replicate 32 (.int .u8 0)) (by kernel_rfl) 32 (u8v fun _ => 0) (by rfl) (zero_at 32 (.int .u8 0)) ?_; intro b6 w6 hb6 hc6 hs6; have HS6 := Lib.hid hs6; clear hs6; have c42 := (HS6.out.cell 1 42 rfl (by show 42 < 1957; omega)).trans (congrArg some H42.out))
      | (refine wpList_load_rd rfl 26 _ rfl 4 _ Tryd.underlying26 rfl (by kernel_rfl) ⟨b3, 38, none⟩ rfl (u8v (byF F 38)) (fun q hq => by rw [add_litO]; exact (HS6.out.cell 1 (38 + q) rfl (by show _ < 1957; omega)).trans (congrArg some (byF_eq HSc.out 38 q (leaf_38 q hq)))) ?_)
      | (refine wpList_allocL rfl 26 7 rfl rfl HS6.out (Array.replicate 4 (.int .u8 0)) (by kernel_rfl) 4 (u8v fun _ => 0) (by rfl) (zero_at 4 (.int .u8 0)) ?_; intro b7 w7 hb7 hc7 hs7; have HS7 := Lib.hid hs7; clear hs7)
      | (refine wpList_storeH rfl 26 (.tmp 7) (.tmp 10) rfl HS7.out 0 rfl (u8v (byF F 38)) rfl rfl (by kernel_rfl) (fun _ _ => rfl) ?_; intro w8 hs; have HS8 := Lib.hid hs; clear hs; have c42 := (HS8.out.cell 2 42 rfl (by show 42 < 1957; omega)).trans (congrArg some H42.out))
      | (refine wpList_load_rd rfl 26 _ rfl 4 _ Tryd.underlying26 rfl (by kernel_rfl) ⟨b3, 34, none⟩ rfl (u8v (byF F 34)) (fun q hq => by rw [add_litO]; exact (HS8.out.cell 2 (34 + q) rfl (by show _ < 1957; omega)).trans (congrArg some (byF_eq HSc.out 34 q (leaf_34 q hq)))) ?_)
      | (refine wpList_storeH rfl 26 (.tmp 7) (.tmp 18) rfl HS8.out 0 rfl (u8v (byF F 34)) rfl rfl (by kernel_rfl) (fun _ _ => rfl) ?_; intro w9 hs; have HS9 := Lib.hid hs; clear hs)
      | (refine wpList_load_rd rfl 26 _ rfl 4 _ Tryd.underlying26 rfl (by kernel_rfl) ⟨b7, 0, none⟩ rfl (u8v (byF F 34)) (fun q hq => by rw [add_lit0]; exact (HS9.out.cell 0 q rfl (by show _ < 4; omega)).trans (congrArg some (rfl))) ?_)
      | (refine wpList_load_rd rfl 24 _ rfl 32 _ Tryd.underlying24 rfl (by kernel_rfl) ⟨b3, 1, none⟩ rfl (u8v (byF F 1)) (fun q hq => by rw [add_litO]; exact (HS9.out.cell 2 (1 + q) rfl (by show _ < 1957; omega)).trans (congrArg some (byF_eq HSc.out 1 q (leaf_1 q hq)))) ?_)
      | (go_at_call 27; refine (of_look k K HK.out (byF F 34) (byF F 1) (byF_lt F _) (byF_lt F _) _ (HP.out.below (HS9.out.out (by simp; omega)))).mono ?_; rintro e wx ⟨rfl, hbx⟩; have HX := Lib.hid (HS9.out.below hbx); clear hbx)
      | (refine wpList_storeH rfl 24 (.tmp 6) (.tmp 23) rfl HX.out 1 rfl (u8v (domN K (byF F 34) (byF F 1))) rfl rfl (by kernel_rfl) (fun _ _ => rfl) ?_; intro wy hs; have HY := Lib.hid hs; clear hs))
    exact ret_rowIs rfl (HY.out.row 1 rfl) _ rfl Tryd.underlying24 rfl (by kernel_rfl) rfl ⟨by rw [HVe.out, if_pos hE], HY.out.out (by simp; omega)⟩
  · have hd : decide ((E : Int) < (m : Int)) = false := by simp; omega
    go_enter Tryd.func9, Tryd.ntmps9
    go_wp2_with (first
      | (refine wpList_boxL rfl 49 _ 3 rfl rfl HS0.out 1957 F rfl ?_; intro b3 w3 hb3 hc3 hs3; have HS3 := Lib.hid hs3; clear hs3; have c42 := (HS3.out.cell 0 42 rfl (by show 42 < 1957; omega)).trans (congrArg some H42.out))
      | (refine wpList_allocL rfl 24 6 rfl rfl HS3.out (Array.replicate 32 (.int .u8 0)) (by kernel_rfl) 32 (u8v fun _ => 0) (by rfl) (zero_at 32 (.int .u8 0)) ?_; intro b6 w6 hb6 hc6 hs6; have HS6 := Lib.hid hs6; clear hs6; have c42 := (HS6.out.cell 1 42 rfl (by show 42 < 1957; omega)).trans (congrArg some H42.out))
      | (refine wpList_load_rd rfl 26 _ rfl 4 _ Tryd.underlying26 rfl (by kernel_rfl) ⟨b3, 38, none⟩ rfl (u8v (byF F 38)) (fun q hq => by rw [add_litO]; exact (HS6.out.cell 1 (38 + q) rfl (by show _ < 1957; omega)).trans (congrArg some (byF_eq HSc.out 38 q (leaf_38 q hq)))) ?_)
      | (refine wpList_allocL rfl 26 7 rfl rfl HS6.out (Array.replicate 4 (.int .u8 0)) (by kernel_rfl) 4 (u8v fun _ => 0) (by rfl) (zero_at 4 (.int .u8 0)) ?_; intro b7 w7 hb7 hc7 hs7; have HS7 := Lib.hid hs7; clear hs7)
      | (refine wpList_storeH rfl 26 (.tmp 7) (.tmp 10) rfl HS7.out 0 rfl (u8v (byF F 38)) rfl rfl (by kernel_rfl) (fun _ _ => rfl) ?_; intro w8 hs; have HS8 := Lib.hid hs; clear hs; have c42 := (HS8.out.cell 2 42 rfl (by show 42 < 1957; omega)).trans (congrArg some H42.out))
      | (refine wpList_load_rd rfl 26 _ rfl 4 _ Tryd.underlying26 rfl (by kernel_rfl) ⟨b7, 0, none⟩ rfl (u8v (byF F 38)) (fun q hq => by rw [add_lit0]; exact (HS8.out.cell 0 q rfl (by show _ < 4; omega)).trans (congrArg some (rfl))) ?_)
      | (refine wpList_load_rd rfl 24 _ rfl 32 _ Tryd.underlying24 rfl (by kernel_rfl) ⟨b3, 1, none⟩ rfl (u8v (byF F 1)) (fun q hq => by rw [add_litO]; exact (HS8.out.cell 2 (1 + q) rfl (by show _ < 1957; omega)).trans (congrArg some (byF_eq HSc.out 1 q (leaf_1 q hq)))) ?_)
      | (go_at_call 27; refine (of_look k K HK.out (byF F 38) (byF F 1) (byF_lt F _) (byF_lt F _) _ (HP.out.below (HS8.out.out (by simp; omega)))).mono ?_; rintro e wx ⟨rfl, hbx⟩; have HX := Lib.hid (HS8.out.below hbx); clear hbx)
      | (refine wpList_storeH rfl 24 (.tmp 6) (.tmp 23) rfl HX.out 1 rfl (u8v (domN K (byF F 38) (byF F 1))) rfl rfl (by kernel_rfl) (fun _ _ => rfl) ?_; intro wy hs; have HY := Lib.hid hs; clear hs))
    exact ret_rowIs rfl (HY.out.row 1 rfl) _ rfl Tryd.underlying24 rfl (by kernel_rfl) rfl ⟨by rw [HVe.out, if_neg hE], HY.out.out (by simp; omega)⟩
set_option maxHeartbeats 4000000 in
theorem domain_ref (F : Nat → Value) (hF : Sc F 49) (E : Nat) (k : Int) (K : Nat) (hk : k % 4294967296 = (K : Int)) (w : World) (hp : RefPkg w) :
    Calls Tryd.prog 10 #[.agg (arr 1957 F), .int .i64 k, .int .u64 (E : Int)] w fun e w' => e = .returned (rootV (domN K (verN F E) (byF F 1))) ∧ Below w.heap.size w w' := by
  have HP := Lib.hid hp
  have HSc := Lib.hid hF
  have HK := Lib.hid hk
  have HS0 := Lib.hid (HS.nil w)
  obtain ⟨m, hm⟩ : ∃ m, m = nat (F 42) := ⟨_, rfl⟩
  have H42 := Lib.hid (show F 42 = .int .u64 (m : Int) by rw [hm]; exact (hF.u64 42 (by kernel_rfl)).1)
  have HVe := Lib.hid (show verN F E = if E < m then byF F 34 else byF F 38 by rw [hm]; rfl)
  clear hp hF hk hm
  by_cases hE : E < m
  · have hd : decide ((E : Int) < (m : Int)) = true := by simp; omega
    go_enter Tryd.func10, Tryd.ntmps10
    go_wp2_with (first
      | (refine wpList_boxL rfl 49 _ 3 rfl rfl HS0.out 1957 F rfl ?_; intro b3 w3 hb3 hc3 hs3; have HS3 := Lib.hid hs3; clear hs3; have c42 := (HS3.out.cell 0 42 rfl (by show 42 < 1957; omega)).trans (congrArg some H42.out))
      | (refine wpList_allocL rfl 24 6 rfl rfl HS3.out (Array.replicate 32 (.int .u8 0)) (by kernel_rfl) 32 (u8v fun _ => 0) (by rfl) (zero_at 32 (.int .u8 0)) ?_; intro b6 w6 hb6 hc6 hs6; have HS6 := Lib.hid hs6; clear hs6; have c42 := (HS6.out.cell 1 42 rfl (by show 42 < 1957; omega)).trans (congrArg some H42.out))
      | (refine wpList_load_rd rfl 26 _ rfl 4 _ Tryd.underlying26 rfl (by kernel_rfl) ⟨b3, 34, none⟩ rfl (u8v (byF F 34)) (fun q hq => by rw [add_litO]; exact (HS6.out.cell 1 (34 + q) rfl (by show _ < 1957; omega)).trans (congrArg some (byF_eq HSc.out 34 q (leaf_34 q hq)))) ?_)
      | (refine wpList_load_rd rfl 24 _ rfl 32 _ Tryd.underlying24 rfl (by kernel_rfl) ⟨b3, 1, none⟩ rfl (u8v (byF F 1)) (fun q hq => by rw [add_litO]; exact (HS6.out.cell 1 (1 + q) rfl (by show _ < 1957; omega)).trans (congrArg some (byF_eq HSc.out 1 q (leaf_1 q hq)))) ?_)
      | (go_at_call 28; refine (dom_ref k K HK.out (byF F 34) (byF F 1) (byF_lt F _) (byF_lt F _) _ (HP.out.below (HS6.out.out (by simp; omega)))).mono ?_; rintro e wx ⟨rfl, hbx⟩; have HX := Lib.hid (HS6.out.below hbx); clear hbx)
      | (refine wpList_storeH rfl 24 (.tmp 6) (.tmp 18) rfl HX.out 0 rfl (u8v (domN K (byF F 34) (byF F 1))) rfl rfl (by kernel_rfl) (fun _ _ => rfl) ?_; intro wy hs; have HY := Lib.hid hs; clear hs))
    exact ret_rowIs rfl (HY.out.row 0 rfl) _ rfl Tryd.underlying24 rfl (by kernel_rfl) rfl ⟨by rw [HVe.out, if_pos hE], HY.out.out (by simp; omega)⟩
  · have hd : decide ((E : Int) < (m : Int)) = false := by simp; omega
    go_enter Tryd.func10, Tryd.ntmps10
    go_wp2_with (first
      | (refine wpList_boxL rfl 49 _ 3 rfl rfl HS0.out 1957 F rfl ?_; intro b3 w3 hb3 hc3 hs3; have HS3 := Lib.hid hs3; clear hs3; have c42 := (HS3.out.cell 0 42 rfl (by show 42 < 1957; omega)).trans (congrArg some H42.out))
      | (refine wpList_allocL rfl 24 6 rfl rfl HS3.out (Array.replicate 32 (.int .u8 0)) (by kernel_rfl) 32 (u8v fun _ => 0) (by rfl) (zero_at 32 (.int .u8 0)) ?_; intro b6 w6 hb6 hc6 hs6; have HS6 := Lib.hid hs6; clear hs6; have c42 := (HS6.out.cell 1 42 rfl (by show 42 < 1957; omega)).trans (congrArg some H42.out))
      | (refine wpList_load_rd rfl 26 _ rfl 4 _ Tryd.underlying26 rfl (by kernel_rfl) ⟨b3, 38, none⟩ rfl (u8v (byF F 38)) (fun q hq => by rw [add_litO]; exact (HS6.out.cell 1 (38 + q) rfl (by show _ < 1957; omega)).trans (congrArg some (byF_eq HSc.out 38 q (leaf_38 q hq)))) ?_)
      | (refine wpList_load_rd rfl 24 _ rfl 32 _ Tryd.underlying24 rfl (by kernel_rfl) ⟨b3, 1, none⟩ rfl (u8v (byF F 1)) (fun q hq => by rw [add_litO]; exact (HS6.out.cell 1 (1 + q) rfl (by show _ < 1957; omega)).trans (congrArg some (byF_eq HSc.out 1 q (leaf_1 q hq)))) ?_)
      | (go_at_call 28; refine (dom_ref k K HK.out (byF F 38) (byF F 1) (byF_lt F _) (byF_lt F _) _ (HP.out.below (HS6.out.out (by simp; omega)))).mono ?_; rintro e wx ⟨rfl, hbx⟩; have HX := Lib.hid (HS6.out.below hbx); clear hbx)
      | (refine wpList_storeH rfl 24 (.tmp 6) (.tmp 25) rfl HX.out 0 rfl (u8v (domN K (byF F 38) (byF F 1))) rfl rfl (by kernel_rfl) (fun _ _ => rfl) ?_; intro wy hs; have HY := Lib.hid hs; clear hs))
    exact ret_rowIs rfl (HY.out.row 0 rfl) _ rfl Tryd.underlying24 rfl (by kernel_rfl) rfl ⟨by rw [HVe.out, if_neg hE], HY.out.out (by simp; omega)⟩
set_option maxHeartbeats 1000000 in
theorem deposits_look (w : World) (hp : ShaPkg w) : Calls Tryd.prog 11 #[] w fun e w' => e = .returned (rootV (domN 3 (fun _ => 0) (fun _ => 0))) ∧ Below w.heap.size w w' := by
  have HP := Lib.hid hp
  have HS0 := Lib.hid (HS.nil w)
  clear hp
  go_enter Tryd.func11, Tryd.ntmps11
  go_wp2_with (first
    | (refine wpList_allocL rfl 24 0 rfl rfl HS0.out (Array.replicate 32 (.int .u8 0)) (by kernel_rfl) 32 (u8v fun _ => 0) (by rfl) (zero_at 32 (.int .u8 0)) ?_; intro b6 w6 hb6 hc6 hs6; have HS6 := Lib.hid hs6; clear hs6)
    | (refine wpList_build_as rfl 26 #[] rfl [] rfl (arr 4 (u8v fun _ => 0)) (by kernel_rfl) ?_)
    | (refine wpList_build_as rfl 24 #[] rfl [] rfl (arr 32 (u8v fun _ => 0)) (by kernel_rfl) ?_)
    | (go_at_call 27; refine (of_look 3 3 (by decide) (fun _ => 0) (fun _ => 0) (fun _ => by omega) (fun _ => by omega) _ (HP.out.below (HS6.out.out (by simp; omega)))).mono ?_; rintro e wx ⟨rfl, hbx⟩; have HX := Lib.hid (HS6.out.below hbx); clear hbx)
    | (refine wpList_storeH rfl 24 (.tmp 0) (.tmp 3) rfl HX.out 0 rfl (u8v (domN 3 (fun _ => 0) (fun _ => 0))) rfl rfl (by kernel_rfl) (fun _ _ => rfl) ?_; intro wy hs; have HY := Lib.hid hs; clear hs))
  exact ret_rowIs rfl (HY.out.row 0 rfl) _ rfl Tryd.underlying24 rfl (by kernel_rfl) rfl ⟨rfl, HY.out.out (by simp; omega)⟩
set_option maxHeartbeats 1000000 in
theorem deposits_ref (w : World) (hp : RefPkg w) : Calls Tryd.prog 12 #[] w fun e w' => e = .returned (rootV (domN 3 (fun _ => 0) (fun _ => 0))) ∧ Below w.heap.size w w' := by
  have HP := Lib.hid hp
  have HS0 := Lib.hid (HS.nil w)
  clear hp
  go_enter Tryd.func12, Tryd.ntmps12
  go_wp2_with (first
    | (refine wpList_allocL rfl 24 0 rfl rfl HS0.out (Array.replicate 32 (.int .u8 0)) (by kernel_rfl) 32 (u8v fun _ => 0) (by rfl) (zero_at 32 (.int .u8 0)) ?_; intro b6 w6 hb6 hc6 hs6; have HS6 := Lib.hid hs6; clear hs6)
    | (refine wpList_build_as rfl 26 #[] rfl [] rfl (arr 4 (u8v fun _ => 0)) (by kernel_rfl) ?_)
    | (refine wpList_build_as rfl 24 #[] rfl [] rfl (arr 32 (u8v fun _ => 0)) (by kernel_rfl) ?_)
    | (go_at_call 28; refine (dom_ref 3 3 (by decide) (fun _ => 0) (fun _ => 0) (fun _ => by omega) (fun _ => by omega) _ (HP.out.below (HS6.out.out (by simp; omega)))).mono ?_; rintro e wx ⟨rfl, hbx⟩; have HX := Lib.hid (HS6.out.below hbx); clear hbx)
    | (refine wpList_storeH rfl 24 (.tmp 0) (.tmp 3) rfl HX.out 0 rfl (u8v (domN 3 (fun _ => 0) (fun _ => 0))) rfl rfl (by kernel_rfl) (fun _ _ => rfl) ?_; intro wy hs; have HY := Lib.hid hs; clear hs))
  exact ret_rowIs rfl (HY.out.row 0 rfl) _ rfl Tryd.underlying24 rfl (by kernel_rfl) rfl ⟨rfl, HY.out.out (by simp; omega)⟩
end Go.Proofs.YtecgogeebponlaaDoor
