/- A part of what the proofs stand on: TreeTop, MerkleTrees, MerkleHoldsLaw, MerkleTreesLaw. -/
import Derived.Test.YtjmbgdldnnmipaaDoorGMer13
import Derived.Test.YtjmbgdldnnmipaaDoorGMer16
import Derived.Test.YtjmbgdldnnmipaaDoorGMer15
/- Tree and Must of the reference, where the chunks aren't too many. -/
namespace Go.Proofs.YtjmbgdldnnmipaaDoor
set_option maxRecDepth 40000
open Go.RowKit
set_option maxHeartbeats 2000000 in
theorem treeTop_ok (n c l : Nat) (A : Option Addr) (x : Nat → Nat) (w : World) (hb : Rd w w.heap.size A (n * 32) (u8v x)) (hx : ∀ i, x i < 256) (hnc : n ≤ c) (hl : l ≤ 1099511627776) (hnl : n ≤ l) (hp : RefPkg w) :
    Calls Tryd.prog 22 #[.slice A n c, .int .i64 (l : Int)] w fun e w' => e = .returned (.tuple #[rootV (treeN (dep l) n x), .int .i64 0]) ∧ Below w.heap.size w w' := by
  have HP := Lib.hid hp
  have HX := Lib.hid hb
  have HXl := Lib.hid hx
  have HS0 := Lib.hid (HS.nil w)
  have hd40 : dep l ≤ 40 := dep_le (k := 40) (by omega)
  clear hb hx hp
  have tok1 := Tok.mk 1
  go_enter Tryd.func22, Tryd.ntmps22
  go_wp2_with (first
    | (refine wpList_allocL rfl 23 4 rfl rfl HS0.out (Array.replicate 32 (.int .u8 0)) (by kernel_rfl) 32 (u8v fun _ => 0) (by rfl) (zero_at 32 (.int .u8 0)) ?_; intro b6 w6 hb6 hc6 hs6; have HS6 := Lib.hid hs6; clear hs6)
    | (go_at_call 44; refine (depth_ref l hl _).mono ?_; rintro e w7 ⟨rfl, hw7⟩; subst hw7)
    | (go_at_call 45; refine (zeros_ref (dep l) hd40 _ (HP.out.below (HS6.out.out (by simp; omega)))).mono ?_; rintro e w8 ⟨Z, cz, rfl, hz, hb8⟩; have HZ := Lib.hid hz; have HS8 := Lib.hid (HS6.out.below hb8); clear hz hb8)
    | (go_at_call 43; refine (tree_ref (dep l) n c A x (dep l + 1) cz Z _ (by omega) hd40 hnc ((HX.out.below (HS8.out.out (by simp; omega))).more HS8.out.size) HXl.out HZ.out.rd (by omega) (HP.out.below (HS8.out.out (by simp; omega)))).mono ?_; rintro e w9 ⟨rfl, hb9⟩; have HS9 := Lib.hid (HS8.out.below hb9); clear hb9)
    | (refine wpList_storeH rfl 23 (.tmp 4) (.tmp 24) rfl HS9.out 0 rfl (u8v (treeN (dep l) n x)) rfl rfl (by kernel_rfl) (fun _ _ => rfl) ?_; intro wy hs; have HY := Lib.hid hs; clear hs))
  exact ret_rowTmp rfl (HY.out.row 0 rfl) _ _ rfl rfl Tryd.underlying23 rfl (by kernel_rfl) rfl ⟨rfl, HY.out.out (by simp; omega)⟩
end Go.Proofs.YtjmbgdldnnmipaaDoor
/- Trees with all their answers, and zero roots, by the reference. (Printed by a program of mine.) -/
namespace Go.Proofs.YtjmbgdldnnmipaaDoor
set_option maxRecDepth 40000
open Go.RowKit
set_option maxHeartbeats 4000000 in
theorem treeRef_arg (n c : Nat) (A : Option Addr) (l : Int) (w : World) (hl : l < 0 ∨ 1099511627776 < l) :
    Calls Tryd.prog 22 #[.slice A n c, .int .i64 l] w fun e w' => e = noRoot 1 ∧ Below w.heap.size w w' := by
  have HS0 := Lib.hid (HS.nil w)
  rcases hl with hl | hl
  all_goals
    go_enter Tryd.func22, Tryd.ntmps22
    go_wp2_with (first
      | (refine wpList_allocL rfl 23 4 rfl rfl HS0.out (Array.replicate 32 (.int .u8 0)) (by kernel_rfl) 32 (u8v fun _ => 0) (by rfl) (zero_at 32 (.int .u8 0)) ?_; intro b4 w4 hb4 hcb4 hs; have HS4 := Lib.hid hs; clear hs)
      | (refine wpList_build_as rfl 23 #[] rfl [] rfl (arr 32 (u8v fun _ => 0)) (by kernel_rfl) ?_)
      | (refine wpList_storeH rfl 23 (.tmp 4) (.tmp 12) rfl HS4.out 0 rfl (u8v fun _ => 0) rfl rfl (by kernel_rfl) (fun _ _ => rfl) ?_; intro wy hs; have HY := Lib.hid hs; clear hs))
    exact ret_rowTmp rfl (HY.out.row 0 rfl) _ (.int .i64 1) rfl rfl Tryd.underlying23 rfl (by kernel_rfl) rfl ⟨rfl, HY.out.out (by simp; omega)⟩
set_option maxHeartbeats 4000000 in
theorem treeRef_long (n c : Nat) (A : Option Addr) (l : Nat) (w : World) (hl : l ≤ 1099511627776) (hn : l < n) :
    Calls Tryd.prog 22 #[.slice A n c, .int .i64 (l : Int)] w fun e w' => e = noRoot 6 ∧ Below w.heap.size w w' := by
  have HS0 := Lib.hid (HS.nil w)
  go_enter Tryd.func22, Tryd.ntmps22
  go_wp2_with (first
      | (refine wpList_allocL rfl 23 4 rfl rfl HS0.out (Array.replicate 32 (.int .u8 0)) (by kernel_rfl) 32 (u8v fun _ => 0) (by rfl) (zero_at 32 (.int .u8 0)) ?_; intro b4 w4 hb4 hcb4 hs; have HS4 := Lib.hid hs; clear hs)
      | (refine wpList_build_as rfl 23 #[] rfl [] rfl (arr 32 (u8v fun _ => 0)) (by kernel_rfl) ?_)
      | (refine wpList_storeH rfl 23 (.tmp 4) (.tmp 17) rfl HS4.out 0 rfl (u8v fun _ => 0) rfl rfl (by kernel_rfl) (fun _ _ => rfl) ?_; intro wy hs; have HY := Lib.hid hs; clear hs))
  exact ret_rowTmp rfl (HY.out.row 0 rfl) _ (.int .i64 6) rfl rfl Tryd.underlying23 rfl (by kernel_rfl) rfl ⟨rfl, HY.out.out (by simp; omega)⟩
/-- What Tree says: a root, and why there is none. -/
def treeR (l : Int) (n : Nat) (x : Nat → Nat) : Nat → Nat := if l < 0 ∨ 1099511627776 < l then fun _ => 0 else if l.toNat < n then fun _ => 0 else treeN (dep l.toNat) n x
def treeK (l : Int) (n : Nat) : Nat := if l < 0 ∨ 1099511627776 < l then 1 else if l.toNat < n then 6 else 0
theorem treeR_lt {x : Nat → Nat} (hx : ∀ i, x i < 256) (l : Int) (n : Nat) : ∀ i, treeR l n x i < 256 := fun i => by
  unfold treeR; split; (· exact (by decide : 0 < 256)); split; (· exact (by decide : 0 < 256)); exact treeN_lt hx _ _ i
theorem tree_any (n c : Nat) (A : Option Addr) (x : Nat → Nat) (l : Int) (w : World) (hb : Rd w w.heap.size A (n * 32) (u8v x)) (hx : ∀ i, x i < 256) (hnc : n ≤ c) (hp : ShaPkg w) :
    Calls Tryd.prog 17 #[.slice A n c, .int .i64 l] w fun e w' => e = .returned (.tuple #[rootV (treeR l n x), .int .i64 ((treeK l n : Nat) : Int)]) ∧ Below w.heap.size w w' := by
  unfold treeR treeK
  by_cases h1 : l < 0 ∨ 1099511627776 < l
  · rw [if_pos h1, if_pos h1]; exact tree_arg n c A l w h1
  · obtain ⟨m, rfl⟩ : ∃ m : Nat, l = (m : Int) := ⟨l.toNat, by omega⟩
    rw [if_neg h1, if_neg h1, Int.toNat_natCast]
    by_cases h2 : m < n
    · rw [if_pos h2, if_pos h2]; exact tree_long n c A m w (by omega) h2
    · rw [if_neg h2, if_neg h2]; exact tree_ok n c A x m w hb hx hnc (by omega) (by omega) hp
theorem treeRef_any (n c : Nat) (A : Option Addr) (x : Nat → Nat) (l : Int) (w : World) (hb : Rd w w.heap.size A (n * 32) (u8v x)) (hx : ∀ i, x i < 256) (hnc : n ≤ c) (hp : RefPkg w) :
    Calls Tryd.prog 22 #[.slice A n c, .int .i64 l] w fun e w' => e = .returned (.tuple #[rootV (treeR l n x), .int .i64 ((treeK l n : Nat) : Int)]) ∧ Below w.heap.size w w' := by
  unfold treeR treeK
  by_cases h1 : l < 0 ∨ 1099511627776 < l
  · rw [if_pos h1, if_pos h1]; exact treeRef_arg n c A l w h1
  · obtain ⟨m, rfl⟩ : ∃ m : Nat, l = (m : Int) := ⟨l.toNat, by omega⟩
    rw [if_neg h1, if_neg h1, Int.toNat_natCast]
    by_cases h2 : m < n
    · rw [if_pos h2, if_pos h2]; exact treeRef_long n c A m w (by omega) h2
    · rw [if_neg h2, if_neg h2]; exact treeTop_ok n c m A x w hb hx hnc (by omega) (by omega) hp
set_option maxHeartbeats 4000000 in
theorem zeroRef_any : ∀ (d : Nat) (w : World), d ≤ 1000 → RefPkg w → Calls Tryd.prog 23 #[.int .i64 (d : Int)] w fun e w' => e = .returned (rootV (zrN d)) ∧ Below w.heap.size w w' := by
  intro d
  induction d with
  | zero =>
    intro w _ _
    have HS0 := Lib.hid (HS.nil w)
    go_enter Tryd.func23, Tryd.ntmps23
    go_wp2_with (first
      | (refine wpList_allocL rfl 23 2 rfl rfl HS0.out (Array.replicate 32 (.int .u8 0)) (by kernel_rfl) 32 (u8v fun _ => 0) (by rfl) (zero_at 32 (.int .u8 0)) ?_; intro b4 w4 hb4 hcb4 hs; have HS4 := Lib.hid hs; clear hs)
      | (refine wpList_build_as rfl 23 #[] rfl [] rfl (arr 32 (u8v fun _ => 0)) (by kernel_rfl) ?_)
      | (refine wpList_storeH rfl 23 (.tmp 2) (.tmp 6) rfl HS4.out 0 rfl (u8v fun _ => 0) rfl rfl (by kernel_rfl) (fun _ _ => rfl) ?_; intro wy hs; have HY := Lib.hid hs; clear hs))
    exact ret_rowIs rfl (HY.out.row 0 rfl) _ rfl Tryd.underlying23 rfl (by kernel_rfl) rfl ⟨rfl, HY.out.out (by simp; omega)⟩
  | succ d ih =>
    intro w hd hp
    have HP := Lib.hid hp
    have HI := Lib.hid ih
    have HS0 := Lib.hid (HS.nil w)
    have h0 : (((d + 1 : Nat) : Int) == 0) = false := by rw [beq_eq_false_iff_ne]; omega
    have HV := Lib.hid (show rootV (shaB (catN 32 (zrN d) (zrN d)) 64) = rootV (zrN (d + 1)) by rfl)
    obtain ⟨k, hk⟩ : ∃ k, k = d + 1 := ⟨_, rfl⟩
    have HK := Lib.hid hk
    rw [← hk] at h0 HV ⊢
    clear hp ih hk
    go_enter Tryd.func23, Tryd.ntmps23
    go_wp2_with (first
      | (refine wpList_allocL rfl 23 2 rfl rfl HS0.out (Array.replicate 32 (.int .u8 0)) (by kernel_rfl) 32 (u8v fun _ => 0) (by rfl) (zero_at 32 (.int .u8 0)) ?_; intro b2 w2 hb2 hcb2 hs; have HS2 := Lib.hid hs; clear hs)
      | (refine wpList_as rfl 8 rfl (.int .i64 (d : Int)) ?_ ?_; (· rw [HK.out]; exact ex_bin rfl rfl rfl rfl (fun w => subd d (by omega) w) _))
      | (go_at_call 23; refine (HI.out _ (by omega) (HP.out.below (HS2.out.out (by simp; omega)))).mono ?_; rintro e w3 ⟨rfl, hb⟩; have HS3 := Lib.hid (HS2.out.below hb); clear hb)
      | (refine wpList_allocL rfl 23 3 rfl rfl HS3.out (Array.replicate 32 (.int .u8 0)) (by kernel_rfl) 32 (u8v fun _ => 0) (by rfl) (zero_at 32 (.int .u8 0)) ?_; intro b3 w4 hb3 hcb3 hs; have HS4 := Lib.hid hs; clear hs)
      | (refine wpList_storeH rfl 23 (.tmp 3) (.tmp 9) rfl HS4.out 0 rfl (u8v (zrN d)) rfl rfl (by kernel_rfl) (fun _ _ => rfl) ?_; intro w5 hs; have HS5 := Lib.hid hs; clear hs)
      | (refine wpList_load_rd rfl 23 _ rfl 32 _ Tryd.underlying23 rfl (by kernel_rfl) ⟨b3, 0, none⟩ rfl (u8v (zrN d)) (fun i hi => by rw [add_lit0]; exact HS5.out.cell 0 i rfl hi) ?_)
      | (go_at_call 46; refine (refTwo_any (zrN d) (zrN d) (zrN_lt d) (zrN_lt d) _ (HP.out.below (HS5.out.out (by simp; omega)))).mono ?_; rintro e w6 ⟨rfl, hb⟩; rw [HV.out]; have HS6 := Lib.hid (HS5.out.below hb); clear hb)
      | (refine wpList_storeH rfl 23 (.tmp 2) (.tmp 12) rfl HS6.out 1 rfl (u8v (zrN k)) rfl rfl (by kernel_rfl) (fun _ _ => rfl) ?_; intro wy hs; have HY := Lib.hid hs; clear hs))
    exact ret_rowIs rfl (HY.out.row 1 rfl) _ rfl Tryd.underlying23 rfl (by kernel_rfl) rfl ⟨rfl, HY.out.out (by simp; omega)⟩
end Go.Proofs.YtjmbgdldnnmipaaDoor
/- The law MerkleHolds. (Printed by a program of mine.) -/
namespace Go.Proofs.YtjmbgdldnnmipaaDoor
set_option maxRecDepth 40000
open Go.RowKit
/-- Whether a branch holds. -/
def holdsB (n : Nat) (x y r : Nat → Nat) (p : Nat) : Bool := if n ≤ 64 then eqB (upN y x p n) r else false
theorem holds_any (n c : Nat) (A : Option Addr) (x y r : Nat → Nat) (p : Nat) (w : World) (hb : Rd w w.heap.size A (n * 32) (u8v x)) (hx : ∀ i, x i < 256) (hy : ∀ i, y i < 256) (hnc : n ≤ c) (hp : p < 18446744073709551616) (hpk : ShaPkg w) :
    Calls Tryd.prog 15 #[rootV y, .slice A n c, .int .u64 (p : Int), rootV r] w fun e w' => e = .returned (.bool (holdsB n x y r p)) ∧ Below w.heap.size w w' := by
  unfold holdsB
  by_cases h : n ≤ 64
  · rw [if_pos h]; exact holds_look n c A x y r p w hb hx hy hnc h hp hpk
  · rw [if_neg h]; exact holds_lookF n c A y r p w (by omega)
theorem holds_refA (n c : Nat) (A : Option Addr) (x y r : Nat → Nat) (p : Nat) (w : World) (hb : Rd w w.heap.size A (n * 32) (u8v x)) (hx : ∀ i, x i < 256) (hy : ∀ i, y i < 256) (hnc : n ≤ c) (hp : p < 18446744073709551616) (hpk : RefPkg w) :
    Calls Tryd.prog 16 #[rootV y, .slice A n c, .int .u64 (p : Int), rootV r] w fun e w' => e = .returned (.bool (holdsB n x y r p)) ∧ Below w.heap.size w w' := by
  unfold holdsB
  by_cases h : n ≤ 64
  · rw [if_pos h]; exact holds_ref n c A x y r p w hb hx hy hnc h hp hpk
  · rw [if_neg h]; exact holds_refF n c A y r p w (by omega)
theorem run_bs0_R (w : World) : (Instr.buildSlice 24 0 #[]).run Tryd.prog w = .ok (.slice (some ⟨w.heap.size, 0, none⟩) 0 0) (w.alloc (.cells #[] 23)) := by simp [go_sem]
namespace MerkleHoldsLaw
theorem ent_h1 (vs : Array Value) (w : World) : (callFunc 15 vs).run Tryd.prog w = .ok (.enter 15 vs) w := by kernel_rfl
theorem ent_h2 (vs : Array Value) (w : World) : (callFunc 16 vs).run Tryd.prog w = .ok (.enter 16 vs) w := by kernel_rfl
end MerkleHoldsLaw
open MerkleHoldsLaw in
set_option maxHeartbeats 4000000 in
theorem merkleHolds_law (w : World) (y : Nat → Nat) (hy : ∀ i, y i < 256) (A : Option Addr) (n c : Nat) (x : Nat → Nat) (hA : Rd w w.heap.size A (n * 32) (u8v x)) (hx : ∀ i, x i < 256) (hn : n * 32 ≤ 140737488351232) (hnc : n ≤ c) (p : Nat) (hpp : p < 18446744073709551616) (r : Nat → Nat) (_hr : ∀ i, r i < 256) (hp : ShaPkg w) (hpr : RefPkg w) :
    Calls Tryd.prog 3 #[rootV y, .slice A n c, .int .u64 (p : Int), rootV r] w fun e w' => e = .returned (.bool true) ∧ Below w.heap.size w w' := by
  have HX := Lib.hid hA
  have HXl := Lib.hid hx
  have HYl := Lib.hid hy
  have HP := Lib.hid hp
  have HPR := Lib.hid hpr
  have HS0 := Lib.hid (HS.nil w)
  clear hA hx hy hp hpr
  go_enter Tryd.func3, Tryd.ntmps3
  go_upto_region 3 with (first
    | (refine wpList_boxL rfl 23 _ 4 rfl rfl HS0.out 32 (u8v y) rfl ?_; intro b4 w4 hb4 hc4 hs; have HS4 := Lib.hid hs; clear hs)
    | (refine wpList_boxL rfl 23 _ 7 rfl rfl HS4.out 32 (u8v r) rfl ?_; intro b7 w7 hb7 hc7 hs; have HS7 := Lib.hid hs; clear hs)
    | (go_at_call 14; refine (awake05_any _ (HP.out.below (HS7.out.out (by simp; omega)))).mono ?_; rintro e wa ⟨rfl, hb⟩; have HA := Lib.hid (HS7.out.below hb); clear hb))
  have HW := Lib.hid (HA.out.out (by simp; omega))
  refine wp_region_facts (B := wa.heap.size) (w0 := wa) [SF.is (rootV y), SF.own0Z wa.heap.size 23 32, SF.is (.slice (A) (n) (c)), SF.ownZ wa.heap.size 23 32 n (u8v x), SF.is (.int .u64 ((p : Nat) : Int)), SF.is (rootV r), SF.is (.bool (holdsB n x y r p)), SF.is (rootV y), SF.is (.slice (A) (n) (c)), SF.is (.int .u64 ((p : Nat) : Int)), SF.is (rootV r), SF.is (.bool (holdsB n x y r p)), SF.is (.bool true), SF.is (.bool true)] (by kernel_rfl) (by kernel_rfl) rfl (Nat.le_refl _) (Below.refl _ _) ⟨?_, ?_, ?_, ?_, ?_, ?_, ?_, ?_, ?_, ?_, ?_, ?_, ?_, ?_, trivial⟩ ?_
  · exact opOb_ld rfl rfl (OpK.tmp rfl) (fun w' hb => ld_all (HA.out.row 1 rfl) (HA.out.row 1 rfl).lt Tryd.underlying23 rfl (by kernel_rfl) w' hb)
  · exact opOb_bs0Z 32 rfl rfl run_bs0_R _ (Nat.le_refl _)
  · exact (opOb_move _ rfl (.inl rfl) rfl)
  · exact opOb_app0Z (s := 12) (x := 13) wa.heap.size (z := .agg (Array.replicate 32 (.int .u8 0))) (k := 32) (bytes := 32) (by kernel_rfl) Tryd.underlying24 (by rfl) (by omega) rfl rfl rfl rfl (fun w' hb => (HX.out.below (HW.out.trans (hb.mono HW.out.size)))) (fun _ _ => rfl) ⟨by omega, by omega⟩ (Nat.le_refl _)
  · exact (opOb_move _ rfl (.inl rfl) rfl)
  · exact opOb_ld rfl rfl (OpK.tmp rfl) (fun w' hb => ld_all (HA.out.row 0 rfl) (HA.out.row 0 rfl).lt Tryd.underlying23 rfl (by kernel_rfl) w' hb)
  · exact opOb_fn4S ent_h1 rfl rfl (OpK.tmp rfl) rfl (OpK.tmp rfl) (OpK.tmp rfl) (fun w' v hb hv => by obtain ⟨A', c', rfl, ho⟩ := hv; exact (holds_any n c' A' x y r p w' ho.rd HXl.out HYl.out ho.cap hpp (HP.out.below (HW.out.trans (hb.mono HW.out.size)))).mono fun e w'' ⟨he, hb2⟩ => ⟨_, he, rfl, hb2⟩)
  · exact opOb_ld rfl rfl (OpK.tmp rfl) (fun w' hb => ld_all (HA.out.row 1 rfl) (HA.out.row 1 rfl).lt Tryd.underlying23 rfl (by kernel_rfl) w' hb)
  · exact (opOb_move _ rfl (.inl rfl) rfl)
  · exact (opOb_move _ rfl (.inl rfl) rfl)
  · exact opOb_ld rfl rfl (OpK.tmp rfl) (fun w' hb => ld_all (HA.out.row 0 rfl) (HA.out.row 0 rfl).lt Tryd.underlying23 rfl (by kernel_rfl) w' hb)
  · exact opOb_fn4 ent_h2 rfl rfl (OpK.tmp rfl) (OpK.tmp rfl) (OpK.tmp rfl) (OpK.tmp rfl) (fun w' hb => (holds_refA n c A x y r p w' ((HX.out.below (HW.out.trans (hb.mono HW.out.size))).more (Nat.le_trans HW.out.size hb.size)) HXl.out HYl.out hnc hpp (HPR.out.below (HW.out.trans (hb.mono HW.out.size)))).mono fun e w'' ⟨he, hb2⟩ => ⟨_, he, rfl, hb2⟩)
  · exact opOb_eqBool (holdsB n x y r p) Tryd.underlying4 rfl rfl (OpK.tmp rfl) (OpK.tmp rfl)
  · exact (opOb_move _ rfl (.inr rfl) rfl)
  · intro w' hb
    simp only [fin, SF.is, SF.own0Z, SF.ownZ, forall_eq]
    simp only [Act.put, List.setIfInBounds_toArray, List.set_cons_succ, List.set_cons_zero]
    rintro _ _ _ _
    have hend := HW.out.trans (hb.mono HW.out.size)
    go_wp2_with fail
    go_ret
    exact ⟨rfl, hend⟩
end Go.Proofs.YtjmbgdldnnmipaaDoor
/- The law MerkleTrees. (Printed by a program of mine.) -/
namespace Go.Proofs.YtjmbgdldnnmipaaDoor
set_option maxRecDepth 40000
open Go.RowKit
theorem run_bs0_U (w : World) : (Instr.buildSlice 35 0 #[]).run Tryd.prog w = .ok (.slice (some ⟨w.heap.size, 0, none⟩) 0 0) (w.alloc (.cells #[] 5)) := by simp [go_sem]
namespace MerkleTreesLaw
theorem ent_pk (vs : Array Value) (w : World) : (callFunc 20 vs).run Tryd.prog w = .ok (.enter 20 vs) w := by kernel_rfl
theorem ent_pr (vs : Array Value) (w : World) : (callFunc 24 vs).run Tryd.prog w = .ok (.enter 24 vs) w := by kernel_rfl
theorem ent_sm (vs : Array Value) (w : World) : (callFunc 21 vs).run Tryd.prog w = .ok (.enter 21 vs) w := by kernel_rfl
theorem ent_mxr (vs : Array Value) (w : World) : (callFunc 25 vs).run Tryd.prog w = .ok (.enter 25 vs) w := by kernel_rfl
theorem ent_mxf (vs : Array Value) (w : World) : (callFunc 26 vs).run Tryd.prog w = .ok (.enter 26 vs) w := by kernel_rfl
theorem ent_zr (vs : Array Value) (w : World) : (callFunc 23 vs).run Tryd.prog w = .ok (.enter 23 vs) w := by kernel_rfl
theorem ex_neArr {P : Program} {w : World} {o : Oper} {a : Act} {ty rt : TypeId} {xo yo : Operand} (hop : o.op = .binOp .neq ty xo yo rt) (e : TypeId) (n : Nat) (k : IntKind) (f g : Nat → Int) (b : Bool) (hu : P.underlying ty = some (.array n e)) (he : P.underlying e = some (.int k)) (hz : (P.info? e).map (·.size) = some 1) (hq : P.eqGuardType P.depth ty = false)
    (hx : a.eval xo = .agg (arr n fun i => .int k (f i))) (hy : a.eval yo = .agg (arr n fun i => .int k (g i))) (hb : decide (∀ i, i < n → f i = g i) = !b) : (execOp a.eval o).run P w = .ok (.value (.bool b)) w := run_neArr w hop hu he hz hq hx hy hb
end MerkleTreesLaw
open MerkleTreesLaw in
set_option maxHeartbeats 16000000 in
theorem merkleTrees_law (w : World) (A : Option Addr) (n c : Nat) (x : Nat → Nat) (hX : Rd w w.heap.size A (n * 32) (u8v x)) (hx : ∀ i, x i < 256) (hn : n * 32 ≤ 140737488351232) (hnc : n ≤ c) (l : Int) (_hl : -9223372036854775808 ≤ l ∧ l ≤ 9223372036854775807) (d : Int) (_hd : -9223372036854775808 ≤ d ∧ d ≤ 9223372036854775807)
    (A3 : Option Addr) (m c3 : Nat) (y : Nat → Nat) (hY : Rd w w.heap.size A3 m (u8v y)) (_hy : ∀ i, y i < 256) (hm : m ≤ 140737488351232) (_hmc : m ≤ c3) (v : Nat) (_hv : v < 18446744073709551616) (hp : ShaPkg w) (hpr : RefPkg w) :
    Calls Tryd.prog 6 #[.slice A n c, .int .i64 l, .int .i64 d, .slice A3 m c3, .int .u64 (v : Int)] w fun e w' => e = .returned (.bool true) ∧ Below w.heap.size w w' := by
  have HX := Lib.hid hX
  have HXl := Lib.hid hx
  have HY := Lib.hid hY
  have HP := Lib.hid hp
  have HPR := Lib.hid hpr
  have HS0 := Lib.hid (HS.nil w)
  obtain ⟨R, hR⟩ : ∃ R, R = treeR l n x := ⟨_, rfl⟩
  obtain ⟨K, hK⟩ : ∃ K, K = treeK l n := ⟨_, rfl⟩
  have HRl := Lib.hid (show ∀ i, R i < 256 by rw [hR]; exact treeR_lt hx l n)
  have HRe := Lib.hid hR.symm
  have HKe := Lib.hid hK.symm
  clear hX hx hY hp hpr hR hK
  by_cases hd : d < 0 ∨ 40 < d
  · rcases hd with hd' | hd'
    all_goals
      have hd : d < 0 ∨ 40 < d := by omega
      go_enter Tryd.func6, Tryd.ntmps6
      go_upto_region 14 with (first
        | (go_at_call 14; refine (awake05_any _ HP.out).mono ?_; rintro e w1 ⟨rfl, hb⟩; have HS1 := Lib.hid (HS0.out.below hb); clear hb)
        | (refine wpList_bs0L rfl 32 rfl run_bs0_R HS1.out ?_; intro b20 w2 hb20 hs ho; have HS2 := Lib.hid hs; have HO2 := Lib.hid ho; clear hs ho)
        | (at_builtin; refine wpList_app0L rfl (.tmp 20) (.tmp 21) 24 w1.heap.size (z := .agg (Array.replicate 32 (.int .u8 0))) (k := 32) (bytes := 32) (by kernel_rfl) Tryd.underlying24 (by rfl) (by omega) rfl rfl HO2.out rfl (HX.out.below (HS2.out.out (by simp))) (fun _ _ => rfl) ⟨by omega, by omega⟩ (by have := HO2.out.base_le _ rfl; omega) HS2.out ?_; intro A11 c11 w3 ho hs; have HO3 := Lib.hid ho; have HS3 := Lib.hid hs; clear ho hs)
        | (go_at_call 17; refine (tree_any n c11 A11 x l _ HO3.out.rd HXl.out HO3.out.cap (HP.out.below (HS3.out.out (by simp)))).mono ?_; rintro e w4 ⟨rfl, hb⟩; rw [HRe.out, HKe.out]; have HO4 := Lib.hid (HO3.out.all hb); have HB4 := Lib.hid ((HS3.out.below hb).out (by simp)); have HT4 := Lib.hid (HS.nil w4); clear hb)
        | (refine wpList_allocL rfl 23 12 rfl rfl HT4.out (Array.replicate 32 (.int .u8 0)) (by kernel_rfl) 32 (u8v fun _ => 0) (by rfl) (zero_at 32 (.int .u8 0)) ?_; intro b12 w5 hb12 hcb12 hs; have HS5 := Lib.hid hs; clear hs)
        | (refine wpList_storeH rfl 23 (.tmp 12) (.tmp 27) rfl HS5.out 0 rfl (u8v R) rfl rfl (by kernel_rfl) (fun _ _ => rfl) ?_; intro w6 hs; have HS6 := Lib.hid hs; clear hs)
        | (go_at_call 22; refine (treeRef_any n c A x l _ ((HX.out.below (HB4.out.trans ((HS6.out.out (by simp; omega)).mono HB4.out.size))).more (HB4.out.trans ((HS6.out.out (by simp; omega)).mono HB4.out.size)).size) HXl.out hnc (HPR.out.below (HB4.out.trans ((HS6.out.out (by simp; omega)).mono HB4.out.size)))).mono ?_; rintro e w7 ⟨rfl, hb⟩; rw [HRe.out, HKe.out]; have HS7 := Lib.hid (HS6.out.below hb); clear hb)
        | (refine wpList_allocL rfl 23 14 rfl rfl HS7.out (Array.replicate 32 (.int .u8 0)) (by kernel_rfl) 32 (u8v fun _ => 0) (by rfl) (zero_at 32 (.int .u8 0)) ?_; intro b14 w8 hb14 hcb14 hs; have HS8 := Lib.hid hs; clear hs)
        | (refine wpList_storeH rfl 23 (.tmp 14) (.tmp 33) rfl HS8.out 0 rfl (u8v R) rfl rfl (by kernel_rfl) (fun _ _ => rfl) ?_; intro w9 hs; have HS9 := Lib.hid hs; clear hs)
        | (refine wpList_load_rd rfl 23 _ rfl 32 _ Tryd.underlying23 rfl (by kernel_rfl) ⟨b12, 0, none⟩ rfl (u8v R) (fun i hi => by rw [add_lit0]; exact HS9.out.cell 1 i rfl hi) ?_)
        | (refine wpList_load_rd rfl 23 _ rfl 32 _ Tryd.underlying23 rfl (by kernel_rfl) ⟨b14, 0, none⟩ rfl (u8v R) (fun i hi => by rw [add_lit0]; exact HS9.out.cell 0 i rfl hi) ?_)
        | (refine wpList_neArr rfl rfl 5 32 .u8 (fun i => ((R i : Nat) : Int)) (fun i => ((R i : Nat) : Int)) false Tryd.underlying23 Tryd.underlying5 (by kernel_rfl) (by kernel_rfl) rfl rfl (by simp) ?_)
        | (go_at_call 21; refine (sameR_any n c11 c A11 A x _ ((HO4.out.rd.below (HS9.out.out (by simp; omega))).more HS9.out.size) ((HX.out.below (HB4.out.trans ((HS9.out.out (by simp; omega)).mono HB4.out.size))).more (HB4.out.trans ((HS9.out.out (by simp; omega)).mono HB4.out.size)).size) (by omega)).mono ?_; rintro e w10 ⟨rfl, hb⟩; have HS10 := Lib.hid (HS9.out.below hb); clear hb)
        | (go_at_call 19; refine (zero_arg d _ hd).mono ?_; rintro e w11 ⟨rfl, hb⟩; have HS11 := Lib.hid (HS10.out.below hb); clear hb)
        | (refine wpList_allocL rfl 23 16 rfl rfl HS11.out (Array.replicate 32 (.int .u8 0)) (by kernel_rfl) 32 (u8v fun _ => 0) (by rfl) (zero_at 32 (.int .u8 0)) ?_; intro b16 w12 hb16 hcb16 hs; have HS12 := Lib.hid hs; clear hs)
        | (refine wpList_storeH rfl 23 (.tmp 16) (.tmp 52) rfl HS12.out 0 rfl (u8v fun _ => 0) rfl rfl (by kernel_rfl) (fun _ _ => rfl) ?_; intro wa hs; have HS13 := Lib.hid hs; clear hs)
        | (refine wpList_load_rdG rfl rfl rfl 23 _ rfl 32 _ Tryd.underlying23 rfl (by kernel_rfl) ⟨b16, 0, none⟩ rfl (u8v fun _ => 0) (fun i hi => by rw [add_lit0]; exact HS13.out.cell 0 i rfl hi) ?_)
        | (refine wpList_asG rfl rfl rfl 65 rfl (.bool false) ?_ ?_; (· exact ex_neArr rfl 5 32 .u8 (fun _ => 0) (fun _ => 0) false Tryd.underlying23 Tryd.underlying5 (by kernel_rfl) (by kernel_rfl) rfl rfl (by simp))))
      have hA : HS w4 wa [⟨b16, 23, 32, u8v fun _ => 0⟩, ⟨b14, 23, 32, u8v R⟩, ⟨b12, 23, 32, u8v R⟩] := HS13.out
      have HA := Lib.hid hA
      have HW := Lib.hid (HB4.out.trans ((hA.out (by simp; omega)).mono HB4.out.size))
      clear hA
      clear HS0 HS1 HS2 HS3 HT4 HS5 HS6 HS7 HS8 HS9 HS10 HS11 HS12 HS13 HO2 HO3 HO4
      refine wp_region_facts (B := wa.heap.size) (w0 := wa) [SF.own0Z wa.heap.size 5 1, SF.is (.slice (A3) (m) (c3)), SF.ownZ wa.heap.size 5 1 m (u8v y), SF.ownZ wa.heap.size 23 32 (nch m) (u8v (padN m y)), SF.is (.slice (A3) (m) (c3)), SF.ownZ wa.heap.size 23 32 (nch m) (u8v (padN m y)), SF.is (.bool true), SF.is (.bool true), SF.is (rootV R), SF.is (.int .u64 ((v : Nat) : Int)), SF.is (rootV (shaB (catN 32 R (padN 8 (leB v))) 64)), SF.is (rootV R), SF.is (.int .u64 ((v : Nat) : Int)), SF.is (rootV (shaB (catN 32 R (padN 8 (leB v))) 64)), SF.is (.bool true), SF.is (.bool true), SF.is (.bool true)] (by kernel_rfl) (by kernel_rfl) rfl (Nat.le_refl _) (Below.refl _ _) ⟨?_, ?_, ?_, ?_, ?_, ?_, ?_, ?_, ?_, ?_, ?_, ?_, ?_, ?_, ?_, ?_, ?_, trivial⟩ ?_
      · exact opOb_bs0Z 1 rfl rfl run_bs0_U _ (Nat.le_refl _)
      · exact (opOb_move _ rfl (.inl rfl) rfl)
      · exact opOb_app0Z (s := 75) (x := 76) wa.heap.size (z := .int .u8 0) (k := 1) (bytes := 1) (by kernel_rfl) Tryd.underlying35 (by rfl) (by omega) rfl rfl rfl rfl (fun w' hb => by rw [Nat.mul_one]; exact (HY.out.below (HW.out.trans (hb.mono HW.out.size)))) (fun _ _ => rfl) ⟨by omega, by omega⟩ (Nat.le_refl _)
      · exact opOb_fn1S ent_pk rfl rfl rfl (fun w' v1 hb hv => by obtain ⟨A', c', rfl, ho⟩ := hv; have hr := ho.rd; rw [Nat.mul_one] at hr; exact (pack_look m c' A' y w' hr ho.cap (by omega)).mono fun e w'' ⟨A2, c2, he, ho2, hb2⟩ => ⟨_, he, ⟨A2, c2, rfl, ho2.mono hb.size⟩, hb2⟩)
      · exact (opOb_move _ rfl (.inl rfl) rfl)
      · exact opOb_fn1 ent_pr rfl rfl (OpK.tmp rfl) (fun w' hb => (pack_ref m c3 A3 y w' ((HY.out.below (HW.out.trans (hb.mono HW.out.size))).more (Nat.le_trans HW.out.size hb.size)) (by omega)).mono fun e w'' ⟨A2, c2, he, ho2, hb2⟩ => ⟨_, he, ⟨A2, c2, rfl, ho2.mono hb.size⟩, hb2⟩)
      · exact opOb_fn2SS ent_sm rfl rfl rfl rfl (fun w' v1 v2 hb hv hu => by obtain ⟨A', c', rfl, ho⟩ := hv; obtain ⟨A2, c2, rfl, ho2⟩ := hu; exact (sameR_any (nch m) c' c2 A' A2 (padN m y) w' ho.rd ho2.rd (by unfold nch; omega)).mono fun e w'' ⟨he, hb2⟩ => ⟨_, he, rfl, hb2⟩)
      · exact (opOb_move _ rfl (.inl rfl) rfl)
      · exact opOb_on 82 rfl rfl (opOb_ld rfl rfl (OpK.tmp rfl) (fun w' hb => ld_all (HA.out.row 2 rfl) (HA.out.row 2 rfl).lt Tryd.underlying23 rfl (by kernel_rfl) w' hb))
      · exact opOb_on 82 rfl rfl ((opOb_move _ rfl (.inl rfl) rfl))
      · exact opOb_on 82 rfl rfl (opOb_fn2 ent_mxr rfl rfl (OpK.tmp rfl) (OpK.tmp rfl) (fun w' hb => (mix_look R HRl.out v w' (HP.out.below (HW.out.trans (hb.mono HW.out.size)))).mono fun e w'' ⟨he, hb2⟩ => ⟨_, he, rfl, hb2⟩))
      · exact opOb_on 82 rfl rfl (opOb_ld rfl rfl (OpK.tmp rfl) (fun w' hb => ld_all (HA.out.row 1 rfl) (HA.out.row 1 rfl).lt Tryd.underlying23 rfl (by kernel_rfl) w' hb))
      · exact opOb_on 82 rfl rfl ((opOb_move _ rfl (.inl rfl) rfl))
      · exact opOb_on 82 rfl rfl (opOb_fn2 ent_mxf rfl rfl (OpK.tmp rfl) (OpK.tmp rfl) (fun w' hb => (mix_ref R HRl.out v w' (HPR.out.below (HW.out.trans (hb.mono HW.out.size)))).mono fun e w'' ⟨he, hb2⟩ => ⟨_, he, rfl, hb2⟩))
      · exact opOb_on 82 rfl rfl (opOb_eqArr 5 32 .u8 (fun i => (((shaB (catN 32 R (padN 8 (leB v))) 64) i : Nat) : Int)) (fun i => (((shaB (catN 32 R (padN 8 (leB v))) 64) i : Nat) : Int)) true Tryd.underlying23 Tryd.underlying5 (by kernel_rfl) (by kernel_rfl) (by simp) rfl rfl (OpK.tmp rfl) (OpK.tmp rfl))
      · exact opOb_pickT rfl rfl rfl (OpK.tmp rfl)
      · exact (opOb_move _ rfl (.inr rfl) rfl)
      · intro w' hb
        simp only [fin, SF.is, SF.own0Z, SF.ownZ, forall_eq]
        simp only [Act.put, List.setIfInBounds_toArray, List.set_cons_succ, List.set_cons_zero]
        rintro _ _ _ _ _ _ _ _
        have hend := HW.out.trans (hb.mono HW.out.size)
        go_wp2_with fail
        go_ret
        exact ⟨rfl, hend⟩
  · obtain ⟨d, rfl⟩ : ∃ k : Nat, d = (k : Int) := ⟨d.toNat, by omega⟩
    have t1 : decide ((d : Int) < 0) = false := decide_eq_false (by omega)
    have t2 : decide ((40 : Int) < (d : Int)) = false := decide_eq_false (by omega)
    go_enter Tryd.func6, Tryd.ntmps6
    go_upto_region 12 with (first
      | (go_at_call 14; refine (awake05_any _ HP.out).mono ?_; rintro e w1 ⟨rfl, hb⟩; have HS1 := Lib.hid (HS0.out.below hb); clear hb)
      | (refine wpList_bs0L rfl 32 rfl run_bs0_R HS1.out ?_; intro b20 w2 hb20 hs ho; have HS2 := Lib.hid hs; have HO2 := Lib.hid ho; clear hs ho)
      | (at_builtin; refine wpList_app0L rfl (.tmp 20) (.tmp 21) 24 w1.heap.size (z := .agg (Array.replicate 32 (.int .u8 0))) (k := 32) (bytes := 32) (by kernel_rfl) Tryd.underlying24 (by rfl) (by omega) rfl rfl HO2.out rfl (HX.out.below (HS2.out.out (by simp))) (fun _ _ => rfl) ⟨by omega, by omega⟩ (by have := HO2.out.base_le _ rfl; omega) HS2.out ?_; intro A11 c11 w3 ho hs; have HO3 := Lib.hid ho; have HS3 := Lib.hid hs; clear ho hs)
      | (go_at_call 17; refine (tree_any n c11 A11 x l _ HO3.out.rd HXl.out HO3.out.cap (HP.out.below (HS3.out.out (by simp)))).mono ?_; rintro e w4 ⟨rfl, hb⟩; rw [HRe.out, HKe.out]; have HO4 := Lib.hid (HO3.out.all hb); have HB4 := Lib.hid ((HS3.out.below hb).out (by simp)); have HT4 := Lib.hid (HS.nil w4); clear hb)
      | (refine wpList_allocL rfl 23 12 rfl rfl HT4.out (Array.replicate 32 (.int .u8 0)) (by kernel_rfl) 32 (u8v fun _ => 0) (by rfl) (zero_at 32 (.int .u8 0)) ?_; intro b12 w5 hb12 hcb12 hs; have HS5 := Lib.hid hs; clear hs)
      | (refine wpList_storeH rfl 23 (.tmp 12) (.tmp 27) rfl HS5.out 0 rfl (u8v R) rfl rfl (by kernel_rfl) (fun _ _ => rfl) ?_; intro w6 hs; have HS6 := Lib.hid hs; clear hs)
      | (go_at_call 22; refine (treeRef_any n c A x l _ ((HX.out.below (HB4.out.trans ((HS6.out.out (by simp; omega)).mono HB4.out.size))).more (HB4.out.trans ((HS6.out.out (by simp; omega)).mono HB4.out.size)).size) HXl.out hnc (HPR.out.below (HB4.out.trans ((HS6.out.out (by simp; omega)).mono HB4.out.size)))).mono ?_; rintro e w7 ⟨rfl, hb⟩; rw [HRe.out, HKe.out]; have HS7 := Lib.hid (HS6.out.below hb); clear hb)
      | (refine wpList_allocL rfl 23 14 rfl rfl HS7.out (Array.replicate 32 (.int .u8 0)) (by kernel_rfl) 32 (u8v fun _ => 0) (by rfl) (zero_at 32 (.int .u8 0)) ?_; intro b14 w8 hb14 hcb14 hs; have HS8 := Lib.hid hs; clear hs)
      | (refine wpList_storeH rfl 23 (.tmp 14) (.tmp 33) rfl HS8.out 0 rfl (u8v R) rfl rfl (by kernel_rfl) (fun _ _ => rfl) ?_; intro w9 hs; have HS9 := Lib.hid hs; clear hs)
      | (refine wpList_load_rd rfl 23 _ rfl 32 _ Tryd.underlying23 rfl (by kernel_rfl) ⟨b12, 0, none⟩ rfl (u8v R) (fun i hi => by rw [add_lit0]; exact HS9.out.cell 1 i rfl hi) ?_)
      | (refine wpList_load_rd rfl 23 _ rfl 32 _ Tryd.underlying23 rfl (by kernel_rfl) ⟨b14, 0, none⟩ rfl (u8v R) (fun i hi => by rw [add_lit0]; exact HS9.out.cell 0 i rfl hi) ?_)
      | (refine wpList_neArr rfl rfl 5 32 .u8 (fun i => ((R i : Nat) : Int)) (fun i => ((R i : Nat) : Int)) false Tryd.underlying23 Tryd.underlying5 (by kernel_rfl) (by kernel_rfl) rfl rfl (by simp) ?_)
      | (go_at_call 21; refine (sameR_any n c11 c A11 A x _ ((HO4.out.rd.below (HS9.out.out (by simp; omega))).more HS9.out.size) ((HX.out.below (HB4.out.trans ((HS9.out.out (by simp; omega)).mono HB4.out.size))).more (HB4.out.trans ((HS9.out.out (by simp; omega)).mono HB4.out.size)).size) (by omega)).mono ?_; rintro e w10 ⟨rfl, hb⟩; have HS10 := Lib.hid (HS9.out.below hb); clear hb)
      | (go_at_call 19; refine (zero_ok d (by omega) _ (HP.out.below (HB4.out.trans ((HS10.out.out (by simp; omega)).mono HB4.out.size)))).mono ?_; rintro e w11 ⟨rfl, hb⟩; have HS11 := Lib.hid (HS10.out.below hb); clear hb)
      | (refine wpList_allocL rfl 23 16 rfl rfl HS11.out (Array.replicate 32 (.int .u8 0)) (by kernel_rfl) 32 (u8v fun _ => 0) (by rfl) (zero_at 32 (.int .u8 0)) ?_; intro b16 w12 hb16 hcb16 hs; have HS12 := Lib.hid hs; clear hs)
      | (refine wpList_storeH rfl 23 (.tmp 16) (.tmp 52) rfl HS12.out 0 rfl (u8v (zrN d)) rfl rfl (by kernel_rfl) (fun _ _ => rfl) ?_; intro wz hs; have HS13 := Lib.hid hs; clear hs))
    have hZ : HS w4 wz [⟨b16, 23, 32, u8v (zrN d)⟩, ⟨b14, 23, 32, u8v R⟩, ⟨b12, 23, 32, u8v R⟩] := HS13.out
    have HZ := Lib.hid hZ
    have HWz := Lib.hid (HB4.out.trans ((hZ.out (by simp; omega)).mono HB4.out.size))
    clear hZ HS0 HS1 HS2 HS3 HT4 HS5 HS6 HS7 HS8 HS9 HS10 HS11 HS12 HS13 HO2 HO3 HO4
    refine wp_region_facts (B := wz.heap.size) (w0 := wz) [SF.is (.int .i64 0), SF.is (.bool false), SF.is (.bool false), SF.is (rootV (zrN d)), SF.is (.int .i64 ((d : Nat) : Int)), SF.is (rootV (zrN d)), SF.is (.bool false), SF.is (.bool false)] (by kernel_rfl) (by kernel_rfl) rfl (Nat.le_refl _) (Below.refl _ _) ⟨?_, ?_, ?_, ?_, ?_, ?_, ?_, ?_, trivial⟩ ?_
    · exact (opOb_move _ rfl (.inl rfl) rfl)
    · exact opOb_neSame .i64 0 rfl rfl (OpK.tmp rfl) OpK.const
    · exact (opOb_move _ rfl (.inl rfl) rfl)
    · exact opOb_on 69 rfl rfl (opOb_ld rfl rfl (OpK.tmp rfl) (fun w' hb => ld_all (HZ.out.row 0 rfl) (HZ.out.row 0 rfl).lt Tryd.underlying23 rfl (by kernel_rfl) w' hb))
    · exact opOb_on 69 rfl rfl ((opOb_move _ rfl (.inl rfl) rfl))
    · exact opOb_on 69 rfl rfl (opOb_fn1 ent_zr rfl rfl (OpK.tmp rfl) (fun w' hb => (zeroRef_any d w' (by omega) (HPR.out.below (HWz.out.trans (hb.mono HWz.out.size)))).mono fun e w'' ⟨he, hb2⟩ => ⟨_, he, rfl, hb2⟩))
    · exact opOb_on 69 rfl rfl (opOb_neArr 5 32 .u8 (fun i => ((zrN d i : Nat) : Int)) (fun i => ((zrN d i : Nat) : Int)) false Tryd.underlying23 Tryd.underlying5 (by kernel_rfl) (by kernel_rfl) (by simp) rfl rfl (OpK.tmp rfl) (OpK.tmp rfl))
    · exact opOb_pickF rfl rfl rfl (OpK.tmp rfl)
    · intro w' hb
      simp only [fin, SF.is, forall_eq]
      simp only [Act.put, List.setIfInBounds_toArray, List.set_cons_succ, List.set_cons_zero]
      have hA := HZ.out.below hb
      go_upto_region 14 with fail
      obtain ⟨wa, hwa⟩ : ∃ wa : World, wa = w' := ⟨_, rfl⟩
      rw [← hwa] at hA ⊢
      clear hb hwa
      have HA := Lib.hid hA
      have HW := Lib.hid (HB4.out.trans ((hA.out (by simp; omega)).mono HB4.out.size))
      clear hA
      refine wp_region_facts (B := wa.heap.size) (w0 := wa) [SF.own0Z wa.heap.size 5 1, SF.is (.slice (A3) (m) (c3)), SF.ownZ wa.heap.size 5 1 m (u8v y), SF.ownZ wa.heap.size 23 32 (nch m) (u8v (padN m y)), SF.is (.slice (A3) (m) (c3)), SF.ownZ wa.heap.size 23 32 (nch m) (u8v (padN m y)), SF.is (.bool true), SF.is (.bool true), SF.is (rootV R), SF.is (.int .u64 ((v : Nat) : Int)), SF.is (rootV (shaB (catN 32 R (padN 8 (leB v))) 64)), SF.is (rootV R), SF.is (.int .u64 ((v : Nat) : Int)), SF.is (rootV (shaB (catN 32 R (padN 8 (leB v))) 64)), SF.is (.bool true), SF.is (.bool true), SF.is (.bool true)] (by kernel_rfl) (by kernel_rfl) rfl (Nat.le_refl _) (Below.refl _ _) ⟨?_, ?_, ?_, ?_, ?_, ?_, ?_, ?_, ?_, ?_, ?_, ?_, ?_, ?_, ?_, ?_, ?_, trivial⟩ ?_
      · exact opOb_bs0Z 1 rfl rfl run_bs0_U _ (Nat.le_refl _)
      · exact (opOb_move _ rfl (.inl rfl) rfl)
      · exact opOb_app0Z (s := 75) (x := 76) wa.heap.size (z := .int .u8 0) (k := 1) (bytes := 1) (by kernel_rfl) Tryd.underlying35 (by rfl) (by omega) rfl rfl rfl rfl (fun w' hb => by rw [Nat.mul_one]; exact (HY.out.below (HW.out.trans (hb.mono HW.out.size)))) (fun _ _ => rfl) ⟨by omega, by omega⟩ (Nat.le_refl _)
      · exact opOb_fn1S ent_pk rfl rfl rfl (fun w' v1 hb hv => by obtain ⟨A', c', rfl, ho⟩ := hv; have hr := ho.rd; rw [Nat.mul_one] at hr; exact (pack_look m c' A' y w' hr ho.cap (by omega)).mono fun e w'' ⟨A2, c2, he, ho2, hb2⟩ => ⟨_, he, ⟨A2, c2, rfl, ho2.mono hb.size⟩, hb2⟩)
      · exact (opOb_move _ rfl (.inl rfl) rfl)
      · exact opOb_fn1 ent_pr rfl rfl (OpK.tmp rfl) (fun w' hb => (pack_ref m c3 A3 y w' ((HY.out.below (HW.out.trans (hb.mono HW.out.size))).more (Nat.le_trans HW.out.size hb.size)) (by omega)).mono fun e w'' ⟨A2, c2, he, ho2, hb2⟩ => ⟨_, he, ⟨A2, c2, rfl, ho2.mono hb.size⟩, hb2⟩)
      · exact opOb_fn2SS ent_sm rfl rfl rfl rfl (fun w' v1 v2 hb hv hu => by obtain ⟨A', c', rfl, ho⟩ := hv; obtain ⟨A2, c2, rfl, ho2⟩ := hu; exact (sameR_any (nch m) c' c2 A' A2 (padN m y) w' ho.rd ho2.rd (by unfold nch; omega)).mono fun e w'' ⟨he, hb2⟩ => ⟨_, he, rfl, hb2⟩)
      · exact (opOb_move _ rfl (.inl rfl) rfl)
      · exact opOb_on 82 rfl rfl (opOb_ld rfl rfl (OpK.tmp rfl) (fun w' hb => ld_all (HA.out.row 2 rfl) (HA.out.row 2 rfl).lt Tryd.underlying23 rfl (by kernel_rfl) w' hb))
      · exact opOb_on 82 rfl rfl ((opOb_move _ rfl (.inl rfl) rfl))
      · exact opOb_on 82 rfl rfl (opOb_fn2 ent_mxr rfl rfl (OpK.tmp rfl) (OpK.tmp rfl) (fun w' hb => (mix_look R HRl.out v w' (HP.out.below (HW.out.trans (hb.mono HW.out.size)))).mono fun e w'' ⟨he, hb2⟩ => ⟨_, he, rfl, hb2⟩))
      · exact opOb_on 82 rfl rfl (opOb_ld rfl rfl (OpK.tmp rfl) (fun w' hb => ld_all (HA.out.row 1 rfl) (HA.out.row 1 rfl).lt Tryd.underlying23 rfl (by kernel_rfl) w' hb))
      · exact opOb_on 82 rfl rfl ((opOb_move _ rfl (.inl rfl) rfl))
      · exact opOb_on 82 rfl rfl (opOb_fn2 ent_mxf rfl rfl (OpK.tmp rfl) (OpK.tmp rfl) (fun w' hb => (mix_ref R HRl.out v w' (HPR.out.below (HW.out.trans (hb.mono HW.out.size)))).mono fun e w'' ⟨he, hb2⟩ => ⟨_, he, rfl, hb2⟩))
      · exact opOb_on 82 rfl rfl (opOb_eqArr 5 32 .u8 (fun i => (((shaB (catN 32 R (padN 8 (leB v))) 64) i : Nat) : Int)) (fun i => (((shaB (catN 32 R (padN 8 (leB v))) 64) i : Nat) : Int)) true Tryd.underlying23 Tryd.underlying5 (by kernel_rfl) (by kernel_rfl) (by simp) rfl rfl (OpK.tmp rfl) (OpK.tmp rfl))
      · exact opOb_pickT rfl rfl rfl (OpK.tmp rfl)
      · exact (opOb_move _ rfl (.inr rfl) rfl)
      · intro w' hb
        simp only [fin, SF.is, SF.own0Z, SF.ownZ, forall_eq]
        simp only [Act.put, List.setIfInBounds_toArray, List.set_cons_succ, List.set_cons_zero]
        rintro _ _ _ _ _ _ _ _
        have hend := HW.out.trans (hb.mono HW.out.size)
        go_wp2_with fail
        go_ret
        exact ⟨rfl, hend⟩
end Go.Proofs.YtjmbgdldnnmipaaDoor
