/- A part of what the proofs stand on: TreeTop, TreeRef6B, TreeAny, MerkleTrees, Stage. -/
import Derived.Test.YtlcpflaofggmeaaDoorGTre10
import Derived.Test.YtlcpflaofggmeaaDoorGTre21
import Derived.Test.YtlcpflaofggmeaaDoorGTre19
import Derived.Test.YtlcpflaofggmeaaDoorGTre12
import Derived.Test.YtlcpflaofggmeaaDoorGTre7
import Derived.Test.YtlcpflaofggmeaaDoorGTre9
import Derived.Test.YtlcpflaofggmeaaDoorGTre11
import Derived.Test.YtlcpflaofggmeaaDoorGTre6
/- Tree and Must of the reference, where the chunks aren't too many. -/
namespace Go.Proofs.YtlcpflaofggmeaaDoor
set_option maxRecDepth 40000
open Go.RowKit
set_option maxHeartbeats 2000000 in
theorem treeTop_ok (n c l : Nat) (A : Option Addr) (x : Nat → Nat) (w : World) (hb : Rd w w.heap.size A (n * 32) (u8v x)) (hx : ∀ i, x i < 256) (hnc : n ≤ c) (hl : l ≤ 1099511627776) (hnl : n ≤ l) (hp : RefPkg w) :
    Calls Tryd.prog 41 #[.slice A n c, .int .i64 (l : Int)] w fun e w' => e = .returned (.tuple #[rootV (treeN (dep l) n x), .int .i64 0]) ∧ Below w.heap.size w w' := by
  have HP := Lib.hid hp
  have HX := Lib.hid hb
  have HXl := Lib.hid hx
  have HS0 := Lib.hid (HS.nil w)
  have hd40 : dep l ≤ 40 := dep_le (k := 40) (by omega)
  clear hb hx hp
  have tok1 := Tok.mk 1
  go_enter Tryd.func41, Tryd.ntmps41
  go_wp2_with (first
    | (refine wpList_allocL rfl 30 4 rfl rfl HS0.out (Array.replicate 32 (.int .u8 0)) (by kernel_rfl) 32 (u8v fun _ => 0) (by rfl) (zero_at 32 (.int .u8 0)) ?_; intro b6 w6 hb6 hc6 hs6; have HS6 := Lib.hid hs6; clear hs6)
    | (go_at_call 35; refine (depth_ref l hl _).mono ?_; rintro e w7 ⟨rfl, hw7⟩; subst hw7)
    | (go_at_call 44; refine (zeros_ref (dep l) hd40 _ (HP.out.below (HS6.out.out (by simp; omega)))).mono ?_; rintro e w8 ⟨Z, cz, rfl, hz, hb8⟩; have HZ := Lib.hid hz; have HS8 := Lib.hid (HS6.out.below hb8); clear hz hb8)
    | (go_at_call 43; refine (tree_ref (dep l) n c A x (dep l + 1) cz Z _ (by omega) hd40 hnc ((HX.out.below (HS8.out.out (by simp; omega))).more HS8.out.size) HXl.out HZ.out.rd (by omega) (HP.out.below (HS8.out.out (by simp; omega)))).mono ?_; rintro e w9 ⟨rfl, hb9⟩; have HS9 := Lib.hid (HS8.out.below hb9); clear hb9)
    | (refine wpList_storeH rfl 30 (.tmp 4) (.tmp 24) rfl HS9.out 0 rfl (u8v (treeN (dep l) n x)) rfl rfl (by kernel_rfl) (fun _ _ => rfl) ?_; intro wy hs; have HY := Lib.hid hs; clear hs))
  exact ret_rowTmp rfl (HY.out.row 0 rfl) _ _ rfl rfl Tryd.underlying30 rfl (by kernel_rfl) rfl ⟨rfl, HY.out.out (by simp; omega)⟩
set_option maxHeartbeats 2000000 in
theorem must_ok (n c l : Nat) (A : Option Addr) (x : Nat → Nat) (w : World) (hb : Rd w w.heap.size A (n * 32) (u8v x)) (hx : ∀ i, x i < 256) (hnc : n ≤ c) (hl : l ≤ 1099511627776) (hnl : n ≤ l) (hp : RefPkg w) :
    Calls Tryd.prog 34 #[.slice A n c, .int .i64 (l : Int)] w fun e w' => e = .returned (rootV (treeN (dep l) n x)) ∧ Below w.heap.size w w' := by
  have HP := Lib.hid hp
  have HX := Lib.hid hb
  have HXl := Lib.hid hx
  have HS0 := Lib.hid (HS.nil w)
  clear hb hx hp
  go_enter Tryd.func34, Tryd.ntmps34
  go_wp2_with (first
    | (refine wpList_allocL rfl 30 4 rfl rfl HS0.out (Array.replicate 32 (.int .u8 0)) (by kernel_rfl) 32 (u8v fun _ => 0) (by rfl) (zero_at 32 (.int .u8 0)) ?_; intro b4 w4 hb4 hc4 hs4; have HS4 := Lib.hid hs4; clear hs4)
    | (go_at_call 41; refine (treeTop_ok n c l A x _ ((HX.out.below (HS4.out.out (by simp; omega))).more HS4.out.size) HXl.out hnc hl hnl (HP.out.below (HS4.out.out (by simp; omega)))).mono ?_; rintro e w5 ⟨rfl, hb5⟩; have HS5 := Lib.hid (HS4.out.below hb5); clear hb5)
    | (refine wpList_allocL rfl 30 5 rfl rfl HS5.out (Array.replicate 32 (.int .u8 0)) (by kernel_rfl) 32 (u8v fun _ => 0) (by rfl) (zero_at 32 (.int .u8 0)) ?_; intro b6 w6 hb6 hc6 hs6; have HS6 := Lib.hid hs6; clear hs6)
    | (refine wpList_storeH rfl 30 (.tmp 5) (.tmp 11) rfl HS6.out 0 rfl (u8v (treeN (dep l) n x)) rfl rfl (by kernel_rfl) (fun _ _ => rfl) ?_; intro w7 hs; have HS7 := Lib.hid hs; clear hs)
    | (refine wpList_load_rd rfl 30 _ rfl 32 _ Tryd.underlying30 rfl (by kernel_rfl) ⟨b6, 0, none⟩ rfl (u8v (treeN (dep l) n x)) (fun i hi => by rw [add_lit0]; exact HS7.out.cell 0 i rfl hi) ?_)
    | (refine wpList_storeH rfl 30 (.tmp 4) (.tmp 13) rfl HS7.out 1 rfl (u8v (treeN (dep l) n x)) rfl rfl (by kernel_rfl) (fun _ _ => rfl) ?_; intro wy hs; have HY := Lib.hid hs; clear hs))
  exact ret_rowIs rfl (HY.out.row 1 rfl) _ rfl Tryd.underlying30 rfl (by kernel_rfl) rfl ⟨rfl, HY.out.out (by simp; omega)⟩
end Go.Proofs.YtlcpflaofggmeaaDoor
/- The reference's trees: New, Root, Most. -/
namespace Go.Proofs.YtlcpflaofggmeaaDoor
set_option maxRecDepth 40000
open Go.RowKit
/-- The cells of a reference's new tree. -/
def rfI (l : Int) : Nat → Value := fun i => if i = 0 then .int .i64 l else .slice none 0 0
theorem rfI_nat (l : Nat) : rfI (l : Int) = rfF l none 0 0 := rfl
/-- Is there a tree of this limit? -/
def limB (l : Int) : Bool := decide (1 ≤ l) && decide (l ≤ 1073741824)
/-- At most so many hashes behind k changes. -/
def mostN (l n k : Nat) : Nat := if k = 0 then 0 else if n + dep l < k * dep l then n + dep l else k * dep l
namespace TreeRef6B
theorem built_rf (l : Int) : Tryd.prog.built 42 [(0, .int .i64 l)] = some #[.int .i64 l, .slice none 0 0] := by kernel_rfl
theorem rf_arr (l : Int) : (#[.int .i64 l, .slice none 0 0] : Array Value) = arr 2 (rfI l) := by
  unfold arr rfI
  rfl
theorem zero_rf : (Tryd.prog.info? 42).bind (·.zero) = some (.agg (arr 2 (rfI 0))) := by kernel_rfl
theorem geT (a : Int) (h : 1 ≤ a) (w : World) : (binOp .geq 3 (.int .i64 a) (.int .i64 1)).run Tryd.prog w = .ok (.bool true) w := by
  simp [go_sem]; omega
theorem geF (a : Int) (h : a < 1) (w : World) : (binOp .geq 3 (.int .i64 a) (.int .i64 1)).run Tryd.prog w = .ok (.bool false) w := by
  simp [go_sem]; omega
theorem leB2 (a : Int) (b : Bool) (hb : b = decide (a ≤ 1073741824)) (w : World) : (binOp .leq 3 (.int .i64 a) (.int .i64 1073741824)).run Tryd.prog w = .ok (.bool b) w := by
  subst hb
  simp [go_sem]
theorem mulI (a b m : Nat) (hm : a * b = m) (h : m < 4611686018427387904) (w : World) : (binOp .mul 3 (.int .i64 (a : Int)) (.int .i64 (b : Int))).run Tryd.prog w = .ok (.int .i64 (m : Int)) w := by
  have e : (a : Int) * (b : Int) = (m : Int) := by rw [← hm]; simp
  simp [go_sem, e, IntKind.wrap, IntKind.bits, IntKind.signed]
  omega
theorem addI2 (a b m : Nat) (hm : a + b = m) (h : m < 4611686018427387904) (w : World) : (binOp .add 3 (.int .i64 (a : Int)) (.int .i64 (b : Int))).run Tryd.prog w = .ok (.int .i64 (m : Int)) w := by
  have e : (a : Int) + (b : Int) = (m : Int) := by rw [← hm]; simp
  simp [go_sem, e, IntKind.wrap, IntKind.bits, IntKind.signed]
  omega
theorem gtB (a b : Nat) (c : Bool) (hc : c = decide (b < a)) (w : World) : (binOp .gtr 3 (.int .i64 (a : Int)) (.int .i64 (b : Int))).run Tryd.prog w = .ok (.bool c) w := by
  subst hc
  simp [go_sem]
end TreeRef6B
open TreeRef6B in
set_option maxHeartbeats 4000000 in
theorem rnew_look (l : Int) (w : World) : Calls Tryd.prog 16 #[.int .i64 l] w fun r w' => r = .returned (.tuple #[.agg (arr 2 (rfI l)), .bool (limB l)]) ∧ Below w.heap.size w w' := by
  have HS0 := Lib.hid (HS.nil w)
  by_cases h1 : 1 ≤ l
  · obtain ⟨b, hb⟩ : ∃ b, b = decide (l ≤ 1073741824) := ⟨_, rfl⟩
    have hl : limB l = b := by unfold limB; rw [decide_eq_true h1, hb]; rfl
    rw [hl]
    have HB := Lib.hid hb
    clear hb hl
    go_enter Tryd.func16, Tryd.ntmps16
    go_wp2_with (first
      | (refine wpList_allocL rfl 42 2 rfl rfl HS0.out (arr 2 (rfI 0)) zero_rf 2 (rfI 0) (size_arr _ _) (fun i hi => arr_at _ _ i hi) ?_; intro b2 w2 hb2 hc2 hs; have HS2 := Lib.hid hs; clear hs)
      | (refine wpList_build_as rfl 42 #[(0, .tmp 4)] rfl [(0, .int .i64 l)] rfl (arr 2 (rfI l)) (by rw [← rf_arr]; exact built_rf l) ?_)
      | (refine wpList_as rfl 7 rfl (.bool true) ?_ ?_; (· exact ex_bin rfl rfl rfl rfl (fun w => geT l h1 w) _))
      | (refine wpList_asG rfl rfl rfl 10 rfl (.bool b) ?_ ?_; (· exact ex_bin rfl rfl rfl rfl (fun w => leB2 l b HB.out w) _))
      | (refine wpList_storeH rfl 42 (.tmp 2) (.tmp 5) rfl HS2.out 0 rfl (rfI l) rfl rfl (by kernel_rfl) (fun i _ => by unfold rfI; split <;> rfl) ?_; intro wh hs; have HH := Lib.hid hs; clear hs))
    exact ret_rowTmp rfl (HH.out.row 0 rfl) _ (.bool b) rfl rfl Tryd.underlying42 rfl (by kernel_rfl) rfl ⟨rfl, HH.out.out (by simp; omega)⟩
  · have h2 : l < 1 := by omega
    have hl : limB l = false := by unfold limB; rw [decide_eq_false h1]; rfl
    rw [hl]
    clear hl h1
    go_enter Tryd.func16, Tryd.ntmps16
    go_wp2_with (first
      | (refine wpList_allocL rfl 42 2 rfl rfl HS0.out (arr 2 (rfI 0)) zero_rf 2 (rfI 0) (size_arr _ _) (fun i hi => arr_at _ _ i hi) ?_; intro b2 w2 hb2 hc2 hs; have HS2 := Lib.hid hs; clear hs)
      | (refine wpList_build_as rfl 42 #[(0, .tmp 4)] rfl [(0, .int .i64 l)] rfl (arr 2 (rfI l)) (by rw [← rf_arr]; exact built_rf l) ?_)
      | (refine wpList_as rfl 7 rfl (.bool false) ?_ ?_; (· exact ex_bin rfl rfl rfl rfl (fun w => geF l h2 w) _))
      | (refine wpList_storeH rfl 42 (.tmp 2) (.tmp 5) rfl HS2.out 0 rfl (rfI l) rfl rfl (by kernel_rfl) (fun i _ => by unfold rfI; split <;> rfl) ?_; intro wh hs; have HH := Lib.hid hs; clear hs))
    exact ret_rowTmp rfl (HH.out.row 0 rfl) _ (.bool false) rfl rfl Tryd.underlying42 rfl (by kernel_rfl) rfl ⟨rfl, HH.out.out (by simp; omega)⟩
open TreeRef6B in
set_option maxHeartbeats 4000000 in
theorem rroot_look (l n c : Nat) (A : Option Addr) (x : Nat → Nat) (w : World) (hb : Rd w w.heap.size A (n * 32) (u8v x)) (hx : ∀ i, x i < 256) (hnc : n ≤ c) (hl : l ≤ 1073741824) (hnl : n ≤ l) (hp : RefPkg w) :
    Calls Tryd.prog 19 #[.agg (arr 2 (rfF l A n c))] w fun r w' => r = .returned (rootV (treeN (dep l) n x)) ∧ Below w.heap.size w w' := by
  have HS0 := Lib.hid (HS.nil w)
  have HX := Lib.hid hb
  have HXl := Lib.hid hx
  have HP := Lib.hid hp
  clear hb hx hp
  go_enter Tryd.func19, Tryd.ntmps19
  go_wp2_with (first
    | (refine wpList_boxL rfl 42 _ 1 rfl rfl HS0.out 2 (rfF l A n c) rfl ?_; intro b1 w1 hb1 hc1 hs; have HS1 := Lib.hid hs; clear hs)
    | (refine wpList_allocL rfl 30 2 rfl rfl HS1.out (Array.replicate 32 (.int .u8 0)) (by kernel_rfl) 32 (u8v fun _ => 0) (by rfl) (zero_at 32 (.int .u8 0)) ?_; intro b2 w2 hb2 hc2 hs; have HS2 := Lib.hid hs; clear hs)
    | (refine wpList_as rfl 4 rfl (.slice A n c) ?_ ?_; (· exact ex_ldSl rfl rfl Tryd.underlying22 (HS2.out.cell 1 1 rfl (show 1 < 2 by omega)) rfl))
    | (refine wpList_as rfl 6 rfl (.int .i64 (l : Int)) ?_ ?_; (· exact ex_ld1 .i64 rfl rfl Tryd.underlying3 (HS2.out.cell 1 0 rfl (show 0 < 2 by omega))))
    | (go_at_call 34; refine (must_ok n c l A x _ ((HX.out.below (HS2.out.out (by simp; omega))).more HS2.out.size) HXl.out hnc (by omega) hnl (HP.out.below (HS2.out.out (by simp; omega)))).mono ?_; rintro e w3 ⟨rfl, hb⟩; have HS3 := Lib.hid (HS2.out.below hb); clear hb)
    | (refine wpList_storeH rfl 30 (.tmp 2) (.tmp 7) rfl HS3.out 0 rfl (u8v (treeN (dep l) n x)) rfl rfl (by kernel_rfl) (fun _ _ => rfl) ?_; intro wh hs; have HH := Lib.hid hs; clear hs))
  exact ret_rowIs rfl (HH.out.row 0 rfl) _ rfl Tryd.underlying30 rfl (by kernel_rfl) rfl ⟨rfl, HH.out.out (by simp; omega)⟩
open TreeRef6B in
set_option maxHeartbeats 4000000 in
theorem rmost_look (l n c k : Nat) (A : Option Addr) (w : World) (hl : l ≤ 1073741824) (hn : n ≤ 1073741824) (hk : k ≤ 1000) :
    Calls Tryd.prog 22 #[.agg (arr 2 (rfF l A n c)), .int .i64 (k : Int)] w fun r w' => r = .returned (.int .i64 ((mostN l n k : Nat) : Int)) ∧ Below w.heap.size w w' := by
  have HS0 := Lib.hid (HS.nil w)
  obtain ⟨d, hd⟩ : ∃ d, dep l = d := ⟨_, rfl⟩
  have hd30 : d ≤ 30 := by rw [← hd]; exact dep_le (by rw [show (2 : Nat) ^ 30 = 1073741824 by decide]; exact hl)
  unfold mostN
  rw [hd]
  have HD := Lib.hid hd
  obtain ⟨m, hm⟩ : ∃ m, k * d = m := ⟨_, rfl⟩
  have hm2 : m ≤ 30000 := by rw [← hm]; exact Nat.mul_le_mul hk hd30
  obtain ⟨s, hs⟩ : ∃ s, n + d = s := ⟨_, rfl⟩
  have hs2 : s ≤ 1073741854 := by omega
  rw [hm, hs]
  have HM := Lib.hid hm
  have HSm := Lib.hid hs
  clear hd hm hs
  rcases Nat.eq_zero_or_pos k with h0 | h0
  · subst h0
    go_enter Tryd.func22, Tryd.ntmps22
    go_wp2_with (first
      | (refine wpList_boxL rfl 42 _ 2 rfl rfl HS0.out 2 (rfF l A n c) rfl ?_; intro b1 w1 hb1 hc1 hs; have HS1 := Lib.hid hs; clear hs)
      | (refine wpList_as rfl 7 rfl (.int .i64 (l : Int)) ?_ ?_; (· exact ex_ld1 .i64 rfl rfl Tryd.underlying3 (HS1.out.cell 0 0 rfl (show 0 < 2 by omega))))
      | (go_at_call 35; refine (depth_ref l (by omega) _).mono ?_; rintro e w9 ⟨rfl, hw⟩; rw [hw, HD.out]; clear hw w9))
    go_ret
    exact ⟨rfl, HS1.out.out (by simp; omega)⟩
  · have hk0 : ((k : Int) == 0) = false := by simp; omega
    rw [if_neg (show ¬ k = 0 by omega)]
    obtain ⟨b, hb⟩ : ∃ b, b = decide (s < m) := ⟨_, rfl⟩
    have HB := Lib.hid hb
    have hif : (if s < m then s else m) = if b = true then s else m := by rw [hb]; simp
    rw [hif]
    clear hb hif
    go_enter Tryd.func22, Tryd.ntmps22
    go_upto_if 19 with (first
      | (refine wpList_boxL rfl 42 _ 2 rfl rfl HS0.out 2 (rfF l A n c) rfl ?_; intro b1 w1 hb1 hc1 hs; have HS1 := Lib.hid hs; clear hs)
      | (refine wpList_as rfl 7 rfl (.int .i64 (l : Int)) ?_ ?_; (· exact ex_ld1 .i64 rfl rfl Tryd.underlying3 (HS1.out.cell 0 0 rfl (show 0 < 2 by omega))))
      | (go_at_call 35; refine (depth_ref l (by omega) _).mono ?_; rintro e w9 ⟨rfl, hw⟩; rw [hw, HD.out]; clear hw w9)
      | (refine wpList_as rfl 13 rfl (.int .i64 (m : Int)) ?_ ?_; (· exact ex_bin rfl rfl rfl rfl (fun w => mulI k d m HM.out (by omega) w) _))
      | (refine wpList_as rfl 15 rfl (.slice A n c) ?_ ?_; (· exact ex_ldSl rfl rfl Tryd.underlying22 (HS1.out.cell 0 1 rfl (show 1 < 2 by omega)) rfl))
      | (refine wpList_as rfl 18 rfl (.int .i64 (s : Int)) ?_ ?_; (· exact ex_bin rfl rfl rfl rfl (fun w => addI2 n d s HSm.out (by omega) w) _))
      | (refine wpList_as rfl 19 rfl (.bool b) ?_ ?_; (· exact ex_bin rfl rfl rfl rfl (fun w => gtB m s b HB.out w) _)))
    cases b with
    | true =>
      go_wp2_with (first
        | (refine wpList_as rfl 21 rfl (.slice A n c) ?_ ?_; (· exact ex_ldSl rfl rfl Tryd.underlying22 (HS1.out.cell 0 1 rfl (show 1 < 2 by omega)) rfl))
        | (refine wpList_as rfl 24 rfl (.int .i64 (s : Int)) ?_ ?_; (· exact ex_bin rfl rfl rfl rfl (fun w => addI2 n d s HSm.out (by omega) w) _)))
      go_ret
      exact ⟨rfl, HS1.out.out (by simp; omega)⟩
    | false =>
      go_wp2_with (refine wpList_as rfl 27 rfl (.int .i64 (m : Int)) ?_ ?_; (· exact ex_bin rfl rfl rfl rfl (fun w => mulI k d m HM.out (by omega) w) _))
      go_ret
      exact ⟨rfl, HS1.out.out (by simp; omega)⟩
end Go.Proofs.YtlcpflaofggmeaaDoor
/- Trees and the reference's trees, for whatever arguments: one answer each. -/
namespace Go.Proofs.YtlcpflaofggmeaaDoor
set_option maxRecDepth 40000
open Go.RowKit
/-- The answer of Set, and the leaves behind it. -/
def setK (n : Nat) (i : Int) : Nat := if 0 ≤ i ∧ i < (n : Int) then 0 else 1
def setX (n : Nat) (x : Nat → Nat) (i : Int) (y : Nat → Nat) : Nat → Nat := if 0 ≤ i ∧ i < (n : Int) then setN x i.toNat y else x
/-- The answer of Append, how many leaves there are behind it, and which. -/
def appK (n l : Nat) : Nat := if n < l then 0 else 6
def appM (n l : Nat) : Nat := if n < l then n + 1 else n
def appX (n l : Nat) (x y : Nat → Nat) : Nat → Nat := if n < l then appN x n y else x
/-- How many leaves are marked. -/
def markN (v : TV) (n : Nat) : Nat := (atL n (dirB v.dn v.dw) 0).length
theorem setX_lt {n : Nat} {x y : Nat → Nat} {i : Int} (hx : ∀ i, x i < 256) (hy : ∀ i, y i < 256) : ∀ j, setX n x i y j < 256 := fun j => by
  unfold setX setN
  split
  · dsimp only
    split
    · exact hy _
    · exact hx _
  · exact hx _
theorem appX_lt {n l : Nat} {x y : Nat → Nat} (hx : ∀ i, x i < 256) (hy : ∀ i, y i < 256) : ∀ j, appX n l x y j < 256 := fun j => by
  unfold appX appN catN
  split
  · dsimp only
    split
    · exact hx _
    · exact hy _
  · exact hx _
theorem appM_le {n l : Nat} (h : n ≤ l) : appM n l ≤ l := by unfold appM; split <;> omega
theorem at0_more {n : Nat} {t : Nat → Bool} (h : ∀ a, t a = true → a < n) : atL (n + 1) t 0 = atL n t 0 := by
  simp only [atL]
  rw [List.range_succ, List.filter_append]
  have : t n ≠ true := fun e => by have := h n e; omega
  simp [this]
theorem costN_zero (t : Nat → Bool) : ∀ D, costN 0 t D = 0 := fun D => cost_none (fun a ha => by omega) D
theorem tset_any (v : TV) (base T n : Nat) (i : Int) (x y : Nat → Nat) (w : World) (h : TM w base T v) (hst : TSt v n x) (hy : ∀ q, y q < 256) :
    Calls Tryd.prog 11 #[tpV T, .int .i64 i, rootV y] w fun r w' => ∃ v', r = .returned (.int .i64 ((setK n i : Nat) : Int)) ∧ TM w' base T v' ∧ TStep w w' T v v' ∧ TSt v' n (setX n x i y) ∧ markN v' n ≤ markN v n + 1 ∧ v'.H = v.H := by
  unfold setK setX
  by_cases hi : 0 ≤ i ∧ i < (n : Int)
  · obtain ⟨k, rfl⟩ : ∃ k : Nat, i = (k : Int) := ⟨i.toNat, by omega⟩
    rw [if_pos hi, if_pos hi]
    refine (tset_in v base T k n x y w h hst (by omega) hy).mono ?_
    rintro r w' ⟨v', rfl, h1, h2, h3, h4, h5⟩
    exact ⟨v', rfl, h1, h2, h3, at0_len h4, h5⟩
  · rw [if_neg hi, if_neg hi]
    refine (tset_out v base T n i y w h hst.n0 (by omega)).mono ?_
    rintro r w' ⟨rfl, hb⟩
    exact ⟨v, rfl, h.below hb, TStep.refl hb, hst, Nat.le_succ _, rfl⟩
theorem tapp_any (v : TV) (base T n l : Nat) (x y : Nat → Nat) (w : World) (h : TM w base T v) (hst : TSt v n x) (hl : v.lim = l) (hy : ∀ q, y q < 256) :
    Calls Tryd.prog 10 #[tpV T, rootV y] w fun r w' => ∃ v', r = .returned (.int .i64 ((appK n l : Nat) : Int)) ∧ TM w' base T v' ∧ TStep w w' T v v' ∧ TSt v' (appM n l) (appX n l x y) ∧ markN v' (appM n l) ≤ markN v n + 1 ∧ v'.H = v.H := by
  unfold appK appM appX
  by_cases hi : n < l
  · rw [if_pos hi, if_pos hi, if_pos hi]
    refine (tapp_look v base T n x y w h hst (by omega) hy).mono ?_
    rintro r w' ⟨v', rfl, h1, h2, h3, h4, h5⟩
    refine ⟨v', rfl, h1, h2, h3, ?_, h5⟩
    have h6 := at0_len (n := n + 1) h4
    rw [at0_more hst.tn] at h6
    exact h6
  · rw [if_neg hi, if_neg hi, if_neg hi]
    refine (tapp_full v base T n y w h hst.n0 (by omega)).mono ?_
    rintro r w' ⟨rfl, hb⟩
    exact ⟨v, rfl, h.below hb, TStep.refl hb, hst, Nat.le_succ _, rfl⟩
theorem tree_none (D : Nat) (x : Nat → Nat) : rootV (treeN D 0 x) = rootV (zrN D) := by
  refine congrArg Value.agg (arr_congr fun q hq => ?_)
  simp only [u8v]
  rw [tree_lev D 0 x (Nat.zero_le _) q hq]
  have h1 := lev_zero D 0 0 x (by omega) q hq
  rw [Nat.zero_mul, Nat.zero_add] at h1
  rw [h1]
theorem troot_any (v : TV) (base T n : Nat) (x : Nat → Nat) (w : World) (h : TM w base T v) (hst : TSt v n x) (hH : v.H ≤ 1152921504606846976) (hp : ShaPkg w) (hpB : 0 < base ∧ 2 < base) (hpt : TzPkg w) :
    Calls Tryd.prog 12 #[tpV T] w fun r w' => ∃ v2, r = .returned (rootV (treeN v.D n x)) ∧ TM w' base T v2 ∧ TStep w w' T v v2 ∧ TSt v2 n x ∧ (∀ a, dirB v2.dn v2.dw a = false) ∧ v2.H = v.H + costN n (dirB v.dn v.dw) v.D := by
  rcases Nat.eq_zero_or_pos n with h0 | h0
  · subst h0
    refine (troot_zero v base T w h hst.n0 hst.D30).mono ?_
    rintro r w' ⟨rfl, hb⟩
    refine ⟨v, by rw [tree_none], h.below hb, TStep.refl hb, hst, fun a => ?_, by rw [costN_zero]; rfl⟩
    cases hd : dirB v.dn v.dw a with
    | false => rfl
    | true => have := hst.tn a hd; omega
  · exact troot_look v base T n x w h hst h0 hH hp hpB hpt
theorem rset_any (p l n c : Nat) (A : Option Addr) (x y : Nat → Nat) (i : Int) (w : World) (h : RM w p l A n c x) (hn : n ≤ 1073741824) :
    Calls Tryd.prog 20 #[.pointer (some ⟨p, 0, none⟩), .int .i64 i, rootV y] w fun r w' => ∃ A' c', r = .returned (.int .i64 ((setK n i : Nat) : Int)) ∧ RM w' p l A' n c' (setX n x i y) ∧ w.grownBy w' (some p) ∧ ((A' = A ∧ n = n) ∨ (0 < n ∧ ∀ b, OnA A' b → w.heap.size ≤ b)) := by
  unfold setK setX
  by_cases hi : 0 ≤ i ∧ i < (n : Int)
  · obtain ⟨k, rfl⟩ : ∃ k : Nat, i = (k : Int) := ⟨i.toNat, by omega⟩
    rw [if_pos hi, if_pos hi]
    refine (rset_in p l n c k A x y w h (by omega) hn).mono ?_
    rintro r w' ⟨A', c', rfl, h1, h2, h3⟩
    exact ⟨A', c', rfl, h1, h2, .inr ⟨by omega, h3⟩⟩
  · rw [if_neg hi, if_neg hi]
    refine (rset_out p l n c A x y i w h (by omega)).mono ?_
    rintro r w' ⟨rfl, hb⟩
    exact ⟨A, c, rfl, ⟨h.row.of_block (hb.block p h.row.lt), (h.rd.below hb).more hb.size, h.cap, h.apart⟩, ⟨hb.os, hb.tape, hb.output, hb.size, fun k hk _ => hb.block k hk⟩, .inl ⟨rfl, rfl⟩⟩
theorem rapp_any (p l n c : Nat) (A : Option Addr) (x y : Nat → Nat) (w : World) (h : RM w p l A n c x) (hl : l ≤ 1073741824) :
    Calls Tryd.prog 23 #[.pointer (some ⟨p, 0, none⟩), rootV y] w fun r w' => ∃ A' c', r = .returned (.int .i64 ((appK n l : Nat) : Int)) ∧ RM w' p l A' (appM n l) c' (appX n l x y) ∧ w.grownBy w' (some p) ∧ ((A' = A ∧ appM n l = n) ∨ (0 < appM n l ∧ ∀ b, OnA A' b → w.heap.size ≤ b)) := by
  unfold appK appM appX
  by_cases hi : n < l
  · rw [if_pos hi, if_pos hi, if_pos hi]
    refine (rapp_look p l n c A x y w h hi hl).mono ?_
    rintro r w' ⟨A', c', rfl, h1, h2, h3⟩
    exact ⟨A', c', rfl, h1, h2, .inr ⟨by omega, h3⟩⟩
  · rw [if_neg hi, if_neg hi, if_neg hi]
    refine (rapp_full p l n c A x y w h (by omega)).mono ?_
    rintro r w' ⟨rfl, hb⟩
    exact ⟨A, c, rfl, ⟨h.row.of_block (hb.block p h.row.lt), (h.rd.below hb).more hb.size, h.cap, h.apart⟩, ⟨hb.os, hb.tape, hb.output, hb.size, fun k hk _ => hb.block k hk⟩, .inl ⟨rfl, rfl⟩⟩
/-- A tree and the reference's, side by side: the same leaves; nothing in common that either writes. -/
structure TR (w : World) (B p T : Nat) (v : TV) (l n : Nat) (A : Option Addr) (c : Nat) (x : Nat → Nat) : Prop where
  tm : TM w B T v
  st : TSt v n x
  rm : RM w p l A n c x
  lim : v.lim = l
  D : v.D = dep l
  x8 : ∀ i, x i < 256
  np : ¬ v.own T p
  nz : ¬ OnA v.zA p
  nA : 0 < n → ∀ b, OnA A b → ¬ v.own T b
section
variable {w w1 w2 w' : World} {B p T l n n' c c' : Nat} {v v' : TV} {A A' : Option Addr} {x x' : Nat → Nat}
theorem RM.lA (h : RM w p l A n c x) (hn : 0 < n) {b : Nat} (hb : OnA A b) : b < w.heap.size := by
  obtain ⟨ad, e, rfl⟩ := hb
  obtain ⟨ad', e', hlt, _⟩ := h.rd (by omega)
  rw [e] at e'; injection e' with e'; rw [e']; exact hlt
theorem RM.keep (h : RM w p l A n c x) (hs : w.heap.size ≤ w'.heap.size) (hp : w'.heap[p]? = w.heap[p]?) (hA : 0 < n → ∀ b, OnA A b → w'.heap[b]? = w.heap[b]?) : RM w' p l A n c x where
  row := h.row.of_block hp
  rd := fun h0 => by
    obtain ⟨ad, e, hb, hc⟩ := h.rd h0
    refine ⟨ad, e, by omega, fun i hi => ?_⟩
    rw [← hc i hi]
    exact World.cell?_of_block (by rw [block_of_add]; exact hA (by omega) _ ⟨ad, e, rfl⟩)
  cap := h.cap
  apart := h.apart
/-- The reference's tree behind a step of the tree. -/
theorem TR.rm1 (h : TR w B p T v l n A c x) (hs : TStep w w1 T v v') : RM w1 p l A n c x :=
  h.rm.keep hs.chg.size (hs.chg.block p h.rm.row.lt h.np) (fun hn b hb => hs.chg.block b (h.rm.lA hn hb) (h.nA hn b hb))
theorem TR.both (h : TR w B p T v l n A c x) (hm : TM w1 B T v') (hs : TStep w w1 T v v') (hst : TSt v' n' x') (hr : RM w2 p l A' n' c' x') (hg : w1.grownBy w2 (some p)) (hA : (A' = A ∧ n' = n) ∨ (0 < n' ∧ ∀ b, OnA A' b → w1.heap.size ≤ b)) (hx : ∀ i, x' i < 256) : TR w2 B p T v' l n' A' c' x' := by
  have hnp : ¬ v'.own T p := fun ho => by
    rcases hs.new p ho with h1 | h1
    · exact h.np h1
    · have := h.rm.row.lt; omega
  have hnz : ¬ OnA v'.zA p := by rw [hs.zA]; exact h.nz
  exact {
    tm := hm.keep hg.size fun b hb => hg.block b (by
      rcases hb with h1 | h1
      · exact hm.lt h1
      · exact hm.zlt h1) (fun e => by
      injection e with e; subst e
      rcases hb with h1 | h1
      · exact hnp h1
      · exact hnz h1)
    st := hst
    rm := hr
    lim := hs.lim.trans h.lim
    D := hs.D.trans h.D
    x8 := hx
    np := hnp
    nz := hnz
    nA := fun hn b hb ho => by
      rcases hA with ⟨rfl, rfl⟩ | ⟨_, hA⟩
      · rcases hs.new b ho with h1 | h1
        · exact h.nA hn b hb h1
        · have := h.rm.lA hn hb; omega
      · have h1 := hA b hb
        have := hm.lt ho
        omega }
/-- A step of the tree alone. -/
theorem TR.tstep (h : TR w B p T v l n A c x) (hm : TM w1 B T v') (hs : TStep w w1 T v v') (hst : TSt v' n x) : TR w1 B p T v' l n A c x :=
  h.both hm hs hst (h.rm1 hs) ⟨rfl, rfl, rfl, Nat.le_refl _, fun _ _ _ => rfl⟩ (.inl ⟨rfl, rfl⟩) h.x8
/-- What changed none of their blocks. -/
theorem TR.keep (h : TR w B p T v l n A c x) (hs : w.heap.size ≤ w'.heap.size) (hk : ∀ b, (v.own T b ∨ OnA v.zA b) ∨ b = p ∨ (0 < n ∧ OnA A b) → w'.heap[b]? = w.heap[b]?) : TR w' B p T v l n A c x :=
  { h with tm := h.tm.keep hs fun b hb => hk b (.inl hb), rm := h.rm.keep hs (hk p (.inr (.inl rfl))) fun hn b hb => hk b (.inr (.inr ⟨hn, hb⟩)) }
theorem TR.lt (h : TR w B p T v l n A c x) {b : Nat} (hb : (v.own T b ∨ OnA v.zA b) ∨ b = p ∨ (0 < n ∧ OnA A b)) : b < w.heap.size := by
  rcases hb with (hb | hb) | rfl | ⟨hn, hb⟩
  · exact h.tm.lt hb
  · exact h.tm.zlt hb
  · exact h.rm.row.lt
  · exact h.rm.lA hn hb
theorem TR.below (h : TR w B p T v l n A c x) (hb : Below w.heap.size w w') : TR w' B p T v l n A c x := h.keep hb.size fun b hbb => hb.block b (h.lt hbb)
theorem TR.chg {S : Nat → Prop} (h : TR w B p T v l n A c x) (hc : Chg S w w') (hS : ∀ b, (v.own T b ∨ OnA v.zA b) ∨ b = p ∨ (0 < n ∧ OnA A b) → ¬ S b) : TR w' B p T v l n A c x := h.keep hc.size fun b hbb => hc.block b (h.lt hbb) (hS b hbb)
/-- A copy in the tree's place. -/
theorem TR.copy (h : TR w B p T v l n A c x) {T2 : Nat} {v2 : TV} (hm : TM w1 B T2 v2) (hst : TSt v2 n x) (hl : v2.lim = v.lim) (hD : v2.D = v.D) (hz : v2.zA = v.zA) (ho : ∀ b, v2.own T2 b → w.heap.size ≤ b) (hb : Below w.heap.size w w1) : TR w1 B p T2 v2 l n A c x where
  tm := hm
  st := hst
  rm := (h.below hb).rm
  lim := hl.trans h.lim
  D := hD.trans h.D
  x8 := h.x8
  np := fun h1 => by have := ho p h1; have := h.rm.row.lt; omega
  nz := by rw [hz]; exact h.nz
  nA := fun hn b hA h1 => by have := ho b h1; have := h.rm.lA hn hA; omega
end
end Go.Proofs.YtlcpflaofggmeaaDoor
/- Trees with all their answers, and zero roots, by the reference. (Printed by a program of mine.) -/
namespace Go.Proofs.YtlcpflaofggmeaaDoor
set_option maxRecDepth 40000
open Go.RowKit
/-- What Tree says: a root, and why there is none. -/
def treeR (l : Int) (n : Nat) (x : Nat → Nat) : Nat → Nat := if l < 0 ∨ 1099511627776 < l then fun _ => 0 else if l.toNat < n then fun _ => 0 else treeN (dep l.toNat) n x
def treeK (l : Int) (n : Nat) : Nat := if l < 0 ∨ 1099511627776 < l then 1 else if l.toNat < n then 6 else 0
theorem tree_any (n c : Nat) (A : Option Addr) (x : Nat → Nat) (l : Int) (w : World) (hb : Rd w w.heap.size A (n * 32) (u8v x)) (hx : ∀ i, x i < 256) (hnc : n ≤ c) (hp : ShaPkg w) :
    Calls Tryd.prog 13 #[.slice A n c, .int .i64 l] w fun e w' => e = .returned (.tuple #[rootV (treeR l n x), .int .i64 ((treeK l n : Nat) : Int)]) ∧ Below w.heap.size w w' := by
  unfold treeR treeK
  by_cases h1 : l < 0 ∨ 1099511627776 < l
  · rw [if_pos h1, if_pos h1]; exact tree_arg n c A l w h1
  · obtain ⟨m, rfl⟩ : ∃ m : Nat, l = (m : Int) := ⟨l.toNat, by omega⟩
    rw [if_neg h1, if_neg h1, Int.toNat_natCast]
    by_cases h2 : m < n
    · rw [if_pos h2, if_pos h2]; exact tree_long n c A m w (by omega) h2
    · rw [if_neg h2, if_neg h2]; exact tree_ok n c A x m w hb hx hnc (by omega) (by omega) hp
end Go.Proofs.YtlcpflaofggmeaaDoor
/- A region that draws its order and holds calls that change memory: these come one behind the other (stages); all else is shown at every stage. (Printed by a program of mine out of an own text.) -/
namespace Go.Proofs.YtlcpflaofggmeaaDoor
set_option maxRecDepth 40000
open Go.RowKit
section
variable {P : Program}
/-- Is it marked? -/
def mkd (ms : List (Option Nat)) (j : Nat) : Bool := match ms[j]? with | some (some _) => true | _ => false
theorem mkd_iff {ms : List (Option Nat)} {j : Nat} : mkd ms j = true ↔ ∃ q, ms[j]? = some (some q) := by
  unfold mkd
  split
  · rename_i q h; simp [h]
  · rename_i h
    simp only [Bool.false_eq_true, false_iff, not_exists]
    exact fun q hq => h q hq
/-- How many of the marked ones are listed; how many there are. -/
def cntJ (ms : List (Option Nat)) (listed : Array Bool) : Nat := ((List.range ms.length).filter fun j => mkd ms j && listed.getD j false).length
def cntA (ms : List (Option Nat)) : Nat := ((List.range ms.length).filter fun j => mkd ms j).length
/-- Does an operation come behind j, by way of others? -/
def behB (l : List Oper) (j : Nat) : Nat → Nat → Bool
  | 0, _ => false
  | f + 1, i => match l[i]? with
    | some oi => oi.after.any fun e => Region.binds .any e && (e.on == j || (decide (j < e.on) && behB l j f e.on))
    | none => false
theorem beh_up {l : List Oper} {listed : Array Bool} (hd : ∀ (i : Nat) o, l[i]? = some o → listed.getD i false = true → ∀ e ∈ o.after, Region.binds .any e = true → listed.getD e.on false = true) {j : Nat} :
    ∀ (f i : Nat) (o : Oper), behB l j f i = true → l[i]? = some o → (∀ e ∈ o.after, Region.binds .any e = true → listed.getD e.on false = true) → listed.getD j false = true
  | 0, _, _, h, _, _ => by simp [behB] at h
  | f + 1, i, o, h, hi, hl => by
    unfold behB at h
    rw [hi] at h
    simp only [Array.any_eq_true, Bool.and_eq_true, Bool.or_eq_true, beq_iff_eq, decide_eq_true_eq] at h
    obtain ⟨x, hx, h1, h2⟩ := h
    have h3 := hl o.after[x] (Array.getElem_mem hx) h1
    rcases h2 with h2 | ⟨_, h2⟩
    · rw [h2] at h3; exact h3
    · cases ho : l[o.after[x].on]? with
      | none =>
        cases f with
        | zero => simp [behB] at h2
        | succ f => unfold behB at h2; rw [ho] at h2; cases h2
      | some o2 => exact beh_up hd f _ o2 h2 ho (fun e he hb => hd _ o2 ho h3 e he hb)
def marksOk (l : List Oper) (ms : List (Option Nat)) : Bool :=
  decide (ms.length = l.length) && (List.range l.length).all fun i => match ms[i]?, l[i]? with
    | some (some r), some _ => decide (r = ((List.range i).filter fun j => mkd ms j).length) && (List.range i).all fun j => !mkd ms j || behB l j l.length i
    | _, _ => true
structure MarksOk (l : List Oper) (ms : List (Option Nat)) : Prop where
  len : ms.length = l.length
  rank : ∀ i r, ms[i]? = some (some r) → r = ((List.range i).filter fun j => mkd ms j).length
  edge : ∀ i j r oi, l[i]? = some oi → ms[i]? = some (some r) → j < i → (∃ q, ms[j]? = some (some q)) → behB l j l.length i = true
theorem marksOk_spec {l : List Oper} {ms : List (Option Nat)} (h : marksOk l ms = true) : MarksOk l ms := by
  unfold marksOk at h
  rw [Bool.and_eq_true, decide_eq_true_eq, List.all_eq_true] at h
  obtain ⟨h1, h2⟩ := h
  refine ⟨h1, fun i r hr => ?_, fun i j r oi hi hr hj hq => ?_⟩
  · have hil : i < l.length := by have := (List.getElem?_eq_some_iff.1 hr).1; omega
    have h3 := h2 i (List.mem_range.2 hil)
    rw [hr, show l[i]? = some l[i] by simp [hil]] at h3
    simp only [Bool.and_eq_true, decide_eq_true_eq] at h3
    exact h3.1
  · have hil : i < l.length := (List.getElem?_eq_some_iff.1 hi).1
    have h3 := h2 i (List.mem_range.2 hil)
    rw [hr, hi] at h3
    simp only [Bool.and_eq_true, List.all_eq_true] at h3
    have h4 := h3.2 j (List.mem_range.2 hj)
    rw [mkd_iff.2 hq] at h4
    simpa only [Bool.not_true, Bool.false_or] using h4
theorem filter_cut (p : Nat → Bool) (i : Nat) : ∀ m, i ≤ m → (∀ j, i ≤ j → j < m → p j = false) → (List.range m).filter p = (List.range i).filter p := by
  intro m
  induction m with
  | zero => intro h _; rw [show i = 0 by omega]
  | succ m ih =>
    intro h hp
    by_cases e : i = m + 1
    · rw [e]
    · rw [List.range_succ, List.filter_append, ih (by omega) (fun j h1 h2 => hp j h1 (by omega))]
      simp [hp m (by omega) (by omega)]
theorem cnt_all {l : List Oper} {ms : List (Option Nat)} {listed : Array Bool} (hl : ms.length = l.length) (h : ∀ i, i < l.length → listed.getD i false = true) : cntJ ms listed = cntA ms := by
  unfold cntJ cntA
  congr 1
  refine List.filter_congr fun j hj => ?_
  rw [h j (by rw [← hl]; exact List.mem_range.1 hj), Bool.and_true]
theorem cnt_none {l : List Oper} {ms : List (Option Nat)} {i : Nat} (_hmk : MarksOk l ms) (hm : ms[i]? = some none) (listed : Array Bool) : cntJ ms (listed.setIfInBounds i true) = cntJ ms listed := by
  unfold cntJ
  congr 1
  refine List.filter_congr fun j _ => ?_
  by_cases e : j = i
  · subst e
    have : mkd ms j = false := by unfold mkd; rw [hm]
    rw [this]; rfl
  · rw [getD_set_ne false (Ne.symm e)]
theorem cnt_some {l : List Oper} {ms : List (Option Nat)} {i r : Nat} {listed : Array Bool} (hmk : MarksOk l ms) (hm : ms[i]? = some (some r)) (hls : i < listed.size) (hf : listed.getD i false = false)
    (h1 : ∀ j, j < i → (∃ q, ms[j]? = some (some q)) → listed.getD j false = true) (h2 : ∀ j, i < j → (∃ q, ms[j]? = some (some q)) → listed.getD j false = false) : cntJ ms listed = r ∧ cntJ ms (listed.setIfInBounds i true) = r + 1 := by
  have hil : i < ms.length := (List.getElem?_eq_some_iff.1 hm).1
  have hlow : ∀ j, j < i → (mkd ms j && listed.getD j false) = mkd ms j := fun j hj => by
    cases hd : mkd ms j with
    | false => rfl
    | true => rw [h1 j hj (mkd_iff.1 hd)]; rfl
  have hhi : ∀ j, i < j → (mkd ms j && listed.getD j false) = false := fun j hj => by
    cases hd : mkd ms j with
    | false => rfl
    | true => rw [h2 j hj (mkd_iff.1 hd)]; rfl
  unfold cntJ
  constructor
  · rw [filter_cut _ i ms.length (by omega) (fun j h3 h4 => by
      by_cases e : j = i
      · subst e; rw [hf, Bool.and_false]
      · exact hhi j (by omega)), hmk.rank i r hm]
    congr 1
    exact List.filter_congr fun j hj => hlow j (List.mem_range.1 hj)
  · rw [filter_cut _ (i + 1) ms.length (by omega) (fun j h3 h4 => by
      rw [getD_set_ne false (show i ≠ j by omega)]; exact hhi j (by omega)), List.range_succ, List.filter_append, List.length_append, hmk.rank i r hm]
    congr 1
    · congr 1
      refine List.filter_congr fun j hj => ?_
      have hj := List.mem_range.1 hj
      rw [getD_set_ne false (show i ≠ j by omega)]; exact hlow j hj
    · have h5 : mkd ms i = true := mkd_iff.2 ⟨r, hm⟩
      have h6 : (listed.setIfInBounds i true).getD i false = true := by simp [Array.getD, hls]
      have h7 : List.filter (fun j => mkd ms j && (listed.setIfInBounds i true).getD j false) [i] = [i] := by rw [List.filter_cons, h5, h6]; rfl
      rw [h7]; rfl
/-- One operation, by itself: at every stage, or as the one that ends stage k. -/
def opJ (P : Program) (ops : Array Oper) (J : Nat → World → Prop) (o : Oper) (F : SF) (lk : Tmp → SF) (m : Option Nat) : Prop := match m with
  | none => ∀ k w, J k w → opOb P ops w.heap.size w o F lk
  | some k => ∀ a w, J k w → (∀ s ∈ o.looksAt ops, (lk s).F (a.tmps.getD s undef) w) →
    if Region.wanted o (yielded ops a.tmps) = true then o.wp P a w (fun a' w' => ∃ v, a' = a.put o.dst v ∧ F.F v w' ∧ J (k + 1) w') (fun _ _ _ => False) else F.F undef w ∧ J (k + 1) w
def obsJ (P : Program) (ops : Array Oper) (J : Nat → World → Prop) (a0 : Act) : List Oper → List SF → List (Option Nat) → List (Tmp × SF) → Prop
  | [], [], [], _ => True
  | o :: os, F :: Fs, m :: ms, E => opJ P ops J o F (look a0 E) m ∧ obsJ P ops J a0 os Fs ms (push o F E)
  | _, _, _, _ => False
theorem obsJ_at {ops : Array Oper} {J : Nat → World → Prop} {a0 : Act} : ∀ (os : List Oper) (Fs : List SF) (ms : List (Option Nat)) (E : List (Tmp × SF)) (pre : List Oper) (Fp : List SF),
    pre.length = Fp.length →
    (∀ s, (∃ (j : Nat) (o : Oper) (F : SF), pre[j]? = some o ∧ Fp[j]? = some F ∧ o.dst = some s ∧ look a0 E s = F) ∨ ((∀ o ∈ pre, o.dst ≠ some s) ∧ look a0 E s = SF.is (a0.tmps.getD s undef))) →
    obsJ P ops J a0 os Fs ms E → os.length = Fs.length ∧ ∀ k o F m, os[k]? = some o → Fs[k]? = some F → ms[k]? = some m → ∃ lk, opJ P ops J o F lk m ∧
      ∀ s, (∃ (j : Nat) (o' : Oper) (F' : SF), j < pre.length + k ∧ (pre ++ os)[j]? = some o' ∧ (Fp ++ Fs)[j]? = some F' ∧ o'.dst = some s ∧ lk s = F') ∨ ((∀ (j : Nat) (o' : Oper), j < pre.length + k → (pre ++ os)[j]? = some o' → o'.dst ≠ some s) ∧ lk s = SF.is (a0.tmps.getD s undef))
  | [], [], [], _, _, _, _, _, _ => ⟨rfl, fun k o F m h => by simp at h⟩
  | [], [], _ :: _, _, _, _, _, _, h => h.elim
  | [], _ :: _, _, _, _, _, _, _, h => h.elim
  | _ :: _, [], _, _, _, _, _, _, h => h.elim
  | _ :: _, _ :: _, [], _, _, _, _, _, h => h.elim
  | o :: os, F :: Fs, c :: cs, E, pre, Fp, hl, hE, h => by
    obtain ⟨h1, h2⟩ := h
    have hE' : ∀ s, (∃ (j : Nat) (o' : Oper) (F' : SF), (pre ++ [o])[j]? = some o' ∧ (Fp ++ [F])[j]? = some F' ∧ o'.dst = some s ∧ look a0 (push o F E) s = F') ∨ ((∀ o' ∈ pre ++ [o], o'.dst ≠ some s) ∧ look a0 (push o F E) s = SF.is (a0.tmps.getD s undef)) := by
      intro s
      by_cases hd : o.dst = some s
      · refine .inl ⟨pre.length, o, F, by simp, by simp [hl], hd, ?_⟩
        simp [push, hd, look]
      · have hp : look a0 (push o F E) s = look a0 E s := by
          unfold push
          cases hdd : o.dst with
          | none => rfl
          | some d => simp only [look]; rw [if_neg (fun e => hd (by rw [hdd, e]))]
        rcases hE s with ⟨j, o', F', h3, h4, h5, h6⟩ | ⟨h3, h4⟩
        · have hj := (List.getElem?_eq_some_iff.1 h3).1
          exact .inl ⟨j, o', F', by rw [List.getElem?_append_left hj]; exact h3, by rw [List.getElem?_append_left (by omega)]; exact h4, h5, by rw [hp]; exact h6⟩
        · refine .inr ⟨fun o' ho' => ?_, by rw [hp]; exact h4⟩
          rcases List.mem_append.1 ho' with h5 | h5
          · exact h3 o' h5
          · simp at h5; subst h5; exact hd
    obtain ⟨hlen, hrest⟩ := obsJ_at os Fs cs (push o F E) (pre ++ [o]) (Fp ++ [F]) (by simp [hl]) hE' h2
    refine ⟨by simp [hlen], fun k ok Fk ck hk hF hc => ?_⟩
    cases k with
    | zero =>
      simp only [List.getElem?_cons_zero, Option.some.injEq] at hk hF hc
      subst hk hF hc
      refine ⟨look a0 E, h1, fun s => ?_⟩
      rcases hE s with ⟨j, o', F', h3, h4, h5, h6⟩ | ⟨h3, h4⟩
      · have hj := (List.getElem?_eq_some_iff.1 h3).1
        exact .inl ⟨j, o', F', by omega, by rw [List.getElem?_append_left hj]; exact h3, by rw [List.getElem?_append_left (by omega)]; exact h4, h5, h6⟩
      · refine .inr ⟨fun j o' hj ho' => ?_, h4⟩
        rw [List.getElem?_append_left (by omega)] at ho'
        exact h3 o' (List.mem_of_getElem? ho')
    | succ k =>
      simp only [List.getElem?_cons_succ] at hk hF hc
      obtain ⟨lk, h3, h4⟩ := hrest k ok Fk ck hk hF hc
      refine ⟨lk, h3, fun s => ?_⟩
      have e1 : pre ++ [o] ++ os = pre ++ o :: os := by simp
      have e2 : Fp ++ [F] ++ Fs = Fp ++ F :: Fs := by simp
      have e3 : (pre ++ [o]).length + k = pre.length + (k + 1) := by simp; omega
      have h5 := h4 s
      rw [e1, e2, e3] at h5
      exact h5
structure RInvJ (n : Nat) (l : List Oper) (Fs : List SF) (ms : List (Option Nat)) (J : Nat → World → Prop) (a0 : Act) (listed : Array Bool) (a : Act) (w : World) : Prop where
  stage : J (cntJ ms listed) w
  tsz : a.tmps.size = n
  dfs : a.defers = a0.defers
  lsz : listed.size = l.length
  fact : ∀ (j : Nat) o F, l[j]? = some o → Fs[j]? = some F → listed.getD j false = true → F.F (match o.dst with | some d => a.tmps.getD d undef | none => undef) w
  rest : ∀ d, (∀ (j : Nat) o, l[j]? = some o → listed.getD j false = true → o.dst ≠ some d) → a.tmps.getD d undef = a0.tmps.getD d undef
  down : ∀ (j : Nat) o, l[j]? = some o → listed.getD j false = true → ∀ e ∈ o.after, Region.binds .any e = true → listed.getD e.on false = true

theorem wpAny_factsJ {l : List Oper} {Fs : List SF} {n N : Nat} {ms : List (Option Nat)} {J : Nat → World → Prop} {a0 : Act} {Q : Exit → Act → World → Prop} (hok : OkR n l.toArray) (hmk : MarksOk l ms) (hlen : l.length = Fs.length) (hN : N = cntA ms) (hJ : ∀ k w w', J k w → Below w.heap.size w w' → J k w') (hp : ∀ F, F ∈ Fs → ∀ v w w', F.F v w → F.F v w')
    (hob : ∀ (k : Nat) o F m, l[k]? = some o → Fs[k]? = some F → ms[k]? = some m → ∃ lk, opJ P l.toArray J o F lk m ∧
      ∀ s, (∃ (j : Nat) (o' : Oper) (F' : SF), j < k ∧ l[j]? = some o' ∧ Fs[j]? = some F' ∧ o'.dst = some s ∧ lk s = F') ∨ ((∀ (j : Nat) (o' : Oper), j < k → l[j]? = some o' → o'.dst ≠ some s) ∧ lk s = SF.is (a0.tmps.getD s undef)))
    (hsz : a0.tmps.size = n) (hfin : ∀ w, J N w → fin (Q .normal) l Fs a0 w) :
    ∀ (fuel : Nat) (listed : Array Bool) (a : Act) (w : World), (∃ u : List Nat, u.Nodup ∧ (∀ i, i ∈ u ↔ i < l.length ∧ listed.getD i false = false) ∧ u.length ≤ fuel) →
      RInvJ n l Fs ms J a0 listed a w → wpAny P .any l.toArray Q fuel listed a w := by
  have ho : ∀ (i : Nat), l.toArray[i]? = l[i]? := fun i => by simp
  -- all listed: the end
  have hend : ∀ (listed : Array Bool) (a : Act) (w : World), RInvJ n l Fs ms J a0 listed a w → (∀ i, i < l.length → listed.getD i false = true) → Q .normal a w := by
    intro listed a w hI hall
    refine fin_use l Fs a0 hlen (hfin w (by rw [hN, ← cnt_all hmk.len hall]; exact hI.stage)) (fun j o F h1 h2 => hI.fact j o F h1 h2 (hall j (List.getElem?_eq_some_iff.1 h1).1)) (hsz.trans hI.tsz.symm) hI.dfs.symm ?_ (fun j o d h1 h2 => by rw [hI.tsz]; exact hok.room j o d (by rw [ho]; exact h1) h2)
    intro d hd
    exact (hI.rest d (fun j o h1 _ => hd j o h1)).symm
  have hnoneReady : ∀ (listed : Array Bool), listed.size = l.length → Region.ready .any l.toArray listed = [] → ∀ i, i < l.length → listed.getD i false = true := by
    intro listed hls hr i
    induction i using Nat.strongRecOn with
    | ind i ih =>
      intro hi
      cases hc : listed.getD i false with
      | true => rfl
      | false =>
        exfalso
        have hil : i < listed.size := by omega
        have : i ∈ Region.ready .any l.toArray listed := mem_ready.2 ⟨by simpa [Array.getD, hil] using hc, l[i], by simp [hi], fun e he hb => ih e.on (hok.back i l[i] (by simp [hi]) e he hb) (by have := hok.back i l[i] (by simp [hi]) e he hb; omega)⟩
        rw [hr] at this; cases this
  intro fuel
  induction fuel with
  | zero =>
    intro listed a w ⟨u, _, hu, hul⟩ hI
    have hun : u = [] := List.eq_nil_of_length_eq_zero (by omega)
    subst hun
    have hall : ∀ i, i < l.length → listed.getD i false = true := fun i hi => by
      cases hc : listed.getD i false with
      | true => rfl
      | false => exact absurd ((hu i).2 ⟨hi, hc⟩) (by simp)
    refine ⟨?_, hend listed a w hI hall⟩
    rw [List.eq_nil_iff_forall_not_mem]
    intro i hi
    obtain ⟨h1, o, h2, _⟩ := mem_ready.1 hi
    have hil : i < l.length := by have := (Array.getElem?_eq_some_iff.1 h2).1; simpa using this
    have h3 := hall i hil
    have hls : i < listed.size := by rw [hI.lsz]; exact hil
    simp [Array.getD, hls] at h1 h3
    rw [h1] at h3; cases h3
  | succ fuel ih =>
    intro listed a w ⟨u, hnd, hu, hul⟩ hI
    refine ⟨fun hr => hend listed a w hI (hnoneReady listed hI.lsz hr), fun i hi => ?_⟩
    obtain ⟨h1, o, h2, h3⟩ := mem_ready.1 hi
    have hil : i < l.length := by have := (Array.getElem?_eq_some_iff.1 h2).1; simpa using this
    have hls : i < listed.size := by rw [hI.lsz]; exact hil
    have hf : listed.getD i false = false := by simpa [Array.getD, hls] using h1
    have h2' : l[i]? = some o := by rw [← ho]; exact h2
    obtain ⟨F, hF⟩ : ∃ F, Fs[i]? = some F := ⟨Fs[i]'(by omega), by simp [show i < Fs.length by omega]⟩
    obtain ⟨m, hm⟩ : ∃ m, ms[i]? = some m := ⟨ms[i]'(by rw [hmk.len]; exact hil), by simp [show i < ms.length by rw [hmk.len]; exact hil]⟩
    obtain ⟨lk, hop, hlk⟩ := hob i o F m h2' hF hm
    -- what its operands are known to be
    have hfacts : ∀ s ∈ o.looksAt l.toArray, (lk s).F (a.tmps.getD s undef) w := by
      intro s hs
      rcases hlk s with ⟨j, o', F', hj, hoj, hFj, hd, e⟩ | ⟨hno, e⟩
      · rw [e]
        have hlst : listed.getD j false = true := by
          rcases hok.two i j o o' h2 (by rw [ho]; exact hoj) hj with ⟨ed, he, hb, hon⟩ | ⟨h4, _⟩
          · rw [← hon]; exact h3 ed he hb
          · exact absurd hs (h4 s hd)
        have := hI.fact j o' F' hoj hFj hlst
        simpa [hd] using this
      · rw [e]
        refine hI.rest s (fun j o' hoj hl hd => ?_)
        rcases Nat.lt_trichotomy j i with hji | hji | hji
        · exact hno j o' hji hoj hd
        · subst hji; rw [hf] at hl; cases hl
        · rcases hok.two j i o' o (by rw [ho]; exact hoj) h2 hji with ⟨ed, he, hb, hon⟩ | ⟨_, h4⟩
          · have := hI.down j o' hoj hl ed he hb
            rw [hon, hf] at this; cases this
          · exact h4 s hd hs
    -- the state behind it
    have hstep : ∀ v w', F.F v w' → J (cntJ ms (listed.setIfInBounds i true)) w' → wpAny P .any l.toArray Q fuel (listed.setIfInBounds i true) (a.put o.dst v) w' := by
      intro v w' hFv hst
      have hroom : ∀ t, o.dst = some t → t < a.tmps.size := fun t ht => by rw [hI.tsz]; exact hok.room i o t h2 ht
      refine ih _ _ _ ⟨u.erase i, hnd.erase i, fun k => ?_, ?_⟩ ?_
      · rw [hnd.mem_erase_iff, hu k]
        constructor
        · rintro ⟨hki, hkl, hkf⟩
          exact ⟨hkl, by rw [getD_set_ne false (Ne.symm hki)]; exact hkf⟩
        · rintro ⟨hkl, hkf⟩
          have hki : k ≠ i := by
            rintro rfl
            simp [Array.getD, hls] at hkf
          exact ⟨hki, hkl, by rw [getD_set_ne false (Ne.symm hki)] at hkf; exact hkf⟩
      · have : i ∈ u := (hu i).2 ⟨hil, hf⟩
        rw [List.length_erase_of_mem this]; omega
      · have hset : ∀ j, (listed.setIfInBounds i true).getD j false = true → j = i ∨ listed.getD j false = true := fun j hj => by
          by_cases e : j = i
          · exact .inl e
          · rw [getD_set_ne false (Ne.symm e)] at hj; exact .inr hj
        refine ⟨hst, ?_, ?_, by simpa using hI.lsz, ?_, ?_, ?_⟩
        · rw [← hI.tsz]; cases o.dst <;> simp [Act.put]
        · rw [← hI.dfs]; cases o.dst <;> simp [Act.put]
        · intro j oj Fj hoj hFj hlj
          by_cases e : j = i
          · subst e
            rw [h2'] at hoj; injection hoj with hoj; subst hoj
            rw [hF] at hFj; injection hFj with hFj; subst hFj
            cases hd : o.dst with
            | none => exact (hok.has j o h2 hd).elim
            | some d => simp only []; rw [put_getD _ _ _ _ (by rw [← hd]; exact hroom)]; simpa using hFv
          · have hl' := (hset j hlj).resolve_left e
            have h5 := hp Fj (List.mem_of_getElem? hFj) _ _ w' (hI.fact j oj Fj hoj hFj hl')
            cases hd : oj.dst with
            | none => simpa [hd] using h5
            | some d =>
              simp only [hd] at h5 ⊢
              rw [put_getD _ _ _ _ hroom, if_neg (fun h6 => e (hok.dsts j i oj o d (by rw [ho]; exact hoj) h2 hd h6))]
              exact h5
        · intro d hd
          have hne : o.dst ≠ some d := hd i o h2' (by simp [Array.getD, hls])
          rw [put_getD _ _ _ _ hroom, if_neg hne]
          refine hI.rest d (fun j oj hoj hl => hd j oj hoj ?_)
          by_cases e : j = i
          · subst e; simp [Array.getD, hls]
          · rw [getD_set_ne false (Ne.symm e)]; exact hl
        · intro j oj hoj hlj e he hb
          have key : listed.getD e.on false = true := by
            rcases hset j hlj with h4 | h4
            · subst h4
              rw [h2'] at hoj; injection hoj with hoj; subst hoj
              exact h3 e he hb
            · exact hI.down j oj hoj h4 e he hb
          have hne : e.on ≠ i := fun h => by rw [h, hf] at key; cases key
          rw [getD_set_ne false (Ne.symm hne)]; exact key
    unfold wpOp
    rw [h2]
    simp only []
    cases m with
    | none =>
      have hthis := hop (cntJ ms listed) w hI.stage a w (Below.refl _ _) hfacts
      have hc := cnt_none hmk hm listed
      split
      · rename_i hw
        rw [if_pos hw] at hthis
        left
        refine Oper.wp_safe ?_
        have h5 := Oper.wp_mono (K' := wpAny P .any l.toArray Q fuel (listed.setIfInBounds i true)) (fun a' w' ⟨v, e, h6, h7⟩ => by rw [e]; exact hstep v w' h6 (by rw [hc]; exact hJ _ _ _ hI.stage h7)) hthis
        exact h5
      · rename_i hw
        rw [if_neg hw] at hthis
        exact hstep undef w hthis (by rw [hc]; exact hI.stage)
    | some r =>
      have hbefore : ∀ j, j < i → (∃ q, ms[j]? = some (some q)) → listed.getD j false = true := fun j hj hq => by
        exact beh_up hI.down l.length i o (hmk.edge i j r o h2' hm hj hq) h2' h3
      have hbehind : ∀ j, i < j → (∃ q, ms[j]? = some (some q)) → listed.getD j false = false := fun j hj ⟨q, hq⟩ => by
        cases hl : listed.getD j false with
        | false => rfl
        | true =>
          have hjl : j < l.length := by have := (List.getElem?_eq_some_iff.1 hq).1; rw [hmk.len] at this; exact this
          have := beh_up hI.down l.length j l[j] (hmk.edge j i q l[j] (by simp [hjl]) hq hj ⟨r, hm⟩) (by simp [hjl]) (fun e he hb => hI.down j l[j] (by simp [hjl]) hl e he hb)
          rw [hf] at this; cases this
      obtain ⟨hc1, hc2⟩ := cnt_some hmk hm hls hf hbefore hbehind
      have hthis := hop a w (by rw [← hc1]; exact hI.stage) hfacts
      split
      · rename_i hw
        rw [if_pos hw] at hthis
        left
        refine Oper.wp_safe ?_
        have h5 := Oper.wp_mono (K' := wpAny P .any l.toArray Q fuel (listed.setIfInBounds i true)) (fun a' w' ⟨v, e, h6, h7⟩ => by rw [e]; exact hstep v w' h6 (by rw [hc2]; exact h7)) hthis
        exact h5
      · rename_i hw
        rw [if_neg hw] at hthis
        exact hstep undef w hthis.1 (by rw [hc2]; exact hthis.2)

/-- A DRAWN REGION WITH STAGES: the calls that change memory come one behind the other; all else goes on at every stage. -/
theorem wp_region_stage {id n N : Nat} {l : List Oper} (J : Nat → World → Prop) (Fs : List SF) (ms : List (Option Nat)) {Q : Exit → Act → World → Prop} {a : Act} {w : World} (hm : P.follows .mixedOrders = true) (hok : okR n l.toArray = true) (hmk : marksOk l ms = true) (hN : N = cntA ms) (hsz : a.tmps.size = n)
    (hJ : ∀ k w w', J k w → Below w.heap.size w w' → J k w') (hp : ∀ F, F ∈ Fs → ∀ v w w', F.F v w → F.F v w') (h0 : J 0 w) (hob : obsJ P l.toArray J a l Fs ms []) (hfin : ∀ w', J N w' → fin (Q .normal) l Fs a w') : (Code.region id l.toArray true).wp P Q a w := by
  have h1 := obsJ_at (P := P) (J := J) l Fs ms [] [] [] rfl (fun s => .inr ⟨by simp, rfl⟩) hob
  have hnone : ∀ (m j : Nat), (Array.replicate m false).getD j false = false := fun m j => by unfold Array.getD; split <;> simp
  refine wp_region_any hm (wpAny_factsJ (okR_spec hok) (marksOk_spec hmk) h1.1 hN hJ hp (fun k o F m h2 h3 h4 => ?_) hsz hfin _ _ a _ ⟨List.range l.length, List.nodup_range, fun i => ?_, by simp⟩ ⟨?_, hsz, rfl, by simp, ?_, fun _ _ => rfl, ?_⟩)
  · obtain ⟨lk, h5, h6⟩ := h1.2 k o F m h2 h3 h4
    refine ⟨lk, h5, fun s => ?_⟩
    simpa using h6 s
  · simp [Array.getD]
  · have hc : cntJ ms (Array.replicate l.toArray.size false) = 0 := by
      unfold cntJ
      rw [List.length_eq_zero_iff, List.filter_eq_nil_iff]
      intro j _
      rw [hnone]; simp
    rw [hc]
    exact hJ _ _ _ h0 (Below.refl _ _).drew
  · intro j o F h2 h3 h4
    simp [Array.getD] at h4
  · intro j o h2 h4
    simp [Array.getD] at h4
theorem pure_is {Fs : List Value} : ∀ F, F ∈ Fs.map SF.is → ∀ v w w', F.F v w → F.F v w' := fun F hF => by
  obtain ⟨e, _, rfl⟩ := List.mem_map.1 hF
  exact fun _ _ _ h => h
/-- The call that ends stage k. -/
theorem opJ_fn {ops : Array Oper} {J : Nat → World → Prop} {o : Oper} {F : SF} {lk : Tmp → SF} {k : Nat} {f : FuncId} (hent : ∀ vs w, (callFunc f vs).run P w = .ok (.enter f vs) w) {xs : Array Operand} {vs : Array Value} {ts : Array TypeId} (hg : o.guard = none) (hop : o.op = .call { callee := .value (.func f), args := xs, argTypes := ts }) (hx : ∀ a w, Opd lk o a w → xs.map a.eval = vs)
    (hr : ∀ w, J k w → Calls P f vs w fun e w' => ∃ v, e = .returned v ∧ F.F v w' ∧ J (k + 1) w') : opJ P ops J o F lk (some k) := by
  intro a w hj hf
  rw [if_pos (by simp [Region.wanted, hg])]
  have hO : Opd lk o a w := fun s hs => by rw [← getD_eq]; exact hf s (List.mem_append_left _ hs)
  have hrun : (execOp a.eval o).run P w = .ok (.enter f vs) w := by
    have h1 := hx a w hO
    unfold execOp
    rw [hop]
    simp only [resolve]
    rw [show (Array.map (fun x => a.eval x) xs) = vs from h1]
    simp [invoke, Deferred.ofValue, Act.eval, hent]
  unfold Oper.wp
  rw [hrun]
  exact (hr w hj).mono fun e w' ⟨v, he, h1, h2⟩ => by subst he; exact ⟨v, rfl, h1, h2⟩
theorem opJ_fn1 {ops : Array Oper} {J : Nat → World → Prop} {o : Oper} {F : SF} {lk : Tmp → SF} {k : Nat} {f : FuncId} (hent : ∀ vs w, (callFunc f vs).run P w = .ok (.enter f vs) w) {x : Operand} {v : Value} {ts : Array TypeId} (hg : o.guard = none) (hop : o.op = .call { callee := .value (.func f), args := #[x], argTypes := ts }) (hx : OpK lk x v)
    (hr : ∀ w, J k w → Calls P f #[v] w fun e w' => ∃ r, e = .returned r ∧ F.F r w' ∧ J (k + 1) w') : opJ P ops J o F lk (some k) :=
  opJ_fn hent hg hop (fun a w hf => by
    have h := hx.eval hf (by rw [hop]; simp [Op.operands, Call.operands])
    simp [h]) hr
theorem opJ_fn2 {ops : Array Oper} {J : Nat → World → Prop} {o : Oper} {F : SF} {lk : Tmp → SF} {k : Nat} {f : FuncId} (hent : ∀ vs w, (callFunc f vs).run P w = .ok (.enter f vs) w) {x y : Operand} {v u : Value} {ts : Array TypeId} (hg : o.guard = none) (hop : o.op = .call { callee := .value (.func f), args := #[x, y], argTypes := ts }) (hx : OpK lk x v) (hy : OpK lk y u)
    (hr : ∀ w, J k w → Calls P f #[v, u] w fun e w' => ∃ r, e = .returned r ∧ F.F r w' ∧ J (k + 1) w') : opJ P ops J o F lk (some k) :=
  opJ_fn hent hg hop (fun a w hf => by
    have h := hx.eval hf (by rw [hop]; simp [Op.operands, Call.operands])
    have h' := hy.eval hf (by rw [hop]; simp [Op.operands, Call.operands])
    simp [h, h']) hr
theorem opJ_fn3 {ops : Array Oper} {J : Nat → World → Prop} {o : Oper} {F : SF} {lk : Tmp → SF} {k : Nat} {f : FuncId} (hent : ∀ vs w, (callFunc f vs).run P w = .ok (.enter f vs) w) {x y z : Operand} {v u t : Value} {ts : Array TypeId} (hg : o.guard = none) (hop : o.op = .call { callee := .value (.func f), args := #[x, y, z], argTypes := ts }) (hx : OpK lk x v) (hy : OpK lk y u) (hz : OpK lk z t)
    (hr : ∀ w, J k w → Calls P f #[v, u, t] w fun e w' => ∃ r, e = .returned r ∧ F.F r w' ∧ J (k + 1) w') : opJ P ops J o F lk (some k) :=
  opJ_fn hent hg hop (fun a w hf => by
    have h := hx.eval hf (by rw [hop]; simp [Op.operands, Call.operands])
    have h' := hy.eval hf (by rw [hop]; simp [Op.operands, Call.operands])
    have h'' := hz.eval hf (by rw [hop]; simp [Op.operands, Call.operands])
    simp [h, h', h'']) hr
/-- Its guard says yes. -/
theorem opJ_on {ops : Array Oper} {J : Nat → World → Prop} {F : SF} {lk : Tmp → SF} {k : Nat} {dst : Option Tmp} {op : Op} {type : TypeId} {pos : String} {after : Array Edge} {j : Nat} {want : Bool} (d : Tmp) (hj : (ops[j]?).bind (·.dst) = some d) (hlk : lk d = SF.is (.bool want))
    (h : opJ P ops J ⟨dst, op, type, pos, after, none⟩ F lk (some k)) : opJ P ops J ⟨dst, op, type, pos, after, some (j, want)⟩ F lk (some k) := by
  intro a w hb hf
  have h1 := hf d (by unfold Oper.looksAt; refine List.mem_append_right _ ?_; simp [hj])
  rw [hlk] at h1
  have hw : Region.wanted (⟨dst, op, type, pos, after, some (j, want)⟩ : Oper) (yielded ops a.tmps) = true := by
    have h2 : a.tmps.getD d undef = .bool want := h1
    have h3 : a.tmps[d]? = some (.bool want) := by
      rw [getD_eq] at h2
      cases h4 : a.tmps[d]? with
      | none => rw [h4] at h2; cases h2
      | some v => rw [h4] at h2; simp at h2; rw [h2]
    simp [Region.wanted, yielded, hj, h3]
  rw [if_pos hw]
  have h5 := h a w hb (fun s hs => hf s (by
    unfold Oper.looksAt at hs ⊢
    simp only [List.append_nil] at hs
    exact List.mem_append_left _ hs))
  rw [if_pos (by rfl)] at h5
  exact h5
/-- What goes on at every stage. -/
theorem opJ_any {ops : Array Oper} {J : Nat → World → Prop} {o : Oper} {F : SF} {lk : Tmp → SF} (h : ∀ k w, J k w → opOb P ops w.heap.size w o F lk) : opJ P ops J o F lk none := h
end
end Go.Proofs.YtlcpflaofggmeaaDoor
