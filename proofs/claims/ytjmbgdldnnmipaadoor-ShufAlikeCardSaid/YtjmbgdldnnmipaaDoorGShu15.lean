/- A part of what the proofs stand on: MerkleTree, MerkleHold, ShufFn, ShaCopy. -/
import Derived.Test.YtjmbgdldnnmipaaDoorGShu14
import Derived.Test.YtjmbgdldnnmipaaDoorGShu12
import Derived.Test.YtjmbgdldnnmipaaDoorGShu13
import Derived.Test.YtjmbgdldnnmipaaDoorGShu11
/- merkle.Tree and merkle.Zero. -/
namespace Go.Proofs.YtjmbgdldnnmipaaDoor
set_option maxRecDepth 40000
open Go.RowKit
theorem rootV_ext {f g : Nat → Nat} (h : ∀ i, i < 32 → f i = g i) : rootV f = rootV g := congrArg Value.agg (arr_congr fun i hi => congrArg (fun k : Nat => Value.int .u8 (k : Int)) (h i hi))
theorem zr_at {k i : Nat} (hi : i < 32) : u8v zrL (k * 32 + i) = u8v (zrN k) i := by
  simp only [u8v]; rw [zrL_at k i hi]
theorem arr1 (f g : Nat → Nat) (v : Value) (h : ∀ i, i < 32 → f i = g i) : Ending.returned (.tuple #[.agg (arr 32 (u8v f)), v]) = .returned (.tuple #[rootV g, v]) := congrArg (fun r => Ending.returned (.tuple #[r, v])) (rootV_ext h)
theorem levN_lt {x : Nat → Nat} (hx : ∀ i, x i < 256) (d i : Nat) : levN d x i < 256 := by
  cases d with
  | zero => exact hx i
  | succ d => rw [levN_succ]; exact shaB_lt _ _ _
/-- What Tree says where it has nothing to say. -/
abbrev noRoot (k : Nat) : Ending := .returned (.tuple #[rootV fun _ => 0, .int .i64 (k : Int)])
set_option maxHeartbeats 4000000 in
theorem tree_arg (n c : Nat) (A : Option Addr) (l : Int) (w : World) (hl : l < 0 ∨ 1099511627776 < l) :
    Calls Tryd.prog 17 #[.slice A n c, .int .i64 l] w fun e w' => e = noRoot 1 ∧ Below w.heap.size w w' := by
  have HS0 := Lib.hid (HS.nil w)
  rcases hl with hl | hl
  all_goals
    go_enter Tryd.func17, Tryd.ntmps17
    go_wp2_with (first
      | (refine wpList_allocL rfl 23 4 rfl rfl HS0.out (Array.replicate 32 (.int .u8 0)) (by kernel_rfl) 32 (u8v fun _ => 0) (by rfl) (zero_at 32 (.int .u8 0)) ?_; intro b4 w4 hb4 hc4 hs4; have HS4 := Lib.hid hs4; clear hs4)
      | (refine wpList_build_as rfl 23 #[] rfl [] rfl (arr 32 (u8v fun _ => 0)) (by kernel_rfl) ?_)
      | (refine wpList_storeH rfl 23 (.tmp 4) (.tmp 16) rfl HS4.out 0 rfl (u8v fun _ => 0) rfl rfl (by kernel_rfl) (fun _ _ => rfl) ?_; intro wy hs; have HY := Lib.hid hs; clear hs))
    exact ret_rowTmp rfl (HY.out.row 0 rfl) _ (.int .i64 1) rfl rfl Tryd.underlying23 rfl (by kernel_rfl) rfl ⟨rfl, HY.out.out (by simp; omega)⟩
set_option maxHeartbeats 4000000 in
theorem tree_long (n c : Nat) (A : Option Addr) (l : Nat) (w : World) (hl : l ≤ 1099511627776) (hn : l < n) :
    Calls Tryd.prog 17 #[.slice A n c, .int .i64 (l : Int)] w fun e w' => e = noRoot 6 ∧ Below w.heap.size w w' := by
  have HS0 := Lib.hid (HS.nil w)
  go_enter Tryd.func17, Tryd.ntmps17
  go_wp2_with (first
    | (refine wpList_allocL rfl 23 4 rfl rfl HS0.out (Array.replicate 32 (.int .u8 0)) (by kernel_rfl) 32 (u8v fun _ => 0) (by rfl) (zero_at 32 (.int .u8 0)) ?_; intro b4 w4 hb4 hc4 hs4; have HS4 := Lib.hid hs4; clear hs4)
    | (refine wpList_build_as rfl 23 #[] rfl [] rfl (arr 32 (u8v fun _ => 0)) (by kernel_rfl) ?_)
    | (refine wpList_storeH rfl 23 (.tmp 4) (.tmp 22) rfl HS4.out 0 rfl (u8v fun _ => 0) rfl rfl (by kernel_rfl) (fun _ _ => rfl) ?_; intro wy hs; have HY := Lib.hid hs; clear hs))
  exact ret_rowTmp rfl (HY.out.row 0 rfl) _ (.int .i64 6) rfl rfl Tryd.underlying23 rfl (by kernel_rfl) rfl ⟨rfl, HY.out.out (by simp; omega)⟩
set_option maxHeartbeats 8000000 in
theorem tree_ok (n c : Nat) (A : Option Addr) (x : Nat → Nat) (l : Nat) (w : World) (hb : Rd w w.heap.size A (n * 32) (u8v x)) (hx : ∀ i, x i < 256) (hnc : n ≤ c) (hl : l ≤ 1099511627776) (hn : n ≤ l) (hp : ShaPkg w) :
    Calls Tryd.prog 17 #[.slice A n c, .int .i64 (l : Int)] w fun e w' => e = .returned (.tuple #[rootV (treeN (dep l) n x), .int .i64 0]) ∧ Below w.heap.size w w' := by
  obtain ⟨D, hD⟩ : ∃ D, D = dep l := ⟨_, rfl⟩
  have hD40 : D ≤ 40 := by rw [hD]; exact dep_le (k := 40) (by omega)
  have hDl : n ≤ 2 ^ D := by rw [hD]; exact Nat.le_trans hn (dep_ge l)
  have HDp := Lib.hid (depth_look l hl)
  rw [← hD] at HDp ⊢
  have HX := Lib.hid hb
  have HXl := Lib.hid hx
  have HP := Lib.hid hp
  have HS0 := Lib.hid (HS.nil w)
  clear hb hx hp hD
  by_cases hn0 : n = 0
  · subst hn0
    clear hDl
    go_enter Tryd.func17, Tryd.ntmps17
    go_wp2_with (first
      | (refine wpList_allocL rfl 23 4 rfl rfl HS0.out (Array.replicate 32 (.int .u8 0)) (by kernel_rfl) 32 (u8v fun _ => 0) (by rfl) (zero_at 32 (.int .u8 0)) ?_; intro b4 w4 hb4 hc4 hs4; have HS4 := Lib.hid hs4; clear hs4)
      | (go_at_call 38; refine (HDp.out _).mono ?_; rintro e w5 ⟨rfl, hw⟩; subst hw)
      | (go_at_call 39; refine (zeros_look D hD40 _ (HP.out.below (HS4.out.out (by simp; omega)))).mono ?_; rintro e w6 ⟨bz, rfl, hbz, hrz, hb6⟩; have HS6 := Lib.hid ((HS4.out.below hb6).add hrz (by have := HS4.out.size; omega) (by have := HS4.out.lt 0 rfl; simp; omega)); clear hrz hb6)
      | (refine wpList_as rfl 32 rfl (.pointer (some ⟨bz, D * 32, none⟩)) ?_ ?_; (· exact ex_idx rfl rfl rfl (fun w => (run_idxZ (z := 32) w Tryd.underlying24 (by kernel_rfl) ⟨bz, 0, none⟩ (by omega)).trans (by rw [add_lit0])) _))
      | (refine wpList_load_part rfl 23 _ rfl bz (D * 32) 32 (u8v (zrN D)) rfl _ (fun i hi => (HS6.out.cell 0 (D * 32 + i) rfl (show D * 32 + i < (D + 1) * 32 by omega)).trans (congrArg some (zr_at hi))) Tryd.underlying23 rfl (by kernel_rfl) _ rfl ?_)
      | (refine wpList_storeH rfl 23 (.tmp 4) (.tmp 33) rfl HS6.out 1 rfl (u8v (zrN D)) rfl rfl (by kernel_rfl) (fun _ _ => rfl) ?_; intro wy hs; have HY := Lib.hid hs; clear hs))
    exact ret_rowTmp rfl (HY.out.row 1 rfl) _ (.int .i64 0) rfl rfl Tryd.underlying23 rfl (by kernel_rfl) rfl ⟨by rw [treeN_zero], HY.out.out (by simp; have := HS4.out.size; omega)⟩
  · obtain ⟨P, hPd⟩ : ∃ P, P = padN (n * 32) x := ⟨_, rfl⟩
    have HPl := Lib.hid (show ∀ i, P i < 256 by rw [hPd]; exact padN_lt HXl.out)
    have HE := Lib.hid (arr1 (levN D P) (treeN D n x) (.int .i64 0) (fun i hi => by rw [tree_lev D n x hDl i hi, hPd]))
    have HUp := Lib.hid (fun d => up_lev d n x (levN d P) (by rw [hPd]; exact fun _ _ => rfl))
    rw [← hPd] at HUp
    have HX2 := Lib.hid (HX.out.congr (f' := u8v P) (fun i hi => by rw [hPd]; simp only [u8v, padN]; rw [if_pos hi]))
    have hc1 := cnt_one D n (by omega) hDl
    have hn00 : ((n : Int) == 0) = false := by rw [beq_eq_false_iff_ne]; omega
    clear hPd HX HXl hDl
    go_enter Tryd.func17, Tryd.ntmps17
    go_wp2_with (first
      | (refine wpList_allocL rfl 23 4 rfl rfl HS0.out (Array.replicate 32 (.int .u8 0)) (by kernel_rfl) 32 (u8v fun _ => 0) (by rfl) (zero_at 32 (.int .u8 0)) ?_; intro b4 w4 hb4 hc4 hs4; have HS4 := Lib.hid hs4; clear hs4)
      | (go_at_call 38; refine (HDp.out _).mono ?_; rintro e w5 ⟨rfl, hw⟩; subst hw)
      | (go_at_call 39; refine (zeros_look D hD40 _ (HP.out.below (HS4.out.out (by simp; omega)))).mono ?_; rintro e w6 ⟨bz, rfl, hbz, hrz, hb6⟩; have HS6 := Lib.hid ((HS4.out.below hb6).add hrz (by have := HS4.out.size; omega) (by have := HS4.out.lt 0 rfl; simp; omega)); have hbzw : w.heap.size ≤ bz := (by have := HS4.out.size; omega); clear hrz hb6))
    go_loopw [0, 35] (fun ch i wr => ∃ (d : Nat) (A' : Option Addr) (c' : Nat), ch = .slice A' (cnt d n) c' ∧ i = .int .i64 (d : Int) ∧ d ≤ D ∧ cnt d n ≤ c' ∧ Rd wr wr.heap.size A' (cnt d n * 32) (u8v (levN d P)) ∧ HS w wr [⟨bz, 23, (D + 1) * 32, u8v zrL⟩, ⟨b4, 23, 32, u8v fun _ => 0⟩]) (fun _ i _ => D - (intOf i).toNat)
    case atStart => exact ⟨0, A, c, rfl, rfl, by omega, hnc, (HX2.out.below (HS6.out.out (by simp; omega))).more HS6.out.size, HS6.out⟩
    case round =>
      clear HS6 HS4 HS0 HX2 HDp
      obtain ⟨d, A', c', rfl, rfl, hd, hcc, hrd, hs⟩ := hrel
      have HR := Lib.hid hrd
      have HSq := Lib.hid hs
      have HWq := Lib.hid (hs.out (by simp; omega))
      have hcp := cnt_pos d n (by omega)
      have hcl := cnt_le d n
      clear hrd hs
      by_cases hdD : d < D
      · have HUd := Lib.hid (HUp.out d)
        obtain ⟨m, hm⟩ : ∃ m, m = cnt d n := ⟨_, rfl⟩
        have hm2 : cnt (d + 1) n = (m + 1) / 2 := by rw [hm]; rfl
        rw [hm2] at HUd
        rw [← hm] at HUd HR hcp hcl hcc ⊢
        clear hm
        go_wp2_with (first
          | (refine wpList_as rfl 41 rfl (.pointer (some ⟨bz, d * 32, none⟩)) ?_ ?_; (· exact ex_idx rfl rfl rfl (fun w => (run_idxZ (z := 32) w Tryd.underlying24 (by kernel_rfl) ⟨bz, 0, none⟩ (by omega)).trans (by rw [add_lit0])) _))
          | (refine wpList_load_part rfl 23 _ rfl bz (d * 32) 32 (u8v (zrN d)) rfl _ (fun i hi => (HSq.out.cell 0 (d * 32 + i) rfl (show d * 32 + i < (D + 1) * 32 by omega)).trans (congrArg some (zr_at hi))) Tryd.underlying23 rfl (by kernel_rfl) _ rfl ?_)
          | (go_at_call 40; refine (up_look m c' A' (levN d P) (zrN d) _ HR.out (levN_lt HPl.out d) (zrN_lt d) hcc hcp (by omega) (HP.out.below HWq.out)).mono ?_; rintro e w7 ⟨b7, rfl, hb7, hr7, hbl7⟩; have HR7 := Lib.hid (hr7.congr (fun i hi => congrArg (fun k : Nat => Value.int .u8 (k : Int)) (HUd.out i hi))); have HS7 := Lib.hid (HSq.out.below hbl7); clear hr7 hbl7))
        go_roundw
        case rel => exact ⟨d + 1, some ⟨b7, 0, none⟩, (m + 1) / 2, congrArg (fun k => Value.slice (some ⟨b7, 0, none⟩) k ((m + 1) / 2)) hm2.symm, by go_num, by omega, by rw [hm2]; exact Nat.le_refl _, by rw [hm2]; exact Rd.of_row HR7.out (Nat.le_refl _) HR7.out.lt, HS7.out⟩
        case measure => simp [intOf]; omega
      · obtain rfl : d = D := by omega
        rw [hc1] at HR hcp hcl hcc ⊢
        obtain ⟨ad, hA, _, _⟩ := HR.out (by omega)
        subst hA
        go_wp2_with (first
          | (refine wpList_as rfl 46 rfl (.pointer (some (ad.add (0 * 32)))) ?_ ?_; (· exact ex_idx rfl rfl rfl (fun w => run_idxZ (z := 32) (k := 0) w Tryd.underlying24 (by kernel_rfl) ad (by omega)) _))
          | (refine wpList_load_rd rfl 23 _ rfl 32 _ Tryd.underlying23 rfl (by kernel_rfl) (ad.add (0 * 32)) rfl (u8v (levN d P)) (fun q hq => by rw [add_add]; exact (HR.out.cell_ (show 0 * 32 + q < 1 * 32 by omega)).trans (by rw [Nat.zero_mul, Nat.zero_add])) ?_)
          | (refine wpList_storeH rfl 23 (.tmp 4) (.tmp 47) rfl HSq.out 1 rfl (u8v (levN d P)) rfl rfl (by kernel_rfl) (fun _ _ => rfl) ?_; intro wy hs; have HY := Lib.hid hs; clear hs))
        exact ret_rowTmp rfl (HY.out.row 1 rfl) _ (.int .i64 0) rfl rfl Tryd.underlying23 rfl (by kernel_rfl) rfl ⟨HE.out, HY.out.out (by simp; omega)⟩
set_option maxHeartbeats 4000000 in
theorem zero_arg (l : Int) (w : World) (hl : l < 0 ∨ 40 < l) :
    Calls Tryd.prog 19 #[.int .i64 l] w fun e w' => e = noRoot 1 ∧ Below w.heap.size w w' := by
  have HS0 := Lib.hid (HS.nil w)
  rcases hl with hl | hl
  all_goals
    go_enter Tryd.func19, Tryd.ntmps19
    go_wp2_with (first
      | (refine wpList_allocL rfl 23 2 rfl rfl HS0.out (Array.replicate 32 (.int .u8 0)) (by kernel_rfl) 32 (u8v fun _ => 0) (by rfl) (zero_at 32 (.int .u8 0)) ?_; intro b4 w4 hb4 hc4 hs4; have HS4 := Lib.hid hs4; clear hs4)
      | (refine wpList_build_as rfl 23 #[] rfl [] rfl (arr 32 (u8v fun _ => 0)) (by kernel_rfl) ?_)
      | (refine wpList_storeH rfl 23 (.tmp 2) (.tmp 10) rfl HS4.out 0 rfl (u8v fun _ => 0) rfl rfl (by kernel_rfl) (fun _ _ => rfl) ?_; intro wy hs; have HY := Lib.hid hs; clear hs))
    exact ret_rowTmp rfl (HY.out.row 0 rfl) _ (.int .i64 1) rfl rfl Tryd.underlying23 rfl (by kernel_rfl) rfl ⟨rfl, HY.out.out (by simp; omega)⟩
set_option maxHeartbeats 4000000 in
theorem zero_ok (d : Nat) (hd : d ≤ 40) (w : World) (hp : ShaPkg w) :
    Calls Tryd.prog 19 #[.int .i64 (d : Int)] w fun e w' => e = .returned (.tuple #[rootV (zrN d), .int .i64 0]) ∧ Below w.heap.size w w' := by
  have HS0 := Lib.hid (HS.nil w)
  have HP := Lib.hid hp
  clear hp
  go_enter Tryd.func19, Tryd.ntmps19
  go_wp2_with (first
    | (refine wpList_allocL rfl 23 2 rfl rfl HS0.out (Array.replicate 32 (.int .u8 0)) (by kernel_rfl) 32 (u8v fun _ => 0) (by rfl) (zero_at 32 (.int .u8 0)) ?_; intro b4 w4 hb4 hc4 hs4; have HS4 := Lib.hid hs4; clear hs4)
    | (go_at_call 39; refine (zeros_look d hd _ (HP.out.below (HS4.out.out (by simp; omega)))).mono ?_; rintro e w6 ⟨bz, rfl, hbz, hrz, hb6⟩; have HS6 := Lib.hid ((HS4.out.below hb6).add hrz (by have := HS4.out.size; omega) (by have := HS4.out.lt 0 rfl; simp; omega)); clear hrz hb6)
    | (refine wpList_as rfl 14 rfl (.pointer (some ⟨bz, d * 32, none⟩)) ?_ ?_; (· exact ex_idx rfl rfl rfl (fun w => (run_idxZ (z := 32) w Tryd.underlying24 (by kernel_rfl) ⟨bz, 0, none⟩ (by omega)).trans (by rw [add_lit0])) _))
    | (refine wpList_load_part rfl 23 _ rfl bz (d * 32) 32 (u8v (zrN d)) rfl _ (fun i hi => (HS6.out.cell 0 (d * 32 + i) rfl (show d * 32 + i < (d + 1) * 32 by omega)).trans (congrArg some (zr_at hi))) Tryd.underlying23 rfl (by kernel_rfl) _ rfl ?_)
    | (refine wpList_storeH rfl 23 (.tmp 2) (.tmp 15) rfl HS6.out 1 rfl (u8v (zrN d)) rfl rfl (by kernel_rfl) (fun _ _ => rfl) ?_; intro wy hs; have HY := Lib.hid hs; clear hs))
  exact ret_rowTmp rfl (HY.out.row 1 rfl) _ (.int .i64 0) rfl rfl Tryd.underlying23 rfl (by kernel_rfl) rfl ⟨rfl, HY.out.out (by simp; have := HS4.out.size; omega)⟩
end Go.Proofs.YtjmbgdldnnmipaaDoor
/- Whether a branch holds; a number that is mixed in; zero roots by the reference. (Printed by a program of mine.) -/
namespace Go.Proofs.YtjmbgdldnnmipaaDoor
set_option maxRecDepth 40000
open Go.RowKit
/-- Are these roots alike? -/
def eqI (n : Nat) (f g : Nat → Int) : Bool := decide (∀ i, i < n → f i = g i)
def eqB (f g : Nat → Nat) : Bool := eqI 32 (fun i => ((f i : Nat) : Int)) (fun i => ((g i : Nat) : Int))
theorem eqB_of {f g : Nat → Nat} (h : ∀ i, i < 32 → f i = g i) : eqB f g = true := by
  unfold eqB eqI
  exact decide_eq_true fun i hi => congrArg (fun k : Nat => (k : Int)) (h i hi)
namespace MerkleHold
theorem ent_rtwo (vs : Array Value) (w : World) : (callFunc 46 vs).run Tryd.prog w = .ok (.enter 46 vs) w := by kernel_rfl
theorem ent_up (vs : Array Value) (w : World) : (callFunc 37 vs).run Tryd.prog w = .ok (.enter 37 vs) w := by kernel_rfl
theorem and1U (m r : Nat) (h : m < 18446744073709551616) (hr : m % 2 = r) (w : World) : (binOp .and 25 (.int .u64 (m : Int)) (.int .u64 1)).run Tryd.prog w = .ok (.int .u64 (r : Int)) w := by
  have h1 : (BitVec.ofInt 64 (m : Int)).toNat = m := by
    rw [BitVec.ofInt_natCast, BitVec.toNat_ofNat]; exact Nat.mod_eq_of_lt (by omega)
  have h2 : bits .and .u64 (m : Int) 1 = (r : Int) := by
    show IntKind.u64.wrap ((BitVec.ofInt 64 (m : Int) &&& BitVec.ofInt 64 (1 : Int)).toNat : Int) = _
    rw [BitVec.toNat_and, h1, show (BitVec.ofInt 64 (1 : Int)).toNat = 1 by rfl, Nat.and_one_is_mod, hr, IntKind.wrap_u64]
    omega
  simp [go_sem, h2]
theorem shrU (p k : Nat) (_hp : p < 18446744073709551616) (hk : k < 64) (w : World) : (binOp .shr 25 (.int .u64 (p : Int)) (.int .u64 (k : Int))).run Tryd.prog w = .ok (.int .u64 ((p / 2 ^ k : Nat) : Int)) w := by
  simp [go_sem]
  try omega
theorem shr1U (m : Nat) (hp : m < 18446744073709551616) (w : World) : (binOp .shr 25 (.int .u64 (m : Int)) (.int .u64 1)).run Tryd.prog w = .ok (.int .u64 ((m / 2 : Nat) : Int)) w := by
  have := shrU m 1 hp (by omega) w
  rwa [Nat.pow_one] at this
section
variable {P : Program} {ops : Array Oper} {B : Nat} {w0 : World} {o : Oper} {lk : Tmp → SF} {ty rt : TypeId}
theorem opOb_leN (a c : Nat) (b : Bool) (hb : decide ((a : Int) ≤ (c : Int)) = b) {xo yo : Operand} (hg : o.guard = none) (hop : o.op = .binOp .leq ty xo yo rt) (hx : OpK lk xo (.int .i64 (a : Int))) (hy : OpK lk yo (.int .i64 (c : Int))) : opOb P ops B w0 o (SF.is (.bool b)) lk := by
  subst hb
  exact opOb_bin rfl hg hop hx hy (fun w => by simp [go_sem])
end
end MerkleHold
open MerkleHold MerkleFn in
set_option maxHeartbeats 8000000 in
theorem holds_look (n c : Nat) (A : Option Addr) (x y r : Nat → Nat) (p : Nat) (w : World) (hb : Rd w w.heap.size A (n * 32) (u8v x)) (hx : ∀ i, x i < 256) (hy : ∀ i, y i < 256) (hnc : n ≤ c) (hn : n ≤ 64) (hp : p < 18446744073709551616) (hpk : ShaPkg w) :
    Calls Tryd.prog 15 #[rootV y, .slice A n c, .int .u64 (p : Int), rootV r] w fun e w' => e = .returned (.bool (eqB (upN y x p n) r)) ∧ Below w.heap.size w w' := by
  have HX := Lib.hid hb
  have HXl := Lib.hid hx
  have HYl := Lib.hid hy
  have HP := Lib.hid hpk
  have HS0 := Lib.hid (HS.nil w)
  clear hb hx hy hpk
  go_enter Tryd.func15, Tryd.ntmps15
  go_wp2_with (first
    | (refine wpList_boxL rfl 23 _ 4 rfl rfl HS0.out 32 (u8v y) rfl ?_; intro b4 w4 hb4 hc4 hs; have HS4 := Lib.hid hs; clear hs)
    | (refine wpList_boxL rfl 23 _ 7 rfl rfl HS4.out 32 (u8v r) rfl ?_; intro b7 wa hb7 hc7 hs; have HA := Lib.hid hs; clear hs))
  go_loopw [2, 16] (fun pl i wr => ∃ k : Nat, pl = .int .u64 ((p / 2 ^ k : Nat) : Int) ∧ i = .int .i64 (k : Int) ∧ k ≤ n ∧ HS w wr [⟨b7, 23, 32, u8v r⟩, ⟨b4, 23, 32, u8v (upN y x p k)⟩]) (fun _ i _ => n - (intOf i).toNat)
  case atStart => exact ⟨0, by simp, rfl, by omega, HA.out⟩
  case round =>
    clear HA HS4 HS0
    obtain ⟨k, rfl, rfl, hk, hs⟩ := hrel
    have HSq := Lib.hid hs
    clear hs
    by_cases hkn : k < n
    · obtain ⟨ad, hA, _, _⟩ := HX.out (by omega)
      subst hA
      obtain ⟨m, hm⟩ : ∃ m, m = p / 2 ^ k := ⟨_, rfl⟩
      have hm64 : m < 18446744073709551616 := by rw [hm]; exact Nat.lt_of_le_of_lt (Nat.div_le_self _ _) hp
      by_cases h1 : p / 2 ^ k % 2 = 1
      · have HV := Lib.hid (show upN y x p (k + 1) = shaB (catN 32 (fun q => x (k * 32 + q)) (upN y x p k)) 64 by rw [upN, if_pos h1])
        have hr : m % 2 = 1 := by rw [hm]; exact h1
        have HM2 := Lib.hid (show ((p / 2 ^ (k + 1) : Nat) : Int) = ((m / 2 : Nat) : Int) by rw [hm, Nat.pow_succ, ← Nat.div_div_eq_div_mul])
        rw [← hm]
        clear hm h1
        go_wp2_with (first
          | (refine wpList_as rfl 18 rfl (.pointer (some (ad.add (k * 32)))) ?_ ?_; (· exact ex_idx rfl rfl rfl (fun w => run_idxZ (z := 32) w Tryd.underlying24 (by kernel_rfl) ad (by omega)) _))
          | (refine wpList_load_rd rfl 23 _ rfl 32 _ Tryd.underlying23 rfl (by kernel_rfl) (ad.add (k * 32)) rfl (u8v (fun q => x (k * 32 + q))) (fun q hq => by rw [add_add]; exact ((HX.out.below (HSq.out.out (by simp; omega))).cell_ (show k * 32 + q < n * 32 by omega))) ?_)
          | (refine wpList_allocL rfl 23 10 rfl rfl HSq.out (Array.replicate 32 (.int .u8 0)) (by kernel_rfl) 32 (u8v fun _ => 0) (by rfl) (zero_at 32 (.int .u8 0)) ?_; intro b10 w10 hb10 hc10 hs; have HS10 := Lib.hid hs; clear hs)
          | (refine wpList_storeH rfl 23 (.tmp 10) (.tmp 19) rfl HS10.out 0 rfl (u8v (fun q => x (k * 32 + q))) rfl rfl (by kernel_rfl) (fun _ _ => rfl) ?_; intro w11 hs; have HS11 := Lib.hid hs; clear hs)
          | (refine wpList_as rfl 21 rfl (.int .u64 1) ?_ ?_; (· exact ex_bin rfl rfl rfl rfl (fun w => and1U m 1 hm64 hr w) _))
          | (refine wpList_load_rd rfl 23 _ rfl 32 _ Tryd.underlying23 rfl (by kernel_rfl) ⟨b10, 0, none⟩ rfl (u8v (fun q => x (k * 32 + q))) (fun i hi => by rw [add_lit0]; exact HS11.out.cell 0 i rfl hi) ?_)
          | (refine wpList_load_rd rfl 23 _ rfl 32 _ Tryd.underlying23 rfl (by kernel_rfl) ⟨b4, 0, none⟩ rfl (u8v (upN y x p k)) (fun i hi => by rw [add_lit0]; exact HS11.out.cell 2 i rfl hi) ?_)
          | (go_at_call 18; refine (two_any (fun q => x (k * 32 + q)) (upN y x p k) (fun _ => HXl.out _) (upN_lt HYl.out p k) _ (HP.out.below (HS11.out.out (by simp; omega)))).mono ?_; rintro e w12 ⟨rfl, hb⟩; have HS12 := Lib.hid (HS11.out.below hb); clear hb)
          | (refine wpList_storeH rfl 23 (.tmp 4) (.tmp 25) rfl HS12.out 2 rfl (u8v (shaB (catN 32 (fun q => x (k * 32 + q)) (upN y x p k)) 64)) rfl rfl (by kernel_rfl) (fun _ _ => rfl) ?_; intro w13 hs; rw [← HV.out] at hs; have HS13 := Lib.hid hs; clear hs)
          | (refine wpList_as rfl 30 rfl (.int .u64 ((m / 2 : Nat) : Int)) ?_ ?_; (· exact ex_bin rfl rfl rfl rfl (fun w => shr1U m hm64 w) _)))
        go_roundw
        case rel => exact ⟨k + 1, by rw [HM2.out]; exact congrArg (Value.int .u64) (by omega), by go_num, by omega, HS13.out.drop (show w.heap.size ≤ b10 by omega)⟩
        case measure => simp [intOf]; omega
      · have HV := Lib.hid (show upN y x p (k + 1) = shaB (catN 32 (upN y x p k) (fun q => x (k * 32 + q))) 64 by rw [upN, if_neg h1])
        have hr : m % 2 = 0 := by rw [hm]; omega
        have HM2 := Lib.hid (show ((p / 2 ^ (k + 1) : Nat) : Int) = ((m / 2 : Nat) : Int) by rw [hm, Nat.pow_succ, ← Nat.div_div_eq_div_mul])
        rw [← hm]
        clear hm h1
        go_wp2_with (first
          | (refine wpList_as rfl 18 rfl (.pointer (some (ad.add (k * 32)))) ?_ ?_; (· exact ex_idx rfl rfl rfl (fun w => run_idxZ (z := 32) w Tryd.underlying24 (by kernel_rfl) ad (by omega)) _))
          | (refine wpList_load_rd rfl 23 _ rfl 32 _ Tryd.underlying23 rfl (by kernel_rfl) (ad.add (k * 32)) rfl (u8v (fun q => x (k * 32 + q))) (fun q hq => by rw [add_add]; exact ((HX.out.below (HSq.out.out (by simp; omega))).cell_ (show k * 32 + q < n * 32 by omega))) ?_)
          | (refine wpList_allocL rfl 23 10 rfl rfl HSq.out (Array.replicate 32 (.int .u8 0)) (by kernel_rfl) 32 (u8v fun _ => 0) (by rfl) (zero_at 32 (.int .u8 0)) ?_; intro b10 w10 hb10 hc10 hs; have HS10 := Lib.hid hs; clear hs)
          | (refine wpList_storeH rfl 23 (.tmp 10) (.tmp 19) rfl HS10.out 0 rfl (u8v (fun q => x (k * 32 + q))) rfl rfl (by kernel_rfl) (fun _ _ => rfl) ?_; intro w11 hs; have HS11 := Lib.hid hs; clear hs)
          | (refine wpList_as rfl 21 rfl (.int .u64 0) ?_ ?_; (· exact ex_bin rfl rfl rfl rfl (fun w => and1U m 0 hm64 hr w) _))
          | (refine wpList_load_rd rfl 23 _ rfl 32 _ Tryd.underlying23 rfl (by kernel_rfl) ⟨b10, 0, none⟩ rfl (u8v (fun q => x (k * 32 + q))) (fun i hi => by rw [add_lit0]; exact HS11.out.cell 0 i rfl hi) ?_)
          | (refine wpList_load_rd rfl 23 _ rfl 32 _ Tryd.underlying23 rfl (by kernel_rfl) ⟨b4, 0, none⟩ rfl (u8v (upN y x p k)) (fun i hi => by rw [add_lit0]; exact HS11.out.cell 2 i rfl hi) ?_)
          | (go_at_call 18; refine (two_any (upN y x p k) (fun q => x (k * 32 + q)) (upN_lt HYl.out p k) (fun _ => HXl.out _) _ (HP.out.below (HS11.out.out (by simp; omega)))).mono ?_; rintro e w12 ⟨rfl, hb⟩; have HS12 := Lib.hid (HS11.out.below hb); clear hb)
          | (refine wpList_storeH rfl 23 (.tmp 4) (.tmp 28) rfl HS12.out 2 rfl (u8v (shaB (catN 32 (upN y x p k) (fun q => x (k * 32 + q))) 64)) rfl rfl (by kernel_rfl) (fun _ _ => rfl) ?_; intro w13 hs; rw [← HV.out] at hs; have HS13 := Lib.hid hs; clear hs)
          | (refine wpList_as rfl 30 rfl (.int .u64 ((m / 2 : Nat) : Int)) ?_ ?_; (· exact ex_bin rfl rfl rfl rfl (fun w => shr1U m hm64 w) _)))
        go_roundw
        case rel => exact ⟨k + 1, by rw [HM2.out]; exact congrArg (Value.int .u64) (by omega), by go_num, by omega, HS13.out.drop (show w.heap.size ≤ b10 by omega)⟩
        case measure => simp [intOf]; omega
    · obtain rfl : k = n := by omega
      go_wp2_with (first
        | (refine wpList_load_rd rfl 23 _ rfl 32 _ Tryd.underlying23 rfl (by kernel_rfl) ⟨b4, 0, none⟩ rfl (u8v (upN y x p k)) (fun i hi => by rw [add_lit0]; exact HSq.out.cell 1 i rfl hi) ?_)
        | (refine wpList_load_rd rfl 23 _ rfl 32 _ Tryd.underlying23 rfl (by kernel_rfl) ⟨b7, 0, none⟩ rfl (u8v r) (fun i hi => by rw [add_lit0]; exact HSq.out.cell 0 i rfl hi) ?_)
        | (refine wpList_eqArr rfl rfl 5 32 .u8 (fun i => ((upN y x p k i : Nat) : Int)) (fun i => ((r i : Nat) : Int)) (eqB (upN y x p k) r) Tryd.underlying23 Tryd.underlying5 (by kernel_rfl) (by kernel_rfl) rfl rfl rfl ?_))
      go_ret
      exact ⟨rfl, HSq.out.out (by simp; omega)⟩
open MerkleHold in
theorem holds_lookF (n c : Nat) (A : Option Addr) (y r : Nat → Nat) (p : Nat) (w : World) (hn : 64 < n) :
    Calls Tryd.prog 15 #[rootV y, .slice A n c, .int .u64 (p : Int), rootV r] w fun e w' => e = .returned (.bool false) ∧ Below w.heap.size w w' := by
  have HS0 := Lib.hid (HS.nil w)
  go_enter Tryd.func15, Tryd.ntmps15
  go_wp2_with (first
    | (refine wpList_boxL rfl 23 _ 4 rfl rfl HS0.out 32 (u8v y) rfl ?_; intro b4 w4 hb4 hc4 hs; have HS4 := Lib.hid hs; clear hs)
    | (refine wpList_boxL rfl 23 _ 7 rfl rfl HS4.out 32 (u8v r) rfl ?_; intro b7 wa hb7 hc7 hs; have HA := Lib.hid hs; clear hs))
  go_ret
  exact ⟨rfl, HA.out.out (by simp; omega)⟩
open MerkleHold in
set_option maxHeartbeats 8000000 in
theorem up_ref (n c : Nat) (A : Option Addr) (x y : Nat → Nat) (p : Nat) (w : World) (hb : Rd w w.heap.size A (n * 32) (u8v x)) (hx : ∀ i, x i < 256) (hy : ∀ i, y i < 256) (hnc : n ≤ c) (hn : n ≤ 64) (hp : p < 18446744073709551616) (hpk : RefPkg w) :
    Calls Tryd.prog 37 #[rootV y, .slice A n c, .int .u64 (p : Int)] w fun e w' => e = .returned (rootV (upN y x p n)) ∧ Below w.heap.size w w' := by
  have HX := Lib.hid hb
  have HXl := Lib.hid hx
  have HYl := Lib.hid hy
  have HP := Lib.hid hpk
  have HS0 := Lib.hid (HS.nil w)
  clear hb hx hy hpk
  go_enter Tryd.func37, Tryd.ntmps37
  go_wp2_with (first
    | (refine wpList_boxL rfl 23 _ 3 rfl rfl HS0.out 32 (u8v y) rfl ?_; intro b3 w3 hb3 hc3 hs; have HS3 := Lib.hid hs; clear hs)
    | (refine wpList_allocL rfl 23 6 rfl rfl HS3.out (Array.replicate 32 (.int .u8 0)) (by kernel_rfl) 32 (u8v fun _ => 0) (by rfl) (zero_at 32 (.int .u8 0)) ?_; intro b6 w6 hb6 hc6 hs; have HS6 := Lib.hid hs; clear hs))
  go_loopw [7] (fun i wr => ∃ k : Nat, i = .int .i64 (k : Int) ∧ k ≤ n ∧ HS w wr [⟨b6, 23, 32, u8v fun _ => 0⟩, ⟨b3, 23, 32, u8v (upN y x p k)⟩]) (fun i _ => n - (intOf i).toNat)
  case atStart => exact ⟨0, rfl, by omega, HS6.out⟩
  case round =>
    clear HS6 HS3 HS0
    obtain ⟨k, rfl, hk, hs⟩ := hrel
    have HSq := Lib.hid hs
    have HW := Lib.hid (hs.out (by simp; omega))
    clear hs
    by_cases hkn : k < n
    · obtain ⟨ad, hA, _, _⟩ := HX.out (by omega)
      subst hA
      obtain ⟨m, hm⟩ : ∃ m, m = p / 2 ^ k := ⟨_, rfl⟩
      have HM := Lib.hid hm
      have hm64 : m < 18446744073709551616 := by rw [hm]; exact Nat.lt_of_le_of_lt (Nat.div_le_self _ _) hp
      by_cases h1 : p / 2 ^ k % 2 = 1
      · have HV := Lib.hid (show upN y x p (k + 1) = shaB (catN 32 (fun q => x (k * 32 + q)) (upN y x p k)) 64 by rw [upN, if_pos h1])
        have hr : m % 2 = 1 := by rw [hm]; exact h1
        clear hm
        go_wp2_with (first
          | (refine wpList_as rfl 16 rfl (.int .u64 (k : Int)) ?_ ?_; (· exact ex_cnv rfl rfl (fun w => TreeRef.cvu k (by omega) w) _))
          | (refine wpList_as rfl 17 rfl (.int .u64 (m : Int)) ?_ ?_; (· rw [HM.out]; exact ex_bin rfl rfl rfl rfl (fun w => shrU p k hp (by omega) w) _))
          | (refine wpList_as rfl 18 rfl (.int .u64 1) ?_ ?_; (· exact ex_bin rfl rfl rfl rfl (fun w => and1U m 1 hm64 hr w) _)))
        refine wp_region_factsS (l := [_, _, _, _, _, _]) (tl := []) (B := wr.heap.size) (w0 := wr) [SF.is (.slice (some ad) (n) (c)), SF.is (.int .i64 ((k : Nat) : Int)), SF.is (.pointer (some (ad.add (k * 32)))), SF.is (rootV (fun q => x (k * 32 + q))), SF.is (rootV (upN y x p k)), SF.is (rootV (shaB (catN 32 (fun q => x (k * 32 + q)) (upN y x p k)) 64))] (by kernel_rfl) (by kernel_rfl) rfl (Nat.le_refl _) (Below.refl _ _) ⟨?_, ?_, ?_, ?_, ?_, ?_, trivial⟩ ?_
        · exact (opOb_move _ rfl (.inl rfl) rfl)
        · exact (opOb_move _ rfl (.inl rfl) rfl)
        · exact opOb_idx rfl rfl (OpK.tmp rfl) (OpK.tmp rfl) (fun w => run_idxZ (z := 32) w Tryd.underlying24 (by kernel_rfl) ad (by omega))
        · exact opOb_ld rfl rfl (OpK.tmp rfl) (fun w' hb => run_loadAt_rd w' (ad.add (k * 32)) 32 23 _ (u8v (fun q => x (k * 32 + q))) (fun i hi => by rw [add_add]; exact ((HX.out.below (HW.out.trans (hb.mono HW.out.size))).cell_ (show k * 32 + i < n * 32 by omega))) Tryd.underlying23 rfl (by kernel_rfl))
        · exact opOb_ld rfl rfl (OpK.tmp rfl) (fun w' hb => ld_all (HSq.out.row 1 rfl) (HSq.out.row 1 rfl).lt Tryd.underlying23 rfl (by kernel_rfl) w' hb)
        · exact opOb_fn2 ent_rtwo rfl rfl (OpK.tmp rfl) (OpK.tmp rfl) (fun w' hb => (refTwo_any (fun q => x (k * 32 + q)) (upN y x p k) (fun _ => HXl.out _) (upN_lt HYl.out p k) w' (HP.out.below (HW.out.trans (hb.mono HW.out.size)))).mono fun e w'' ⟨he, hb2⟩ => ⟨_, he, rfl, hb2⟩)
        · intro w' hb
          simp only [fin, SF.is, forall_eq]
          simp only [Act.put, List.setIfInBounds_toArray, List.set_cons_succ, List.set_cons_zero]
          have hs := HSq.out.below hb
          refine wp_storeL 23 (.tmp 3) (.tmp 25) rfl hs 1 rfl (u8v (shaB (catN 32 (fun q => x (k * 32 + q)) (upN y x p k)) 64)) rfl rfl (by kernel_rfl) (fun _ _ => rfl) ?_
          clear hs hb
          intro wy hs
          rw [← HV.out] at hs
          have HZ := Lib.hid hs
          clear hs
          simp only [seqWp, Act.put]
          go_wp2_with fail
          go_roundw
          case rel => exact ⟨k + 1, by go_num, by omega, HZ.out⟩
          case measure => simp [intOf]; omega
      · have HV := Lib.hid (show upN y x p (k + 1) = shaB (catN 32 (upN y x p k) (fun q => x (k * 32 + q))) 64 by rw [upN, if_neg h1])
        have hr : m % 2 = 0 := by rw [hm]; omega
        clear hm
        go_wp2_with (first
          | (refine wpList_as rfl 16 rfl (.int .u64 (k : Int)) ?_ ?_; (· exact ex_cnv rfl rfl (fun w => TreeRef.cvu k (by omega) w) _))
          | (refine wpList_as rfl 17 rfl (.int .u64 (m : Int)) ?_ ?_; (· rw [HM.out]; exact ex_bin rfl rfl rfl rfl (fun w => shrU p k hp (by omega) w) _))
          | (refine wpList_as rfl 18 rfl (.int .u64 0) ?_ ?_; (· exact ex_bin rfl rfl rfl rfl (fun w => and1U m 0 hm64 hr w) _)))
        refine wp_region_factsS (l := [_, _, _, _, _, _]) (tl := []) (B := wr.heap.size) (w0 := wr) [SF.is (rootV (upN y x p k)), SF.is (.slice (some ad) (n) (c)), SF.is (.int .i64 ((k : Nat) : Int)), SF.is (.pointer (some (ad.add (k * 32)))), SF.is (rootV (fun q => x (k * 32 + q))), SF.is (rootV (shaB (catN 32 (upN y x p k) (fun q => x (k * 32 + q))) 64))] (by kernel_rfl) (by kernel_rfl) rfl (Nat.le_refl _) (Below.refl _ _) ⟨?_, ?_, ?_, ?_, ?_, ?_, trivial⟩ ?_
        · exact opOb_ld rfl rfl (OpK.tmp rfl) (fun w' hb => ld_all (HSq.out.row 1 rfl) (HSq.out.row 1 rfl).lt Tryd.underlying23 rfl (by kernel_rfl) w' hb)
        · exact (opOb_move _ rfl (.inl rfl) rfl)
        · exact (opOb_move _ rfl (.inl rfl) rfl)
        · exact opOb_idx rfl rfl (OpK.tmp rfl) (OpK.tmp rfl) (fun w => run_idxZ (z := 32) w Tryd.underlying24 (by kernel_rfl) ad (by omega))
        · exact opOb_ld rfl rfl (OpK.tmp rfl) (fun w' hb => run_loadAt_rd w' (ad.add (k * 32)) 32 23 _ (u8v (fun q => x (k * 32 + q))) (fun i hi => by rw [add_add]; exact ((HX.out.below (HW.out.trans (hb.mono HW.out.size))).cell_ (show k * 32 + i < n * 32 by omega))) Tryd.underlying23 rfl (by kernel_rfl))
        · exact opOb_fn2 ent_rtwo rfl rfl (OpK.tmp rfl) (OpK.tmp rfl) (fun w' hb => (refTwo_any (upN y x p k) (fun q => x (k * 32 + q)) (upN_lt HYl.out p k) (fun _ => HXl.out _) w' (HP.out.below (HW.out.trans (hb.mono HW.out.size)))).mono fun e w'' ⟨he, hb2⟩ => ⟨_, he, rfl, hb2⟩)
        · intro w' hb
          simp only [fin, SF.is, forall_eq]
          simp only [Act.put, List.setIfInBounds_toArray, List.set_cons_succ, List.set_cons_zero]
          have hs := HSq.out.below hb
          refine wp_storeL 23 (.tmp 3) (.tmp 31) rfl hs 1 rfl (u8v (shaB (catN 32 (upN y x p k) (fun q => x (k * 32 + q))) 64)) rfl rfl (by kernel_rfl) (fun _ _ => rfl) ?_
          clear hs hb
          intro wy hs
          rw [← HV.out] at hs
          have HZ := Lib.hid hs
          clear hs
          simp only [seqWp, Act.put]
          go_wp2_with fail
          go_roundw
          case rel => exact ⟨k + 1, by go_num, by omega, HZ.out⟩
          case measure => simp [intOf]; omega
    · obtain rfl : k = n := by omega
      go_wp2_with (first
        | (refine wpList_load_rd rfl 23 _ rfl 32 _ Tryd.underlying23 rfl (by kernel_rfl) ⟨b3, 0, none⟩ rfl (u8v (upN y x p k)) (fun i hi => by rw [add_lit0]; exact HSq.out.cell 1 i rfl hi) ?_)
        | (refine wpList_storeH rfl 23 (.tmp 6) (.tmp 32) rfl HSq.out 0 rfl (u8v (upN y x p k)) rfl rfl (by kernel_rfl) (fun _ _ => rfl) ?_; intro wy hs; have HY := Lib.hid hs; clear hs))
      exact ret_rowIs rfl (HY.out.row 0 rfl) _ rfl Tryd.underlying23 rfl (by kernel_rfl) rfl ⟨rfl, HY.out.out (by simp; omega)⟩
open MerkleHold in
set_option maxHeartbeats 4000000 in
theorem holds_ref (n c : Nat) (A : Option Addr) (x y r : Nat → Nat) (p : Nat) (w : World) (hb : Rd w w.heap.size A (n * 32) (u8v x)) (hx : ∀ i, x i < 256) (hy : ∀ i, y i < 256) (hnc : n ≤ c) (hn : n ≤ 64) (hp : p < 18446744073709551616) (hpk : RefPkg w) :
    Calls Tryd.prog 16 #[rootV y, .slice A n c, .int .u64 (p : Int), rootV r] w fun e w' => e = .returned (.bool (eqB (upN y x p n) r)) ∧ Below w.heap.size w w' := by
  have HX := Lib.hid hb
  have HXl := Lib.hid hx
  have HYl := Lib.hid hy
  have HPR := Lib.hid hpk
  have HS0 := Lib.hid (HS.nil w)
  clear hb hx hy hpk
  go_enter Tryd.func16, Tryd.ntmps16
  go_wp2_with (first
    | (refine wpList_boxL rfl 23 _ 4 rfl rfl HS0.out 32 (u8v y) rfl ?_; intro b4 w4 hb4 hc4 hs; have HS4 := Lib.hid hs; clear hs)
    | (refine wpList_boxL rfl 23 _ 7 rfl rfl HS4.out 32 (u8v r) rfl ?_; intro b7 wa hb7 hc7 hs; have HA := Lib.hid hs; clear hs))
  have HW := Lib.hid (HA.out.out (by simp; omega))
  refine wp_region_facts (B := wa.heap.size) (w0 := wa) [SF.is (.slice (A) (n) (c)), SF.is (.int .i64 ((n : Nat) : Int)), SF.is (.bool true), SF.is (.bool true), SF.is (rootV y), SF.is (.slice (A) (n) (c)), SF.is (.int .u64 ((p : Nat) : Int)), SF.is (rootV (upN y x p n)), SF.is (rootV r), SF.is (.bool (eqB (upN y x p n) r)), SF.is (.bool (eqB (upN y x p n) r)), SF.is (.bool (eqB (upN y x p n) r))] (by kernel_rfl) (by kernel_rfl) rfl (Nat.le_refl _) (Below.refl _ _) ⟨?_, ?_, ?_, ?_, ?_, ?_, ?_, ?_, ?_, ?_, ?_, ?_, trivial⟩ ?_
  · exact (opOb_move _ rfl (.inl rfl) rfl)
  · exact opOb_len Tryd.underlying24 rfl rfl (OpK.tmp rfl)
  · exact opOb_leN n 64 true (by simp; omega) rfl rfl (OpK.tmp rfl) OpK.const
  · exact (opOb_move _ rfl (.inl rfl) rfl)
  · exact opOb_on 12 rfl rfl (opOb_ld rfl rfl (OpK.tmp rfl) (fun w' hb => ld_all (HA.out.row 1 rfl) (HA.out.row 1 rfl).lt Tryd.underlying23 rfl (by kernel_rfl) w' hb))
  · exact opOb_on 12 rfl rfl ((opOb_move _ rfl (.inl rfl) rfl))
  · exact opOb_on 12 rfl rfl ((opOb_move _ rfl (.inl rfl) rfl))
  · exact opOb_on 12 rfl rfl (opOb_fn3 ent_up rfl rfl (OpK.tmp rfl) (OpK.tmp rfl) (OpK.tmp rfl) (fun w' hb => (up_ref n c A x y p w' ((HX.out.below (HW.out.trans (hb.mono HW.out.size))).more (Nat.le_trans HW.out.size hb.size)) HXl.out HYl.out hnc hn hp (HPR.out.below (HW.out.trans (hb.mono HW.out.size)))).mono fun e w'' ⟨he, hb2⟩ => ⟨_, he, rfl, hb2⟩))
  · exact opOb_on 12 rfl rfl (opOb_ld rfl rfl (OpK.tmp rfl) (fun w' hb => ld_all (HA.out.row 0 rfl) (HA.out.row 0 rfl).lt Tryd.underlying23 rfl (by kernel_rfl) w' hb))
  · exact opOb_on 12 rfl rfl (opOb_eqArr 5 32 .u8 (fun i => ((upN y x p n i : Nat) : Int)) (fun i => ((r i : Nat) : Int)) (eqB (upN y x p n) r) Tryd.underlying23 Tryd.underlying5 (by kernel_rfl) (by kernel_rfl) rfl rfl rfl (OpK.tmp rfl) (OpK.tmp rfl))
  · exact opOb_pickT rfl rfl rfl (OpK.tmp rfl)
  · exact (opOb_move _ rfl (.inr rfl) rfl)
  · intro w' hb
    simp only [fin, SF.is, forall_eq]
    simp only [Act.put, List.setIfInBounds_toArray, List.set_cons_succ, List.set_cons_zero]
    have hend := HW.out.trans (hb.mono HW.out.size)
    go_wp2_with fail
    go_ret
    exact ⟨rfl, hend⟩
open MerkleHold in
set_option maxHeartbeats 4000000 in
theorem holds_refF (n c : Nat) (A : Option Addr) (y r : Nat → Nat) (p : Nat) (w : World) (hn : 64 < n) :
    Calls Tryd.prog 16 #[rootV y, .slice A n c, .int .u64 (p : Int), rootV r] w fun e w' => e = .returned (.bool false) ∧ Below w.heap.size w w' := by
  have HS0 := Lib.hid (HS.nil w)
  go_enter Tryd.func16, Tryd.ntmps16
  go_wp2_with (first
    | (refine wpList_boxL rfl 23 _ 4 rfl rfl HS0.out 32 (u8v y) rfl ?_; intro b4 w4 hb4 hc4 hs; have HS4 := Lib.hid hs; clear hs)
    | (refine wpList_boxL rfl 23 _ 7 rfl rfl HS4.out 32 (u8v r) rfl ?_; intro b7 wa hb7 hc7 hs; have HA := Lib.hid hs; clear hs))
  have HW := Lib.hid (HA.out.out (by simp; omega))
  refine wp_region_facts (B := wa.heap.size) (w0 := wa) [SF.is (.slice (A) (n) (c)), SF.is (.int .i64 ((n : Nat) : Int)), SF.is (.bool false), SF.is (.bool false), SF.is undef, SF.is undef, SF.is undef, SF.is undef, SF.is undef, SF.is undef, SF.is (.bool false), SF.is (.bool false)] (by kernel_rfl) (by kernel_rfl) rfl (Nat.le_refl _) (Below.refl _ _) ⟨?_, ?_, ?_, ?_, ?_, ?_, ?_, ?_, ?_, ?_, ?_, ?_, trivial⟩ ?_
  · exact (opOb_move _ rfl (.inl rfl) rfl)
  · exact opOb_len Tryd.underlying24 rfl rfl (OpK.tmp rfl)
  · exact opOb_leN n 64 false (by simp; omega) rfl rfl (OpK.tmp rfl) OpK.const
  · exact (opOb_move _ rfl (.inl rfl) rfl)
  · exact opOb_off 12 rfl rfl (by simp)
  · exact opOb_off 12 rfl rfl (by simp)
  · exact opOb_off 12 rfl rfl (by simp)
  · exact opOb_off 12 rfl rfl (by simp)
  · exact opOb_off 12 rfl rfl (by simp)
  · exact opOb_off 12 rfl rfl (by simp)
  · exact opOb_pickF rfl rfl rfl (OpK.const)
  · exact (opOb_move _ rfl (.inr rfl) rfl)
  · intro w' hb
    simp only [fin, SF.is, forall_eq]
    simp only [Act.put, List.setIfInBounds_toArray, List.set_cons_succ, List.set_cons_zero]
    have hend := HW.out.trans (hb.mono HW.out.size)
    go_wp2_with fail
    go_ret
    exact ⟨rfl, hend⟩
end Go.Proofs.YtjmbgdldnnmipaaDoor
/- Numbers out of bytes, by the program and by the reference; flips and bits. -/
namespace Go.Proofs.YtjmbgdldnnmipaaDoor
set_option maxRecDepth 40000
open Go.RowKit
/-- A number is loaded from where it lies. -/
theorem run_ld1 {P : Program} (w : World) (ad : Addr) (ty : TypeId) (k : IntKind) (v : Value) (h : w.cell? ad = some v) (hu : P.underlying ty = some (.int k)) : (Instr.loadAt ty (.pointer (some ad))).run P w = .ok v w := by
  simp only [Instr.loadAt, Instr.sureAddr, Sem.run_bind, Sem.run_pure, Result.andThen]
  have hagg : (isAgg ty).run P w = .ok false w := by
    unfold isAgg
    rw [Sem.run_bind, run_underlying hu w]
    rfl
  simp [loadVar, Sem.run_bind, hagg, h]
theorem ex_ld1 {P : Program} {w : World} {o : Oper} {a : Act} {ty : TypeId} {x : Operand} {ad : Addr} {v : Value} (k : IntKind) (ho : o.op = .load ty x) (hx : a.eval x = .pointer (some ad)) (hu : P.underlying ty = some (.int k)) (h : w.cell? ad = some v) : (execOp a.eval o).run P w = .ok (.value v) w := by
  unfold execOp
  rw [ho]
  simp only [hx]
  simp [run_ld1 w ad ty k v h hu]
namespace ShufFn
theorem or_add (a b k : Nat) (ha : a < 2 ^ k) : a ||| b * 2 ^ k = a + b * 2 ^ k := by
  rw [Nat.or_comm, Nat.mul_comm, ← Nat.two_pow_add_eq_or_of_lt ha, Nat.add_comm]
theorem shlB (b k : Nat) (hb : b < 256) (hk : k < 8) (w : World) : (binOp .shl 25 (.int .u64 (b : Int)) (.int .i64 (8 * (k : Int)))).run Tryd.prog w = .ok (.int .u64 ((b * 2 ^ (8 * k) : Nat) : Int)) w := by
  have h : b * 2 ^ (8 * k) < 18446744073709551616 := by
    have h1 : 2 ^ (8 * k) ≤ 2 ^ 56 := Nat.pow_le_pow_right (by omega) (by omega)
    have h2 : b * 2 ^ (8 * k) ≤ 255 * 2 ^ (8 * k) := Nat.mul_le_mul_right _ (by omega)
    omega
  have e : ((b * 2 ^ (8 * k) : Nat) : Int) = (b : Int) * (2 : Int) ^ (8 * k) := by simp
  rw [e]
  rw [show (b * 2 ^ (8 * k) < 18446744073709551616) = (((b * 2 ^ (8 * k) : Nat) : Int) < 18446744073709551616) by simp only [eq_iff_iff]; omega, e] at h
  have h0 : (0 : Int) ≤ (b : Int) * (2 : Int) ^ (8 * k) := by rw [← e]; exact Int.natCast_nonneg _
  have h8 : (8 * (k : Int)).toNat = 8 * k := by omega
  simp [go_sem, IntKind.wrap, IntKind.bits, IntKind.signed, h8]
  rw [Int.emod_eq_of_lt h0 h]
theorem shl8 (R : Nat) (h : R < 72057594037927936) (w : World) : (binOp .shl 25 (.int .u64 (R : Int)) (.int .u64 8)).run Tryd.prog w = .ok (.int .u64 ((R * 256 : Nat) : Int)) w := by
  simp [go_sem, IntKind.wrap, IntKind.bits, IntKind.signed]
  omega
theorem orU (a b : Nat) (ha : a < 18446744073709551616) (hb : b < 18446744073709551616) (w : World) : (binOp .or 25 (.int .u64 (a : Int)) (.int .u64 (b : Int))).run Tryd.prog w = .ok (.int .u64 ((a ||| b : Nat) : Int)) w := by
  have h1 : a ||| b < 18446744073709551616 := Nat.or_lt_two_pow (n := 64) ha hb
  have e : bits .or .u64 (a : Int) (b : Int) = ((a ||| b : Nat) : Int) := by
    show IntKind.u64.wrap ((BitVec.ofInt 64 (a : Int) ||| BitVec.ofInt 64 (b : Int)).toNat : Int) = _
    rw [BitVec.toNat_or, BitVec.ofInt_natCast, BitVec.ofInt_natCast, BitVec.toNat_ofNat, BitVec.toNat_ofNat, Nat.mod_eq_of_lt ha, Nat.mod_eq_of_lt hb]
    rw [IntKind.wrap_u64]
    omega
  simp [go_sem, e]
theorem andU (m c r : Nat) (h : m < 18446744073709551616) (hc : c < 18446744073709551616) (hr : m &&& c = r) (w : World) : (binOp .and 25 (.int .u64 (m : Int)) (.int .u64 (c : Int))).run Tryd.prog w = .ok (.int .u64 (r : Int)) w := by
  have hl : m &&& c < 18446744073709551616 := Nat.lt_of_le_of_lt Nat.and_le_left h
  have h2 : bits .and .u64 (m : Int) (c : Int) = (r : Int) := by
    show IntKind.u64.wrap ((BitVec.ofInt 64 (m : Int) &&& BitVec.ofInt 64 (c : Int)).toNat : Int) = _
    rw [BitVec.toNat_and, BitVec.ofInt_natCast, BitVec.ofInt_natCast, BitVec.toNat_ofNat, BitVec.toNat_ofNat, Nat.mod_eq_of_lt h, Nat.mod_eq_of_lt hc, hr, IntKind.wrap_u64]
    omega
  simp [go_sem, h2]
theorem and1B (m r : Nat) (h : m < 256) (hr : m % 2 = r) (w : World) : (binOp .and 5 (.int .u8 (m : Int)) (.int .u8 1)).run Tryd.prog w = .ok (.int .u8 (r : Int)) w := by
  have h2 : bits .and .u8 (m : Int) 1 = (r : Int) := by
    show IntKind.u8.wrap ((BitVec.ofInt 8 (m : Int) &&& BitVec.ofInt 8 (1 : Int)).toNat : Int) = _
    rw [BitVec.toNat_and, BitVec.ofInt_natCast, BitVec.toNat_ofNat, Nat.mod_eq_of_lt h, show (BitVec.ofInt 8 (1 : Int)).toNat = 1 by rfl, Nat.and_one_is_mod, hr, IntKind.wrap_u8]
    omega
  simp [go_sem, h2]
theorem shrB (b k : Nat) (hk : k < 8) (w : World) : (binOp .shr 5 (.int .u8 (b : Int)) (.int .u64 (k : Int))).run Tryd.prog w = .ok (.int .u8 ((b / 2 ^ k : Nat) : Int)) w := by
  simp [go_sem]
  try omega
theorem subU (a b : Nat) (h : b ≤ a) (w : World) (ha : a < 18446744073709551616) : (binOp .sub 25 (.int .u64 (a : Int)) (.int .u64 (b : Int))).run Tryd.prog w = .ok (.int .u64 ((a - b : Nat) : Int)) w := by
  simp [go_sem, IntKind.wrap, IntKind.bits, IntKind.signed]
  omega
theorem addU (a b : Nat) (w : World) (h : a + b < 18446744073709551616) : (binOp .add 25 (.int .u64 (a : Int)) (.int .u64 (b : Int))).run Tryd.prog w = .ok (.int .u64 ((a + b : Nat) : Int)) w := by
  simp [go_sem, IntKind.wrap, IntKind.bits, IntKind.signed]
  omega
/-- A byte of an array, by its index as a number of 64 bits. -/
theorem run_idx32 (w : World) (ad : Addr) (i : Nat) (hi : i < 32) : (Instr.indexAt 23 (.pointer (some ad)) (.int .u64 (i : Int))).run Tryd.prog w = .ok (.pointer (some (ad.add i))) w := by
  simp [go_sem, Instr.indexAt]
  intro h
  omega
theorem cvBU (b : Nat) (hb : b < 256) (w : World) : (convert 5 25 (.int .u8 (b : Int))).run Tryd.prog w = .ok (.int .u64 (b : Int)) w := by
  simp [go_sem, IntKind.wrap, IntKind.bits, IntKind.signed]
  omega
theorem shr3 (m k : Nat) (h : m / 2 ^ 3 = k) (w : World) : (binOp .shr 25 (.int .u64 (m : Int)) (.int .u64 3)).run Tryd.prog w = .ok (.int .u64 (k : Int)) w := by
  subst h
  simp [go_sem]
end ShufFn
open ShufFn
set_option maxHeartbeats 2000000 in
theorem read_look (A : Option Addr) (c : Nat) (x : Nat → Nat) (w : World) (hb : Rd w w.heap.size A 8 (u8v x)) (hx : ∀ i, x i < 256) :
    Calls Tryd.prog 63 #[.slice A 8 c] w fun e w' => e = .returned (.tuple #[.int .u64 ((rdN x 8 : Nat) : Int), .int .i64 0]) ∧ w' = w := by
  obtain ⟨ad, hA, _, hc⟩ := hb (by omega)
  subst hA
  have HC := Lib.hid hc
  have HXl := Lib.hid hx
  clear hb hc hx
  go_enter Tryd.func63, Tryd.ntmps63
  go_wp2_with fail
  go_loopw [4, 12] (fun o4 o12 wr => ∃ k : Nat, o4 = .int .u64 ((rdN x k : Nat) : Int) ∧ o12 = .int .i64 (k : Int) ∧ k ≤ 8 ∧ wr = w) (fun _ i _ => 8 - (intOf i).toNat)
  case atStart => exact ⟨0, rfl, rfl, by omega, rfl⟩
  case round =>
    obtain ⟨k, rfl, rfl, hk, rfl⟩ := hrel
    by_cases hk8 : k < 8
    · have HB := Lib.hid (HXl.out k)
      have HR := Lib.hid (rdN_lt HXl.out k)
      have HR2 := Lib.hid (show rdN x k < 18446744073709551616 from Nat.lt_of_lt_of_le HR.out (by
        have h1 : 2 ^ (8 * k) ≤ 2 ^ 64 := Nat.pow_le_pow_right (by omega) (by omega)
        omega))
      have HT := Lib.hid (show x k * 2 ^ (8 * k) < 18446744073709551616 from by
        have h1 := rdN_lt HXl.out (k + 1)
        have h2 : 2 ^ (8 * (k + 1)) ≤ 2 ^ 64 := Nat.pow_le_pow_right (by omega) (by omega)
        rw [rdN] at h1
        omega)
      have HE := Lib.hid (show rdN x k ||| x k * 2 ^ (8 * k) = rdN x (k + 1) by rw [or_add _ _ _ HR.out]; rfl)
      go_wp2_with (first
        | (refine wpList_as rfl 15 rfl (.pointer (some (ad.add (k * 1)))) ?_ ?_; (· exact ex_idx rfl rfl rfl (fun w => run_idxZ (z := 1) w Tryd.underlying35 (by kernel_rfl) ad (by omega)) _))
        | (refine wpList_as rfl 16 rfl (.int .u8 ((x k : Nat) : Int)) ?_ ?_; (· exact ex_ld1 .u8 rfl rfl Tryd.underlying5 ((congrArg (fun q => World.cell? _ (ad.add q)) (Nat.mul_one k)).trans (HC.out k hk8))))
        | (refine wpList_as rfl 19 rfl (.int .u64 ((x k : Nat) : Int)) ?_ ?_; (· exact ex_cnv rfl rfl (fun w => cvBU (x k) HB.out w) _))
        | (refine wpList_as rfl 22 rfl (.int .u64 ((x k * 2 ^ (8 * k) : Nat) : Int)) ?_ ?_; (· exact ex_bin rfl rfl rfl rfl (fun w => shlB (x k) k HB.out hk8 w) _))
        | (refine wpList_as rfl 23 rfl (.int .u64 ((rdN x (k + 1) : Nat) : Int)) ?_ ?_; (· rw [← HE.out]; exact ex_bin rfl rfl rfl rfl (fun w => orU _ _ HR2.out HT.out w) _)))
      go_roundw
      case rel => exact ⟨k + 1, rfl, by go_num, by omega, trivial⟩
      case measure => simp [intOf]; omega
    · obtain rfl : k = 8 := by omega
      go_wp2_with fail
      go_ret2
      exact ⟨rfl, rfl⟩
set_option maxHeartbeats 2000000 in
theorem read_ref (A : Option Addr) (c : Nat) (x : Nat → Nat) (w : World) (hb : Rd w w.heap.size A 8 (u8v x)) (hx : ∀ i, x i < 256) :
    Calls Tryd.prog 65 #[.slice A 8 c] w fun e w' => e = .returned (.tuple #[.int .u64 ((rdN x 8 : Nat) : Int), .int .i64 0]) ∧ w' = w := by
  obtain ⟨ad, hA, _, hc⟩ := hb (by omega)
  subst hA
  have HC := Lib.hid hc
  have HXl := Lib.hid hx
  clear hb hc hx
  go_enter Tryd.func65, Tryd.ntmps65
  go_wp2_with fail
  go_loopw [4, 5] (fun o4 o5 wr => ∃ k : Nat, o4 = .int .u64 ((rdN (fun q => x (8 - k + q)) k : Nat) : Int) ∧ o5 = .int .i64 (7 - (k : Int)) ∧ k ≤ 8 ∧ wr = w) (fun _ i _ => (intOf i + 1).toNat)
  case atStart => exact ⟨0, rfl, rfl, by omega, rfl⟩
  case round =>
    obtain ⟨k, rfl, rfl, hk, rfl⟩ := hrel
    by_cases hk8 : k < 8
    · obtain ⟨j, hj⟩ : ∃ j, j = 7 - k := ⟨_, rfl⟩
      have HJ := Lib.hid (show (7 - (k : Int)) = (j : Int) by omega)
      have hj8 : j < 8 := by omega
      have HB := Lib.hid (HXl.out j)
      obtain ⟨R, hR⟩ : ∃ R, R = rdN (fun q => x (8 - k + q)) k := ⟨_, rfl⟩
      rw [← hR]
      have hlt := rdN_lt (x := fun q => x (8 - k + q)) (fun _ => HXl.out _) k
      rw [← hR] at hlt
      have h56 : 2 ^ (8 * k) ≤ 2 ^ 56 := Nat.pow_le_pow_right (by omega) (by omega)
      have hR56 : R < 72057594037927936 := by omega
      have HE := Lib.hid (show R * 256 ||| x j = rdN (fun q => x (8 - (k + 1) + q)) (k + 1) by
        rw [Nat.or_comm, or_add (x j) R 8 HB.out, rdN_low, hR, Nat.mul_comm 256]
        congr 1
        · exact congrArg x (by omega)
        · congr 1
          exact rdN_congr k (fun q _ => congrArg x (by omega)))
      have HRo := Lib.hid (show R * 256 < 18446744073709551616 by omega)
      have HBo := Lib.hid (show x j < 18446744073709551616 from Nat.lt_trans HB.out (by decide))
      clear hR hlt h56 hj
      rw [HJ.out]
      go_wp2_with (first
        | (refine wpList_as rfl 14 rfl (.int .u64 ((R * 256 : Nat) : Int)) ?_ ?_; (· exact ex_bin rfl rfl rfl rfl (fun w => shl8 R hR56 w) _))
        | (refine wpList_as rfl 17 rfl (.pointer (some (ad.add (j * 1)))) ?_ ?_; (· exact ex_idx rfl rfl rfl (fun w => run_idxZ (z := 1) w Tryd.underlying35 (by kernel_rfl) ad (by omega)) _))
        | (refine wpList_as rfl 18 rfl (.int .u8 ((x j : Nat) : Int)) ?_ ?_; (· exact ex_ld1 .u8 rfl rfl Tryd.underlying5 ((congrArg (fun q => World.cell? _ (ad.add q)) (Nat.mul_one j)).trans (HC.out j hj8))))
        | (refine wpList_as rfl 19 rfl (.int .u64 ((x j : Nat) : Int)) ?_ ?_; (· exact ex_cnv rfl rfl (fun w => cvBU (x j) HB.out w) _))
        | (refine wpList_as rfl 20 rfl (.int .u64 ((rdN (fun q => x (8 - (k + 1) + q)) (k + 1) : Nat) : Int)) ?_ ?_; (· rw [← HE.out]; exact ex_bin rfl rfl rfl rfl (fun w => orU _ _ HRo.out HBo.out w) _)))
      go_roundw
      case rel => exact ⟨k + 1, by rw [show 8 - (k + 1) = 7 - k by omega], congrArg (Value.int .i64) (by have := HJ.out; omega), by omega, trivial⟩
      case measure => simp [intOf] <;> omega
    · obtain rfl : k = 8 := by omega
      go_wp2_with fail
      go_ret2
      exact ⟨by simp, rfl⟩
/-- A round's value: its pivot, and where its digest lies. -/
def rndF (v d : Nat) : Nat → Value := fun i => if i = 0 then .int .u64 (v : Int) else .pointer (some ⟨d, 0, none⟩)
set_option maxHeartbeats 2000000 in
theorem flip_look (v d n i : Nat) (w : World) (hv : v < n) (hi : i < n) (hn : n ≤ 4294967296) :
    Calls Tryd.prog 52 #[.agg (arr 2 (rndF v d)), .int .u64 (i : Int), .int .u64 (n : Int)] w fun e w' => e = .returned (.int .u64 ((flipN v n i : Nat) : Int)) ∧ Below w.heap.size w w' := by
  have HS0 := Lib.hid (HS.nil w)
  by_cases h : i ≤ v
  · have t1 : decide ((i : Int) ≤ (v : Int)) = true := decide_eq_true (by omega)
    have HE := Lib.hid (show Ending.returned (.int .u64 ((v - i : Nat) : Int)) = .returned (.int .u64 ((flipN v n i : Nat) : Int)) by unfold flipN; rw [if_pos h])
    go_enter Tryd.func52, Tryd.ntmps52
    go_wp2_with (first
      | (refine wpList_boxL rfl 76 _ 3 rfl rfl HS0.out 2 (rndF v d) rfl ?_; intro b3 w3 hb3 hc3 hs; have HS3 := Lib.hid hs; clear hs)
      | (refine wpList_as rfl 9 rfl (.int .u64 (v : Int)) ?_ ?_; (· exact ex_ld1 .u64 rfl rfl Tryd.underlying25 (HS3.out.cell 0 0 rfl (by omega))))
      | (refine wpList_as rfl 12 rfl (.int .u64 (v : Int)) ?_ ?_; (· exact ex_ld1 .u64 rfl rfl Tryd.underlying25 (HS3.out.cell 0 0 rfl (by omega))))
      | (refine wpList_as rfl 14 rfl (.int .u64 ((v - i : Nat) : Int)) ?_ ?_; (· exact ex_bin rfl rfl rfl rfl (fun w => subU v i h w (by omega)) _)))
    go_ret
    exact ⟨HE.out, HS3.out.out (by simp; omega)⟩
  · have t1 : decide ((i : Int) ≤ (v : Int)) = false := decide_eq_false (by omega)
    have HE := Lib.hid (show Ending.returned (.int .u64 ((v + n - i : Nat) : Int)) = .returned (.int .u64 ((flipN v n i : Nat) : Int)) by unfold flipN; rw [if_neg h])
    go_enter Tryd.func52, Tryd.ntmps52
    go_wp2_with (first
      | (refine wpList_boxL rfl 76 _ 3 rfl rfl HS0.out 2 (rndF v d) rfl ?_; intro b3 w3 hb3 hc3 hs; have HS3 := Lib.hid hs; clear hs)
      | (refine wpList_as rfl 9 rfl (.int .u64 (v : Int)) ?_ ?_; (· exact ex_ld1 .u64 rfl rfl Tryd.underlying25 (HS3.out.cell 0 0 rfl (by omega))))
      | (refine wpList_as rfl 16 rfl (.int .u64 (v : Int)) ?_ ?_; (· exact ex_ld1 .u64 rfl rfl Tryd.underlying25 (HS3.out.cell 0 0 rfl (by omega))))
      | (refine wpList_as rfl 18 rfl (.int .u64 ((v + n : Nat) : Int)) ?_ ?_; (· exact ex_bin rfl rfl rfl rfl (fun w => addU v n w (by omega)) _))
      | (refine wpList_as rfl 20 rfl (.int .u64 ((v + n - i : Nat) : Int)) ?_ ?_; (· exact ex_bin rfl rfl rfl rfl (fun w => subU (v + n) i (by omega) w (by omega)) _)))
    go_ret
    exact ⟨HE.out, HS3.out.out (by simp; omega)⟩
set_option maxHeartbeats 2000000 in
theorem bit_look (ad : Addr) (B : Nat → Nat) (p : Nat) (w : World) (hb : ∀ i, i < 32 → w.cell? (ad.add i) = some (u8v B i)) (hB : ∀ i, B i < 256) (hp : p < 18446744073709551616) :
    Calls Tryd.prog 53 #[.pointer (some ad), .int .u64 (p : Int)] w fun e w' => e = .returned (.bool (bitN B p)) ∧ w' = w := by
  have HC := Lib.hid hb
  have HBl := Lib.hid hB
  obtain ⟨k, hk⟩ : ∃ k, k = p % 256 / 8 := ⟨_, rfl⟩
  obtain ⟨q, hq⟩ : ∃ q, q = p % 8 := ⟨_, rfl⟩
  obtain ⟨m, hm⟩ : ∃ m, m = p % 256 := ⟨_, rfl⟩
  obtain ⟨y, hy⟩ : ∃ y, y = B k / 2 ^ q := ⟨_, rfl⟩
  obtain ⟨z, hz⟩ : ∃ z, z = y % 2 := ⟨_, rfl⟩
  have hy2 : y < 256 := by rw [hy]; exact Nat.lt_of_le_of_lt (Nat.div_le_self _ _) (hB k)
  have H1 := Lib.hid (show p &&& 255 = m by rw [hm]; exact Nat.and_two_pow_sub_one_eq_mod p 8)
  have H2 := Lib.hid (show m / 2 ^ 3 = k by rw [hm, hk])
  have H3 := Lib.hid (show p &&& 7 = q by rw [hq]; exact Nat.and_two_pow_sub_one_eq_mod p 3)
  have H4 := Lib.hid hy.symm
  have H5 := Lib.hid hz.symm
  have HE := Lib.hid (show Ending.returned (.bool (z == 1)) = .returned (.bool (bitN B p)) by unfold bitN; rw [hz, hy, hk, hq])
  have hk32 : k < 32 := by omega
  have hq8 : q < 8 := by omega
  have hm256 : m < 256 := by omega
  have hz2 : z < 2 := by omega
  have HB1 := Lib.hid (show ((z : Int) == 1) = (z == 1) by
    by_cases h : z = 1
    · subst h; rfl
    · rw [beq_eq_false_iff_ne.2 (by omega), beq_eq_false_iff_ne.2 h])
  clear hb hB hk hq hm hy hz
  go_enter Tryd.func53, Tryd.ntmps53
  go_wp2_with (first
    | (refine wpList_as rfl 7 rfl (.int .u64 (m : Int)) ?_ ?_; (· exact ex_bin rfl rfl rfl rfl (fun w => andU p 255 m hp (by omega) H1.out w) _))
    | (refine wpList_as rfl 8 rfl (.int .u64 (k : Int)) ?_ ?_; (· exact ex_bin rfl rfl rfl rfl (fun w => shr3 m k H2.out w) _))
    | (refine wpList_as rfl 10 rfl (.pointer (some (ad.add k))) ?_ ?_; (· exact ex_idx rfl rfl rfl (fun w => run_idx32 w ad k hk32) _))
    | (refine wpList_as rfl 11 rfl (.int .u8 ((B k : Nat) : Int)) ?_ ?_; (· exact ex_ld1 .u8 rfl rfl Tryd.underlying5 (HC.out k hk32)))
    | (refine wpList_as rfl 13 rfl (.int .u64 (q : Int)) ?_ ?_; (· exact ex_bin rfl rfl rfl rfl (fun w => andU p 7 q hp (by omega) H3.out w) _))
    | (refine wpList_as rfl 14 rfl (.int .u8 (y : Int)) ?_ ?_; (· rw [← H4.out]; exact ex_bin rfl rfl rfl rfl (fun w => shrB (B k) q hq8 w) _))
    | (refine wpList_as rfl 15 rfl (.int .u8 (z : Int)) ?_ ?_; (· exact ex_bin rfl rfl rfl rfl (fun w => and1B y z hy2 H5.out w) _)))
  go_ret
  rw [HB1.out]
  exact ⟨HE.out, rfl⟩
end Go.Proofs.YtjmbgdldnnmipaaDoor
/- Copies of a digest. -/
namespace Go.Proofs.YtjmbgdldnnmipaaDoor
set_option maxRecDepth 40000
open Go.RowKit
set_option maxHeartbeats 400000 in
theorem copy_nil (w : World) : Calls Tryd.prog 64 #[.pointer none] w fun e w' => e = .returned (.pointer none) ∧ w = w' := by
  go_enter Tryd.func64, Tryd.ntmps64
  go_wp2
  go_ret
  exact ⟨rfl, rfl⟩

theorem one_digG (H : Nat → W32) (y : Nat → Nat) (r a : Nat) : ∀ i, i < 74 → ∃ v, (arr 74 (digG H y r a))[i]? = some v ∧ v.oneCell' = true := fun i hi => ⟨_, arr_at _ _ i hi, by
  unfold digG
  by_cases e1 : i < 8
  · rw [if_pos e1]; rfl
  · by_cases e2 : i < 72
    · rw [if_neg e1, if_pos e2]; rfl
    · rw [if_neg e1, if_neg e2]; split <;> rfl⟩
set_option maxHeartbeats 1000000 in
theorem copy_any (g len : Nat) (m : Nat → Nat) (w : World) (hd : Dig w g m len) :
    Calls Tryd.prog 64 #[.pointer (some ⟨g, 0, none⟩)] w fun e w' => ∃ g', e = .returned (.pointer (some ⟨g', 0, none⟩)) ∧ w.heap.size ≤ g' ∧ Dig w' g' m len ∧ Below w.heap.size w w' := by
  obtain ⟨q, r, y, rfl, hr, hy, hy2, hrow⟩ := hd
  have HX := Lib.hid (heap_arr hrow)
  have HY := Lib.hid hy
  have HY2 := Lib.hid hy2
  clear hrow hy hy2
  have HZ := Lib.hid ((HS.nil w).allocB _ (zeroOf Tryd.prog 97) 97 74 (fun i => (zeroOf Tryd.prog 97).getD i undef) (by kernel_rfl) (fun i hi => get_getD _ i (by rw [show (zeroOf Tryd.prog 97).size = 74 by kernel_rfl]; exact hi)) rfl)
  go_enter Tryd.func64, Tryd.ntmps64
  go_wp2_with (first
    | (refine wpList_load_row rfl 97 (.tmp 7) rfl g rfl 97 _ _ _ HX.out Tryd.underlying97 rfl (by kernel_rfl) ?_)
    | (refine wpList_alloc_as rfl 97 rfl (zeroOf Tryd.prog 97) (by kernel_rfl) ?_)
    | (refine wpList_store_arr rfl 97 (.tmp 3) (.tmp 8) rfl (HZ.out.row 0 rfl) _ rfl rfl (size_arr _ _) (by kernel_rfl) (one_digG _ _ _ _) ?_))
  have hend := HZ.out.setRow 0 rfl (arr 74 (digG (Hs m q) y r (64 * q + r))) (size_arr _ _) _ (fun i hi => arr_at _ _ i hi)
  go_ret
  exact ⟨w.heap.size, rfl, Nat.le_refl _, ⟨q, r, y, rfl, hr, HY.out, HY2.out, hend.row 0 rfl⟩, hend.out (by simp)⟩
end Go.Proofs.YtjmbgdldnnmipaaDoor
