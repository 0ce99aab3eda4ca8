/- A part of what the proofs stand on: TreeAny, LiveTree, SmallRoots, Committee, LivePlain. -/
import Derived.Test.YtomilckcgmhfcaaDoorGLiv1
import Derived.Test.YtomilckcgmhfcaaDoorGLiv18
import Derived.Test.YtomilckcgmhfcaaDoorGLiv16
import Derived.Test.YtomilckcgmhfcaaDoorGLiv7
import Derived.Test.YtomilckcgmhfcaaDoorGLiv11
import Derived.Test.YtomilckcgmhfcaaDoorGLiv5
import Derived.Test.YtomilckcgmhfcaaDoorGLiv15
/- Trees and the reference's trees, for whatever arguments: one answer each. -/
namespace Go.Proofs.YtomilckcgmhfcaaDoor
set_option maxRecDepth 40000
open Go.RowKit
theorem costN_zero (t : Nat → Bool) : ∀ D, costN 0 t D = 0 := fun D => cost_none (fun a ha => by omega) D
theorem tree_none (D : Nat) (x : Nat → Nat) : rootV (treeN D 0 x) = rootV (zrN D) := by
 refine congrArg Value.agg (arr_congr fun q hq => ?_)
 simp only [u8v]
 rw [tree_lev D 0 x (Nat.zero_le _) q hq]
 have h1 := lev_zero D 0 0 x (by omega) q hq
 rw [Nat.zero_mul, Nat.zero_add] at h1
 rw [h1]
theorem troot_any (v : TV) (base T n : Nat) (x : Nat → Nat) (w : World) (h : TM w base T v) (hst : TSt v n x) (hH : v.H ≤ 1152921504606846976) (hp : ShaPkg w) (hpB : 0 < base ∧ 1 < base) (hpt : TzPkg w) :
  Calls Tryd.prog 57 #[tpV T] w fun r w' => ∃ v2, r = .returned (rootV (treeN v.D n x)) ∧ TM w' base T v2 ∧ TStep w w' T v v2 ∧ TSt v2 n x ∧ (∀ a, dirB v2.dn v2.dw a = false) ∧ v2.H = v.H + costN n (dirB v.dn v.dw) v.D := by
 rcases Nat.eq_zero_or_pos n with h0 | h0
 ·subst h0
  refine (troot_zero v base T w h hst.n0 hst.D30).mono ?_
  rintro r w' ⟨rfl, hb⟩
  refine ⟨v, by rw [tree_none], h.below hb, TStep.refl hb, hst, fun a => ?_, by rw [costN_zero]; rfl⟩
  cases hd : dirB v.dn v.dw a with
  | false => rfl
  | true => have := hst.tn a hd; omega
 ·exact troot_look v base T n x w h hst h0 hH hp hpB hpt
section
variable {w w1 w2 w' : World} {B p T l n n' c c' : Nat} {v v' : TV} {A A' : Option Addr} {x x' : Nat → Nat}
end
end Go.Proofs.YtomilckcgmhfcaaDoor
/- Leaves that are laid, and a list's root, by package live. -/
namespace Go.Proofs.YtomilckcgmhfcaaDoor
set_option maxRecDepth 40000
open Go.RowKit
theorem TSt.x_cong {v : TV} {n : Nat} {x x' : Nat → Nat} (h : TSt v n x) (hx : ∀ i, i < n * 32 → x' i = x i) : TSt v n x' :=
 {h with x0 := fun i hi => (h.x0 i hi).trans (hx i hi).symm, lev := fun d hd => lev_congr (h.lev d hd) hx }
theorem app_set (x y : Nat → Nat) (n : Nat) : ∀ i, i < (n + 1) * 32 → setN x n y i = appN x n y i := fun i hi => by
 unfold setN appN catN
 by_cases h : i < n * 32
 ·rw [if_neg (by omega), if_pos h]
 ·rw [if_pos (by omega), if_neg h]
/-- The number of leaves behind a leaf that is laid at k. -/
def layM (n k : Nat) : Nat := if k < n then n else k + 1
set_option maxHeartbeats 4000000 in
theorem lay_look (v : TV) (base T n k : Nat) (x y : Nat → Nat) (w : World) (h : TM w base T v) (hst : TSt v n x) (hk : k ≤ n) (hl : k < v.lim) (hy : ∀ q, y q < 256) :
  Calls Tryd.prog 64 #[tpV T, .int .i64 (k : Int), rootV y] w fun r w' => ∃ v', r = .returned (.tuple #[]) ∧ TM w' base T v' ∧ TStep w w' T v v' ∧ TSt v' (layM n k) (setN x k y) ∧ v'.H = v.H := by
 have HS0 := Lib.hid (HS.nil w)
 have HM := Lib.hid h
 have HT := Lib.hid hst
 have HY := Lib.hid hy
 have hn := hst.n0
 clear h hst hy
 by_cases h1 : k < n
 ·have ht : decide ((k : Int) < (n : Int)) = true := decide_eq_true (by omega)
  have HLM := Lib.hid (show layM n k = n from if_pos h1)
  go_enter Tryd.func64, Tryd.ntmps64
  go_wp2_with (first
   | ((with_reducible refine at_l ?_); refine wpList_boxL rfl 24 _ 5 rfl rfl HS0.out 32 (u8v y) rfl ?_; intro b5 w1 hb5 hc5 hs; have HS1 := Lib.hid hs; clear hs)
   | (go_at_call 80; refine (tlen_look v base T _ (HM.out.below (HS1.out.out (by simp; omega)))).mono ?_; rintro r w2 ⟨rfl, rfl⟩; rw [hn])
   | ((with_reducible refine at_l ?_); refine wpList_load_rd rfl 24 _ rfl 32 _ Tryd.underlying24 rfl (by kernel_rfl) ⟨b5, 0, none⟩ rfl (u8v y) (fun i hi => by rw [add_lit0]; exact HS1.out.cell 0 i rfl hi) ?_)
   | (go_at_call 85; refine (tset_in v base T k n x y _ (HM.out.below (HS1.out.out (by simp; omega))) HT.out h1 HY.out).mono ?_; rintro r w3 ⟨v', rfl, m1, m2, m3, _, m5⟩; have M1 := Lib.hid m1; have M2 := Lib.hid m2; have M3 := Lib.hid m3; have M5 := Lib.hid m5; clear m1 m2 m3 m5))
  go_end0
  exact ⟨v', rfl, M1.out, (TStep.refl (HS1.out.out (by simp; omega))).trans M2.out, by rw [HLM.out]; exact M3.out, M5.out⟩
 ·obtain rfl : k = n := by omega
  have ht : decide ((k : Int) < (k : Int)) = false := decide_eq_false (by omega)
  have HLM := Lib.hid (show layM k k = k + 1 from if_neg h1)
  go_enter Tryd.func64, Tryd.ntmps64
  go_wp2_with (first
   | ((with_reducible refine at_l ?_); refine wpList_boxL rfl 24 _ 5 rfl rfl HS0.out 32 (u8v y) rfl ?_; intro b5 w1 hb5 hc5 hs; have HS1 := Lib.hid hs; clear hs)
   | (go_at_call 80; refine (tlen_look v base T _ (HM.out.below (HS1.out.out (by simp; omega)))).mono ?_; rintro r w2 ⟨rfl, rfl⟩; rw [hn])
   | ((with_reducible refine at_l ?_); refine wpList_load_rd rfl 24 _ rfl 32 _ Tryd.underlying24 rfl (by kernel_rfl) ⟨b5, 0, none⟩ rfl (u8v y) (fun i hi => by rw [add_lit0]; exact HS1.out.cell 0 i rfl hi) ?_)
   | (go_at_call 86; refine (tapp_look v base T k x y _ (HM.out.below (HS1.out.out (by simp; omega))) HT.out hl HY.out).mono ?_; rintro r w3 ⟨v', rfl, m1, m2, m3, _, m5⟩; have M1 := Lib.hid m1; have M2 := Lib.hid m2; have M3 := Lib.hid m3; have M5 := Lib.hid m5; clear m1 m2 m3 m5))
  go_end0
  exact ⟨v', rfl, M1.out, (TStep.refl (HS1.out.out (by simp; omega))).trans M2.out, by rw [HLM.out]; exact M3.out.x_cong (app_set x y k), M5.out⟩
/-- The root of a list's tree, its length mixed in. -/
def lmixN (r : Nat → Nat) (m : Nat) : Nat → Nat := shaB (catN 32 r (padN 8 (leB m))) 64
theorem lmixN_lt (r : Nat → Nat) (m : Nat) : ∀ i, lmixN r m i < 256 := shaB_lt _ _
set_option maxHeartbeats 4000000 in
theorem list_look (v : TV) (base T n m : Nat) (x : Nat → Nat) (w : World) (h : TM w base T v) (hst : TSt v n x) (hx : ∀ i, x i < 256) (hm : m ≤ 9223372036854775807) (hH : v.H ≤ 1152921504606846976) (hp : ShaPkg w) (hpB : 0 < base ∧ 1 < base) (hbw : base ≤ w.heap.size) (hpt : TzPkg w) :
  Calls Tryd.prog 32 #[tpV T, .int .i64 (m : Int)] w fun r w' => ∃ v', r = .returned (rootV (lmixN (treeN v.D n x) m)) ∧ TM w' base T v' ∧ TStep w w' T v v' ∧ TSt v' n x ∧ v'.H ≤ v.H + n + v.D := by
 have HS0 := Lib.hid (HS.nil w)
 have HM := Lib.hid h
 have HT := Lib.hid hst
 have HP := Lib.hid hp
 have HPt := Lib.hid hpt
 have HX := Lib.hid hx
 obtain ⟨D, hD⟩ : ∃ D, D = v.D := ⟨_, rfl⟩
 have HD := Lib.hid hD
 have HC := Lib.hid (show costN n (dirB v.dn v.dw) v.D ≤ n + D by rw [hD]; have := cost_all n (dirB v.dn v.dw) v.D; omega)
 clear h hst hp hpt hx
 obtain ⟨X, hX⟩ : ∃ X, X = treeN D n x := ⟨_, rfl⟩
 have HXe := Lib.hid hX
 have HXl := Lib.hid (show ∀ i, X i < 256 by rw [hX]; exact treeN_lt HX.out _ _)
 rw [← hD, ← hX]
 clear hX hD
 go_enter Tryd.func32, Tryd.ntmps32
 go_wp2_with (first
  | ((with_reducible refine at_l ?_); refine wpList_allocL rfl 24 4 rfl rfl HS0.out (Array.replicate 32 (.int .u8 0)) (by kernel_rfl) 32 (u8v fun _ => 0) (by rfl) (zero_at 32 (.int .u8 0)) ?_; intro b4 w1 hb4 hc4 hs; have HS1 := Lib.hid hs; clear hs)
  | (go_at_call 57; refine (troot_any v base T n x _ (HM.out.below (HS1.out.out (by simp; omega))) HT.out hH (HP.out.below (HS1.out.out (by simp; omega))) hpB (HPt.out.below (HS1.out.out (by simp; omega)) HPt.out.lt)).mono ?_; rintro r w2 ⟨v2, rfl, m1, m2, m3, _, m5⟩; rw [← HD.out, ← HXe.out]; have M1 := Lib.hid m1; have M2 := Lib.hid m2; have M3 := Lib.hid m3; have M5 := Lib.hid m5; clear m1 m2 m3 m5)
  | ((with_reducible refine at_l ?_); refine wpList_as rfl 8 rfl (.int .u64 (m : Int)) ?_ ?_; (· exact ex_cnv rfl rfl (fun w => by simp [go_sem, IntKind.wrap, IntKind.bits, IntKind.signed]; omega) _))
  | (go_at_call 31; have hr2 := M2.out.chg.row (HS1.out.row 0 rfl) (fun (ho : v.own T b4) => by have := HM.out.lt ho; omega); have HB2 := Lib.hid (M2.out.below (HM.out.below (HS1.out.out (by simp; omega))) (Nat.le_refl _) (Nat.le_trans hbw HS1.out.size)); have HQ2 := Lib.hid (HS.own hr2); clear hr2; refine (mix_look X HXl.out m _ ((HP.out.below (HS1.out.out (by simp; omega))).belowB hpB HB2.out)).mono ?_; rintro e w3 ⟨rfl, hb⟩; rw [show shaB (catN 32 X (padN 8 (leB m))) 64 = lmixN X m from rfl]; have HQ3 := Lib.hid (HQ2.out.below hb); clear hb)
  | ((with_reducible refine at_l ?_); refine wpList_storeH rfl 24 (.tmp 4) (.tmp 9) rfl HQ3.out 0 rfl (u8v (lmixN X m)) rfl rfl (by kernel_rfl) (fun _ _ => rfl) ?_; intro w4 hs; have HY := Lib.hid hs; clear hs))
 have hz1 := HS1.out.size
 have hl4 : b4 < w1.heap.size := HS1.out.lt 0 rfl
 have hz2 := M2.out.chg.size
 have hno : ∀ b, v2.own T b ∨ OnA v2.zA b → ¬ b = b4 := fun b hb e => by
  subst e
  rcases hb with h1 | h1
  ·rcases M2.out.new _ h1 with h2 | h2
   ·have := HM.out.lt h2; omega
   ·omega
  ·rw [M2.out.zA] at h1
   have := HM.out.zlt h1; omega
 have hch : Chg (fun b => b = b4) w2 w4 := Chg.of_grown (HY.out.grown b4 (by simp)) (fun b e => .inl (by injection e with e; exact e.symm))
 have hst2 : TStep w w2 T v v2 := (TStep.refl (HS1.out.out (by simp; omega))).trans M2.out
 exact ret_rowIs rfl (HY.out.row 0 rfl) _ rfl Tryd.underlying24 rfl (by kernel_rfl) rfl ⟨v2, rfl, M1.out.chg hch hno,
  ⟨hst2.chg.trans hch (fun b e => .inr (by rw [e]; omega)), hst2.new, hst2.zA, hst2.D, hst2.lim⟩, M3.out, by rw [M5.out]; have := HC.out; rw [← HD.out] at this ⊢; omega⟩
end Go.Proofs.YtomilckcgmhfcaaDoor
/- Roots of small things, by the program: the chunks one behind the other, hashed together. (Printed by a program of mine.) -/
namespace Go.Proofs.YtomilckcgmhfcaaDoor
set_option maxRecDepth 40000
open Go.RowKit
/-- The root of bytes, as chunks. -/
def bytN (F : Nat → Value) (o m : Nat) : Nat → Nat := treeN (dep (nch m)) (nch m) (padN m (byF F o))
theorem bytN_lt (F : Nat → Value) (o m : Nat) : ∀ i, bytN F o m i < 256 := treeN_lt (padN_lt (byF_lt F o)) _ _
def numN (F : Nat → Value) (o : Nat) : Nat → Nat := padN 8 (leB (nat (F o)))
theorem numN_lt (F : Nat → Value) (o : Nat) : ∀ i, numN F o i < 256 := padN_lt (leB_lt _)
/-- The chunks of api.Fork. -/
def forkX (F : Nat → Value) : Nat → Nat := catN (2 * 32) (catN (1 * 32) (catN (0 * 32) (fun _ => 0) (bytN F 0 4)) (bytN F 4 4)) (numN F 8)
def forkN (F : Nat → Value) : Nat → Nat := treeN (dep 3) 3 (forkX F)
theorem forkX_lt (F : Nat → Value) : ∀ i, forkX F i < 256 := catN_lt (catN_lt (catN_lt (fun _ => by omega) (bytN_lt F 0 4)) (bytN_lt F 4 4)) (numN_lt F 8)
theorem forkN_lt (F : Nat → Value) : ∀ i, forkN F i < 256 := treeN_lt (forkX_lt F) _ _
namespace SmallRoots
theorem leaf_fork0 : ∀ q, q < 4 → leafAt Tryd.prog 8 28 (0 + q) = some 5 := by decide +kernel
theorem leaf_fork4 : ∀ q, q < 4 → leafAt Tryd.prog 8 28 (4 + q) = some 5 := by decide +kernel
end SmallRoots
open SmallRoots in
set_option maxHeartbeats 8000000 in
theorem fork_look (F : Nat → Value) (hF : Sc F 28) (w : World) (hp : ShaPkg w) :
  Calls Tryd.prog 28 #[.agg (arr 9 F)] w fun e w' => e = .returned (rootV (forkN F)) ∧ Below w.heap.size w w' := by
 have HP := Lib.hid hp
 have hpl := hp.lt
 have HSc := Lib.hid hF
 have HS0 := Lib.hid (HS.nil w)
 have tk0 : Tok 0 := Tok.mk 0
 have tk1 : Tok 1 := Tok.mk 1
 have tk2 : Tok 2 := Tok.mk 2
 clear hp hF
 go_enter Tryd.func28, Tryd.ntmps28
 go_wp2_with (first
  | ((with_reducible refine at_l ?_); refine wpList_boxL rfl 28 _ 1 rfl rfl HS0.out 9 F rfl ?_; intro b1 w1 hb1 hc1 hs1; have HS1 := Lib.hid hs1; clear hs1)
  | ((with_reducible refine at_l ?_); refine wpList_allocL rfl 24 2 rfl rfl HS1.out (Array.replicate 32 (.int .u8 0)) (by kernel_rfl) 32 (u8v fun _ => 0) (by rfl) (zero_at 32 (.int .u8 0)) ?_; intro b2 wB hb2 hc2 hs2; have HSB := Lib.hid hs2; have hszB := hs2.size; clear hs2)
  | ((with_reducible refine at_l ?_); refine wpList_allocL rfl 90 3 rfl rfl (HS.nil wB) _ zero_hash 2 (hashF none 0 0) (size_arr _ _) (fun i hi => arr_at _ _ i hi) ?_; intro b3 w3 hb3 hc3 hs; have HB3 := Lib.hid (hs.out (by simp; omega)); have hH3 : HashIs w3 wB.heap.size b3 0 (fun _ => 0) := ⟨none, 0, hs.row 0 rfl, OwnZ.nil w3 _ _ _ _, fun ad e => by cases e⟩; have HH3 := Lib.hid hH3; have HS3 := Lib.hid (HSB.out.below (hs.out (by simp; omega))); clear hs hH3)
  | (go_at_call 56; clear tk0; refine (hbytes_look wB.heap.size wB.heap.size b3 0 (fun _ => 0) _ HH3.out (Nat.le_refl _) (by omega) HB3.out.size (by omega) 4 4 (some ⟨b1, 0, none⟩) (byF F 0) (Rd.of_part (HS3.out.row 1 rfl) (show 0 + 4 ≤ 9 by omega) (fun i hi => byT_eq HSc.out 0 i (leaf_fork0 i hi))) (byF_lt F 0) (Nat.le_refl _) (by omega) (by omega) (HP.out.below (HS3.out.out (by simp; omega))) (by omega)).mono ?_; rintro e w4 ⟨rfl, hH, hb⟩; have HH4 := Lib.hid hH; have HB4 := Lib.hid (HB3.out.trans hb); have HS4 := Lib.hid (HSB.out.below (HB3.out.trans hb)); clear hH hb)
  | (go_at_call 56; clear tk1; refine (hbytes_look wB.heap.size wB.heap.size b3 1 (catN (0 * 32) (fun _ => 0) (bytN F 0 4)) _ HH4.out (Nat.le_refl _) (by omega) HB4.out.size (by omega) 4 4 (some ⟨b1, 4, none⟩) (byF F 4) (Rd.of_part (HS4.out.row 1 rfl) (show 4 + 4 ≤ 9 by omega) (fun i hi => byT_eq HSc.out 4 i (leaf_fork4 i hi))) (byF_lt F 4) (Nat.le_refl _) (by omega) (by omega) (HP.out.below (HS4.out.out (by simp; omega))) (by omega)).mono ?_; rintro e w5 ⟨rfl, hH, hb⟩; have HH5 := Lib.hid hH; have HB5 := Lib.hid (HB4.out.trans hb); have HS5 := Lib.hid (HSB.out.below (HB4.out.trans hb)); clear hH hb)
  | ((with_reducible refine at_l ?_); refine wpList_as rfl 13 rfl (.int .u64 ((nat (F 8) : Nat) : Int)) ?_ ?_; (· exact ex_ld1 .u64 rfl rfl Tryd.underlying22 ((HS5.out.cell 1 8 rfl (by show 8 < 9; omega)).trans (congrArg some (HSc.out.u64 8 (by kernel_rfl)).1))))
  | (go_at_call 54; clear tk2; refine (u64_look wB.heap.size wB.heap.size b3 2 (nat (F 8)) (catN (1 * 32) (catN (0 * 32) (fun _ => 0) (bytN F 0 4)) (bytN F 4 4)) _ HH5.out (Nat.le_refl _) (by omega) HB5.out.size (by omega)).mono ?_; rintro e w6 ⟨rfl, hH, hb⟩; have HH6 := Lib.hid hH; have HB6 := Lib.hid (HB5.out.trans hb); have HS6 := Lib.hid (HSB.out.below (HB5.out.trans hb)); clear hH hb)
  | (go_at_call 40; refine (done_look wB.heap.size wB.heap.size b3 3 (forkX F) _ HH6.out (forkX_lt F) (Nat.le_refl _) (by omega) HB6.out.size (by omega) (by omega) (HP.out.below (HS6.out.out (by simp; omega))) (by omega)).mono ?_; rintro e wD ⟨rfl, hb⟩; rw [show treeN (dep 3) 3 (forkX F) = forkN F from rfl]; have HSD := Lib.hid (HSB.out.below (HB6.out.trans hb)); clear hb)
  | ((with_reducible refine at_l ?_); refine wpList_allocL rfl 24 4 rfl rfl HSD.out (Array.replicate 32 (.int .u8 0)) (by kernel_rfl) 32 (u8v fun _ => 0) (by rfl) (zero_at 32 (.int .u8 0)) ?_; intro bR wR hbR hcR hs; have HSR := Lib.hid hs; clear hs)
  | ((with_reducible refine at_l ?_); refine wpList_storeH rfl 24 (.tmp 4) (.tmp 17) rfl HSR.out 0 rfl (u8v (forkN F)) rfl rfl (by kernel_rfl) (fun _ _ => rfl) ?_; intro wS hs; have HSS := Lib.hid hs; clear hs)
  | ((with_reducible refine at_l ?_); refine wpList_load_rd rfl 24 (.tmp 4) rfl 32 _ Tryd.underlying24 rfl (by kernel_rfl) ⟨bR, 0, none⟩ rfl (u8v (forkN F)) (fun i hi => by rw [add_lit0]; exact HSS.out.cell 0 i rfl hi) ?_)
  | ((with_reducible refine at_l ?_); refine wpList_storeH rfl 24 (.tmp 2) (.tmp 19) rfl HSS.out 1 rfl (u8v (forkN F)) rfl rfl (by kernel_rfl) (fun _ _ => rfl) ?_; intro wy hs; have HY := Lib.hid hs; clear hs))
 exact ret_rowIs rfl (HY.out.row 1 rfl) _ rfl Tryd.underlying24 rfl (by kernel_rfl) rfl ⟨rfl, HY.out.out (by simp; omega)⟩
/-- The chunks of api.Header. -/
def headerX (F : Nat → Value) : Nat → Nat := catN (4 * 32) (catN (3 * 32) (catN (2 * 32) (catN (1 * 32) (catN (0 * 32) (fun _ => 0) (numN F 0)) (numN F 1)) (byF F 2)) (byF F 34)) (byF F 66)
def headerN (F : Nat → Value) : Nat → Nat := treeN (dep 5) 5 (headerX F)
theorem headerX_lt (F : Nat → Value) : ∀ i, headerX F i < 256 := catN_lt (catN_lt (catN_lt (catN_lt (catN_lt (fun _ => by omega) (numN_lt F 0)) (numN_lt F 1)) (byF_lt F 2)) (byF_lt F 34)) (byF_lt F 66)
theorem headerN_lt (F : Nat → Value) : ∀ i, headerN F i < 256 := treeN_lt (headerX_lt F) _ _
namespace SmallRoots
theorem leaf_header2 : ∀ q, q < 32 → leafAt Tryd.prog 8 30 (2 + q) = some 5 := by decide +kernel
theorem leaf_header34 : ∀ q, q < 32 → leafAt Tryd.prog 8 30 (34 + q) = some 5 := by decide +kernel
theorem leaf_header66 : ∀ q, q < 32 → leafAt Tryd.prog 8 30 (66 + q) = some 5 := by decide +kernel
end SmallRoots
open SmallRoots in
set_option maxHeartbeats 8000000 in
theorem header_look (F : Nat → Value) (hF : Sc F 30) (w : World) (hp : ShaPkg w) :
  Calls Tryd.prog 29 #[.agg (arr 98 F)] w fun e w' => e = .returned (rootV (headerN F)) ∧ Below w.heap.size w w' := by
 have HP := Lib.hid hp
 have hpl := hp.lt
 have HSc := Lib.hid hF
 have HS0 := Lib.hid (HS.nil w)
 have tk0 : Tok 0 := Tok.mk 0
 have tk1 : Tok 1 := Tok.mk 1
 have tk2 : Tok 2 := Tok.mk 2
 have tk3 : Tok 3 := Tok.mk 3
 have tk4 : Tok 4 := Tok.mk 4
 clear hp hF
 go_enter Tryd.func29, Tryd.ntmps29
 go_wp2_with (first
  | ((with_reducible refine at_l ?_); refine wpList_boxL rfl 30 _ 1 rfl rfl HS0.out 98 F rfl ?_; intro b1 w1 hb1 hc1 hs1; have HS1 := Lib.hid hs1; clear hs1)
  | ((with_reducible refine at_l ?_); refine wpList_allocL rfl 24 2 rfl rfl HS1.out (Array.replicate 32 (.int .u8 0)) (by kernel_rfl) 32 (u8v fun _ => 0) (by rfl) (zero_at 32 (.int .u8 0)) ?_; intro b2 wB hb2 hc2 hs2; have HSB := Lib.hid hs2; have hszB := hs2.size; clear hs2)
  | ((with_reducible refine at_l ?_); refine wpList_allocL rfl 90 3 rfl rfl (HS.nil wB) _ zero_hash 2 (hashF none 0 0) (size_arr _ _) (fun i hi => arr_at _ _ i hi) ?_; intro b3 w3 hb3 hc3 hs; have HB3 := Lib.hid (hs.out (by simp; omega)); have hH3 : HashIs w3 wB.heap.size b3 0 (fun _ => 0) := ⟨none, 0, hs.row 0 rfl, OwnZ.nil w3 _ _ _ _, fun ad e => by cases e⟩; have HH3 := Lib.hid hH3; have HS3 := Lib.hid (HSB.out.below (hs.out (by simp; omega))); clear hs hH3)
  | ((with_reducible refine at_l ?_); refine wpList_as rfl 7 rfl (.int .u64 ((nat (F 0) : Nat) : Int)) ?_ ?_; (· exact ex_ld1 .u64 rfl rfl Tryd.underlying22 ((HS3.out.cell 1 0 rfl (by show 0 < 98; omega)).trans (congrArg some (HSc.out.u64 0 (by kernel_rfl)).1))))
  | (go_at_call 54; clear tk0; refine (u64_look wB.heap.size wB.heap.size b3 0 (nat (F 0)) (fun _ => 0) _ HH3.out (Nat.le_refl _) (by omega) HB3.out.size (by omega)).mono ?_; rintro e w4 ⟨rfl, hH, hb⟩; have HH4 := Lib.hid hH; have HB4 := Lib.hid (HB3.out.trans hb); have HS4 := Lib.hid (HSB.out.below (HB3.out.trans hb)); clear hH hb)
  | ((with_reducible refine at_l ?_); refine wpList_as rfl 10 rfl (.int .u64 ((nat (F 1) : Nat) : Int)) ?_ ?_; (· exact ex_ld1 .u64 rfl rfl Tryd.underlying22 ((HS4.out.cell 1 1 rfl (by show 1 < 98; omega)).trans (congrArg some (HSc.out.u64 1 (by kernel_rfl)).1))))
  | (go_at_call 54; clear tk1; refine (u64_look wB.heap.size wB.heap.size b3 1 (nat (F 1)) (catN (0 * 32) (fun _ => 0) (numN F 0)) _ HH4.out (Nat.le_refl _) (by omega) HB4.out.size (by omega)).mono ?_; rintro e w5 ⟨rfl, hH, hb⟩; have HH5 := Lib.hid hH; have HB5 := Lib.hid (HB4.out.trans hb); have HS5 := Lib.hid (HSB.out.below (HB4.out.trans hb)); clear hH hb)
  | ((with_reducible refine at_l ?_); refine wpList_load_part rfl 24 (.tmp 12) rfl b1 2 32 (u8v (byF F 2)) rfl _ (fun i hi => (HS5.out.cell 1 (2 + i) rfl (show 2 + i < 98 by omega)).trans (congrArg some (byT_eq HSc.out 2 i (leaf_header2 i hi)))) Tryd.underlying24 rfl (by kernel_rfl) _ rfl ?_)
  | (go_at_call 53; clear tk2; refine (put_look wB.heap.size wB.heap.size b3 2 (catN (1 * 32) (catN (0 * 32) (fun _ => 0) (numN F 0)) (numN F 1)) (byF F 2) _ HH5.out (Nat.le_refl _) (by omega) HB5.out.size (by omega)).mono ?_; rintro e w6 ⟨rfl, hH, hb⟩; have HH6 := Lib.hid hH; have HB6 := Lib.hid (HB5.out.trans hb); have HS6 := Lib.hid (HSB.out.below (HB5.out.trans hb)); clear hH hb)
  | ((with_reducible refine at_l ?_); refine wpList_load_part rfl 24 (.tmp 15) rfl b1 34 32 (u8v (byF F 34)) rfl _ (fun i hi => (HS6.out.cell 1 (34 + i) rfl (show 34 + i < 98 by omega)).trans (congrArg some (byT_eq HSc.out 34 i (leaf_header34 i hi)))) Tryd.underlying24 rfl (by kernel_rfl) _ rfl ?_)
  | (go_at_call 53; clear tk3; refine (put_look wB.heap.size wB.heap.size b3 3 (catN (2 * 32) (catN (1 * 32) (catN (0 * 32) (fun _ => 0) (numN F 0)) (numN F 1)) (byF F 2)) (byF F 34) _ HH6.out (Nat.le_refl _) (by omega) HB6.out.size (by omega)).mono ?_; rintro e w7 ⟨rfl, hH, hb⟩; have HH7 := Lib.hid hH; have HB7 := Lib.hid (HB6.out.trans hb); have HS7 := Lib.hid (HSB.out.below (HB6.out.trans hb)); clear hH hb)
  | ((with_reducible refine at_l ?_); refine wpList_load_part rfl 24 (.tmp 18) rfl b1 66 32 (u8v (byF F 66)) rfl _ (fun i hi => (HS7.out.cell 1 (66 + i) rfl (show 66 + i < 98 by omega)).trans (congrArg some (byT_eq HSc.out 66 i (leaf_header66 i hi)))) Tryd.underlying24 rfl (by kernel_rfl) _ rfl ?_)
  | (go_at_call 53; clear tk4; refine (put_look wB.heap.size wB.heap.size b3 4 (catN (3 * 32) (catN (2 * 32) (catN (1 * 32) (catN (0 * 32) (fun _ => 0) (numN F 0)) (numN F 1)) (byF F 2)) (byF F 34)) (byF F 66) _ HH7.out (Nat.le_refl _) (by omega) HB7.out.size (by omega)).mono ?_; rintro e w8 ⟨rfl, hH, hb⟩; have HH8 := Lib.hid hH; have HB8 := Lib.hid (HB7.out.trans hb); have HS8 := Lib.hid (HSB.out.below (HB7.out.trans hb)); clear hH hb)
  | (go_at_call 40; refine (done_look wB.heap.size wB.heap.size b3 5 (headerX F) _ HH8.out (headerX_lt F) (Nat.le_refl _) (by omega) HB8.out.size (by omega) (by omega) (HP.out.below (HS8.out.out (by simp; omega))) (by omega)).mono ?_; rintro e wD ⟨rfl, hb⟩; rw [show treeN (dep 5) 5 (headerX F) = headerN F from rfl]; have HSD := Lib.hid (HSB.out.below (HB8.out.trans hb)); clear hb)
  | ((with_reducible refine at_l ?_); refine wpList_allocL rfl 24 4 rfl rfl HSD.out (Array.replicate 32 (.int .u8 0)) (by kernel_rfl) 32 (u8v fun _ => 0) (by rfl) (zero_at 32 (.int .u8 0)) ?_; intro bR wR hbR hcR hs; have HSR := Lib.hid hs; clear hs)
  | ((with_reducible refine at_l ?_); refine wpList_storeH rfl 24 (.tmp 4) (.tmp 23) rfl HSR.out 0 rfl (u8v (headerN F)) rfl rfl (by kernel_rfl) (fun _ _ => rfl) ?_; intro wS hs; have HSS := Lib.hid hs; clear hs)
  | ((with_reducible refine at_l ?_); refine wpList_load_rd rfl 24 (.tmp 4) rfl 32 _ Tryd.underlying24 rfl (by kernel_rfl) ⟨bR, 0, none⟩ rfl (u8v (headerN F)) (fun i hi => by rw [add_lit0]; exact HSS.out.cell 0 i rfl hi) ?_)
  | ((with_reducible refine at_l ?_); refine wpList_storeH rfl 24 (.tmp 2) (.tmp 25) rfl HSS.out 1 rfl (u8v (headerN F)) rfl rfl (by kernel_rfl) (fun _ _ => rfl) ?_; intro wy hs; have HY := Lib.hid hs; clear hs))
 exact ret_rowIs rfl (HY.out.row 1 rfl) _ rfl Tryd.underlying24 rfl (by kernel_rfl) rfl ⟨rfl, HY.out.out (by simp; omega)⟩
/-- The chunks of api.Eth1. -/
def eth1X (F : Nat → Value) : Nat → Nat := catN (2 * 32) (catN (1 * 32) (catN (0 * 32) (fun _ => 0) (byF F 0)) (numN F 32)) (byF F 33)
def eth1N (F : Nat → Value) : Nat → Nat := treeN (dep 3) 3 (eth1X F)
theorem eth1X_lt (F : Nat → Value) : ∀ i, eth1X F i < 256 := catN_lt (catN_lt (catN_lt (fun _ => by omega) (byF_lt F 0)) (numN_lt F 32)) (byF_lt F 33)
theorem eth1N_lt (F : Nat → Value) : ∀ i, eth1N F i < 256 := treeN_lt (eth1X_lt F) _ _
namespace SmallRoots
theorem leaf_eth10 : ∀ q, q < 32 → leafAt Tryd.prog 8 34 (0 + q) = some 5 := by decide +kernel
theorem leaf_eth133 : ∀ q, q < 32 → leafAt Tryd.prog 8 34 (33 + q) = some 5 := by decide +kernel
end SmallRoots
open SmallRoots in
set_option maxHeartbeats 8000000 in
theorem eth1_look (F : Nat → Value) (hF : Sc F 34) (w : World) (hp : ShaPkg w) :
  Calls Tryd.prog 26 #[.agg (arr 65 F)] w fun e w' => e = .returned (rootV (eth1N F)) ∧ Below w.heap.size w w' := by
 have HP := Lib.hid hp
 have hpl := hp.lt
 have HSc := Lib.hid hF
 have HS0 := Lib.hid (HS.nil w)
 have tk0 : Tok 0 := Tok.mk 0
 have tk1 : Tok 1 := Tok.mk 1
 have tk2 : Tok 2 := Tok.mk 2
 clear hp hF
 go_enter Tryd.func26, Tryd.ntmps26
 go_wp2_with (first
  | ((with_reducible refine at_l ?_); refine wpList_boxL rfl 34 _ 1 rfl rfl HS0.out 65 F rfl ?_; intro b1 w1 hb1 hc1 hs1; have HS1 := Lib.hid hs1; clear hs1)
  | ((with_reducible refine at_l ?_); refine wpList_allocL rfl 24 2 rfl rfl HS1.out (Array.replicate 32 (.int .u8 0)) (by kernel_rfl) 32 (u8v fun _ => 0) (by rfl) (zero_at 32 (.int .u8 0)) ?_; intro b2 wB hb2 hc2 hs2; have HSB := Lib.hid hs2; have hszB := hs2.size; clear hs2)
  | ((with_reducible refine at_l ?_); refine wpList_allocL rfl 90 3 rfl rfl (HS.nil wB) _ zero_hash 2 (hashF none 0 0) (size_arr _ _) (fun i hi => arr_at _ _ i hi) ?_; intro b3 w3 hb3 hc3 hs; have HB3 := Lib.hid (hs.out (by simp; omega)); have hH3 : HashIs w3 wB.heap.size b3 0 (fun _ => 0) := ⟨none, 0, hs.row 0 rfl, OwnZ.nil w3 _ _ _ _, fun ad e => by cases e⟩; have HH3 := Lib.hid hH3; have HS3 := Lib.hid (HSB.out.below (hs.out (by simp; omega))); clear hs hH3)
  | ((with_reducible refine at_l ?_); refine wpList_load_part rfl 24 (.tmp 6) rfl b1 0 32 (u8v (byF F 0)) rfl _ (fun i hi => (HS3.out.cell 1 (0 + i) rfl (show 0 + i < 65 by omega)).trans (congrArg some (byT_eq HSc.out 0 i (leaf_eth10 i hi)))) Tryd.underlying24 rfl (by kernel_rfl) _ rfl ?_)
  | (go_at_call 53; clear tk0; refine (put_look wB.heap.size wB.heap.size b3 0 (fun _ => 0) (byF F 0) _ HH3.out (Nat.le_refl _) (by omega) HB3.out.size (by omega)).mono ?_; rintro e w4 ⟨rfl, hH, hb⟩; have HH4 := Lib.hid hH; have HB4 := Lib.hid (HB3.out.trans hb); have HS4 := Lib.hid (HSB.out.below (HB3.out.trans hb)); clear hH hb)
  | ((with_reducible refine at_l ?_); refine wpList_as rfl 10 rfl (.int .u64 ((nat (F 32) : Nat) : Int)) ?_ ?_; (· exact ex_ld1 .u64 rfl rfl Tryd.underlying22 ((HS4.out.cell 1 32 rfl (by show 32 < 65; omega)).trans (congrArg some (HSc.out.u64 32 (by kernel_rfl)).1))))
  | (go_at_call 54; clear tk1; refine (u64_look wB.heap.size wB.heap.size b3 1 (nat (F 32)) (catN (0 * 32) (fun _ => 0) (byF F 0)) _ HH4.out (Nat.le_refl _) (by omega) HB4.out.size (by omega)).mono ?_; rintro e w5 ⟨rfl, hH, hb⟩; have HH5 := Lib.hid hH; have HB5 := Lib.hid (HB4.out.trans hb); have HS5 := Lib.hid (HSB.out.below (HB4.out.trans hb)); clear hH hb)
  | ((with_reducible refine at_l ?_); refine wpList_load_part rfl 24 (.tmp 12) rfl b1 33 32 (u8v (byF F 33)) rfl _ (fun i hi => (HS5.out.cell 1 (33 + i) rfl (show 33 + i < 65 by omega)).trans (congrArg some (byT_eq HSc.out 33 i (leaf_eth133 i hi)))) Tryd.underlying24 rfl (by kernel_rfl) _ rfl ?_)
  | (go_at_call 53; clear tk2; refine (put_look wB.heap.size wB.heap.size b3 2 (catN (1 * 32) (catN (0 * 32) (fun _ => 0) (byF F 0)) (numN F 32)) (byF F 33) _ HH5.out (Nat.le_refl _) (by omega) HB5.out.size (by omega)).mono ?_; rintro e w6 ⟨rfl, hH, hb⟩; have HH6 := Lib.hid hH; have HB6 := Lib.hid (HB5.out.trans hb); have HS6 := Lib.hid (HSB.out.below (HB5.out.trans hb)); clear hH hb)
  | (go_at_call 40; refine (done_look wB.heap.size wB.heap.size b3 3 (eth1X F) _ HH6.out (eth1X_lt F) (Nat.le_refl _) (by omega) HB6.out.size (by omega) (by omega) (HP.out.below (HS6.out.out (by simp; omega))) (by omega)).mono ?_; rintro e wD ⟨rfl, hb⟩; rw [show treeN (dep 3) 3 (eth1X F) = eth1N F from rfl]; have HSD := Lib.hid (HSB.out.below (HB6.out.trans hb)); clear hb)
  | ((with_reducible refine at_l ?_); refine wpList_allocL rfl 24 4 rfl rfl HSD.out (Array.replicate 32 (.int .u8 0)) (by kernel_rfl) 32 (u8v fun _ => 0) (by rfl) (zero_at 32 (.int .u8 0)) ?_; intro bR wR hbR hcR hs; have HSR := Lib.hid hs; clear hs)
  | ((with_reducible refine at_l ?_); refine wpList_storeH rfl 24 (.tmp 4) (.tmp 17) rfl HSR.out 0 rfl (u8v (eth1N F)) rfl rfl (by kernel_rfl) (fun _ _ => rfl) ?_; intro wS hs; have HSS := Lib.hid hs; clear hs)
  | ((with_reducible refine at_l ?_); refine wpList_load_rd rfl 24 (.tmp 4) rfl 32 _ Tryd.underlying24 rfl (by kernel_rfl) ⟨bR, 0, none⟩ rfl (u8v (eth1N F)) (fun i hi => by rw [add_lit0]; exact HSS.out.cell 0 i rfl hi) ?_)
  | ((with_reducible refine at_l ?_); refine wpList_storeH rfl 24 (.tmp 2) (.tmp 19) rfl HSS.out 1 rfl (u8v (eth1N F)) rfl rfl (by kernel_rfl) (fun _ _ => rfl) ?_; intro wy hs; have HY := Lib.hid hs; clear hs))
 exact ret_rowIs rfl (HY.out.row 1 rfl) _ rfl Tryd.underlying24 rfl (by kernel_rfl) rfl ⟨rfl, HY.out.out (by simp; omega)⟩
/-- The chunks of api.Checkpoint. -/
def checkX (F : Nat → Value) : Nat → Nat := catN (1 * 32) (catN (0 * 32) (fun _ => 0) (numN F 0)) (byF F 1)
def checkN (F : Nat → Value) : Nat → Nat := treeN (dep 2) 2 (checkX F)
theorem checkX_lt (F : Nat → Value) : ∀ i, checkX F i < 256 := catN_lt (catN_lt (fun _ => by omega) (numN_lt F 0)) (byF_lt F 1)
theorem checkN_lt (F : Nat → Value) : ∀ i, checkN F i < 256 := treeN_lt (checkX_lt F) _ _
namespace SmallRoots
theorem leaf_check1 : ∀ q, q < 32 → leafAt Tryd.prog 8 42 (1 + q) = some 5 := by decide +kernel
end SmallRoots
open SmallRoots in
set_option maxHeartbeats 8000000 in
theorem check_look (F : Nat → Value) (hF : Sc F 42) (w : World) (hp : ShaPkg w) :
  Calls Tryd.prog 35 #[.agg (arr 33 F)] w fun e w' => e = .returned (rootV (checkN F)) ∧ Below w.heap.size w w' := by
 have HP := Lib.hid hp
 have hpl := hp.lt
 have HSc := Lib.hid hF
 have HS0 := Lib.hid (HS.nil w)
 have tk0 : Tok 0 := Tok.mk 0
 have tk1 : Tok 1 := Tok.mk 1
 clear hp hF
 go_enter Tryd.func35, Tryd.ntmps35
 go_wp2_with (first
  | ((with_reducible refine at_l ?_); refine wpList_boxL rfl 42 _ 1 rfl rfl HS0.out 33 F rfl ?_; intro b1 w1 hb1 hc1 hs1; have HS1 := Lib.hid hs1; clear hs1)
  | ((with_reducible refine at_l ?_); refine wpList_allocL rfl 24 2 rfl rfl HS1.out (Array.replicate 32 (.int .u8 0)) (by kernel_rfl) 32 (u8v fun _ => 0) (by rfl) (zero_at 32 (.int .u8 0)) ?_; intro b2 wB hb2 hc2 hs2; have HSB := Lib.hid hs2; have hszB := hs2.size; clear hs2)
  | ((with_reducible refine at_l ?_); refine wpList_allocL rfl 90 3 rfl rfl (HS.nil wB) _ zero_hash 2 (hashF none 0 0) (size_arr _ _) (fun i hi => arr_at _ _ i hi) ?_; intro b3 w3 hb3 hc3 hs; have HB3 := Lib.hid (hs.out (by simp; omega)); have hH3 : HashIs w3 wB.heap.size b3 0 (fun _ => 0) := ⟨none, 0, hs.row 0 rfl, OwnZ.nil w3 _ _ _ _, fun ad e => by cases e⟩; have HH3 := Lib.hid hH3; have HS3 := Lib.hid (HSB.out.below (hs.out (by simp; omega))); clear hs hH3)
  | ((with_reducible refine at_l ?_); refine wpList_as rfl 7 rfl (.int .u64 ((nat (F 0) : Nat) : Int)) ?_ ?_; (· exact ex_ld1 .u64 rfl rfl Tryd.underlying22 ((HS3.out.cell 1 0 rfl (by show 0 < 33; omega)).trans (congrArg some (HSc.out.u64 0 (by kernel_rfl)).1))))
  | (go_at_call 54; clear tk0; refine (u64_look wB.heap.size wB.heap.size b3 0 (nat (F 0)) (fun _ => 0) _ HH3.out (Nat.le_refl _) (by omega) HB3.out.size (by omega)).mono ?_; rintro e w4 ⟨rfl, hH, hb⟩; have HH4 := Lib.hid hH; have HB4 := Lib.hid (HB3.out.trans hb); have HS4 := Lib.hid (HSB.out.below (HB3.out.trans hb)); clear hH hb)
  | ((with_reducible refine at_l ?_); refine wpList_load_part rfl 24 (.tmp 9) rfl b1 1 32 (u8v (byF F 1)) rfl _ (fun i hi => (HS4.out.cell 1 (1 + i) rfl (show 1 + i < 33 by omega)).trans (congrArg some (byT_eq HSc.out 1 i (leaf_check1 i hi)))) Tryd.underlying24 rfl (by kernel_rfl) _ rfl ?_)
  | (go_at_call 53; clear tk1; refine (put_look wB.heap.size wB.heap.size b3 1 (catN (0 * 32) (fun _ => 0) (numN F 0)) (byF F 1) _ HH4.out (Nat.le_refl _) (by omega) HB4.out.size (by omega)).mono ?_; rintro e w5 ⟨rfl, hH, hb⟩; have HH5 := Lib.hid hH; have HB5 := Lib.hid (HB4.out.trans hb); have HS5 := Lib.hid (HSB.out.below (HB4.out.trans hb)); clear hH hb)
  | (go_at_call 40; refine (done_look wB.heap.size wB.heap.size b3 2 (checkX F) _ HH5.out (checkX_lt F) (Nat.le_refl _) (by omega) HB5.out.size (by omega) (by omega) (HP.out.below (HS5.out.out (by simp; omega))) (by omega)).mono ?_; rintro e wD ⟨rfl, hb⟩; rw [show treeN (dep 2) 2 (checkX F) = checkN F from rfl]; have HSD := Lib.hid (HSB.out.below (HB5.out.trans hb)); clear hb)
  | ((with_reducible refine at_l ?_); refine wpList_allocL rfl 24 4 rfl rfl HSD.out (Array.replicate 32 (.int .u8 0)) (by kernel_rfl) 32 (u8v fun _ => 0) (by rfl) (zero_at 32 (.int .u8 0)) ?_; intro bR wR hbR hcR hs; have HSR := Lib.hid hs; clear hs)
  | ((with_reducible refine at_l ?_); refine wpList_storeH rfl 24 (.tmp 4) (.tmp 14) rfl HSR.out 0 rfl (u8v (checkN F)) rfl rfl (by kernel_rfl) (fun _ _ => rfl) ?_; intro wS hs; have HSS := Lib.hid hs; clear hs)
  | ((with_reducible refine at_l ?_); refine wpList_load_rd rfl 24 (.tmp 4) rfl 32 _ Tryd.underlying24 rfl (by kernel_rfl) ⟨bR, 0, none⟩ rfl (u8v (checkN F)) (fun i hi => by rw [add_lit0]; exact HSS.out.cell 0 i rfl hi) ?_)
  | ((with_reducible refine at_l ?_); refine wpList_storeH rfl 24 (.tmp 2) (.tmp 16) rfl HSS.out 1 rfl (u8v (checkN F)) rfl rfl (by kernel_rfl) (fun _ _ => rfl) ?_; intro wy hs; have HY := Lib.hid hs; clear hs))
 exact ret_rowIs rfl (HY.out.row 1 rfl) _ rfl Tryd.underlying24 rfl (by kernel_rfl) rfl ⟨rfl, HY.out.out (by simp; omega)⟩
/-- The chunks of api.Validator. -/
def validX (F : Nat → Value) : Nat → Nat := catN (7 * 32) (catN (6 * 32) (catN (5 * 32) (catN (4 * 32) (catN (3 * 32) (catN (2 * 32) (catN (1 * 32) (catN (0 * 32) (fun _ => 0) (bytN F 0 48)) (byF F 48)) (numN F 80)) (flagN (bln (F 81)))) (numN F 82)) (numN F 83)) (numN F 84)) (numN F 85)
def validN (F : Nat → Value) : Nat → Nat := treeN (dep 8) 8 (validX F)
theorem validX_lt (F : Nat → Value) : ∀ i, validX F i < 256 := catN_lt (catN_lt (catN_lt (catN_lt (catN_lt (catN_lt (catN_lt (catN_lt (fun _ => by omega) (bytN_lt F 0 48)) (byF_lt F 48)) (numN_lt F 80)) (flagN_lt _)) (numN_lt F 82)) (numN_lt F 83)) (numN_lt F 84)) (numN_lt F 85)
theorem validN_lt (F : Nat → Value) : ∀ i, validN F i < 256 := treeN_lt (validX_lt F) _ _
namespace SmallRoots
theorem leaf_valid0 : ∀ q, q < 48 → leafAt Tryd.prog 8 66 (0 + q) = some 5 := by decide +kernel
theorem leaf_valid48 : ∀ q, q < 32 → leafAt Tryd.prog 8 66 (48 + q) = some 5 := by decide +kernel
end SmallRoots
open SmallRoots in
set_option maxHeartbeats 8000000 in
theorem valid_look (F : Nat → Value) (hF : Sc F 66) (w : World) (hp : ShaPkg w) :
  Calls Tryd.prog 60 #[.agg (arr 86 F)] w fun e w' => e = .returned (rootV (validN F)) ∧ Below w.heap.size w w' := by
 have HP := Lib.hid hp
 have hpl := hp.lt
 have HSc := Lib.hid hF
 have HS0 := Lib.hid (HS.nil w)
 have tk0 : Tok 0 := Tok.mk 0
 have tk1 : Tok 1 := Tok.mk 1
 have tk2 : Tok 2 := Tok.mk 2
 have tk3 : Tok 3 := Tok.mk 3
 have tk4 : Tok 4 := Tok.mk 4
 have tk5 : Tok 5 := Tok.mk 5
 have tk6 : Tok 6 := Tok.mk 6
 have tk7 : Tok 7 := Tok.mk 7
 clear hp hF
 go_enter Tryd.func60, Tryd.ntmps60
 go_wp2_with (first
  | ((with_reducible refine at_l ?_); refine wpList_boxL rfl 66 _ 1 rfl rfl HS0.out 86 F rfl ?_; intro b1 w1 hb1 hc1 hs1; have HS1 := Lib.hid hs1; clear hs1)
  | ((with_reducible refine at_l ?_); refine wpList_allocL rfl 24 2 rfl rfl HS1.out (Array.replicate 32 (.int .u8 0)) (by kernel_rfl) 32 (u8v fun _ => 0) (by rfl) (zero_at 32 (.int .u8 0)) ?_; intro b2 wB hb2 hc2 hs2; have HSB := Lib.hid hs2; have hszB := hs2.size; clear hs2)
  | ((with_reducible refine at_l ?_); refine wpList_allocL rfl 90 3 rfl rfl (HS.nil wB) _ zero_hash 2 (hashF none 0 0) (size_arr _ _) (fun i hi => arr_at _ _ i hi) ?_; intro b3 w3 hb3 hc3 hs; have HB3 := Lib.hid (hs.out (by simp; omega)); have hH3 : HashIs w3 wB.heap.size b3 0 (fun _ => 0) := ⟨none, 0, hs.row 0 rfl, OwnZ.nil w3 _ _ _ _, fun ad e => by cases e⟩; have HH3 := Lib.hid hH3; have HS3 := Lib.hid (HSB.out.below (hs.out (by simp; omega))); clear hs hH3)
  | (go_at_call 56; clear tk0; refine (hbytes_look wB.heap.size wB.heap.size b3 0 (fun _ => 0) _ HH3.out (Nat.le_refl _) (by omega) HB3.out.size (by omega) 48 48 (some ⟨b1, 0, none⟩) (byF F 0) (Rd.of_part (HS3.out.row 1 rfl) (show 0 + 48 ≤ 86 by omega) (fun i hi => byT_eq HSc.out 0 i (leaf_valid0 i hi))) (byF_lt F 0) (Nat.le_refl _) (by omega) (by omega) (HP.out.below (HS3.out.out (by simp; omega))) (by omega)).mono ?_; rintro e w4 ⟨rfl, hH, hb⟩; have HH4 := Lib.hid hH; have HB4 := Lib.hid (HB3.out.trans hb); have HS4 := Lib.hid (HSB.out.below (HB3.out.trans hb)); clear hH hb)
  | ((with_reducible refine at_l ?_); refine wpList_load_part rfl 24 (.tmp 9) rfl b1 48 32 (u8v (byF F 48)) rfl _ (fun i hi => (HS4.out.cell 1 (48 + i) rfl (show 48 + i < 86 by omega)).trans (congrArg some (byT_eq HSc.out 48 i (leaf_valid48 i hi)))) Tryd.underlying24 rfl (by kernel_rfl) _ rfl ?_)
  | (go_at_call 53; clear tk1; refine (put_look wB.heap.size wB.heap.size b3 1 (catN (0 * 32) (fun _ => 0) (bytN F 0 48)) (byF F 48) _ HH4.out (Nat.le_refl _) (by omega) HB4.out.size (by omega)).mono ?_; rintro e w5 ⟨rfl, hH, hb⟩; have HH5 := Lib.hid hH; have HB5 := Lib.hid (HB4.out.trans hb); have HS5 := Lib.hid (HSB.out.below (HB4.out.trans hb)); clear hH hb)
  | ((with_reducible refine at_l ?_); refine wpList_as rfl 13 rfl (.int .u64 ((nat (F 80) : Nat) : Int)) ?_ ?_; (· exact ex_ld1 .u64 rfl rfl Tryd.underlying22 ((HS5.out.cell 1 80 rfl (by show 80 < 86; omega)).trans (congrArg some (HSc.out.u64 80 (by kernel_rfl)).1))))
  | (go_at_call 54; clear tk2; refine (u64_look wB.heap.size wB.heap.size b3 2 (nat (F 80)) (catN (1 * 32) (catN (0 * 32) (fun _ => 0) (bytN F 0 48)) (byF F 48)) _ HH5.out (Nat.le_refl _) (by omega) HB5.out.size (by omega)).mono ?_; rintro e w6 ⟨rfl, hH, hb⟩; have HH6 := Lib.hid hH; have HB6 := Lib.hid (HB5.out.trans hb); have HS6 := Lib.hid (HSB.out.below (HB5.out.trans hb)); clear hH hb)
  | ((with_reducible refine at_l ?_); refine wpList_as rfl 16 rfl (.bool (bln (F 81))) ?_ ?_; (· exact ex_ldBool rfl rfl Tryd.underlying4 ((HS6.out.cell 1 81 rfl (by show 81 < 86; omega)).trans (congrArg some (HSc.out.bool 81 (by kernel_rfl))))))
  | (go_at_call 83; clear tk3; refine (flag_look wB.heap.size wB.heap.size b3 3 (bln (F 81)) (catN (2 * 32) (catN (1 * 32) (catN (0 * 32) (fun _ => 0) (bytN F 0 48)) (byF F 48)) (numN F 80)) _ HH6.out (Nat.le_refl _) (by omega) HB6.out.size (by omega)).mono ?_; rintro e w7 ⟨rfl, hH, hb⟩; have HH7 := Lib.hid hH; have HB7 := Lib.hid (HB6.out.trans hb); have HS7 := Lib.hid (HSB.out.below (HB6.out.trans hb)); clear hH hb)
  | ((with_reducible refine at_l ?_); refine wpList_as rfl 19 rfl (.int .u64 ((nat (F 82) : Nat) : Int)) ?_ ?_; (· exact ex_ld1 .u64 rfl rfl Tryd.underlying22 ((HS7.out.cell 1 82 rfl (by show 82 < 86; omega)).trans (congrArg some (HSc.out.u64 82 (by kernel_rfl)).1))))
  | (go_at_call 54; clear tk4; refine (u64_look wB.heap.size wB.heap.size b3 4 (nat (F 82)) (catN (3 * 32) (catN (2 * 32) (catN (1 * 32) (catN (0 * 32) (fun _ => 0) (bytN F 0 48)) (byF F 48)) (numN F 80)) (flagN (bln (F 81)))) _ HH7.out (Nat.le_refl _) (by omega) HB7.out.size (by omega)).mono ?_; rintro e w8 ⟨rfl, hH, hb⟩; have HH8 := Lib.hid hH; have HB8 := Lib.hid (HB7.out.trans hb); have HS8 := Lib.hid (HSB.out.below (HB7.out.trans hb)); clear hH hb)
  | ((with_reducible refine at_l ?_); refine wpList_as rfl 22 rfl (.int .u64 ((nat (F 83) : Nat) : Int)) ?_ ?_; (· exact ex_ld1 .u64 rfl rfl Tryd.underlying22 ((HS8.out.cell 1 83 rfl (by show 83 < 86; omega)).trans (congrArg some (HSc.out.u64 83 (by kernel_rfl)).1))))
  | (go_at_call 54; clear tk5; refine (u64_look wB.heap.size wB.heap.size b3 5 (nat (F 83)) (catN (4 * 32) (catN (3 * 32) (catN (2 * 32) (catN (1 * 32) (catN (0 * 32) (fun _ => 0) (bytN F 0 48)) (byF F 48)) (numN F 80)) (flagN (bln (F 81)))) (numN F 82)) _ HH8.out (Nat.le_refl _) (by omega) HB8.out.size (by omega)).mono ?_; rintro e w9 ⟨rfl, hH, hb⟩; have HH9 := Lib.hid hH; have HB9 := Lib.hid (HB8.out.trans hb); have HS9 := Lib.hid (HSB.out.below (HB8.out.trans hb)); clear hH hb)
  | ((with_reducible refine at_l ?_); refine wpList_as rfl 25 rfl (.int .u64 ((nat (F 84) : Nat) : Int)) ?_ ?_; (· exact ex_ld1 .u64 rfl rfl Tryd.underlying22 ((HS9.out.cell 1 84 rfl (by show 84 < 86; omega)).trans (congrArg some (HSc.out.u64 84 (by kernel_rfl)).1))))
  | (go_at_call 54; clear tk6; refine (u64_look wB.heap.size wB.heap.size b3 6 (nat (F 84)) (catN (5 * 32) (catN (4 * 32) (catN (3 * 32) (catN (2 * 32) (catN (1 * 32) (catN (0 * 32) (fun _ => 0) (bytN F 0 48)) (byF F 48)) (numN F 80)) (flagN (bln (F 81)))) (numN F 82)) (numN F 83)) _ HH9.out (Nat.le_refl _) (by omega) HB9.out.size (by omega)).mono ?_; rintro e w10 ⟨rfl, hH, hb⟩; have HH10 := Lib.hid hH; have HB10 := Lib.hid (HB9.out.trans hb); have HS10 := Lib.hid (HSB.out.below (HB9.out.trans hb)); clear hH hb)
  | ((with_reducible refine at_l ?_); refine wpList_as rfl 28 rfl (.int .u64 ((nat (F 85) : Nat) : Int)) ?_ ?_; (· exact ex_ld1 .u64 rfl rfl Tryd.underlying22 ((HS10.out.cell 1 85 rfl (by show 85 < 86; omega)).trans (congrArg some (HSc.out.u64 85 (by kernel_rfl)).1))))
  | (go_at_call 54; clear tk7; refine (u64_look wB.heap.size wB.heap.size b3 7 (nat (F 85)) (catN (6 * 32) (catN (5 * 32) (catN (4 * 32) (catN (3 * 32) (catN (2 * 32) (catN (1 * 32) (catN (0 * 32) (fun _ => 0) (bytN F 0 48)) (byF F 48)) (numN F 80)) (flagN (bln (F 81)))) (numN F 82)) (numN F 83)) (numN F 84)) _ HH10.out (Nat.le_refl _) (by omega) HB10.out.size (by omega)).mono ?_; rintro e w11 ⟨rfl, hH, hb⟩; have HH11 := Lib.hid hH; have HB11 := Lib.hid (HB10.out.trans hb); have HS11 := Lib.hid (HSB.out.below (HB10.out.trans hb)); clear hH hb)
  | (go_at_call 40; refine (done_look wB.heap.size wB.heap.size b3 8 (validX F) _ HH11.out (validX_lt F) (Nat.le_refl _) (by omega) HB11.out.size (by omega) (by omega) (HP.out.below (HS11.out.out (by simp; omega))) (by omega)).mono ?_; rintro e wD ⟨rfl, hb⟩; rw [show treeN (dep 8) 8 (validX F) = validN F from rfl]; have HSD := Lib.hid (HSB.out.below (HB11.out.trans hb)); clear hb)
  | ((with_reducible refine at_l ?_); refine wpList_allocL rfl 24 4 rfl rfl HSD.out (Array.replicate 32 (.int .u8 0)) (by kernel_rfl) 32 (u8v fun _ => 0) (by rfl) (zero_at 32 (.int .u8 0)) ?_; intro bR wR hbR hcR hs; have HSR := Lib.hid hs; clear hs)
  | ((with_reducible refine at_l ?_); refine wpList_storeH rfl 24 (.tmp 4) (.tmp 32) rfl HSR.out 0 rfl (u8v (validN F)) rfl rfl (by kernel_rfl) (fun _ _ => rfl) ?_; intro wS hs; have HSS := Lib.hid hs; clear hs)
  | ((with_reducible refine at_l ?_); refine wpList_load_rd rfl 24 (.tmp 4) rfl 32 _ Tryd.underlying24 rfl (by kernel_rfl) ⟨bR, 0, none⟩ rfl (u8v (validN F)) (fun i hi => by rw [add_lit0]; exact HSS.out.cell 0 i rfl hi) ?_)
  | ((with_reducible refine at_l ?_); refine wpList_storeH rfl 24 (.tmp 2) (.tmp 34) rfl HSS.out 1 rfl (u8v (validN F)) rfl rfl (by kernel_rfl) (fun _ _ => rfl) ?_; intro wy hs; have HY := Lib.hid hs; clear hs))
 exact ret_rowIs rfl (HY.out.row 1 rfl) _ rfl Tryd.underlying24 rfl (by kernel_rfl) rfl ⟨rfl, HY.out.out (by simp; omega)⟩
end Go.Proofs.YtomilckcgmhfcaaDoor
/- The root of a committee, by the program. (Printed by a program of mine.) -/
namespace Go.Proofs.YtomilckcgmhfcaaDoor
set_option maxRecDepth 40000
open Go.RowKit
theorem HashIs.congr {w : World} {base g n : Nat} {x y : Nat → Nat} (h : HashIs w base g n x) (e : ∀ i, i < n * 32 → x i = y i) : HashIs w base g n y := by
 obtain ⟨A, c, h1, h2, h3⟩ := h
 exact ⟨A, c, h1, h2.congr (fun i hi => by simp only [u8v]; rw [e i hi]), h3⟩
theorem HashIs.all {w w' : World} {base g n : Nat} {x : Nat → Nat} (h : HashIs w base g n x) (hb : Below w.heap.size w w') : HashIs w' base g n x := by
 obtain ⟨A, c, h1, h2, h3⟩ := h
 exact ⟨A, c, row_below h1 hb h1.lt, h2.all hb, h3⟩
theorem thnB {B B' : Nat} {a b c : World} (h : Below B a b) (k : Below B' b c) (hB : B ≤ B') : Below B a c := h.trans (k.mono hB)
theorem arr_extrC (N off z : Nat) (F : Nat → Value) (h : off + z ≤ N) : (arr N F).extract off (off + z) = arr z (fun q => F (off + q)) := by
 apply arr_of
 ·simp [size_arr]; omega
 ·intro i hi
  rw [Array.getElem?_extract, if_pos (by simp [size_arr]; omega), arr_at _ _ _ (by omega)]
section
variable {P : Program}
/-- An element of an array that is a value. -/
theorem run_indexA (w : World) {T e : TypeId} {n z N : Nat} {d : TypeDesc} (hu : P.underlying T = some (.array n e)) (hz : (P.info? e).map (·.size) = some z) (hud : P.underlying e = some d) (hd : (match d with | .struct _ | .array _ _ => true | _ => false) = true) (F : Nat → Value) (k : Nat) (hk : k < n) (hN : k * z + z ≤ N) : (Instr.index T (.agg (arr N F)) (.int .i64 (k : Int))).run P w = .ok (.agg (arr z fun q => F (k * z + q))) w := by
 have hagg : (isAgg e).run P w = .ok true w := by
  unfold isAgg
  rw [Sem.run_bind, run_underlying hud w]
  cases d <;> simp_all
 have hs := sizeOf_run hz w
 have hk2 : (0 : Int) ≤ (k : Int) ∧ (k : Int) < (n : Int) := by omega
 simp [Instr.index, run_underlying hu, asIntOf, hk, part, hagg, hs, go_sem, arr_extrC N (k * z) z F hN]
/-- A cell of an array that is a value. -/
theorem run_indexC (w : World) {T e : TypeId} {n : Nat} {d : TypeDesc} (hu : P.underlying T = some (.array n e)) (hz : (P.info? e).map (·.size) = some 1) (hud : P.underlying e = some d) (hd : (match d with | .struct _ | .array _ _ => true | _ => false) = false) (F : Nat → Value) (k : Nat) (hk : k < n) : (Instr.index T (.agg (arr n F)) (.int .i64 (k : Int))).run P w = .ok (F k) w := by
 have hagg : (isAgg e).run P w = .ok false w := by
  unfold isAgg
  rw [Sem.run_bind, run_underlying hud w]
  cases d <;> simp_all
 have hs := sizeOf_run hz w
 simp [Instr.index, run_underlying hu, asIntOf, hk, part, hagg, hs, go_sem, arr_at _ _ _ hk]
theorem ex_index {o : Oper} {a : Act} {t : TypeId} {x i : Operand} {v u r : Value} (ho : o.op = .index t x i) (hx : a.eval x = v) (hi : a.eval i = u) (hr : ∀ w, (Instr.index t v u).run P w = .ok r w) : ∀ w, (execOp a.eval o).run P w = .ok (.value r) w := fun w => by
 unfold execOp
 rw [ho]
 simp only [hx, hi]
 simp [hr w]
end
/-- The roots of a committee's keys. -/
def keysX (F : Nat → Value) : Nat → Nat := fun i => bytN F (i / 32 * 48) 48 (i % 32)
theorem keysX_lt (F : Nat → Value) : ∀ i, keysX F i < 256 := fun i => bytN_lt F _ _ _
def commX (F : Nat → Value) : Nat → Nat := catN (1 * 32) (catN (0 * 32) (fun _ => 0) (treeN (dep 8) 8 (keysX F))) (bytN F 384 48)
theorem commX_lt (F : Nat → Value) : ∀ i, commX F i < 256 := catN_lt (catN_lt (fun _ => by omega) (treeN_lt (keysX_lt F) _ _)) (bytN_lt F 384 48)
def commN (F : Nat → Value) : Nat → Nat := treeN (dep 2) 2 (commX F)
theorem commN_lt (F : Nat → Value) : ∀ i, commN F i < 256 := treeN_lt (commX_lt F) _ _
namespace Committee
theorem leafs : ∀ q, q < 432 → leafAt Tryd.prog 8 47 q = some 5 := fun q hq => by
 have h : (List.range 432).all (fun q => leafAt Tryd.prog 8 47 q == some 5) = true := by kernel_rfl
 exact eq_of_beq (List.all_eq_true.1 h q (List.mem_range.2 hq))
theorem key_step (F : Nat → Value) (j : Nat) : ∀ i, i < (j + 1) * 32 → catN (j * 32) (keysX F) (bytN (fun q => F (j * 48 + q)) 0 48) i = keysX F i := fun i hi => by
 unfold catN
 by_cases h : i < j * 32
 ·rw [if_pos h]
 ·rw [if_neg h]
  unfold keysX
  rw [show i / 32 = j by omega, show i % 32 = i - j * 32 by omega]
  unfold bytN byF
  simp only [Nat.zero_add]
end Committee
open Committee in
set_option maxHeartbeats 8000000 in
theorem comm_look (F : Nat → Value) (hF : Sc F 47) (w : World) (hp : ShaPkg w) :
  Calls Tryd.prog 36 #[.agg (arr 432 F)] w fun e w' => e = .returned (rootV (commN F)) ∧ Below w.heap.size w w' := by
 have HP := Lib.hid hp
 have hpl := hp.lt
 have HSc := Lib.hid hF
 have HS0 := Lib.hid (HS.nil w)
 have H1 := Lib.hid (show ∀ i, i < 432 → (F i).oneCell' = true from fun i hi => by rw [(hF.u8 i (leafs i hi)).1]; rfl)
 have tk0 := Tok.mk 0
 clear hp hF
 go_enter Tryd.func36, Tryd.ntmps36
 go_upto_region 3 with (first
  | ((with_reducible refine at_l ?_); refine wpList_boxL rfl 47 _ 1 rfl rfl HS0.out 432 F rfl ?_; intro b1 w1 hb1 hc1 hs1; have HS1 := Lib.hid hs1; clear hs1)
  | ((with_reducible refine at_l ?_); refine wpList_allocL rfl 24 2 rfl rfl HS1.out (Array.replicate 32 (.int .u8 0)) (by kernel_rfl) 32 (u8v fun _ => 0) (by rfl) (zero_at 32 (.int .u8 0)) ?_; intro b2 wA hb2 hc2 hs2; have HSA := Lib.hid hs2; have hszA := hs2.size; clear hs2)
  | ((with_reducible refine at_l ?_); refine wpList_allocL rfl 90 3 rfl rfl (HS.nil wA) _ zero_hash 2 (hashF none 0 0) (size_arr _ _) (fun i hi => arr_at _ _ i hi) ?_; intro b3 wB hb3 hc3 hs; have HR3 := Lib.hid (hs.row 0 rfl); have HBB := Lib.hid (hs.out (by simp; omega)); have hszB := hs.size; have hlB3 : b3 < wB.heap.size := hs.lt 0 rfl; clear hs)
  | ((with_reducible refine at_l ?_); refine wpList_allocL rfl 90 4 rfl rfl (HS.nil wB) _ zero_hash 2 (hashF none 0 0) (size_arr _ _) (fun i hi => arr_at _ _ i hi) ?_; intro b4 w4 hb4 hc4 hs; have HB4 := Lib.hid (hs.out (by simp; omega)); have hH4 : HashIs w4 wB.heap.size b4 0 (keysX F) := ⟨none, 0, hs.row 0 rfl, OwnZ.nil w4 _ _ _ _, fun ad e => by cases e⟩; have HH4 := Lib.hid hH4; clear hs hH4))
 have HS4 := Lib.hid (HSA.out.below (thnB HBB.out HB4.out hszB))
 go_wp2_with (refine wpList_load_part rfl 45 (.tmp 9) rfl b1 0 384 F rfl _ (fun i hi => by rw [Nat.zero_add]; exact HS4.out.cell 1 i rfl (show i < 432 by omega)) Tryd.underlying45 rfl (by kernel_rfl) _ rfl ?_)
 go_loopw [11] (fun i wq => ∃ j : Nat, i = .int .i64 (j : Int) ∧ j ≤ 8 ∧ HashIs wq wB.heap.size b4 j (keysX F) ∧ Below wB.heap.size wB wq) (fun i _ => 8 - (intOf i).toNat)
 case atStart => exact ⟨0, rfl, by omega, HH4.out, HB4.out⟩
 case round =>
  clear HH4
  obtain ⟨j, rfl, hj, hh, hb⟩ := hrel
  have HH := Lib.hid hh
  have HB := Lib.hid hb
  have hsz := hb.size
  clear hh hb
  by_cases hj8 : j < 8
  ·have HK1 := Lib.hid (show ∀ q, q < 48 → (F (j * 48 + q)).oneCell' = true from fun q hq => H1.out _ (by omega))
   have HKR := Lib.hid (show ∀ q, q < 48 → F (j * 48 + q) = u8v (byF (fun q => F (j * 48 + q)) 0) q from fun q hq => by
    have h2 := HSc.out.u8 _ (leafs (j * 48 + q) (by omega))
    show _ = Value.int .u8 ((nat (F (j * 48 + (0 + q))) % 256 : Nat) : Int)
    rw [Nat.zero_add, Nat.mod_eq_of_lt h2.2]; exact h2.1)
   have HKS := Lib.hid (key_step F j)
   go_wp2_with (first
  | ((with_reducible refine at_l ?_); refine wpList_as rfl 13 rfl (.agg (arr 48 fun q => F (j * 48 + q))) ?_ ?_; (· exact ex_index rfl rfl rfl (fun w => run_indexA w Tryd.underlying45 (by kernel_rfl) Tryd.underlying44 rfl F j hj8 (by omega)) _))
  | ((with_reducible refine at_l ?_); refine wpList_allocL rfl 44 6 rfl rfl (HS.nil wr) (Array.replicate 48 (.int .u8 0)) (by kernel_rfl) 48 (u8v fun _ => 0) (by rfl) (zero_at 48 (.int .u8 0)) ?_; intro b6 w6 hb6 hc6 hs; have HQ6 := Lib.hid hs; clear hs)
  | ((with_reducible refine at_l ?_); refine wpList_storeH rfl 44 (.tmp 6) (.tmp 13) rfl HQ6.out 0 rfl (fun q => F (j * 48 + q)) rfl rfl (by kernel_rfl) HK1.out ?_; intro w7 hs; have HQ7 := Lib.hid hs; have HB7 := Lib.hid (hs.out (by simp; omega)); clear hs)
  | (go_at_call 56; have hh7 : HashIs w7 wB.heap.size b4 j (keysX F) := HH.out.all HB7.out; refine (hbytes_look wB.heap.size wB.heap.size b4 j (keysX F) _ hh7 (Nat.le_refl _) (by omega) (Nat.le_trans hsz HB7.out.size) (by omega) 48 48 (some ⟨b6, 0, none⟩) (byF (fun q => F (j * 48 + q)) 0) (Rd.of_part (HQ7.out.row 0 rfl) (show 0 + 48 ≤ 48 by omega) (fun i hi => by rw [Nat.zero_add]; exact HKR.out i hi)) (byF_lt _ 0) (Nat.le_refl _) (by omega) (by omega) (HP.out.below (thnB (HSA.out.out (by simp; omega)) (thnB HBB.out (thnB HB.out HB7.out hsz) hszB) hszA)) (by omega)).mono ?_; clear hh7; rintro e w8 ⟨rfl, hH, hb⟩; have HH8 := Lib.hid (HashIs.congr (y := keysX F) hH HKS.out); have HB8 := Lib.hid ((thnB HB.out HB7.out hsz).trans hb); clear hH hb))
   go_roundw
   case rel => exact ⟨j + 1, by go_num, by omega, HH8.out, HB8.out⟩
   case measure => simp [intOf]; omega
  ·obtain rfl : j = 8 := by omega
   obtain ⟨KR, hKR⟩ : ∃ KR, KR = treeN (dep 8) 8 (keysX F) := ⟨_, rfl⟩
   have HKR := Lib.hid hKR
   have HCX := Lib.hid (show catN (1 * 32) (catN (0 * 32) (fun _ => 0) KR) (treeN (dep (nch 48)) (nch 48) (padN 48 (byF F 384))) = commX F by rw [hKR]; rfl)
   clear hKR
   go_wp2_with (first
  | (go_at_call 40; clear tk0; refine (done_look wB.heap.size wB.heap.size b4 8 (keysX F) _ HH.out (keysX_lt F) (Nat.le_refl _) (by omega) hsz (by omega) (by omega) (HP.out.below (thnB (HSA.out.out (by simp; omega)) (thnB HBB.out HB.out hszB) hszA)) (by omega)).mono ?_; rintro e w5 ⟨rfl, hb⟩; rw [← HKR.out]; have HB5 := Lib.hid (thnB HBB.out (HB.out.trans hb) hszB); have HR5 := Lib.hid (row_below HR3.out (HB.out.trans hb) hlB3); clear hb)
  | (go_at_call 53; have hh5 : HashIs w5 wA.heap.size b3 0 (fun _ => 0) := ⟨none, 0, HR5.out, OwnZ.nil w5 _ _ _ _, fun ad e => by cases e⟩; refine (put_look wA.heap.size wA.heap.size b3 0 (fun _ => 0) KR _ hh5 (Nat.le_refl _) hb3 HB5.out.size (by omega)).mono ?_; clear hh5; rintro e w6 ⟨rfl, hH, hb⟩; have HH6 := Lib.hid hH; have HB6 := Lib.hid (HB5.out.trans hb); have HS6 := Lib.hid (HSA.out.below (HB5.out.trans hb)); clear hH hb)
  | (go_at_call 56; refine (hbytes_look wA.heap.size wA.heap.size b3 1 (catN (0 * 32) (fun _ => 0) KR) _ HH6.out (Nat.le_refl _) hb3 HB6.out.size (by omega) 48 48 (some ⟨b1, 384, none⟩) (byF F 384) (Rd.of_part (HS6.out.row 1 rfl) (show 384 + 48 ≤ 432 by omega) (fun i hi => byT_eq HSc.out 384 i (leafs (384 + i) (by omega)))) (byF_lt F 384) (Nat.le_refl _) (by omega) (by omega) (HP.out.below (HS6.out.out (by simp; omega))) (by omega)).mono ?_; rintro e w7 ⟨rfl, hH, hb⟩; rw [HCX.out] at hH; have HH7 := Lib.hid hH; have HB7 := Lib.hid (HB6.out.trans hb); have HS7 := Lib.hid (HSA.out.below (HB6.out.trans hb)); clear hH hb)
  | (go_at_call 40; refine (done_look wA.heap.size wA.heap.size b3 2 (commX F) _ HH7.out (commX_lt F) (Nat.le_refl _) hb3 HB7.out.size (by omega) (by omega) (HP.out.below (HS7.out.out (by simp; omega))) (by omega)).mono ?_; rintro e wD ⟨rfl, hb⟩; rw [show treeN (dep 2) 2 (commX F) = commN F from rfl]; have HSD := Lib.hid (HSA.out.below (HB7.out.trans hb)); clear hb)
  | ((with_reducible refine at_l ?_); refine wpList_allocL rfl 24 7 rfl rfl HSD.out (Array.replicate 32 (.int .u8 0)) (by kernel_rfl) 32 (u8v fun _ => 0) (by rfl) (zero_at 32 (.int .u8 0)) ?_; intro bR wR hbR hcR hs; have HSR := Lib.hid hs; clear hs)
  | ((with_reducible refine at_l ?_); refine wpList_storeH rfl 24 (.tmp 7) (.tmp 26) rfl HSR.out 0 rfl (u8v (commN F)) rfl rfl (by kernel_rfl) (fun _ _ => rfl) ?_; intro wS hs; have HSS := Lib.hid hs; clear hs)
  | ((with_reducible refine at_l ?_); refine wpList_load_rd rfl 24 (.tmp 7) rfl 32 _ Tryd.underlying24 rfl (by kernel_rfl) ⟨bR, 0, none⟩ rfl (u8v (commN F)) (fun i hi => by rw [add_lit0]; exact HSS.out.cell 0 i rfl hi) ?_)
  | ((with_reducible refine at_l ?_); refine wpList_storeH rfl 24 (.tmp 2) (.tmp 28) rfl HSS.out 1 rfl (u8v (commN F)) rfl rfl (by kernel_rfl) (fun _ _ => rfl) ?_; intro wy hs; have HY := Lib.hid hs; clear hs))
   exact ret_rowIs rfl (HY.out.row 1 rfl) _ rfl Tryd.underlying24 rfl (by kernel_rfl) rfl ⟨rfl, HY.out.out (by simp; omega)⟩
end Go.Proofs.YtomilckcgmhfcaaDoor
/- What a live state holds: its cells, its lists, its trees; the leaves of its trees. -/
namespace Go.Proofs.YtomilckcgmhfcaaDoor
set_option maxRecDepth 40000
open Go.RowKit
/-- Bytes of numbers that are bytes. -/
def b8 (f : Nat → Value) : Nat → Nat := fun i => nat (f i) % 256
theorem b8_lt (f : Nat → Value) : ∀ i, b8 f i < 256 := fun _ => Nat.mod_lt _ (by omega)
/-- The roots of validators, one behind the other. -/
def valX (V : Nat → Value) : Nat → Nat := fun i => validN (fun q => V (i / 32 * 86 + q)) (i % 32)
theorem valX_lt (V : Nat → Value) : ∀ i, valX V i < 256 := fun _ => validN_lt _ _
/-- Numbers, packed. -/
def numX (n : Nat) (f : Nat → Value) : Nat → Nat := padN (8 * n) (LiveSmall.leS fun i => nat (f i))
theorem numX_lt (n : Nat) (f : Nat → Value) : ∀ i, numX n f i < 256 := padN_lt fun _ => leB_lt _ _
/-- Bytes, packed. -/
def bytX (n : Nat) (f : Nat → Value) : Nat → Nat := padN n (b8 f)
theorem bytX_lt (n : Nat) (f : Nat → Value) : ∀ i, bytX n f i < 256 := padN_lt (b8_lt f)
/-- The leaves of tree j: of the validators, the balances, previous and current flags, the scores. -/
def lvX (s : StV) (j : Nat) : Nat → Nat := if j = 0 then valX s.V else if j = 1 then numX s.nB s.Bal else if j = 2 then bytX s.nP s.Prv else if j = 3 then bytX s.nC s.Cur else numX s.nS s.Sco
theorem lvX_lt (s : StV) (j : Nat) : ∀ i, lvX s j i < 256 := by
 unfold lvX
 split; · exact valX_lt _
 split; · exact numX_lt _ _
 split; · exact bytX_lt _ _
 split; · exact bytX_lt _ _
 exact numX_lt _ _
/-- How many validators a leaf of tree j stands for. -/
def lvG (j : Nat) : Nat := if j = 0 then 1 else if j = 1 then 4 else if j = 2 then 32 else if j = 3 then 32 else 4
theorem lvG_pos (j : Nat) : 0 < lvG j := by unfold lvG; (repeat (split; (· omega))); omega
/-- How many leaves n validators have. -/
def lvC (j n : Nat) : Nat := (n + lvG j - 1) / lvG j
/-- How many leaves tree j may have. -/
def lvL (j : Nat) : Nat := if j = 0 then 65536 else if j = 1 then 16384 else if j = 2 then 2048 else if j = 3 then 2048 else 16384
theorem five {p : Nat → Prop} (h0 : p 0) (h1 : p 1) (h2 : p 2) (h3 : p 3) (h4 : p 4) : ∀ j, j < 5 → p j := fun j hj => by
 rcases (show j = 0 ∨ j = 1 ∨ j = 2 ∨ j = 3 ∨ j = 4 by omega) with rfl | rfl | rfl | rfl | rfl <;> assumption
/-- The leaf of a validator, as the program lays it. -/
theorem leaf_val (s : StV) (i : Nat) : ∀ q, q < 32 → validN (fun q => s.V (i * 86 + q)) q = lvX s 0 (i * 32 + q) := fun q hq => by
 show _ = valX s.V _
 unfold valX
 rw [show (i * 32 + q) / 32 = i by omega, show (i * 32 + q) % 32 = q by omega]
def updX {α : Type} (f : Nat → α) (j : Nat) (m : α) : Nat → α := fun k => if k = j then m else f k
theorem updX_at {α : Type} (f : Nat → α) (j : Nat) (m : α) : updX f j m j = m := if_pos rfl
theorem updX_ne {α : Type} (f : Nat → α) {j k : Nat} (m : α) (h : k ≠ j) : updX f j m k = f k := if_neg h
end Go.Proofs.YtomilckcgmhfcaaDoor
