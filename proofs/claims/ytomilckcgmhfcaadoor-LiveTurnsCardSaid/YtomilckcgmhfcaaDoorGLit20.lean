/- Lemmas that the proof stands on. -/
import Derived.Test.YtomilckcgmhfcaaDoorGLit19
namespace Go.Proofs.YtomilckcgmhfcaaDoor
set_option maxRecDepth 40000
set_option maxHeartbeats 64000000
open Go.RowKit
theorem zo2 (t : Nat → Bool) : ∀ D, costN 0 t D = 0 := fun D => zqj (fun a ha => by omega) D
theorem zqw (D : Nat) (x : Nat → Nat) : rootV (treeN D 0 x) = rootV (zrN D) := by
 refine congrArg Value.agg (zca fun q hq => ?_)
 simp only [u8v]
 rw [zja D 0 x (Nat.zero_le _) q hq]
 have h1 := zi9 D 0 0 x (by omega) q hq
 rw [Nat.zero_mul, Nat.zero_add] at h1
 rw [h1]
theorem zqx (v : TV) (base T n : Nat) (x : Nat → Nat) (w : World) (h : TM w base T v) (hst : TSt v n x) (hH : v.H ≤ 1152921504606846976) (hp : ShaPkg w) (hpB : 0 < base ∧ 1 < base) (hpt : TzPkg w) :
 Calls Tryd.prog 57 #[tpV T] w fun r w' => ∃ v2, r = .returned (rootV (treeN v.D n x)) ∧ TM w' base T v2 ∧ TStep w w' T v v2 ∧ TSt v2 n x ∧ (∀ a, dirB v2.dn v2.dw a = false) ∧ v2.H = v.H + costN n (dirB v.dn v.dw) v.D := by
 rcases Nat.eq_zero_or_pos n with h0 | h0
 ·subst h0
  refine (zo0 v base T w h hst.n0 hst.D30).mono ?_
  rintro r w' ⟨rfl, hb⟩
  refine ⟨v, by rw [zqw], h.below hb, TStep.refl hb, hst, fun a => ?_, by rw [zo2]; rfl⟩
  cases hd : dirB v.dn v.dw a with
  | false => rfl
  | true => have := hst.tn a hd; omega
 ·exact zo1 v base T n x w h hst h0 hH hp hpB hpt
section
variable {w w1 w2 w' : World} {B p T l n n' c c' : Nat} {v v' : TV} {A A' : Option Addr} {x x' : Nat → Nat}
end
theorem TSt.x_cong {v : TV} {n : Nat} {x x' : Nat → Nat} (h : TSt v n x) (hx : ∀ i, i < n * 32 → x' i = x i) : TSt v n x' :=
 { h with x0 := fun i hi => (h.x0 i hi).trans (hx i hi).symm, lev := fun d hd => zk2 (h.lev d hd) hx }
theorem zuz (x y : Nat → Nat) (n : Nat) : ∀ i, i < (n + 1) * 32 → setN x n y i = appN x n y i := fun i hi => by
 unfold setN appN catN
 by_cases h : i < n * 32
 ·rw [if_neg (by omega), if_pos h]
 ·rw [if_pos (by omega), if_neg h]
def layM (n k : Nat) : Nat := if k < n then n else k + 1
theorem zdw (v : TV) (base T n k : Nat) (x y : Nat → Nat) (w : World) (h : TM w base T v) (hst : TSt v n x) (hk : k ≤ n) (hl : k < v.lim) (hy : ∀ q, y q < 256) :
 Calls Tryd.prog 64 #[tpV T, .int .i64 (k : Int), rootV y] w fun r w' => ∃ v', r = .returned (.tuple #[]) ∧ TM w' base T v' ∧ TStep w w' T v v' ∧ TSt v' (layM n k) (setN x k y) ∧ v'.H = v.H := by
 have HS0 := Hd (HS.nil w)
 have HM := Hd h
 have HT := Hd hst
 have HY := Hd hy
 have hn := hst.n0
 clear h hst hy
 by_cases h1 : k < n
 ·have ht : decide ((k : Int) < (n : Int)) = true := decide_eq_true (by omega)
  have HLM := Hd (show layM n k = n from if_pos h1)
  go_enter Tryd.func64, Tryd.ntmps64
  go_wp2_with (first
   | ((with_reducible refine at_l ?_); first
    | (refine zaz rfl 24 _ 5 rfl rfl HS0.out 32 (u8v y) rfl ?_; intro b5 w1 hb5 hc5 hs; have HS1 := Hd hs; clear hs)
    | (refine zae rfl 24 _ rfl 32 _ Ty24 rfl s24 ⟨b5, 0, none⟩ rfl (u8v y) (fun i hi => by rw [zai]; exact HS1.out.cell 0 i rfl hi) ?_))
   | (go_at_call 80; refine (zd6 v base T _ (HM.out.below (HS1.out.out (by simp; omega)))).mono ?_; rintro r w2 ⟨rfl, rfl⟩; rw [hn])
   | (go_at_call 85; refine (zup v base T k n x y _ (HM.out.below (HS1.out.out (by simp; omega))) HT.out h1 HY.out).mono ?_; rintro r w3 ⟨v', rfl, m1, m2, m3, _, m5⟩; have M1 := Hd m1; have M2 := Hd m2; have M3 := Hd m3; have M5 := Hd m5; clear m1 m2 m3 m5))
  go_end0
  exact ⟨v', rfl, M1.out, (TStep.refl (HS1.out.out (by simp; omega))).trans M2.out, by rw [HLM.out]; exact M3.out, M5.out⟩
 ·obtain rfl : k = n := by omega
  have ht : decide ((k : Int) < (k : Int)) = false := decide_eq_false (by omega)
  have HLM := Hd (show layM k k = k + 1 from if_neg h1)
  go_enter Tryd.func64, Tryd.ntmps64
  go_wp2_with (first
   | ((with_reducible refine at_l ?_); first
    | (refine zaz rfl 24 _ 5 rfl rfl HS0.out 32 (u8v y) rfl ?_; intro b5 w1 hb5 hc5 hs; have HS1 := Hd hs; clear hs)
    | (refine zae rfl 24 _ rfl 32 _ Ty24 rfl s24 ⟨b5, 0, none⟩ rfl (u8v y) (fun i hi => by rw [zai]; exact HS1.out.cell 0 i rfl hi) ?_))
   | (go_at_call 80; refine (zd6 v base T _ (HM.out.below (HS1.out.out (by simp; omega)))).mono ?_; rintro r w2 ⟨rfl, rfl⟩; rw [hn])
   | (go_at_call 86; refine (zqr v base T k x y _ (HM.out.below (HS1.out.out (by simp; omega))) HT.out hl HY.out).mono ?_; rintro r w3 ⟨v', rfl, m1, m2, m3, _, m5⟩; have M1 := Hd m1; have M2 := Hd m2; have M3 := Hd m3; have M5 := Hd m5; clear m1 m2 m3 m5))
  go_end0
  exact ⟨v', rfl, M1.out, (TStep.refl (HS1.out.out (by simp; omega))).trans M2.out, by rw [HLM.out]; exact M3.out.x_cong (zuz x y k), M5.out⟩
def lmixN (r : Nat → Nat) (m : Nat) : Nat → Nat := shaB (catN 32 r (padN 8 (leB m))) 64
theorem zek (r : Nat → Nat) (m : Nat) : ∀ i, lmixN r m i < 256 := zfx _ _
theorem zqy (v : TV) (base T n m : Nat) (x : Nat → Nat) (w : World) (h : TM w base T v) (hst : TSt v n x) (hx : ∀ i, x i < 256) (hm : m ≤ 9223372036854775807) (hH : v.H ≤ 1152921504606846976) (hp : ShaPkg w) (hpB : 0 < base ∧ 1 < base) (hbw : base ≤ w.heap.size) (hpt : TzPkg w) :
 Calls Tryd.prog 32 #[tpV T, .int .i64 (m : Int)] w fun r w' => ∃ v', r = .returned (rootV (lmixN (treeN v.D n x) m)) ∧ TM w' base T v' ∧ TStep w w' T v v' ∧ TSt v' n x ∧ v'.H ≤ v.H + n + v.D := by
 have HS0 := Hd (HS.nil w)
 have HM := Hd h
 have HT := Hd hst
 have HP := Hd hp
 have HPt := Hd hpt
 have HX := Hd hx
 obtain ⟨D, hD⟩ : ∃ D, D = v.D := ⟨_, rfl⟩
 have HD := Hd hD
 have HC := Hd (show costN n (dirB v.dn v.dw) v.D ≤ n + D by rw [hD]; have := zmf n (dirB v.dn v.dw) v.D; omega)
 clear h hst hp hpt hx
 obtain ⟨X, hX⟩ : ∃ X, X = treeN D n x := ⟨_, rfl⟩
 have HXe := Hd hX
 have HXl := Hd (show ∀ i, X i < 256 by rw [hX]; exact za9 HX.out _ _)
 rw [← hD, ← hX]
 clear hX hD
 go_enter Tryd.func32, Tryd.ntmps32
 go_wp2_with (first
  | ((with_reducible refine at_l ?_); first
   | (refine zac rfl 24 4 rfl rfl HS0.out _ z24 32 (u8v fun _ => 0) n24 f24 ?_; intro b4 w1 hb4 hc4 hs; have HS1 := Hd hs; clear hs)
   | (refine zab rfl 8 rfl (.int .u64 (m : Int)) ?_ ?_; (· exact zdc rfl rfl (fun w => by simp [go_sem, IntKind.wrap, IntKind.bits, IntKind.signed]; omega) _))
   | (refine zaf rfl 24 (.tmp 4) (.tmp 9) rfl HQ3.out 0 rfl (u8v (lmixN X m)) rfl rfl (by kernel_rfl) (fun _ _ => rfl) ?_; intro w4 hs; have HY := Hd hs; clear hs))
  | (go_at_call 57; refine (zqx v base T n x _ (HM.out.below (HS1.out.out (by simp; omega))) HT.out hH (HP.out.below (HS1.out.out (by simp; omega))) hpB (HPt.out.below (HS1.out.out (by simp; omega)) HPt.out.lt)).mono ?_; rintro r w2 ⟨v2, rfl, m1, m2, m3, _, m5⟩; rw [← HD.out, ← HXe.out]; have M1 := Hd m1; have M2 := Hd m2; have M3 := Hd m3; have M5 := Hd m5; clear m1 m2 m3 m5)
  | (go_at_call 31; have hr2 := M2.out.chg.row (HS1.out.row 0 rfl) (fun (ho : v.own T b4) => by have := HM.out.lt ho; omega); have HB2 := Hd (M2.out.below (HM.out.below (HS1.out.out (by simp; omega))) lR (lT hbw HS1.out.size)); have HQ2 := Hd (HS.own hr2); clear hr2; refine (zdk X HXl.out m _ ((HP.out.below (HS1.out.out (by simp; omega))).belowB hpB HB2.out)).mono ?_; rintro e w3 ⟨rfl, hb⟩; rw [show shaB (catN 32 X (padN 8 (leB m))) 64 = lmixN X m from rfl]; have HQ3 := Hd (HQ2.out.below hb); clear hb))
 have hz1 := HS1.out.size
 have hl4 : b4 < w1.heap.size := HS1.out.lt 0 rfl
 have hz2 := M2.out.chg.size
 have hno : ∀ b, v2.own T b ∨ OnA v2.zA b → ¬ b = b4 := fun b hb e => by
  subst e
  rcases hb with h1 | h1
  ·rcases M2.out.new _ h1 with h2 | h2
   ·have := HM.out.lt h2; omega
   ·omega
  ·rw [M2.out.zA] at h1
   have := HM.out.zlt h1; omega
 have hch : Chg (fun b => b = b4) w2 w4 := Chg.of_grown (HY.out.grown b4 (by simp)) (fun b e => .inl (by injection e with e; exact e.symm))
 have hst2 : TStep w w2 T v v2 := (TStep.refl (HS1.out.out (by simp; omega))).trans M2.out
 exact za5 rfl (HY.out.row 0 rfl) _ rfl Ty24 rfl s24 rfl ⟨v2, rfl, M1.out.chg hch hno,
  ⟨hst2.chg.trans hch (fun b e => .inr (by rw [e]; omega)), hst2.new, hst2.zA, hst2.D, hst2.lim⟩, M3.out, by rw [M5.out]; have := HC.out; rw [← HD.out] at this ⊢; omega⟩
def bytN (F : Nat → Value) (o m : Nat) : Nat → Nat := treeN (dep (nch m)) (nch m) (padN m (byF F o))
theorem zgq (F : Nat → Value) (o m : Nat) : ∀ i, bytN F o m i < 256 := za9 (za6 (zbm F o)) _ _
def numN (F : Nat → Value) (o : Nat) : Nat → Nat := padN 8 (leB (nat (F o)))
theorem zc5 (F : Nat → Value) (o : Nat) : ∀ i, numN F o i < 256 := za6 (zbq _)
def forkX (F : Nat → Value) : Nat → Nat := catN (2 * 32) (catN (1 * 32) (catN (0 * 32) (fun _ => 0) (bytN F 0 4)) (bytN F 4 4)) (numN F 8)
def forkN (F : Nat → Value) : Nat → Nat := treeN (dep 3) 3 (forkX F)
theorem zjc (F : Nat → Value) : ∀ i, forkX F i < 256 := zbo (zbo (zbo (fun _ => by omega) (zgq F 0 4)) (zgq F 4 4)) (zc5 F 8)
theorem zsq (F : Nat → Value) : ∀ i, forkN F i < 256 := za9 (zjc F) _ _
namespace SmallRoots
theorem zjz : ∀ q, q < 4 → leafAt Tryd.prog 8 28 (0 + q) = some 5 := by decide +kernel
theorem zj0 : ∀ q, q < 4 → leafAt Tryd.prog 8 28 (4 + q) = some 5 := by decide +kernel
end SmallRoots
open SmallRoots in
theorem zk8 (F : Nat → Value) (hF : Sc F 28) (w : World) (hp : ShaPkg w) :
 Calls Tryd.prog 28 #[.agg (arr 9 F)] w fun e w' => e = .returned (rootV (forkN F)) ∧ Below w.heap.size w w' := by
 have HP := Hd hp
 have hpl := hp.lt
 have HSc := Hd hF
 have HS0 := Hd (HS.nil w)
 have tk0 : Tok 0 := Tok.mk 0
 have tk1 : Tok 1 := Tok.mk 1
 have tk2 : Tok 2 := Tok.mk 2
 clear hp hF
 go_enter Tryd.func28, Tryd.ntmps28
 go_wp2_with (first
  | ((with_reducible refine at_l ?_); first
   | (refine zaz rfl 28 _ 1 rfl rfl HS0.out 9 F rfl ?_; intro b1 w1 hb1 hc1 hs1; have HS1 := Hd hs1; clear hs1)
   | (refine zac rfl 24 2 rfl rfl HS1.out _ z24 32 (u8v fun _ => 0) n24 f24 ?_; intro b2 wB hb2 hc2 hs2; have HSB := Hd hs2; have hszB := hs2.size; clear hs2)
   | (refine zac rfl 90 3 rfl rfl (HS.nil wB) _ zcp 2 (hashF none 0 0) (zam _ _) (fun i hi => zaq _ _ i hi) ?_; intro b3 w3 hb3 hc3 hs; have HB3 := Hd (hs.out (by simp; omega)); have hH3 : HashIs w3 wB.heap.size b3 0 (fun _ => 0) := ⟨none, 0, hs.row 0 rfl, OwnZ.nil w3 _ _ _ _, fun ad e => by cases e⟩; have HH3 := Hd hH3; have HS3 := Hd (HSB.out.below (hs.out (by simp; omega))); clear hs hH3)
   | (refine zab rfl 13 rfl (.int .u64 ((nat (F 8) : Nat) : Int)) ?_ ?_; (· exact zbf .u64 rfl rfl Ty22 ((HS5.out.cell 1 8 rfl (by show 8 < 9; omega)).trans (congrArg some (HSc.out.u64 8 (by kernel_rfl)).1))))
   | (refine zac rfl 24 4 rfl rfl HSD.out _ z24 32 (u8v fun _ => 0) n24 f24 ?_; intro bR wR hbR hcR hs; have HSR := Hd hs; clear hs)
   | (refine zaf rfl 24 (.tmp 4) (.tmp 17) rfl HSR.out 0 rfl (u8v (forkN F)) rfl rfl (by kernel_rfl) (fun _ _ => rfl) ?_; intro wS hs; have HSS := Hd hs; clear hs)
   | (refine zae rfl 24 (.tmp 4) rfl 32 _ Ty24 rfl s24 ⟨bR, 0, none⟩ rfl (u8v (forkN F)) (fun i hi => by rw [zai]; exact HSS.out.cell 0 i rfl hi) ?_)
   | (refine zaf rfl 24 (.tmp 2) (.tmp 19) rfl HSS.out 1 rfl (u8v (forkN F)) rfl rfl (by kernel_rfl) (fun _ _ => rfl) ?_; intro wy hs; have HY := Hd hs; clear hs))
  | (go_at_call 56; clear tk0; refine (zd0 wB.heap.size wB.heap.size b3 0 (fun _ => 0) _ HH3.out lR (by omega) HB3.out.size (by omega) 4 4 (some ⟨b1, 0, none⟩) (byF F 0) (Rd.of_part (HS3.out.row 1 rfl) (show 0 + 4 ≤ 9 by omega) (fun i hi => zb6 HSc.out 0 i (zjz i hi))) (zbm F 0) lR (by omega) (by omega) (HP.out.below (HS3.out.out (by simp; omega))) (by omega)).mono ?_; rintro e w4 ⟨rfl, hH, hb⟩; have HH4 := Hd hH; have HB4 := Hd (HB3.out.trans hb); have HS4 := Hd (HSB.out.below (HB3.out.trans hb)); clear hH hb)
  | (go_at_call 56; clear tk1; refine (zd0 wB.heap.size wB.heap.size b3 1 (catN (0 * 32) (fun _ => 0) (bytN F 0 4)) _ HH4.out lR (by omega) HB4.out.size (by omega) 4 4 (some ⟨b1, 4, none⟩) (byF F 4) (Rd.of_part (HS4.out.row 1 rfl) (show 4 + 4 ≤ 9 by omega) (fun i hi => zb6 HSc.out 4 i (zj0 i hi))) (zbm F 4) lR (by omega) (by omega) (HP.out.below (HS4.out.out (by simp; omega))) (by omega)).mono ?_; rintro e w5 ⟨rfl, hH, hb⟩; have HH5 := Hd hH; have HB5 := Hd (HB4.out.trans hb); have HS5 := Hd (HSB.out.below (HB4.out.trans hb)); clear hH hb)
  | (go_at_call 54; clear tk2; refine (zda wB.heap.size wB.heap.size b3 2 (nat (F 8)) (catN (1 * 32) (catN (0 * 32) (fun _ => 0) (bytN F 0 4)) (bytN F 4 4)) _ HH5.out lR (by omega) HB5.out.size (by omega)).mono ?_; rintro e w6 ⟨rfl, hH, hb⟩; have HH6 := Hd hH; have HB6 := Hd (HB5.out.trans hb); have HS6 := Hd (HSB.out.below (HB5.out.trans hb)); clear hH hb)
  | (go_at_call 40; refine (zc2 wB.heap.size wB.heap.size b3 3 (forkX F) _ HH6.out (zjc F) lR (by omega) HB6.out.size (by omega) (by omega) (HP.out.below (HS6.out.out (by simp; omega))) (by omega)).mono ?_; rintro e wD ⟨rfl, hb⟩; rw [show treeN (dep 3) 3 (forkX F) = forkN F from rfl]; have HSD := Hd (HSB.out.below (HB6.out.trans hb)); clear hb))
 exact za5 rfl (HY.out.row 1 rfl) _ rfl Ty24 rfl s24 rfl ⟨rfl, HY.out.out (by simp; omega)⟩
def headerX (F : Nat → Value) : Nat → Nat := catN (4 * 32) (catN (3 * 32) (catN (2 * 32) (catN (1 * 32) (catN (0 * 32) (fun _ => 0) (numN F 0)) (numN F 1)) (byF F 2)) (byF F 34)) (byF F 66)
def headerN (F : Nat → Value) : Nat → Nat := treeN (dep 5) 5 (headerX F)
theorem zhb (F : Nat → Value) : ∀ i, headerX F i < 256 := zbo (zbo (zbo (zbo (zbo (fun _ => by omega) (zc5 F 0)) (zc5 F 1)) (zbm F 2)) (zbm F 34)) (zbm F 66)
theorem zo3 (F : Nat → Value) : ∀ i, headerN F i < 256 := za9 (zhb F) _ _
namespace SmallRoots
theorem zhz : ∀ q, q < 32 → leafAt Tryd.prog 8 30 (2 + q) = some 5 := by decide +kernel
theorem zhl : ∀ q, q < 32 → leafAt Tryd.prog 8 30 (34 + q) = some 5 := by decide +kernel
theorem zhm : ∀ q, q < 32 → leafAt Tryd.prog 8 30 (66 + q) = some 5 := by decide +kernel
end SmallRoots
open SmallRoots in
theorem ziu (F : Nat → Value) (hF : Sc F 30) (w : World) (hp : ShaPkg w) :
 Calls Tryd.prog 29 #[.agg (arr 98 F)] w fun e w' => e = .returned (rootV (headerN F)) ∧ Below w.heap.size w w' := by
 have HP := Hd hp
 have hpl := hp.lt
 have HSc := Hd hF
 have HS0 := Hd (HS.nil w)
 have tk0 : Tok 0 := Tok.mk 0
 have tk1 : Tok 1 := Tok.mk 1
 have tk2 : Tok 2 := Tok.mk 2
 have tk3 : Tok 3 := Tok.mk 3
 have tk4 : Tok 4 := Tok.mk 4
 clear hp hF
 go_enter Tryd.func29, Tryd.ntmps29
 go_wp2_with (first
  | ((with_reducible refine at_l ?_); first
   | (refine zaz rfl 30 _ 1 rfl rfl HS0.out 98 F rfl ?_; intro b1 w1 hb1 hc1 hs1; have HS1 := Hd hs1; clear hs1)
   | (refine zac rfl 24 2 rfl rfl HS1.out _ z24 32 (u8v fun _ => 0) n24 f24 ?_; intro b2 wB hb2 hc2 hs2; have HSB := Hd hs2; have hszB := hs2.size; clear hs2)
   | (refine zac rfl 90 3 rfl rfl (HS.nil wB) _ zcp 2 (hashF none 0 0) (zam _ _) (fun i hi => zaq _ _ i hi) ?_; intro b3 w3 hb3 hc3 hs; have HB3 := Hd (hs.out (by simp; omega)); have hH3 : HashIs w3 wB.heap.size b3 0 (fun _ => 0) := ⟨none, 0, hs.row 0 rfl, OwnZ.nil w3 _ _ _ _, fun ad e => by cases e⟩; have HH3 := Hd hH3; have HS3 := Hd (HSB.out.below (hs.out (by simp; omega))); clear hs hH3)
   | (refine zab rfl 7 rfl (.int .u64 ((nat (F 0) : Nat) : Int)) ?_ ?_; (· exact zbf .u64 rfl rfl Ty22 ((HS3.out.cell 1 0 rfl (by show 0 < 98; omega)).trans (congrArg some (HSc.out.u64 0 (by kernel_rfl)).1))))
   | (refine zab rfl 10 rfl (.int .u64 ((nat (F 1) : Nat) : Int)) ?_ ?_; (· exact zbf .u64 rfl rfl Ty22 ((HS4.out.cell 1 1 rfl (by show 1 < 98; omega)).trans (congrArg some (HSc.out.u64 1 (by kernel_rfl)).1))))
   | (refine zag rfl 24 (.tmp 12) rfl b1 2 32 (u8v (byF F 2)) rfl _ (fun i hi => (HS5.out.cell 1 (2 + i) rfl (show 2 + i < 98 by omega)).trans (congrArg some (zb6 HSc.out 2 i (zhz i hi)))) Ty24 rfl s24 _ rfl ?_)
   | (refine zag rfl 24 (.tmp 15) rfl b1 34 32 (u8v (byF F 34)) rfl _ (fun i hi => (HS6.out.cell 1 (34 + i) rfl (show 34 + i < 98 by omega)).trans (congrArg some (zb6 HSc.out 34 i (zhl i hi)))) Ty24 rfl s24 _ rfl ?_)
   | (refine zag rfl 24 (.tmp 18) rfl b1 66 32 (u8v (byF F 66)) rfl _ (fun i hi => (HS7.out.cell 1 (66 + i) rfl (show 66 + i < 98 by omega)).trans (congrArg some (zb6 HSc.out 66 i (zhm i hi)))) Ty24 rfl s24 _ rfl ?_)
   | (refine zac rfl 24 4 rfl rfl HSD.out _ z24 32 (u8v fun _ => 0) n24 f24 ?_; intro bR wR hbR hcR hs; have HSR := Hd hs; clear hs)
   | (refine zaf rfl 24 (.tmp 4) (.tmp 23) rfl HSR.out 0 rfl (u8v (headerN F)) rfl rfl (by kernel_rfl) (fun _ _ => rfl) ?_; intro wS hs; have HSS := Hd hs; clear hs)
   | (refine zae rfl 24 (.tmp 4) rfl 32 _ Ty24 rfl s24 ⟨bR, 0, none⟩ rfl (u8v (headerN F)) (fun i hi => by rw [zai]; exact HSS.out.cell 0 i rfl hi) ?_)
   | (refine zaf rfl 24 (.tmp 2) (.tmp 25) rfl HSS.out 1 rfl (u8v (headerN F)) rfl rfl (by kernel_rfl) (fun _ _ => rfl) ?_; intro wy hs; have HY := Hd hs; clear hs))
  | (go_at_call 54; clear tk0; refine (zda wB.heap.size wB.heap.size b3 0 (nat (F 0)) (fun _ => 0) _ HH3.out lR (by omega) HB3.out.size (by omega)).mono ?_; rintro e w4 ⟨rfl, hH, hb⟩; have HH4 := Hd hH; have HB4 := Hd (HB3.out.trans hb); have HS4 := Hd (HSB.out.below (HB3.out.trans hb)); clear hH hb)
  | (go_at_call 54; clear tk1; refine (zda wB.heap.size wB.heap.size b3 1 (nat (F 1)) (catN (0 * 32) (fun _ => 0) (numN F 0)) _ HH4.out lR (by omega) HB4.out.size (by omega)).mono ?_; rintro e w5 ⟨rfl, hH, hb⟩; have HH5 := Hd hH; have HB5 := Hd (HB4.out.trans hb); have HS5 := Hd (HSB.out.below (HB4.out.trans hb)); clear hH hb)
  | (go_at_call 53; clear tk2; refine (zdj wB.heap.size wB.heap.size b3 2 (catN (1 * 32) (catN (0 * 32) (fun _ => 0) (numN F 0)) (numN F 1)) (byF F 2) _ HH5.out lR (by omega) HB5.out.size (by omega)).mono ?_; rintro e w6 ⟨rfl, hH, hb⟩; have HH6 := Hd hH; have HB6 := Hd (HB5.out.trans hb); have HS6 := Hd (HSB.out.below (HB5.out.trans hb)); clear hH hb)
  | (go_at_call 53; clear tk3; refine (zdj wB.heap.size wB.heap.size b3 3 (catN (2 * 32) (catN (1 * 32) (catN (0 * 32) (fun _ => 0) (numN F 0)) (numN F 1)) (byF F 2)) (byF F 34) _ HH6.out lR (by omega) HB6.out.size (by omega)).mono ?_; rintro e w7 ⟨rfl, hH, hb⟩; have HH7 := Hd hH; have HB7 := Hd (HB6.out.trans hb); have HS7 := Hd (HSB.out.below (HB6.out.trans hb)); clear hH hb)
  | (go_at_call 53; clear tk4; refine (zdj wB.heap.size wB.heap.size b3 4 (catN (3 * 32) (catN (2 * 32) (catN (1 * 32) (catN (0 * 32) (fun _ => 0) (numN F 0)) (numN F 1)) (byF F 2)) (byF F 34)) (byF F 66) _ HH7.out lR (by omega) HB7.out.size (by omega)).mono ?_; rintro e w8 ⟨rfl, hH, hb⟩; have HH8 := Hd hH; have HB8 := Hd (HB7.out.trans hb); have HS8 := Hd (HSB.out.below (HB7.out.trans hb)); clear hH hb)
  | (go_at_call 40; refine (zc2 wB.heap.size wB.heap.size b3 5 (headerX F) _ HH8.out (zhb F) lR (by omega) HB8.out.size (by omega) (by omega) (HP.out.below (HS8.out.out (by simp; omega))) (by omega)).mono ?_; rintro e wD ⟨rfl, hb⟩; rw [show treeN (dep 5) 5 (headerX F) = headerN F from rfl]; have HSD := Hd (HSB.out.below (HB8.out.trans hb)); clear hb))
 exact za5 rfl (HY.out.row 1 rfl) _ rfl Ty24 rfl s24 rfl ⟨rfl, HY.out.out (by simp; omega)⟩
def eth1X (F : Nat → Value) : Nat → Nat := catN (2 * 32) (catN (1 * 32) (catN (0 * 32) (fun _ => 0) (byF F 0)) (numN F 32)) (byF F 33)
def eth1N (F : Nat → Value) : Nat → Nat := treeN (dep 3) 3 (eth1X F)
theorem zjd (F : Nat → Value) : ∀ i, eth1X F i < 256 := zbo (zbo (zbo (fun _ => by omega) (zbm F 0)) (zc5 F 32)) (zbm F 33)
theorem zml (F : Nat → Value) : ∀ i, eth1N F i < 256 := za9 (zjd F) _ _
namespace SmallRoots
theorem zj1 : ∀ q, q < 32 → leafAt Tryd.prog 8 34 (0 + q) = some 5 := by decide +kernel
theorem ziv : ∀ q, q < 32 → leafAt Tryd.prog 8 34 (33 + q) = some 5 := by decide +kernel
end SmallRoots
open SmallRoots in
theorem zge (F : Nat → Value) (hF : Sc F 34) (w : World) (hp : ShaPkg w) :
 Calls Tryd.prog 26 #[.agg (arr 65 F)] w fun e w' => e = .returned (rootV (eth1N F)) ∧ Below w.heap.size w w' := by
 have HP := Hd hp
 have hpl := hp.lt
 have HSc := Hd hF
 have HS0 := Hd (HS.nil w)
 have tk0 : Tok 0 := Tok.mk 0
 have tk1 : Tok 1 := Tok.mk 1
 have tk2 : Tok 2 := Tok.mk 2
 clear hp hF
 go_enter Tryd.func26, Tryd.ntmps26
 go_wp2_with (first
  | ((with_reducible refine at_l ?_); first
   | (refine zaz rfl 34 _ 1 rfl rfl HS0.out 65 F rfl ?_; intro b1 w1 hb1 hc1 hs1; have HS1 := Hd hs1; clear hs1)
   | (refine zac rfl 24 2 rfl rfl HS1.out _ z24 32 (u8v fun _ => 0) n24 f24 ?_; intro b2 wB hb2 hc2 hs2; have HSB := Hd hs2; have hszB := hs2.size; clear hs2)
   | (refine zac rfl 90 3 rfl rfl (HS.nil wB) _ zcp 2 (hashF none 0 0) (zam _ _) (fun i hi => zaq _ _ i hi) ?_; intro b3 w3 hb3 hc3 hs; have HB3 := Hd (hs.out (by simp; omega)); have hH3 : HashIs w3 wB.heap.size b3 0 (fun _ => 0) := ⟨none, 0, hs.row 0 rfl, OwnZ.nil w3 _ _ _ _, fun ad e => by cases e⟩; have HH3 := Hd hH3; have HS3 := Hd (HSB.out.below (hs.out (by simp; omega))); clear hs hH3)
   | (refine zag rfl 24 (.tmp 6) rfl b1 0 32 (u8v (byF F 0)) rfl _ (fun i hi => (HS3.out.cell 1 (0 + i) rfl (show 0 + i < 65 by omega)).trans (congrArg some (zb6 HSc.out 0 i (zj1 i hi)))) Ty24 rfl s24 _ rfl ?_)
   | (refine zab rfl 10 rfl (.int .u64 ((nat (F 32) : Nat) : Int)) ?_ ?_; (· exact zbf .u64 rfl rfl Ty22 ((HS4.out.cell 1 32 rfl (by show 32 < 65; omega)).trans (congrArg some (HSc.out.u64 32 (by kernel_rfl)).1))))
   | (refine zag rfl 24 (.tmp 12) rfl b1 33 32 (u8v (byF F 33)) rfl _ (fun i hi => (HS5.out.cell 1 (33 + i) rfl (show 33 + i < 65 by omega)).trans (congrArg some (zb6 HSc.out 33 i (ziv i hi)))) Ty24 rfl s24 _ rfl ?_)
   | (refine zac rfl 24 4 rfl rfl HSD.out _ z24 32 (u8v fun _ => 0) n24 f24 ?_; intro bR wR hbR hcR hs; have HSR := Hd hs; clear hs)
   | (refine zaf rfl 24 (.tmp 4) (.tmp 17) rfl HSR.out 0 rfl (u8v (eth1N F)) rfl rfl (by kernel_rfl) (fun _ _ => rfl) ?_; intro wS hs; have HSS := Hd hs; clear hs)
   | (refine zae rfl 24 (.tmp 4) rfl 32 _ Ty24 rfl s24 ⟨bR, 0, none⟩ rfl (u8v (eth1N F)) (fun i hi => by rw [zai]; exact HSS.out.cell 0 i rfl hi) ?_)
   | (refine zaf rfl 24 (.tmp 2) (.tmp 19) rfl HSS.out 1 rfl (u8v (eth1N F)) rfl rfl (by kernel_rfl) (fun _ _ => rfl) ?_; intro wy hs; have HY := Hd hs; clear hs))
  | (go_at_call 53; clear tk0; refine (zdj wB.heap.size wB.heap.size b3 0 (fun _ => 0) (byF F 0) _ HH3.out lR (by omega) HB3.out.size (by omega)).mono ?_; rintro e w4 ⟨rfl, hH, hb⟩; have HH4 := Hd hH; have HB4 := Hd (HB3.out.trans hb); have HS4 := Hd (HSB.out.below (HB3.out.trans hb)); clear hH hb)
  | (go_at_call 54; clear tk1; refine (zda wB.heap.size wB.heap.size b3 1 (nat (F 32)) (catN (0 * 32) (fun _ => 0) (byF F 0)) _ HH4.out lR (by omega) HB4.out.size (by omega)).mono ?_; rintro e w5 ⟨rfl, hH, hb⟩; have HH5 := Hd hH; have HB5 := Hd (HB4.out.trans hb); have HS5 := Hd (HSB.out.below (HB4.out.trans hb)); clear hH hb)
  | (go_at_call 53; clear tk2; refine (zdj wB.heap.size wB.heap.size b3 2 (catN (1 * 32) (catN (0 * 32) (fun _ => 0) (byF F 0)) (numN F 32)) (byF F 33) _ HH5.out lR (by omega) HB5.out.size (by omega)).mono ?_; rintro e w6 ⟨rfl, hH, hb⟩; have HH6 := Hd hH; have HB6 := Hd (HB5.out.trans hb); have HS6 := Hd (HSB.out.below (HB5.out.trans hb)); clear hH hb)
  | (go_at_call 40; refine (zc2 wB.heap.size wB.heap.size b3 3 (eth1X F) _ HH6.out (zjd F) lR (by omega) HB6.out.size (by omega) (by omega) (HP.out.below (HS6.out.out (by simp; omega))) (by omega)).mono ?_; rintro e wD ⟨rfl, hb⟩; rw [show treeN (dep 3) 3 (eth1X F) = eth1N F from rfl]; have HSD := Hd (HSB.out.below (HB6.out.trans hb)); clear hb))
 exact za5 rfl (HY.out.row 1 rfl) _ rfl Ty24 rfl s24 rfl ⟨rfl, HY.out.out (by simp; omega)⟩
def checkX (F : Nat → Value) : Nat → Nat := catN (1 * 32) (catN (0 * 32) (fun _ => 0) (numN F 0)) (byF F 1)
def checkN (F : Nat → Value) : Nat → Nat := treeN (dep 2) 2 (checkX F)
theorem zh0 (F : Nat → Value) : ∀ i, checkX F i < 256 := zbo (zbo (fun _ => by omega) (zc5 F 0)) (zbm F 1)
theorem zh1 (F : Nat → Value) : ∀ i, checkN F i < 256 := za9 (zh0 F) _ _
namespace SmallRoots
theorem ziw : ∀ q, q < 32 → leafAt Tryd.prog 8 42 (1 + q) = some 5 := by decide +kernel
end SmallRoots
open SmallRoots in
theorem zd9 (F : Nat → Value) (hF : Sc F 42) (w : World) (hp : ShaPkg w) :
 Calls Tryd.prog 35 #[.agg (arr 33 F)] w fun e w' => e = .returned (rootV (checkN F)) ∧ Below w.heap.size w w' := by
 have HP := Hd hp
 have hpl := hp.lt
 have HSc := Hd hF
 have HS0 := Hd (HS.nil w)
 have tk0 : Tok 0 := Tok.mk 0
 have tk1 : Tok 1 := Tok.mk 1
 clear hp hF
 go_enter Tryd.func35, Tryd.ntmps35
 go_wp2_with (first
  | ((with_reducible refine at_l ?_); first
   | (refine zaz rfl 42 _ 1 rfl rfl HS0.out 33 F rfl ?_; intro b1 w1 hb1 hc1 hs1; have HS1 := Hd hs1; clear hs1)
   | (refine zac rfl 24 2 rfl rfl HS1.out _ z24 32 (u8v fun _ => 0) n24 f24 ?_; intro b2 wB hb2 hc2 hs2; have HSB := Hd hs2; have hszB := hs2.size; clear hs2)
   | (refine zac rfl 90 3 rfl rfl (HS.nil wB) _ zcp 2 (hashF none 0 0) (zam _ _) (fun i hi => zaq _ _ i hi) ?_; intro b3 w3 hb3 hc3 hs; have HB3 := Hd (hs.out (by simp; omega)); have hH3 : HashIs w3 wB.heap.size b3 0 (fun _ => 0) := ⟨none, 0, hs.row 0 rfl, OwnZ.nil w3 _ _ _ _, fun ad e => by cases e⟩; have HH3 := Hd hH3; have HS3 := Hd (HSB.out.below (hs.out (by simp; omega))); clear hs hH3)
   | (refine zab rfl 7 rfl (.int .u64 ((nat (F 0) : Nat) : Int)) ?_ ?_; (· exact zbf .u64 rfl rfl Ty22 ((HS3.out.cell 1 0 rfl (by show 0 < 33; omega)).trans (congrArg some (HSc.out.u64 0 (by kernel_rfl)).1))))
   | (refine zag rfl 24 (.tmp 9) rfl b1 1 32 (u8v (byF F 1)) rfl _ (fun i hi => (HS4.out.cell 1 (1 + i) rfl (show 1 + i < 33 by omega)).trans (congrArg some (zb6 HSc.out 1 i (ziw i hi)))) Ty24 rfl s24 _ rfl ?_)
   | (refine zac rfl 24 4 rfl rfl HSD.out _ z24 32 (u8v fun _ => 0) n24 f24 ?_; intro bR wR hbR hcR hs; have HSR := Hd hs; clear hs)
   | (refine zaf rfl 24 (.tmp 4) (.tmp 14) rfl HSR.out 0 rfl (u8v (checkN F)) rfl rfl (by kernel_rfl) (fun _ _ => rfl) ?_; intro wS hs; have HSS := Hd hs; clear hs)
   | (refine zae rfl 24 (.tmp 4) rfl 32 _ Ty24 rfl s24 ⟨bR, 0, none⟩ rfl (u8v (checkN F)) (fun i hi => by rw [zai]; exact HSS.out.cell 0 i rfl hi) ?_)
   | (refine zaf rfl 24 (.tmp 2) (.tmp 16) rfl HSS.out 1 rfl (u8v (checkN F)) rfl rfl (by kernel_rfl) (fun _ _ => rfl) ?_; intro wy hs; have HY := Hd hs; clear hs))
  | (go_at_call 54; clear tk0; refine (zda wB.heap.size wB.heap.size b3 0 (nat (F 0)) (fun _ => 0) _ HH3.out lR (by omega) HB3.out.size (by omega)).mono ?_; rintro e w4 ⟨rfl, hH, hb⟩; have HH4 := Hd hH; have HB4 := Hd (HB3.out.trans hb); have HS4 := Hd (HSB.out.below (HB3.out.trans hb)); clear hH hb)
  | (go_at_call 53; clear tk1; refine (zdj wB.heap.size wB.heap.size b3 1 (catN (0 * 32) (fun _ => 0) (numN F 0)) (byF F 1) _ HH4.out lR (by omega) HB4.out.size (by omega)).mono ?_; rintro e w5 ⟨rfl, hH, hb⟩; have HH5 := Hd hH; have HB5 := Hd (HB4.out.trans hb); have HS5 := Hd (HSB.out.below (HB4.out.trans hb)); clear hH hb)
  | (go_at_call 40; refine (zc2 wB.heap.size wB.heap.size b3 2 (checkX F) _ HH5.out (zh0 F) lR (by omega) HB5.out.size (by omega) (by omega) (HP.out.below (HS5.out.out (by simp; omega))) (by omega)).mono ?_; rintro e wD ⟨rfl, hb⟩; rw [show treeN (dep 2) 2 (checkX F) = checkN F from rfl]; have HSD := Hd (HSB.out.below (HB5.out.trans hb)); clear hb))
 exact za5 rfl (HY.out.row 1 rfl) _ rfl Ty24 rfl s24 rfl ⟨rfl, HY.out.out (by simp; omega)⟩
def validX (F : Nat → Value) : Nat → Nat := catN (7 * 32) (catN (6 * 32) (catN (5 * 32) (catN (4 * 32) (catN (3 * 32) (catN (2 * 32) (catN (1 * 32) (catN (0 * 32) (fun _ => 0) (bytN F 0 48)) (byF F 48)) (numN F 80)) (flagN (bln (F 81)))) (numN F 82)) (numN F 83)) (numN F 84)) (numN F 85)
def validN (F : Nat → Value) : Nat → Nat := treeN (dep 8) 8 (validX F)
theorem zh2 (F : Nat → Value) : ∀ i, validX F i < 256 := zbo (zbo (zbo (zbo (zbo (zbo (zbo (zbo (fun _ => by omega) (zgq F 0 48)) (zbm F 48)) (zc5 F 80)) (zl9 _)) (zc5 F 82)) (zc5 F 83)) (zc5 F 84)) (zc5 F 85)
theorem zk9 (F : Nat → Value) : ∀ i, validN F i < 256 := za9 (zh2 F) _ _
namespace SmallRoots
theorem zix : ∀ q, q < 48 → leafAt Tryd.prog 8 66 (0 + q) = some 5 := by decide +kernel
theorem zh3 : ∀ q, q < 32 → leafAt Tryd.prog 8 66 (48 + q) = some 5 := by decide +kernel
end SmallRoots
open SmallRoots in
theorem zj2 (F : Nat → Value) (hF : Sc F 66) (w : World) (hp : ShaPkg w) :
 Calls Tryd.prog 60 #[.agg (arr 86 F)] w fun e w' => e = .returned (rootV (validN F)) ∧ Below w.heap.size w w' := by
 have HP := Hd hp
 have hpl := hp.lt
 have HSc := Hd hF
 have HS0 := Hd (HS.nil w)
 have tk0 : Tok 0 := Tok.mk 0
 have tk1 : Tok 1 := Tok.mk 1
 have tk2 : Tok 2 := Tok.mk 2
 have tk3 : Tok 3 := Tok.mk 3
 have tk4 : Tok 4 := Tok.mk 4
 have tk5 : Tok 5 := Tok.mk 5
 have tk6 : Tok 6 := Tok.mk 6
 have tk7 : Tok 7 := Tok.mk 7
 clear hp hF
 go_enter Tryd.func60, Tryd.ntmps60
 go_wp2_with (first
  | ((with_reducible refine at_l ?_); first
   | (refine zaz rfl 66 _ 1 rfl rfl HS0.out 86 F rfl ?_; intro b1 w1 hb1 hc1 hs1; have HS1 := Hd hs1; clear hs1)
   | (refine zac rfl 24 2 rfl rfl HS1.out _ z24 32 (u8v fun _ => 0) n24 f24 ?_; intro b2 wB hb2 hc2 hs2; have HSB := Hd hs2; have hszB := hs2.size; clear hs2)
   | (refine zac rfl 90 3 rfl rfl (HS.nil wB) _ zcp 2 (hashF none 0 0) (zam _ _) (fun i hi => zaq _ _ i hi) ?_; intro b3 w3 hb3 hc3 hs; have HB3 := Hd (hs.out (by simp; omega)); have hH3 : HashIs w3 wB.heap.size b3 0 (fun _ => 0) := ⟨none, 0, hs.row 0 rfl, OwnZ.nil w3 _ _ _ _, fun ad e => by cases e⟩; have HH3 := Hd hH3; have HS3 := Hd (HSB.out.below (hs.out (by simp; omega))); clear hs hH3)
   | (refine zag rfl 24 (.tmp 9) rfl b1 48 32 (u8v (byF F 48)) rfl _ (fun i hi => (HS4.out.cell 1 (48 + i) rfl (show 48 + i < 86 by omega)).trans (congrArg some (zb6 HSc.out 48 i (zh3 i hi)))) Ty24 rfl s24 _ rfl ?_)
   | (refine zab rfl 13 rfl (.int .u64 ((nat (F 80) : Nat) : Int)) ?_ ?_; (· exact zbf .u64 rfl rfl Ty22 ((HS5.out.cell 1 80 rfl (by show 80 < 86; omega)).trans (congrArg some (HSc.out.u64 80 (by kernel_rfl)).1))))
   | (refine zab rfl 16 rfl (.bool (bln (F 81))) ?_ ?_; (· exact zkx rfl rfl Ty4 ((HS6.out.cell 1 81 rfl (by show 81 < 86; omega)).trans (congrArg some (HSc.out.bool 81 (by kernel_rfl))))))
   | (refine zab rfl 19 rfl (.int .u64 ((nat (F 82) : Nat) : Int)) ?_ ?_; (· exact zbf .u64 rfl rfl Ty22 ((HS7.out.cell 1 82 rfl (by show 82 < 86; omega)).trans (congrArg some (HSc.out.u64 82 (by kernel_rfl)).1))))
   | (refine zab rfl 22 rfl (.int .u64 ((nat (F 83) : Nat) : Int)) ?_ ?_; (· exact zbf .u64 rfl rfl Ty22 ((HS8.out.cell 1 83 rfl (by show 83 < 86; omega)).trans (congrArg some (HSc.out.u64 83 (by kernel_rfl)).1))))
   | (refine zab rfl 25 rfl (.int .u64 ((nat (F 84) : Nat) : Int)) ?_ ?_; (· exact zbf .u64 rfl rfl Ty22 ((HS9.out.cell 1 84 rfl (by show 84 < 86; omega)).trans (congrArg some (HSc.out.u64 84 (by kernel_rfl)).1))))
   | (refine zab rfl 28 rfl (.int .u64 ((nat (F 85) : Nat) : Int)) ?_ ?_; (· exact zbf .u64 rfl rfl Ty22 ((HS10.out.cell 1 85 rfl (by show 85 < 86; omega)).trans (congrArg some (HSc.out.u64 85 (by kernel_rfl)).1))))
   | (refine zac rfl 24 4 rfl rfl HSD.out _ z24 32 (u8v fun _ => 0) n24 f24 ?_; intro bR wR hbR hcR hs; have HSR := Hd hs; clear hs)
   | (refine zaf rfl 24 (.tmp 4) (.tmp 32) rfl HSR.out 0 rfl (u8v (validN F)) rfl rfl (by kernel_rfl) (fun _ _ => rfl) ?_; intro wS hs; have HSS := Hd hs; clear hs)
   | (refine zae rfl 24 (.tmp 4) rfl 32 _ Ty24 rfl s24 ⟨bR, 0, none⟩ rfl (u8v (validN F)) (fun i hi => by rw [zai]; exact HSS.out.cell 0 i rfl hi) ?_)
   | (refine zaf rfl 24 (.tmp 2) (.tmp 34) rfl HSS.out 1 rfl (u8v (validN F)) rfl rfl (by kernel_rfl) (fun _ _ => rfl) ?_; intro wy hs; have HY := Hd hs; clear hs))
  | (go_at_call 56; clear tk0; refine (zd0 wB.heap.size wB.heap.size b3 0 (fun _ => 0) _ HH3.out lR (by omega) HB3.out.size (by omega) 48 48 (some ⟨b1, 0, none⟩) (byF F 0) (Rd.of_part (HS3.out.row 1 rfl) (show 0 + 48 ≤ 86 by omega) (fun i hi => zb6 HSc.out 0 i (zix i hi))) (zbm F 0) lR (by omega) (by omega) (HP.out.below (HS3.out.out (by simp; omega))) (by omega)).mono ?_; rintro e w4 ⟨rfl, hH, hb⟩; have HH4 := Hd hH; have HB4 := Hd (HB3.out.trans hb); have HS4 := Hd (HSB.out.below (HB3.out.trans hb)); clear hH hb)
  | (go_at_call 53; clear tk1; refine (zdj wB.heap.size wB.heap.size b3 1 (catN (0 * 32) (fun _ => 0) (bytN F 0 48)) (byF F 48) _ HH4.out lR (by omega) HB4.out.size (by omega)).mono ?_; rintro e w5 ⟨rfl, hH, hb⟩; have HH5 := Hd hH; have HB5 := Hd (HB4.out.trans hb); have HS5 := Hd (HSB.out.below (HB4.out.trans hb)); clear hH hb)
  | (go_at_call 54; clear tk2; refine (zda wB.heap.size wB.heap.size b3 2 (nat (F 80)) (catN (1 * 32) (catN (0 * 32) (fun _ => 0) (bytN F 0 48)) (byF F 48)) _ HH5.out lR (by omega) HB5.out.size (by omega)).mono ?_; rintro e w6 ⟨rfl, hH, hb⟩; have HH6 := Hd hH; have HB6 := Hd (HB5.out.trans hb); have HS6 := Hd (HSB.out.below (HB5.out.trans hb)); clear hH hb)
  | (go_at_call 83; clear tk3; refine (zqg wB.heap.size wB.heap.size b3 3 (bln (F 81)) (catN (2 * 32) (catN (1 * 32) (catN (0 * 32) (fun _ => 0) (bytN F 0 48)) (byF F 48)) (numN F 80)) _ HH6.out lR (by omega) HB6.out.size (by omega)).mono ?_; rintro e w7 ⟨rfl, hH, hb⟩; have HH7 := Hd hH; have HB7 := Hd (HB6.out.trans hb); have HS7 := Hd (HSB.out.below (HB6.out.trans hb)); clear hH hb)
  | (go_at_call 54; clear tk4; refine (zda wB.heap.size wB.heap.size b3 4 (nat (F 82)) (catN (3 * 32) (catN (2 * 32) (catN (1 * 32) (catN (0 * 32) (fun _ => 0) (bytN F 0 48)) (byF F 48)) (numN F 80)) (flagN (bln (F 81)))) _ HH7.out lR (by omega) HB7.out.size (by omega)).mono ?_; rintro e w8 ⟨rfl, hH, hb⟩; have HH8 := Hd hH; have HB8 := Hd (HB7.out.trans hb); have HS8 := Hd (HSB.out.below (HB7.out.trans hb)); clear hH hb)
  | (go_at_call 54; clear tk5; refine (zda wB.heap.size wB.heap.size b3 5 (nat (F 83)) (catN (4 * 32) (catN (3 * 32) (catN (2 * 32) (catN (1 * 32) (catN (0 * 32) (fun _ => 0) (bytN F 0 48)) (byF F 48)) (numN F 80)) (flagN (bln (F 81)))) (numN F 82)) _ HH8.out lR (by omega) HB8.out.size (by omega)).mono ?_; rintro e w9 ⟨rfl, hH, hb⟩; have HH9 := Hd hH; have HB9 := Hd (HB8.out.trans hb); have HS9 := Hd (HSB.out.below (HB8.out.trans hb)); clear hH hb)
  | (go_at_call 54; clear tk6; refine (zda wB.heap.size wB.heap.size b3 6 (nat (F 84)) (catN (5 * 32) (catN (4 * 32) (catN (3 * 32) (catN (2 * 32) (catN (1 * 32) (catN (0 * 32) (fun _ => 0) (bytN F 0 48)) (byF F 48)) (numN F 80)) (flagN (bln (F 81)))) (numN F 82)) (numN F 83)) _ HH9.out lR (by omega) HB9.out.size (by omega)).mono ?_; rintro e w10 ⟨rfl, hH, hb⟩; have HH10 := Hd hH; have HB10 := Hd (HB9.out.trans hb); have HS10 := Hd (HSB.out.below (HB9.out.trans hb)); clear hH hb)
  | (go_at_call 54; clear tk7; refine (zda wB.heap.size wB.heap.size b3 7 (nat (F 85)) (catN (6 * 32) (catN (5 * 32) (catN (4 * 32) (catN (3 * 32) (catN (2 * 32) (catN (1 * 32) (catN (0 * 32) (fun _ => 0) (bytN F 0 48)) (byF F 48)) (numN F 80)) (flagN (bln (F 81)))) (numN F 82)) (numN F 83)) (numN F 84)) _ HH10.out lR (by omega) HB10.out.size (by omega)).mono ?_; rintro e w11 ⟨rfl, hH, hb⟩; have HH11 := Hd hH; have HB11 := Hd (HB10.out.trans hb); have HS11 := Hd (HSB.out.below (HB10.out.trans hb)); clear hH hb)
  | (go_at_call 40; refine (zc2 wB.heap.size wB.heap.size b3 8 (validX F) _ HH11.out (zh2 F) lR (by omega) HB11.out.size (by omega) (by omega) (HP.out.below (HS11.out.out (by simp; omega))) (by omega)).mono ?_; rintro e wD ⟨rfl, hb⟩; rw [show treeN (dep 8) 8 (validX F) = validN F from rfl]; have HSD := Hd (HSB.out.below (HB11.out.trans hb)); clear hb))
 exact za5 rfl (HY.out.row 1 rfl) _ rfl Ty24 rfl s24 rfl ⟨rfl, HY.out.out (by simp; omega)⟩
theorem HashIs.congr {w : World} {base g n : Nat} {x y : Nat → Nat} (h : HashIs w base g n x) (e : ∀ i, i < n * 32 → x i = y i) : HashIs w base g n y := by
 obtain ⟨A, c, h1, h2, h3⟩ := h
 exact ⟨A, c, h1, h2.congr (fun i hi => by simp only [u8v]; rw [e i hi]), h3⟩
theorem HashIs.all {w w' : World} {base g n : Nat} {x : Nat → Nat} (h : HashIs w base g n x) (hb : Below w.heap.size w w') : HashIs w' base g n x := by
 obtain ⟨A, c, h1, h2, h3⟩ := h
 exact ⟨A, c, zaj h1 hb h1.lt, h2.all hb, h3⟩
theorem thnB {B B' : Nat} {a b c : World} (h : Below B a b) (k : Below B' b c) (hB : B ≤ B') : Below B a c := h.trans (k.mono hB)
theorem zqz (N off z : Nat) (F : Nat → Value) (h : off + z ≤ N) : (arr N F).extract off (off + z) = arr z (fun q => F (off + q)) := by
 apply zfb
 ·simp [zam]; omega
 ·intro i hi
  rw [Array.getElem?_extract, if_pos (by simp [zam]; omega), zaq _ _ _ (by omega)]
section
variable {P : Program}
theorem zea (w : World) {T e : TypeId} {n z N : Nat} {d : TypeDesc} (hu : P.underlying T = some (.array n e)) (hz : (P.info? e).map (·.size) = some z) (hud : P.underlying e = some d) (hd : (match d with | .struct _ | .array _ _ => true | _ => false) = true) (F : Nat → Value) (k : Nat) (hk : k < n) (hN : k * z + z ≤ N) : (Instr.index T (.agg (arr N F)) (.int .i64 (k : Int))).run P w = .ok (.agg (arr z fun q => F (k * z + q))) w := by
 have hagg : (isAgg e).run P w = .ok true w := by
  unfold isAgg
  rw [Sem.run_bind, run_underlying hud w]
  cases d <;> simp_all
 have hs := zcm hz w
 have hk2 : (0 : Int) ≤ (k : Int) ∧ (k : Int) < (n : Int) := by omega
 simp [Instr.index, run_underlying hu, asIntOf, hk, part, hagg, hs, go_sem, zqz N (k * z) z F hN]
theorem zj3 (w : World) {T e : TypeId} {n : Nat} {d : TypeDesc} (hu : P.underlying T = some (.array n e)) (hz : (P.info? e).map (·.size) = some 1) (hud : P.underlying e = some d) (hd : (match d with | .struct _ | .array _ _ => true | _ => false) = false) (F : Nat → Value) (k : Nat) (hk : k < n) : (Instr.index T (.agg (arr n F)) (.int .i64 (k : Int))).run P w = .ok (F k) w := by
 have hagg : (isAgg e).run P w = .ok false w := by
  unfold isAgg
  rw [Sem.run_bind, run_underlying hud w]
  cases d <;> simp_all
 have hs := zcm hz w
 simp [Instr.index, run_underlying hu, asIntOf, hk, part, hagg, hs, go_sem, zaq _ _ _ hk]
theorem zdb {o : Oper} {a : Act} {t : TypeId} {x i : Operand} {v u r : Value} (ho : o.op = .index t x i) (hx : a.eval x = v) (hi : a.eval i = u) (hr : ∀ w, (Instr.index t v u).run P w = .ok r w) : ∀ w, (execOp a.eval o).run P w = .ok (.value r) w := fun w => by
 unfold execOp
 rw [ho]
 simp only [hx, hi]
 simp [hr w]
end
def keysX (F : Nat → Value) : Nat → Nat := fun i => bytN F (i / 32 * 48) 48 (i % 32)
theorem zje (F : Nat → Value) : ∀ i, keysX F i < 256 := fun _ => zgq F _ _ _
def commX (F : Nat → Value) : Nat → Nat := catN (1 * 32) (catN (0 * 32) (fun _ => 0) (treeN (dep 8) 8 (keysX F))) (bytN F 384 48)
theorem zjf (F : Nat → Value) : ∀ i, commX F i < 256 := zbo (zbo (fun _ => by omega) (za9 (zje F) _ _)) (zgq F 384 48)
def commN (F : Nat → Value) : Nat → Nat := treeN (dep 2) 2 (commX F)
theorem zmm (F : Nat → Value) : ∀ i, commN F i < 256 := za9 (zjf F) _ _
namespace Committee
theorem leafs : ∀ q, q < 432 → leafAt Tryd.prog 8 47 q = some 5 := fun q hq => by
 have h : (List.range 432).all (fun q => leafAt Tryd.prog 8 47 q == some 5) = true := by kernel_rfl
 exact eq_of_beq (List.all_eq_true.1 h q (List.mem_range.2 hq))
theorem zsr (F : Nat → Value) (j : Nat) : ∀ i, i < (j + 1) * 32 → catN (j * 32) (keysX F) (bytN (fun q => F (j * 48 + q)) 0 48) i = keysX F i := fun i hi => by
 unfold catN
 by_cases h : i < j * 32
 ·rw [if_pos h]
 ·rw [if_neg h]
  unfold keysX
  rw [show i / 32 = j by omega, show i % 32 = i - j * 32 by omega]
  unfold bytN byF
  simp only [Nat.zero_add]
end Committee
open Committee in
theorem zgf (F : Nat → Value) (hF : Sc F 47) (w : World) (hp : ShaPkg w) :
 Calls Tryd.prog 36 #[.agg (arr 432 F)] w fun e w' => e = .returned (rootV (commN F)) ∧ Below w.heap.size w w' := by
 have HP := Hd hp
 have hpl := hp.lt
 have HSc := Hd hF
 have HS0 := Hd (HS.nil w)
 have H1 := Hd (show ∀ i, i < 432 → (F i).oneCell' = true from fun i hi => by rw [(hF.u8 i (leafs i hi)).1]; rfl)
 have tk0 := Tok.mk 0
 clear hp hF
 go_enter Tryd.func36, Tryd.ntmps36
 go_upto_region 3 with (first
  | ((with_reducible refine at_l ?_); first
   | (refine zaz rfl 47 _ 1 rfl rfl HS0.out 432 F rfl ?_; intro b1 w1 hb1 hc1 hs1; have HS1 := Hd hs1; clear hs1)
   | (refine zac rfl 24 2 rfl rfl HS1.out _ z24 32 (u8v fun _ => 0) n24 f24 ?_; intro b2 wA hb2 hc2 hs2; have HSA := Hd hs2; have hszA := hs2.size; clear hs2)
   | (refine zac rfl 90 3 rfl rfl (HS.nil wA) _ zcp 2 (hashF none 0 0) (zam _ _) (fun i hi => zaq _ _ i hi) ?_; intro b3 wB hb3 hc3 hs; have HR3 := Hd (hs.row 0 rfl); have HBB := Hd (hs.out (by simp; omega)); have hszB := hs.size; have hlB3 : b3 < wB.heap.size := hs.lt 0 rfl; clear hs)
   | (refine zac rfl 90 4 rfl rfl (HS.nil wB) _ zcp 2 (hashF none 0 0) (zam _ _) (fun i hi => zaq _ _ i hi) ?_; intro b4 w4 hb4 hc4 hs; have HB4 := Hd (hs.out (by simp; omega)); have hH4 : HashIs w4 wB.heap.size b4 0 (keysX F) := ⟨none, 0, hs.row 0 rfl, OwnZ.nil w4 _ _ _ _, fun ad e => by cases e⟩; have HH4 := Hd hH4; clear hs hH4)))
 have HS4 := Hd (HSA.out.below (thnB HBB.out HB4.out hszB))
 go_wp2_with (refine zag rfl 45 (.tmp 9) rfl b1 0 384 F rfl _ (fun i hi => by rw [Nat.zero_add]; exact HS4.out.cell 1 i rfl (show i < 432 by omega)) Tryd.underlying45 rfl (by kernel_rfl) _ rfl ?_)
 go_loopw [11] (fun i wq => ∃ j : Nat, i = .int .i64 (j : Int) ∧ j ≤ 8 ∧ HashIs wq wB.heap.size b4 j (keysX F) ∧ Below wB.heap.size wB wq) (fun i _ => 8 - (intOf i).toNat)
 case atStart => exact ⟨0, rfl, by omega, HH4.out, HB4.out⟩
 case round =>
  clear HH4
  obtain ⟨j, rfl, hj, hh, hb⟩ := hrel
  have HH := Hd hh
  have HB := Hd hb
  have hsz := hb.size
  clear hh hb
  by_cases hj8 : j < 8
  ·have HK1 := Hd (show ∀ q, q < 48 → (F (j * 48 + q)).oneCell' = true from fun q hq => H1.out _ (by omega))
   have HKR := Hd (show ∀ q, q < 48 → F (j * 48 + q) = u8v (byF (fun q => F (j * 48 + q)) 0) q from fun q hq => by
    have h2 := HSc.out.u8 _ (leafs (j * 48 + q) (by omega))
    show _ = Value.int .u8 ((nat (F (j * 48 + (0 + q))) % 256 : Nat) : Int)
    rw [Nat.zero_add, Nat.mod_eq_of_lt h2.2]; exact h2.1)
   have HKS := Hd (zsr F j)
   go_wp2_with (first
    | ((with_reducible refine at_l ?_); first
     | (refine zab rfl 13 rfl (.agg (arr 48 fun q => F (j * 48 + q))) ?_ ?_; (· exact zdb rfl rfl rfl (fun w => zea w Tryd.underlying45 (by kernel_rfl) Tryd.underlying44 rfl F j hj8 (by omega)) _))
     | (refine zac rfl 44 6 rfl rfl (HS.nil wr) (Array.replicate 48 (.int .u8 0)) (by kernel_rfl) 48 (u8v fun _ => 0) (by rfl) (zbg 48 (.int .u8 0)) ?_; intro b6 w6 hb6 hc6 hs; have HQ6 := Hd hs; clear hs)
     | (refine zaf rfl 44 (.tmp 6) (.tmp 13) rfl HQ6.out 0 rfl (fun q => F (j * 48 + q)) rfl rfl (by kernel_rfl) HK1.out ?_; intro w7 hs; have HQ7 := Hd hs; have HB7 := Hd (hs.out (by simp; omega)); clear hs))
    | (go_at_call 56; have hh7 : HashIs w7 wB.heap.size b4 j (keysX F) := HH.out.all HB7.out; refine (zd0 wB.heap.size wB.heap.size b4 j (keysX F) _ hh7 lR (by omega) (lT hsz HB7.out.size) (by omega) 48 48 (some ⟨b6, 0, none⟩) (byF (fun q => F (j * 48 + q)) 0) (Rd.of_part (HQ7.out.row 0 rfl) (show 0 + 48 ≤ 48 by omega) (fun i hi => by rw [Nat.zero_add]; exact HKR.out i hi)) (zbm _ 0) lR (by omega) (by omega) (HP.out.below (thnB (HSA.out.out (by simp; omega)) (thnB HBB.out (thnB HB.out HB7.out hsz) hszB) hszA)) (by omega)).mono ?_; clear hh7; rintro e w8 ⟨rfl, hH, hb⟩; have HH8 := Hd (HashIs.congr (y := keysX F) hH HKS.out); have HB8 := Hd ((thnB HB.out HB7.out hsz).trans hb); clear hH hb))
   go_roundw
   case rel => exact ⟨j + 1, by go_num, by omega, HH8.out, HB8.out⟩
   case measure => simp [intOf]; omega
  ·obtain rfl : j = 8 := by omega
   obtain ⟨KR, hKR⟩ : ∃ KR, KR = treeN (dep 8) 8 (keysX F) := ⟨_, rfl⟩
   have HKR := Hd hKR
   have HCX := Hd (show catN (1 * 32) (catN (0 * 32) (fun _ => 0) KR) (treeN (dep (nch 48)) (nch 48) (padN 48 (byF F 384))) = commX F by rw [hKR]; rfl)
   clear hKR
   go_wp2_with (first
    | (go_at_call 40; clear tk0; refine (zc2 wB.heap.size wB.heap.size b4 8 (keysX F) _ HH.out (zje F) lR (by omega) hsz (by omega) (by omega) (HP.out.below (thnB (HSA.out.out (by simp; omega)) (thnB HBB.out HB.out hszB) hszA)) (by omega)).mono ?_; rintro e w5 ⟨rfl, hb⟩; rw [← HKR.out]; have HB5 := Hd (thnB HBB.out (HB.out.trans hb) hszB); have HR5 := Hd (zaj HR3.out (HB.out.trans hb) hlB3); clear hb)
    | (go_at_call 53; have hh5 : HashIs w5 wA.heap.size b3 0 (fun _ => 0) := ⟨none, 0, HR5.out, OwnZ.nil w5 _ _ _ _, fun ad e => by cases e⟩; refine (zdj wA.heap.size wA.heap.size b3 0 (fun _ => 0) KR _ hh5 lR hb3 HB5.out.size (by omega)).mono ?_; clear hh5; rintro e w6 ⟨rfl, hH, hb⟩; have HH6 := Hd hH; have HB6 := Hd (HB5.out.trans hb); have HS6 := Hd (HSA.out.below (HB5.out.trans hb)); clear hH hb)
    | (go_at_call 56; refine (zd0 wA.heap.size wA.heap.size b3 1 (catN (0 * 32) (fun _ => 0) KR) _ HH6.out lR hb3 HB6.out.size (by omega) 48 48 (some ⟨b1, 384, none⟩) (byF F 384) (Rd.of_part (HS6.out.row 1 rfl) (show 384 + 48 ≤ 432 by omega) (fun i hi => zb6 HSc.out 384 i (leafs (384 + i) (by omega)))) (zbm F 384) lR (by omega) (by omega) (HP.out.below (HS6.out.out (by simp; omega))) (by omega)).mono ?_; rintro e w7 ⟨rfl, hH, hb⟩; rw [HCX.out] at hH; have HH7 := Hd hH; have HB7 := Hd (HB6.out.trans hb); have HS7 := Hd (HSA.out.below (HB6.out.trans hb)); clear hH hb)
    | (go_at_call 40; refine (zc2 wA.heap.size wA.heap.size b3 2 (commX F) _ HH7.out (zjf F) lR hb3 HB7.out.size (by omega) (by omega) (HP.out.below (HS7.out.out (by simp; omega))) (by omega)).mono ?_; rintro e wD ⟨rfl, hb⟩; rw [show treeN (dep 2) 2 (commX F) = commN F from rfl]; have HSD := Hd (HSA.out.below (HB7.out.trans hb)); clear hb)
    | ((with_reducible refine at_l ?_); first
     | (refine zac rfl 24 7 rfl rfl HSD.out _ z24 32 (u8v fun _ => 0) n24 f24 ?_; intro bR wR hbR hcR hs; have HSR := Hd hs; clear hs)
     | (refine zaf rfl 24 (.tmp 7) (.tmp 26) rfl HSR.out 0 rfl (u8v (commN F)) rfl rfl (by kernel_rfl) (fun _ _ => rfl) ?_; intro wS hs; have HSS := Hd hs; clear hs)
     | (refine zae rfl 24 (.tmp 7) rfl 32 _ Ty24 rfl s24 ⟨bR, 0, none⟩ rfl (u8v (commN F)) (fun i hi => by rw [zai]; exact HSS.out.cell 0 i rfl hi) ?_)
     | (refine zaf rfl 24 (.tmp 2) (.tmp 28) rfl HSS.out 1 rfl (u8v (commN F)) rfl rfl (by kernel_rfl) (fun _ _ => rfl) ?_; intro wy hs; have HY := Hd hs; clear hs)))
   exact za5 rfl (HY.out.row 1 rfl) _ rfl Ty24 rfl s24 rfl ⟨rfl, HY.out.out (by simp; omega)⟩
def b8 (f : Nat → Value) : Nat → Nat := fun i => nat (f i) % 256
theorem zcz (f : Nat → Value) : ∀ i, b8 f i < 256 := fun _ => Nat.mod_lt _ (by omega)
def valX (V : Nat → Value) : Nat → Nat := fun i => validN (fun q => V (i / 32 * 86 + q)) (i % 32)
theorem zgr (V : Nat → Value) : ∀ i, valX V i < 256 := fun _ => zk9 _ _
def numX (n : Nat) (f : Nat → Value) : Nat → Nat := padN (8 * n) (LiveSmall.leS fun i => nat (f i))
theorem zgs (n : Nat) (f : Nat → Value) : ∀ i, numX n f i < 256 := za6 fun _ => zbq _ _
def bytX (n : Nat) (f : Nat → Value) : Nat → Nat := padN n (b8 f)
theorem zn9 (n : Nat) (f : Nat → Value) : ∀ i, bytX n f i < 256 := za6 (zcz f)
def lvX (s : StV) (j : Nat) : Nat → Nat := if j = 0 then valX s.V else if j = 1 then numX s.nB s.Bal else if j = 2 then bytX s.nP s.Prv else if j = 3 then bytX s.nC s.Cur else numX s.nS s.Sco
theorem zwk (s : StV) (j : Nat) : ∀ i, lvX s j i < 256 := by
 unfold lvX
 split; · exact zgr _
 split; · exact zgs _ _
 split; · exact zn9 _ _
 split; · exact zn9 _ _
 exact zgs _ _
def lvG (j : Nat) : Nat := if j = 0 then 1 else if j = 1 then 4 else if j = 2 then 32 else if j = 3 then 32 else 4
theorem zim (j : Nat) : 0 < lvG j := by unfold lvG; (repeat (split; (· omega))); omega
def lvC (j n : Nat) : Nat := (n + lvG j - 1) / lvG j
def lvL (j : Nat) : Nat := if j = 0 then 65536 else if j = 1 then 16384 else if j = 2 then 2048 else if j = 3 then 2048 else 16384
theorem five {p : Nat → Prop} (h0 : p 0) (h1 : p 1) (h2 : p 2) (h3 : p 3) (h4 : p 4) : ∀ j, j < 5 → p j := fun j hj => by
 rcases (show j = 0 ∨ j = 1 ∨ j = 2 ∨ j = 3 ∨ j = 4 by omega) with rfl | rfl | rfl | rfl | rfl <;> assumption
theorem zss (s : StV) (i : Nat) : ∀ q, q < 32 → validN (fun q => s.V (i * 86 + q)) q = lvX s 0 (i * 32 + q) := fun q hq => by
 show _ = valX s.V _
 unfold valX
 rw [show (i * 32 + q) / 32 = i by omega, show (i * 32 + q) % 32 = q by omega]
def updX {α : Type} (f : Nat → α) (j : Nat) (m : α) : Nat → α := fun k => if k = j then m else f k
theorem zb8 {α : Type} (f : Nat → α) (j : Nat) (m : α) : updX f j m j = m := if_pos rfl
theorem zdn {α : Type} (f : Nat → α) {j k : Nat} (m : α) (h : k ≠ j) : updX f j m k = f k := if_neg h
end Go.Proofs.YtomilckcgmhfcaaDoor
