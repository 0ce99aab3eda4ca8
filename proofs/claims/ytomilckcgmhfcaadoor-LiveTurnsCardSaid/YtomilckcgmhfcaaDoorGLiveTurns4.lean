/- Lemmas that the proof stands on. -/
import Derived.Test.YtomilckcgmhfcaaDoorGLit27
namespace Go.Proofs.YtomilckcgmhfcaaDoor
set_option maxRecDepth 40000
set_option maxHeartbeats 64000000
open Go.RowKit
namespace RefSmall
theorem zi7 {i : Nat} {x ch : Nat → Nat} {f : Nat → Value} (h : ∀ j, j < i * 32 → f j = u8v x j) : ∀ j, j < (i + 1) * 32 → (if i * 32 ≤ j ∧ j < i * 32 + 32 then u8v ch (j - i * 32) else f j) = u8v (catN (i * 32) x ch) j := fun j hj => by
 by_cases h1 : j < i * 32
 ·rw [if_neg (by omega), h j h1]
  simp only [u8v, catN]
  rw [if_pos h1]
 ·rw [if_pos (by omega)]
  simp only [u8v, catN]
  rw [if_neg h1]
theorem zs8 (b : Bool) : padN 1 (flagN b) = flagN b := by
 funext q
 unfold padN
 by_cases h : q < 1
 ·rw [if_pos h]
 ·rw [if_neg h]; unfold flagN; rw [if_neg (by omega)]
theorem ziq (m : Int) (w : World) : (Instr.buildSlice 39 1 #[(0, .int .u8 m)]).run Tryd.prog w = .ok (.slice (some ⟨w.heap.size, 0, none⟩) 1 1) (w.alloc (.cells #[.int .u8 m] 5)) := by simp [go_sem]
end RefSmall
theorem ze5 {w : World} {B : Nat} {A : Option Addr} {n : Nat} {f : Nat → Value} (h : Rd w B A (n * 1) f) : Rd w B A n f := by rwa [Nat.mul_one] at h
theorem zbc {ops : Array Oper} {rest : List Oper} {o : Oper} {a : Act} {w w0 : World} {Q : Exit → Act → World → Prop} {rows : List RowSpec} {b N : Nat} {t : TypeId} {f : Nat → Value} (hgd : o.guard = none) (x y : Operand) (ho : o.op = .store 24 x y) (h : HS w0 w (⟨b, t, N, f⟩ :: rows)) (i : Nat) (X ch : Nat → Nat)
    (hX : ∀ j, j < i * 32 → f j = u8v X j) (hN : i * 32 + 32 ≤ N) (hx : a.eval x = .pointer (some ⟨b, i * 32, none⟩)) (hy : a.eval y = rootV ch) (hK : ∀ (g : Nat → Value) w', HS w0 w' (⟨b, t, N, g⟩ :: rows) → (∀ j, j < (i + 1) * 32 → g j = u8v (catN (i * 32) X ch) j) → wpList Tryd.prog ops Q rest (a.put o.dst undef) w') : wpList Tryd.prog ops Q (o :: rest) a w :=
 zfm hgd 24 x y ho h 0 rfl (i * 32) 32 (u8v ch) hx hy (by kernel_rfl) hN (fun _ _ => rfl) _ (fun _ _ => rfl) fun w' hs => hK _ w' hs (RefSmall.zi7 hX)
theorem zc3 (n : Nat) (w : World) : Calls Tryd.prog 89 #[.int .u64 (n : Int)] w fun e w' => ∃ A c, e = .returned (.slice A 8 c) ∧ 8 ≤ c ∧ Rd w' w'.heap.size A 8 (u8v (leB n)) ∧ Below w.heap.size w w' := by
 have HS0 := Hd (HS.nil w)
 go_enter Tryd.func89, Tryd.ntmps89
 go_wp2_with (first
  | (go_at_call 87; refine (zhp n _).mono ?_; rintro e w1 ⟨rfl, hb⟩; have HS1 := Hd (HS0.out.below hb); clear hb)
  | ((with_reducible refine at_l ?_); first
   | (refine zac rfl 108 3 rfl rfl HS1.out (Array.replicate 8 (.int .u8 0)) (by kernel_rfl) 8 (u8v fun _ => 0) (by rfl) (zbg 8 (.int .u8 0)) ?_; intro b3 w2 hb3 hc3 hs; have HS2 := Hd hs; clear hs)
   | (refine zaf rfl 108 (.tmp 3) (.tmp 5) rfl HS2.out 0 rfl (u8v (leB n)) rfl rfl (by kernel_rfl) (fun _ _ => rfl) ?_; intro w3 hs; have HS3 := Hd hs; clear hs)
   | (refine zdi rfl 1 rfl StCopy.bs08 (HS.nil _) ?_; intro d1 y1 hd1 hs ho; have HN1 := Hd hs; have HO1 := Hd ho; clear hs ho))
  | (at_builtin; refine zc9 rfl (.tmp 6) (.tmp 7) 39 w3.heap.size (z := .int .u8 0) (k := 1) (bytes := 1) (by kernel_rfl) Ty39 (by rfl) (by omega) rfl rfl HO1.out rfl (Rd.of_row (n := 8 * 1) (m := 8) (zaj (HS3.out.row 0 rfl) HN1.out.bel (HS3.out.lt 0 rfl)) (by omega) (Nat.lt_of_lt_of_le (HS3.out.lt 0 rfl) HN1.out.bel.size)) (fun _ _ => rfl) ⟨by omega, by omega⟩ (by have := HO1.out.base_le _ rfl; omega) HN1.out ?_; intro A6 c6 x1 ho hs; have HP1 := Hd ho; have HM1 := Hd hs.bel; clear ho hs))
 go_ret
 exact ⟨A6, c6, rfl, HP1.out.cap, ze5 HP1.out.rd, thnB (HS3.out.out (by simp; omega)) HM1.out HS3.out.size⟩
theorem zb2 (m c : Nat) (A : Option Addr) (x : Nat → Nat) (w : World) (hb : Rd w w.heap.size A m (u8v x)) (hx : ∀ i, x i < 256) (hm : nch m = 1) (hp : RefPkg w) : Calls Tryd.prog 88 #[.slice A m c] w fun e w' => e = .returned (rootV (padN m x)) ∧ Below w.heap.size w w' := by
 have HX := Hd hb
 have HXl := Hd hx
 have HP := Hd hp
 have hm32 : m ≤ 32 := by unfold nch at hm; omega
 have HM := Hd hm
 have HS0 := Hd (HS.nil w)
 clear hb hx hp hm
 go_enter Tryd.func88, Tryd.ntmps88
 go_wp2_with (first
  | ((with_reducible refine at_l ?_); first
   | (refine zac rfl 24 2 rfl rfl HS0.out _ z24 32 (u8v fun _ => 0) n24 f24 ?_; intro b2 w1 hb2 hc2 hs; have HS1 := Hd hs; clear hs)
   | (refine zaf rfl 24 (.tmp 2) (.tmp 5) rfl HS3.out 0 rfl (u8v (padN m x)) rfl rfl (by kernel_rfl) (fun _ _ => rfl) ?_; intro wy hs; have HY := Hd hs; clear hs))
  | (go_at_call 74; refine (zdh m c A x _ ((HX.out.below (HS1.out.out (by simp; omega))).more HS1.out.size) (by omega)).mono ?_; rintro e w2 ⟨A', c', rfl, ho, hb⟩; rw [HM.out] at ho ⊢; have HO := Hd ho; have HS2 := Hd (HS1.out.below hb); clear ho hb)
  | (go_at_call 70; refine (zbt 1 c' 1 A' (padN m x) _ HO.out.rd (za6 HXl.out) HO.out.cap (by omega) (by omega) (HP.out.below (HS2.out.out (by simp; omega)))).mono ?_; rintro e w3 ⟨rfl, hb⟩; rw [show treeN (dep 1) 1 (padN m x) = padN m x from rfl]; have HS3 := Hd (HS2.out.below hb); clear hb))
 exact za5 rfl (HY.out.row 0 rfl) _ rfl Ty24 rfl s24 rfl ⟨rfl, HY.out.out (by simp; omega)⟩
theorem zes (n : Nat) (w : World) : Calls Tryd.prog 67 #[.int .u64 (n : Int)] w fun e w' => ∃ A c, e = .returned (.slice A 8 c) ∧ 8 ≤ c ∧ Rd w' w'.heap.size A 8 (u8v (leB n)) ∧ Below w.heap.size w w' := by
 have HS0 := Hd (HS.nil w)
 go_enter Tryd.func67, Tryd.ntmps67
 go_wp2_with (first
  | (go_at_call 87; refine (zhp n _).mono ?_; rintro e w1 ⟨rfl, hb⟩; have HS1 := Hd (HS0.out.below hb); clear hb)
  | ((with_reducible refine at_l ?_); first
   | (refine zac rfl 108 3 rfl rfl HS1.out (Array.replicate 8 (.int .u8 0)) (by kernel_rfl) 8 (u8v fun _ => 0) (by rfl) (zbg 8 (.int .u8 0)) ?_; intro b3 w2 hb3 hc3 hs; have HS2 := Hd hs; clear hs)
   | (refine zaf rfl 108 (.tmp 3) (.tmp 5) rfl HS2.out 0 rfl (u8v (leB n)) rfl rfl (by kernel_rfl) (fun _ _ => rfl) ?_; intro w3 hs; have HS3 := Hd hs; clear hs)
   | (refine zdi rfl 1 rfl StCopy.bs08 (HS.nil _) ?_; intro d1 y1 hd1 hs ho; have HN1 := Hd hs; have HO1 := Hd ho; clear hs ho))
  | (at_builtin; refine zc9 rfl (.tmp 6) (.tmp 7) 39 w3.heap.size (z := .int .u8 0) (k := 1) (bytes := 1) (by kernel_rfl) Ty39 (by rfl) (by omega) rfl rfl HO1.out rfl (Rd.of_row (n := 8 * 1) (m := 8) (zaj (HS3.out.row 0 rfl) HN1.out.bel (HS3.out.lt 0 rfl)) (by omega) (Nat.lt_of_lt_of_le (HS3.out.lt 0 rfl) HN1.out.bel.size)) (fun _ _ => rfl) ⟨by omega, by omega⟩ (by have := HO1.out.base_le _ rfl; omega) HN1.out ?_; intro A6 c6 x1 ho hs; have HP1 := Hd ho; have HM1 := Hd hs.bel; clear ho hs))
 go_ret
 exact ⟨A6, c6, rfl, HP1.out.cap, ze5 HP1.out.rd, thnB (HS3.out.out (by simp; omega)) HM1.out HS3.out.size⟩
theorem zfa (m c : Nat) (A : Option Addr) (x : Nat → Nat) (w : World) (hb : Rd w w.heap.size A m (u8v x)) (hx : ∀ i, x i < 256) (hm : nch m = 1) (hp : RefPkg w) : Calls Tryd.prog 66 #[.slice A m c] w fun e w' => e = .returned (rootV (padN m x)) ∧ Below w.heap.size w w' := by
 have HX := Hd hb
 have HXl := Hd hx
 have HP := Hd hp
 have hm32 : m ≤ 32 := by unfold nch at hm; omega
 have HM := Hd hm
 have HS0 := Hd (HS.nil w)
 clear hb hx hp hm
 go_enter Tryd.func66, Tryd.ntmps66
 go_wp2_with (first
  | ((with_reducible refine at_l ?_); first
   | (refine zac rfl 24 2 rfl rfl HS0.out _ z24 32 (u8v fun _ => 0) n24 f24 ?_; intro b2 w1 hb2 hc2 hs; have HS1 := Hd hs; clear hs)
   | (refine zaf rfl 24 (.tmp 2) (.tmp 5) rfl HS3.out 0 rfl (u8v (padN m x)) rfl rfl (by kernel_rfl) (fun _ _ => rfl) ?_; intro wy hs; have HY := Hd hs; clear hs))
  | (go_at_call 74; refine (zdh m c A x _ ((HX.out.below (HS1.out.out (by simp; omega))).more HS1.out.size) (by omega)).mono ?_; rintro e w2 ⟨A', c', rfl, ho, hb⟩; rw [HM.out] at ho ⊢; have HO := Hd ho; have HS2 := Hd (HS1.out.below hb); clear ho hb)
  | (go_at_call 70; refine (zbt 1 c' 1 A' (padN m x) _ HO.out.rd (za6 HXl.out) HO.out.cap (by omega) (by omega) (HP.out.below (HS2.out.out (by simp; omega)))).mono ?_; rintro e w3 ⟨rfl, hb⟩; rw [show treeN (dep 1) 1 (padN m x) = padN m x from rfl]; have HS3 := Hd (HS2.out.below hb); clear hb))
 exact za5 rfl (HY.out.row 0 rfl) _ rfl Ty24 rfl s24 rfl ⟨rfl, HY.out.out (by simp; omega)⟩
theorem zpe (b : Bool) (w : World) : Calls Tryd.prog 92 #[.bool b] w fun e w' => ∃ A c, e = .returned (.slice A 1 c) ∧ 1 ≤ c ∧ Rd w' w'.heap.size A 1 (u8v (flagN b)) ∧ Below w.heap.size w w' := by
 have HS0 := Hd (HS.nil w)
 cases b
 all_goals
  go_enter Tryd.func92, Tryd.ntmps92
  go_wp2_with (first
   | ((with_reducible refine at_l ?_); first
    | (refine zcj rfl (e := 5) (.const (.int .u8 1)) (.int .u8 1) rfl rfl (RefSmall.ziq 1) HS0.out ?_; intro b1 w1 hb1 hc1 hbl hs; have HS1 := Hd hs; clear hs hbl)
    | (refine zcj rfl (e := 5) (.const (.int .u8 0)) (.int .u8 0) rfl rfl (RefSmall.ziq 0) HS0.out ?_; intro b1 w1 hb1 hc1 hbl hs; have HS1 := Hd hs; clear hs hbl)))
  go_ret
  exact ⟨_, _, rfl, Nat.le_refl _, Rd.of_row (n := 1) (m := 1) ((HS1.out.row 0 rfl).congr (fun i hi => by (obtain rfl : i = 0 := Nat.lt_one_iff.1 hi); rfl)) lR (HS1.out.lt 0 rfl), HS1.out.out (by simp; omega)⟩
open SmallRoots in
theorem zs9 (F : Nat → Value) (hF : Sc F 28) (w : World) (hp : RefPkg w) :
 Calls Tryd.prog 68 #[.agg (arr 9 F)] w fun e w' => e = .returned (.tuple #[rootV (forkN F), .int .i64 0]) ∧ Below w.heap.size w w' := by
 have HP := Hd hp
 have HSc := Hd hF
 have HS0 := Hd (HS.nil w)
 clear hp hF
 go_enter Tryd.func68, Tryd.ntmps68
 go_wp2_with (first
  | ((with_reducible refine at_l ?_); first
   | (refine zaz rfl 28 _ 1 rfl rfl HS0.out 9 F rfl ?_; intro b1 w1 hb1 hc1 hs1; have HS1 := Hd hs1; clear hs1)
   | (refine zac rfl 24 2 rfl rfl HS1.out _ z24 32 (u8v fun _ => 0) n24 f24 ?_; intro b2 w2 hb2 hc2 hs2; have HS2 := Hd hs2; clear hs2)
   | (refine zac rfl 149 5 rfl rfl HS2.out (Array.replicate 96 (.int .u8 0)) (by kernel_rfl) 96 (u8v fun _ => 0) (by simp) (zbg 96 (.int .u8 0)) ?_; intro bc w3 hbc hcc hs; have Hw0 := Hd hs; clear hs)
   | (refine zbc rfl (.tmp 9) (.tmp 8) rfl Hv0.out 0 (fun _ => 0) (bytN F 0 4) (fun j hj => absurd hj (by omega)) (by omega) rfl rfl ?_; intro f1 w' hs hf; have Hw1 := Hd hs; have HF1 := Hd hf; clear hs hf Hw0)
   | (refine zbc rfl (.tmp 13) (.tmp 12) rfl Hv1.out 1 (catN (0 * 32) (fun _ => 0) (bytN F 0 4)) (bytN F 4 4) HF1.out (by omega) rfl rfl ?_; intro f2 w' hs hf; have Hw2 := Hd hs; have HF2 := Hd hf; clear hs hf HF1)
   | (refine zab rfl 15 rfl (.int .u64 ((nat (F 8) : Nat) : Int)) ?_ ?_; (· exact zbf .u64 rfl rfl Ty22 ((Hw2.out.cell 2 8 rfl (by show 8 < 9; omega)).trans (congrArg some (HSc.out.u64 8 (by kernel_rfl)).1))))
   | (refine zbc rfl (.tmp 18) (.tmp 17) rfl Hv2.out 2 (catN (1 * 32) (catN (0 * 32) (fun _ => 0) (bytN F 0 4)) (bytN F 4 4)) (numN F 8) HF2.out (by omega) rfl rfl ?_; intro f3 w' hs hf; have Hw3 := Hd hs; have HF3 := Hd hf; clear hs hf HF2)
   | (refine zaf rfl 24 (.tmp 2) (.tmp 21) rfl HZ.out 1 rfl (u8v (forkN F)) rfl rfl (by kernel_rfl) (fun _ _ => rfl) ?_; intro wy hs; have HY := Hd hs; clear hs))
  | (have tx := Hw0; clear tx; go_at_call 88; refine (zb2 4 4 (some ⟨b1, 0, none⟩) (byF F 0) _ (Rd.of_part (Hw0.out.row 2 rfl) (show 0 + 4 ≤ 9 by omega) (fun q hq => zb6 HSc.out 0 q (zjz q hq))) (zbm F 0) rfl (HP.out.below (Hw0.out.out (by simp; omega)))).mono ?_; rintro e w' ⟨rfl, hb⟩; rw [show padN 4 (byF F 0) = bytN F 0 4 from rfl]; have Hv0 := Hd (Hw0.out.below hb); clear hb)
  | (have tx := HF1; clear tx; go_at_call 88; refine (zb2 4 4 (some ⟨b1, 4, none⟩) (byF F 4) _ (Rd.of_part (Hw1.out.row 2 rfl) (show 4 + 4 ≤ 9 by omega) (fun q hq => zb6 HSc.out 4 q (zj0 q hq))) (zbm F 4) rfl (HP.out.below (Hw1.out.out (by simp; omega)))).mono ?_; rintro e w' ⟨rfl, hb⟩; rw [show padN 4 (byF F 4) = bytN F 4 4 from rfl]; have Hv1 := Hd (Hw1.out.below hb); clear hb)
  | (have tx := HF2; clear tx; go_at_call 89; refine (zc3 (nat (F 8)) _).mono ?_; rintro e w' ⟨A', c', rfl, hc, hr, hb⟩; have HO2 := Hd hr; have Hp2 := Hd (Hw2.out.below hb); clear hc hr hb)
  | (go_at_call 88; refine (zb2 8 c' A' (leB (nat (F 8))) _ HO2.out (zbq _) rfl (HP.out.below (Hp2.out.out (by simp; omega)))).mono ?_; rintro e w' ⟨rfl, hb⟩; rw [show padN 8 (leB (nat (F 8))) = numN F 8 from rfl]; have Hv2 := Hd (Hp2.out.below hb); clear hb HO2)
  | (go_at_call 70; refine (zbt 3 3 3 (some ⟨bc, 0, none⟩) (forkX F) _ (Rd.of_row (n := 3 * 32) (m := 96) ((Hw3.out.row 0 rfl).congr HF3.out) lR (Hw3.out.lt 0 rfl)) (zjc F) lR (by omega) lR (HP.out.below (Hw3.out.out (by simp; omega)))).mono ?_; rintro e w' ⟨rfl, hb⟩; rw [show treeN (dep 3) 3 (forkX F) = forkN F from rfl]; have HZ := Hd (Hw3.out.below hb); clear hb))
 exact zb4 rfl (HY.out.row 1 rfl) _ _ rfl rfl Ty24 rfl s24 rfl ⟨rfl, HY.out.out (by simp; omega)⟩
open SmallRoots in
theorem zpf (F : Nat → Value) (hF : Sc F 30) (w : World) (hp : RefPkg w) :
 Calls Tryd.prog 69 #[.agg (arr 98 F)] w fun e w' => e = .returned (.tuple #[rootV (headerN F), .int .i64 0]) ∧ Below w.heap.size w w' := by
 have HP := Hd hp
 have HSc := Hd hF
 have HS0 := Hd (HS.nil w)
 clear hp hF
 go_enter Tryd.func69, Tryd.ntmps69
 go_wp2_with (first
  | ((with_reducible refine at_l ?_); first
   | (refine zaz rfl 30 _ 1 rfl rfl HS0.out 98 F rfl ?_; intro b1 w1 hb1 hc1 hs1; have HS1 := Hd hs1; clear hs1)
   | (refine zac rfl 24 2 rfl rfl HS1.out _ z24 32 (u8v fun _ => 0) n24 f24 ?_; intro b2 w2 hb2 hc2 hs2; have HS2 := Hd hs2; clear hs2)
   | (refine zac rfl 150 5 rfl rfl HS2.out (Array.replicate 160 (.int .u8 0)) (by kernel_rfl) 160 (u8v fun _ => 0) (by simp) (zbg 160 (.int .u8 0)) ?_; intro bc w3 hbc hcc hs; have Hw0 := Hd hs; clear hs)
   | (refine zab rfl 7 rfl (.int .u64 ((nat (F 0) : Nat) : Int)) ?_ ?_; (· exact zbf .u64 rfl rfl Ty22 ((Hw0.out.cell 2 0 rfl (by show 0 < 98; omega)).trans (congrArg some (HSc.out.u64 0 (by kernel_rfl)).1))))
   | (refine zbc rfl (.tmp 10) (.tmp 9) rfl Hv0.out 0 (fun _ => 0) (numN F 0) (fun j hj => absurd hj (by omega)) (by omega) rfl rfl ?_; intro f1 w' hs hf; have Hw1 := Hd hs; have HF1 := Hd hf; clear hs hf Hw0)
   | (refine zab rfl 12 rfl (.int .u64 ((nat (F 1) : Nat) : Int)) ?_ ?_; (· exact zbf .u64 rfl rfl Ty22 ((Hw1.out.cell 2 1 rfl (by show 1 < 98; omega)).trans (congrArg some (HSc.out.u64 1 (by kernel_rfl)).1))))
   | (refine zbc rfl (.tmp 15) (.tmp 14) rfl Hv1.out 1 (catN (0 * 32) (fun _ => 0) (numN F 0)) (numN F 1) HF1.out (by omega) rfl rfl ?_; intro f2 w' hs hf; have Hw2 := Hd hs; have HF2 := Hd hf; clear hs hf HF1)
   | (refine zag rfl 24 (.tmp 16) rfl b1 2 32 (u8v (byF F 2)) rfl _ (fun q hq => (Hw2.out.cell 2 (2 + q) rfl (show 2 + q < 98 by omega)).trans (congrArg some (zb6 HSc.out 2 q (zhz q hq)))) Ty24 rfl s24 _ rfl ?_; have Hv2 := Hw2)
   | (refine zbc rfl (.tmp 18) (.tmp 17) rfl Hv2.out 2 (catN (1 * 32) (catN (0 * 32) (fun _ => 0) (numN F 0)) (numN F 1)) (byF F 2) HF2.out (by omega) rfl rfl ?_; intro f3 w' hs hf; have Hw3 := Hd hs; have HF3 := Hd hf; clear hs hf HF2)
   | (refine zag rfl 24 (.tmp 19) rfl b1 34 32 (u8v (byF F 34)) rfl _ (fun q hq => (Hw3.out.cell 2 (34 + q) rfl (show 34 + q < 98 by omega)).trans (congrArg some (zb6 HSc.out 34 q (zhl q hq)))) Ty24 rfl s24 _ rfl ?_; have Hv3 := Hw3)
   | (refine zbc rfl (.tmp 21) (.tmp 20) rfl Hv3.out 3 (catN (2 * 32) (catN (1 * 32) (catN (0 * 32) (fun _ => 0) (numN F 0)) (numN F 1)) (byF F 2)) (byF F 34) HF3.out (by omega) rfl rfl ?_; intro f4 w' hs hf; have Hw4 := Hd hs; have HF4 := Hd hf; clear hs hf HF3)
   | (refine zag rfl 24 (.tmp 22) rfl b1 66 32 (u8v (byF F 66)) rfl _ (fun q hq => (Hw4.out.cell 2 (66 + q) rfl (show 66 + q < 98 by omega)).trans (congrArg some (zb6 HSc.out 66 q (zhm q hq)))) Ty24 rfl s24 _ rfl ?_; have Hv4 := Hw4)
   | (refine zbc rfl (.tmp 24) (.tmp 23) rfl Hv4.out 4 (catN (3 * 32) (catN (2 * 32) (catN (1 * 32) (catN (0 * 32) (fun _ => 0) (numN F 0)) (numN F 1)) (byF F 2)) (byF F 34)) (byF F 66) HF4.out (by omega) rfl rfl ?_; intro f5 w' hs hf; have Hw5 := Hd hs; have HF5 := Hd hf; clear hs hf HF4)
   | (refine zaf rfl 24 (.tmp 2) (.tmp 27) rfl HZ.out 1 rfl (u8v (headerN F)) rfl rfl (by kernel_rfl) (fun _ _ => rfl) ?_; intro wy hs; have HY := Hd hs; clear hs))
  | (have tx := Hw0; clear tx; go_at_call 89; refine (zc3 (nat (F 0)) _).mono ?_; rintro e w' ⟨A', c', rfl, hc, hr, hb⟩; have HO0 := Hd hr; have Hp0 := Hd (Hw0.out.below hb); clear hc hr hb)
  | (go_at_call 88; refine (zb2 8 c' A' (leB (nat (F 0))) _ HO0.out (zbq _) rfl (HP.out.below (Hp0.out.out (by simp; omega)))).mono ?_; rintro e w' ⟨rfl, hb⟩; rw [show padN 8 (leB (nat (F 0))) = numN F 0 from rfl]; have Hv0 := Hd (Hp0.out.below hb); clear hb HO0)
  | (have tx := HF1; clear tx; go_at_call 89; refine (zc3 (nat (F 1)) _).mono ?_; rintro e w' ⟨A', c', rfl, hc, hr, hb⟩; have HO1 := Hd hr; have Hp1 := Hd (Hw1.out.below hb); clear hc hr hb)
  | (go_at_call 88; refine (zb2 8 c' A' (leB (nat (F 1))) _ HO1.out (zbq _) rfl (HP.out.below (Hp1.out.out (by simp; omega)))).mono ?_; rintro e w' ⟨rfl, hb⟩; rw [show padN 8 (leB (nat (F 1))) = numN F 1 from rfl]; have Hv1 := Hd (Hp1.out.below hb); clear hb HO1)
  | (go_at_call 70; refine (zbt 5 5 5 (some ⟨bc, 0, none⟩) (headerX F) _ (Rd.of_row (n := 5 * 32) (m := 160) ((Hw5.out.row 0 rfl).congr HF5.out) lR (Hw5.out.lt 0 rfl)) (zhb F) lR (by omega) lR (HP.out.below (Hw5.out.out (by simp; omega)))).mono ?_; rintro e w' ⟨rfl, hb⟩; rw [show treeN (dep 5) 5 (headerX F) = headerN F from rfl]; have HZ := Hd (Hw5.out.below hb); clear hb))
 exact zb4 rfl (HY.out.row 1 rfl) _ _ rfl rfl Ty24 rfl s24 rfl ⟨rfl, HY.out.out (by simp; omega)⟩
open SmallRoots in
theorem znd (F : Nat → Value) (hF : Sc F 34) (w : World) (hp : RefPkg w) :
 Calls Tryd.prog 72 #[.agg (arr 65 F)] w fun e w' => e = .returned (.tuple #[rootV (eth1N F), .int .i64 0]) ∧ Below w.heap.size w w' := by
 have HP := Hd hp
 have HSc := Hd hF
 have HS0 := Hd (HS.nil w)
 clear hp hF
 go_enter Tryd.func72, Tryd.ntmps72
 go_wp2_with (first
  | ((with_reducible refine at_l ?_); first
   | (refine zaz rfl 34 _ 1 rfl rfl HS0.out 65 F rfl ?_; intro b1 w1 hb1 hc1 hs1; have HS1 := Hd hs1; clear hs1)
   | (refine zac rfl 24 2 rfl rfl HS1.out _ z24 32 (u8v fun _ => 0) n24 f24 ?_; intro b2 w2 hb2 hc2 hs2; have HS2 := Hd hs2; clear hs2)
   | (refine zac rfl 149 5 rfl rfl HS2.out (Array.replicate 96 (.int .u8 0)) (by kernel_rfl) 96 (u8v fun _ => 0) (by simp) (zbg 96 (.int .u8 0)) ?_; intro bc w3 hbc hcc hs; have Hw0 := Hd hs; clear hs)
   | (refine zag rfl 24 (.tmp 6) rfl b1 0 32 (u8v (byF F 0)) rfl _ (fun q hq => (Hw0.out.cell 2 (0 + q) rfl (show 0 + q < 65 by omega)).trans (congrArg some (zb6 HSc.out 0 q (zj1 q hq)))) Ty24 rfl s24 _ rfl ?_; have Hv0 := Hw0)
   | (refine zbc rfl (.tmp 8) (.tmp 7) rfl Hv0.out 0 (fun _ => 0) (byF F 0) (fun j hj => absurd hj (by omega)) (by omega) rfl rfl ?_; intro f1 w' hs hf; have Hw1 := Hd hs; have HF1 := Hd hf; clear hs hf Hw0)
   | (refine zab rfl 10 rfl (.int .u64 ((nat (F 32) : Nat) : Int)) ?_ ?_; (· exact zbf .u64 rfl rfl Ty22 ((Hw1.out.cell 2 32 rfl (by show 32 < 65; omega)).trans (congrArg some (HSc.out.u64 32 (by kernel_rfl)).1))))
   | (refine zbc rfl (.tmp 13) (.tmp 12) rfl Hv1.out 1 (catN (0 * 32) (fun _ => 0) (byF F 0)) (numN F 32) HF1.out (by omega) rfl rfl ?_; intro f2 w' hs hf; have Hw2 := Hd hs; have HF2 := Hd hf; clear hs hf HF1)
   | (refine zag rfl 24 (.tmp 14) rfl b1 33 32 (u8v (byF F 33)) rfl _ (fun q hq => (Hw2.out.cell 2 (33 + q) rfl (show 33 + q < 65 by omega)).trans (congrArg some (zb6 HSc.out 33 q (ziv q hq)))) Ty24 rfl s24 _ rfl ?_; have Hv2 := Hw2)
   | (refine zbc rfl (.tmp 16) (.tmp 15) rfl Hv2.out 2 (catN (1 * 32) (catN (0 * 32) (fun _ => 0) (byF F 0)) (numN F 32)) (byF F 33) HF2.out (by omega) rfl rfl ?_; intro f3 w' hs hf; have Hw3 := Hd hs; have HF3 := Hd hf; clear hs hf HF2)
   | (refine zaf rfl 24 (.tmp 2) (.tmp 19) rfl HZ.out 1 rfl (u8v (eth1N F)) rfl rfl (by kernel_rfl) (fun _ _ => rfl) ?_; intro wy hs; have HY := Hd hs; clear hs))
  | (have tx := HF1; clear tx; go_at_call 89; refine (zc3 (nat (F 32)) _).mono ?_; rintro e w' ⟨A', c', rfl, hc, hr, hb⟩; have HO1 := Hd hr; have Hp1 := Hd (Hw1.out.below hb); clear hc hr hb)
  | (go_at_call 88; refine (zb2 8 c' A' (leB (nat (F 32))) _ HO1.out (zbq _) rfl (HP.out.below (Hp1.out.out (by simp; omega)))).mono ?_; rintro e w' ⟨rfl, hb⟩; rw [show padN 8 (leB (nat (F 32))) = numN F 32 from rfl]; have Hv1 := Hd (Hp1.out.below hb); clear hb HO1)
  | (go_at_call 70; refine (zbt 3 3 3 (some ⟨bc, 0, none⟩) (eth1X F) _ (Rd.of_row (n := 3 * 32) (m := 96) ((Hw3.out.row 0 rfl).congr HF3.out) lR (Hw3.out.lt 0 rfl)) (zjd F) lR (by omega) lR (HP.out.below (Hw3.out.out (by simp; omega)))).mono ?_; rintro e w' ⟨rfl, hb⟩; rw [show treeN (dep 3) 3 (eth1X F) = eth1N F from rfl]; have HZ := Hd (Hw3.out.below hb); clear hb))
 exact zb4 rfl (HY.out.row 1 rfl) _ _ rfl rfl Ty24 rfl s24 rfl ⟨rfl, HY.out.out (by simp; omega)⟩
open SmallRoots in
theorem zid (F : Nat → Value) (hF : Sc F 42) (w : World) (hp : RefPkg w) :
 Calls Tryd.prog 76 #[.agg (arr 33 F)] w fun e w' => e = .returned (.tuple #[rootV (checkN F), .int .i64 0]) ∧ Below w.heap.size w w' := by
 have HP := Hd hp
 have HSc := Hd hF
 have HS0 := Hd (HS.nil w)
 clear hp hF
 go_enter Tryd.func76, Tryd.ntmps76
 go_wp2_with (first
  | ((with_reducible refine at_l ?_); first
   | (refine zaz rfl 42 _ 1 rfl rfl HS0.out 33 F rfl ?_; intro b1 w1 hb1 hc1 hs1; have HS1 := Hd hs1; clear hs1)
   | (refine zac rfl 24 2 rfl rfl HS1.out _ z24 32 (u8v fun _ => 0) n24 f24 ?_; intro b2 w2 hb2 hc2 hs2; have HS2 := Hd hs2; clear hs2)
   | (refine zac rfl 152 5 rfl rfl HS2.out (Array.replicate 64 (.int .u8 0)) (by kernel_rfl) 64 (u8v fun _ => 0) (by simp) (zbg 64 (.int .u8 0)) ?_; intro bc w3 hbc hcc hs; have Hw0 := Hd hs; clear hs)
   | (refine zab rfl 7 rfl (.int .u64 ((nat (F 0) : Nat) : Int)) ?_ ?_; (· exact zbf .u64 rfl rfl Ty22 ((Hw0.out.cell 2 0 rfl (by show 0 < 33; omega)).trans (congrArg some (HSc.out.u64 0 (by kernel_rfl)).1))))
   | (refine zbc rfl (.tmp 10) (.tmp 9) rfl Hv0.out 0 (fun _ => 0) (numN F 0) (fun j hj => absurd hj (by omega)) (by omega) rfl rfl ?_; intro f1 w' hs hf; have Hw1 := Hd hs; have HF1 := Hd hf; clear hs hf Hw0)
   | (refine zag rfl 24 (.tmp 11) rfl b1 1 32 (u8v (byF F 1)) rfl _ (fun q hq => (Hw1.out.cell 2 (1 + q) rfl (show 1 + q < 33 by omega)).trans (congrArg some (zb6 HSc.out 1 q (ziw q hq)))) Ty24 rfl s24 _ rfl ?_; have Hv1 := Hw1)
   | (refine zbc rfl (.tmp 13) (.tmp 12) rfl Hv1.out 1 (catN (0 * 32) (fun _ => 0) (numN F 0)) (byF F 1) HF1.out (by omega) rfl rfl ?_; intro f2 w' hs hf; have Hw2 := Hd hs; have HF2 := Hd hf; clear hs hf HF1)
   | (refine zaf rfl 24 (.tmp 2) (.tmp 16) rfl HZ.out 1 rfl (u8v (checkN F)) rfl rfl (by kernel_rfl) (fun _ _ => rfl) ?_; intro wy hs; have HY := Hd hs; clear hs))
  | (have tx := Hw0; clear tx; go_at_call 89; refine (zc3 (nat (F 0)) _).mono ?_; rintro e w' ⟨A', c', rfl, hc, hr, hb⟩; have HO0 := Hd hr; have Hp0 := Hd (Hw0.out.below hb); clear hc hr hb)
  | (go_at_call 88; refine (zb2 8 c' A' (leB (nat (F 0))) _ HO0.out (zbq _) rfl (HP.out.below (Hp0.out.out (by simp; omega)))).mono ?_; rintro e w' ⟨rfl, hb⟩; rw [show padN 8 (leB (nat (F 0))) = numN F 0 from rfl]; have Hv0 := Hd (Hp0.out.below hb); clear hb HO0)
  | (go_at_call 70; refine (zbt 2 2 2 (some ⟨bc, 0, none⟩) (checkX F) _ (Rd.of_row (n := 2 * 32) (m := 64) ((Hw2.out.row 0 rfl).congr HF2.out) lR (Hw2.out.lt 0 rfl)) (zh0 F) lR (by omega) lR (HP.out.below (Hw2.out.out (by simp; omega)))).mono ?_; rintro e w' ⟨rfl, hb⟩; rw [show treeN (dep 2) 2 (checkX F) = checkN F from rfl]; have HZ := Hd (Hw2.out.below hb); clear hb))
 exact zb4 rfl (HY.out.row 1 rfl) _ _ rfl rfl Ty24 rfl s24 rfl ⟨rfl, HY.out.out (by simp; omega)⟩
open SmallRoots in
theorem zrk (F : Nat → Value) (hF : Sc F 66) (w : World) (hp : RefPkg w) :
 Calls Tryd.prog 73 #[.agg (arr 86 F)] w fun e w' => e = .returned (.tuple #[rootV (validN F), .int .i64 0]) ∧ Below w.heap.size w w' := by
 have HP := Hd hp
 have HSc := Hd hF
 have HS0 := Hd (HS.nil w)
 clear hp hF
 go_enter Tryd.func73, Tryd.ntmps73
 go_wp2_with (first
  | ((with_reducible refine at_l ?_); first
   | (refine zaz rfl 66 _ 1 rfl rfl HS0.out 86 F rfl ?_; intro b1 w1 hb1 hc1 hs1; have HS1 := Hd hs1; clear hs1)
   | (refine zac rfl 24 2 rfl rfl HS1.out _ z24 32 (u8v fun _ => 0) n24 f24 ?_; intro b2 w2 hb2 hc2 hs2; have HS2 := Hd hs2; clear hs2)
   | (refine zac rfl 31 5 rfl rfl HS2.out (Array.replicate 256 (.int .u8 0)) (by kernel_rfl) 256 (u8v fun _ => 0) (by simp) (zbg 256 (.int .u8 0)) ?_; intro bc w3 hbc hcc hs; have Hw0 := Hd hs; clear hs)
   | (refine zbc rfl (.tmp 10) (.tmp 9) rfl Hv0.out 0 (fun _ => 0) (bytN F 0 48) (fun j hj => absurd hj (by omega)) (by omega) rfl rfl ?_; intro f1 w' hs hf; have Hw1 := Hd hs; have HF1 := Hd hf; clear hs hf Hw0)
   | (refine zag rfl 24 (.tmp 11) rfl b1 48 32 (u8v (byF F 48)) rfl _ (fun q hq => (Hw1.out.cell 2 (48 + q) rfl (show 48 + q < 86 by omega)).trans (congrArg some (zb6 HSc.out 48 q (zh3 q hq)))) Ty24 rfl s24 _ rfl ?_; have Hv1 := Hw1)
   | (refine zbc rfl (.tmp 13) (.tmp 12) rfl Hv1.out 1 (catN (0 * 32) (fun _ => 0) (bytN F 0 48)) (byF F 48) HF1.out (by omega) rfl rfl ?_; intro f2 w' hs hf; have Hw2 := Hd hs; have HF2 := Hd hf; clear hs hf HF1)
   | (refine zab rfl 15 rfl (.int .u64 ((nat (F 80) : Nat) : Int)) ?_ ?_; (· exact zbf .u64 rfl rfl Ty22 ((Hw2.out.cell 2 80 rfl (by show 80 < 86; omega)).trans (congrArg some (HSc.out.u64 80 (by kernel_rfl)).1))))
   | (refine zbc rfl (.tmp 18) (.tmp 17) rfl Hv2.out 2 (catN (1 * 32) (catN (0 * 32) (fun _ => 0) (bytN F 0 48)) (byF F 48)) (numN F 80) HF2.out (by omega) rfl rfl ?_; intro f3 w' hs hf; have Hw3 := Hd hs; have HF3 := Hd hf; clear hs hf HF2)
   | (refine zab rfl 20 rfl (.bool (bln (F 81))) ?_ ?_; (· exact zkx rfl rfl Ty4 ((Hw3.out.cell 2 81 rfl (by show 81 < 86; omega)).trans (congrArg some (HSc.out.bool 81 (by kernel_rfl))))))
   | (refine zbc rfl (.tmp 23) (.tmp 22) rfl Hv3.out 3 (catN (2 * 32) (catN (1 * 32) (catN (0 * 32) (fun _ => 0) (bytN F 0 48)) (byF F 48)) (numN F 80)) (flagN (bln (F 81))) HF3.out (by omega) rfl rfl ?_; intro f4 w' hs hf; have Hw4 := Hd hs; have HF4 := Hd hf; clear hs hf HF3)
   | (refine zab rfl 25 rfl (.int .u64 ((nat (F 82) : Nat) : Int)) ?_ ?_; (· exact zbf .u64 rfl rfl Ty22 ((Hw4.out.cell 2 82 rfl (by show 82 < 86; omega)).trans (congrArg some (HSc.out.u64 82 (by kernel_rfl)).1))))
   | (refine zbc rfl (.tmp 28) (.tmp 27) rfl Hv4.out 4 (catN (3 * 32) (catN (2 * 32) (catN (1 * 32) (catN (0 * 32) (fun _ => 0) (bytN F 0 48)) (byF F 48)) (numN F 80)) (flagN (bln (F 81)))) (numN F 82) HF4.out (by omega) rfl rfl ?_; intro f5 w' hs hf; have Hw5 := Hd hs; have HF5 := Hd hf; clear hs hf HF4)
   | (refine zab rfl 30 rfl (.int .u64 ((nat (F 83) : Nat) : Int)) ?_ ?_; (· exact zbf .u64 rfl rfl Ty22 ((Hw5.out.cell 2 83 rfl (by show 83 < 86; omega)).trans (congrArg some (HSc.out.u64 83 (by kernel_rfl)).1))))
   | (refine zbc rfl (.tmp 33) (.tmp 32) rfl Hv5.out 5 (catN (4 * 32) (catN (3 * 32) (catN (2 * 32) (catN (1 * 32) (catN (0 * 32) (fun _ => 0) (bytN F 0 48)) (byF F 48)) (numN F 80)) (flagN (bln (F 81)))) (numN F 82)) (numN F 83) HF5.out (by omega) rfl rfl ?_; intro f6 w' hs hf; have Hw6 := Hd hs; have HF6 := Hd hf; clear hs hf HF5)
   | (refine zab rfl 35 rfl (.int .u64 ((nat (F 84) : Nat) : Int)) ?_ ?_; (· exact zbf .u64 rfl rfl Ty22 ((Hw6.out.cell 2 84 rfl (by show 84 < 86; omega)).trans (congrArg some (HSc.out.u64 84 (by kernel_rfl)).1))))
   | (refine zbc rfl (.tmp 38) (.tmp 37) rfl Hv6.out 6 (catN (5 * 32) (catN (4 * 32) (catN (3 * 32) (catN (2 * 32) (catN (1 * 32) (catN (0 * 32) (fun _ => 0) (bytN F 0 48)) (byF F 48)) (numN F 80)) (flagN (bln (F 81)))) (numN F 82)) (numN F 83)) (numN F 84) HF6.out (by omega) rfl rfl ?_; intro f7 w' hs hf; have Hw7 := Hd hs; have HF7 := Hd hf; clear hs hf HF6)
   | (refine zab rfl 40 rfl (.int .u64 ((nat (F 85) : Nat) : Int)) ?_ ?_; (· exact zbf .u64 rfl rfl Ty22 ((Hw7.out.cell 2 85 rfl (by show 85 < 86; omega)).trans (congrArg some (HSc.out.u64 85 (by kernel_rfl)).1))))
   | (refine zbc rfl (.tmp 43) (.tmp 42) rfl Hv7.out 7 (catN (6 * 32) (catN (5 * 32) (catN (4 * 32) (catN (3 * 32) (catN (2 * 32) (catN (1 * 32) (catN (0 * 32) (fun _ => 0) (bytN F 0 48)) (byF F 48)) (numN F 80)) (flagN (bln (F 81)))) (numN F 82)) (numN F 83)) (numN F 84)) (numN F 85) HF7.out (by omega) rfl rfl ?_; intro f8 w' hs hf; have Hw8 := Hd hs; have HF8 := Hd hf; clear hs hf HF7)
   | (refine zaf rfl 24 (.tmp 2) (.tmp 46) rfl HZ.out 1 rfl (u8v (validN F)) rfl rfl (by kernel_rfl) (fun _ _ => rfl) ?_; intro wy hs; have HY := Hd hs; clear hs))
  | (have tx := Hw0; clear tx; go_at_call 74; refine (zdh 48 48 (some ⟨b1, 0, none⟩) (byF F 0) _ (Rd.of_part (Hw0.out.row 2 rfl) (show 0 + 48 ≤ 86 by omega) (fun q hq => zb6 HSc.out 0 q (zix q hq))) (by omega)).mono ?_; rintro e w' ⟨A', c', rfl, ho, hb⟩; rw [show nch 48 = 2 from rfl] at ho ⊢; have HO0 := Hd ho; have Hp0 := Hd (Hw0.out.below hb); clear ho hb)
  | (go_at_call 70; refine (zbt 2 c' 2 A' (padN 48 (byF F 0)) _ HO0.out.rd (za6 (zbm F 0)) HO0.out.cap (by omega) (by omega) (HP.out.below (Hp0.out.out (by simp; omega)))).mono ?_; rintro e w' ⟨rfl, hb⟩; rw [show treeN (dep 2) 2 (padN 48 (byF F 0)) = bytN F 0 48 from rfl]; have Hv0 := Hd (Hp0.out.below hb); clear hb HO0)
  | (have tx := HF2; clear tx; go_at_call 89; refine (zc3 (nat (F 80)) _).mono ?_; rintro e w' ⟨A', c', rfl, hc, hr, hb⟩; have HO2 := Hd hr; have Hp2 := Hd (Hw2.out.below hb); clear hc hr hb)
  | (go_at_call 88; refine (zb2 8 c' A' (leB (nat (F 80))) _ HO2.out (zbq _) rfl (HP.out.below (Hp2.out.out (by simp; omega)))).mono ?_; rintro e w' ⟨rfl, hb⟩; rw [show padN 8 (leB (nat (F 80))) = numN F 80 from rfl]; have Hv2 := Hd (Hp2.out.below hb); clear hb HO2)
  | (have tx := HF3; clear tx; go_at_call 92; refine (zpe (bln (F 81)) _).mono ?_; rintro e w' ⟨A', c', rfl, hc, hr, hb⟩; have HO3 := Hd hr; have Hp3 := Hd (Hw3.out.below hb); clear hc hr hb)
  | (go_at_call 88; refine (zb2 1 c' A' (flagN (bln (F 81))) _ HO3.out (zl9 _) rfl (HP.out.below (Hp3.out.out (by simp; omega)))).mono ?_; rintro e w' ⟨rfl, hb⟩; rw [RefSmall.zs8]; have Hv3 := Hd (Hp3.out.below hb); clear hb HO3)
  | (have tx := HF4; clear tx; go_at_call 89; refine (zc3 (nat (F 82)) _).mono ?_; rintro e w' ⟨A', c', rfl, hc, hr, hb⟩; have HO4 := Hd hr; have Hp4 := Hd (Hw4.out.below hb); clear hc hr hb)
  | (go_at_call 88; refine (zb2 8 c' A' (leB (nat (F 82))) _ HO4.out (zbq _) rfl (HP.out.below (Hp4.out.out (by simp; omega)))).mono ?_; rintro e w' ⟨rfl, hb⟩; rw [show padN 8 (leB (nat (F 82))) = numN F 82 from rfl]; have Hv4 := Hd (Hp4.out.below hb); clear hb HO4)
  | (have tx := HF5; clear tx; go_at_call 89; refine (zc3 (nat (F 83)) _).mono ?_; rintro e w' ⟨A', c', rfl, hc, hr, hb⟩; have HO5 := Hd hr; have Hp5 := Hd (Hw5.out.below hb); clear hc hr hb)
  | (go_at_call 88; refine (zb2 8 c' A' (leB (nat (F 83))) _ HO5.out (zbq _) rfl (HP.out.below (Hp5.out.out (by simp; omega)))).mono ?_; rintro e w' ⟨rfl, hb⟩; rw [show padN 8 (leB (nat (F 83))) = numN F 83 from rfl]; have Hv5 := Hd (Hp5.out.below hb); clear hb HO5)
  | (have tx := HF6; clear tx; go_at_call 89; refine (zc3 (nat (F 84)) _).mono ?_; rintro e w' ⟨A', c', rfl, hc, hr, hb⟩; have HO6 := Hd hr; have Hp6 := Hd (Hw6.out.below hb); clear hc hr hb)
  | (go_at_call 88; refine (zb2 8 c' A' (leB (nat (F 84))) _ HO6.out (zbq _) rfl (HP.out.below (Hp6.out.out (by simp; omega)))).mono ?_; rintro e w' ⟨rfl, hb⟩; rw [show padN 8 (leB (nat (F 84))) = numN F 84 from rfl]; have Hv6 := Hd (Hp6.out.below hb); clear hb HO6)
  | (have tx := HF7; clear tx; go_at_call 89; refine (zc3 (nat (F 85)) _).mono ?_; rintro e w' ⟨A', c', rfl, hc, hr, hb⟩; have HO7 := Hd hr; have Hp7 := Hd (Hw7.out.below hb); clear hc hr hb)
  | (go_at_call 88; refine (zb2 8 c' A' (leB (nat (F 85))) _ HO7.out (zbq _) rfl (HP.out.below (Hp7.out.out (by simp; omega)))).mono ?_; rintro e w' ⟨rfl, hb⟩; rw [show padN 8 (leB (nat (F 85))) = numN F 85 from rfl]; have Hv7 := Hd (Hp7.out.below hb); clear hb HO7)
  | (go_at_call 70; refine (zbt 8 8 8 (some ⟨bc, 0, none⟩) (validX F) _ (Rd.of_row (n := 8 * 32) (m := 256) ((Hw8.out.row 0 rfl).congr HF8.out) lR (Hw8.out.lt 0 rfl)) (zh2 F) lR (by omega) lR (HP.out.below (Hw8.out.out (by simp; omega)))).mono ?_; rintro e w' ⟨rfl, hb⟩; rw [show treeN (dep 8) 8 (validX F) = validN F from rfl]; have HZ := Hd (Hw8.out.below hb); clear hb))
 exact zb4 rfl (HY.out.row 1 rfl) _ _ rfl rfl Ty24 rfl s24 rfl ⟨rfl, HY.out.out (by simp; omega)⟩
structure RfS (w0 w : World) (b1 b2 b5 : Nat) (s : StV) (k : Nat) : Prop where
 ge : w0.heap.size ≤ b1 ∧ w0.heap.size ≤ b2 ∧ w0.heap.size ≤ b5
 ex : ∃ f, HS w0 w [⟨b5, 122, 768, f⟩, ⟨b2, 24, 32, u8v fun _ => 0⟩, ⟨b1, 49, 1957, s.F⟩] ∧ ∀ j, j < k * 32 → f j = u8v (stX s) j
structure RfT (w0 w : World) (b1 b2 b5 : Nat) (s : StV) (k : Nat) (r : Nat → Nat) : Prop where
 rs : RfS w0 w b1 b2 b5 s k
 at_ : ∀ q, q < 32 → w.cell? ⟨b5, k * 32 + q, none⟩ = some (u8v r q)
section
variable {w0 w w' : World} {b1 b2 b5 k : Nat} {s : StV} {r : Nat → Nat}
theorem RfS.below (h : RfS w0 w b1 b2 b5 s k) (hb : Below w.heap.size w w') : RfS w0 w' b1 b2 b5 s k := by
 obtain ⟨f, h1, h2⟩ := h.ex
 exact ⟨h.ge, f, h1.below hb, h2⟩
theorem RfS.bel (h : RfS w0 w b1 b2 b5 s k) : Below w0.heap.size w0 w := by
 obtain ⟨f, h1, h2⟩ := h.ex
 exact h1.out (by have := h.ge; simp; omega)
theorem RfS.row1 (h : RfS w0 w b1 b2 b5 s k) : w.rowIs b1 49 1957 s.F := by
 obtain ⟨f, h1, h2⟩ := h.ex
 exact h1.row 2 rfl
theorem RfS.cell (h : RfS w0 w b1 b2 b5 s k) (i : Nat) (hi : i < 1957) : w.cell? ⟨b1, i, none⟩ = some (s.F i) := h.row1.cell hi
theorem RfS.rd (h : RfS w0 w b1 b2 b5 s 24) : Rd w w.heap.size (some ⟨b5, 0, none⟩) (24 * 32) (u8v (stX s)) := by
 obtain ⟨f, h1, h2⟩ := h.ex
 exact Rd.of_row (n := 24 * 32) (m := 768) ((h1.row 0 rfl).congr (fun j hj => h2 j hj)) lR (h1.lt 0 rfl)
variable {P : Program} {ops : Array Oper} {rest : List Oper} {o : Oper} {a : Act} {Q : Exit → Act → World → Prop}
theorem zdl (hgd : o.guard = none) (x y : Operand) (ho : o.op = .store 24 x y) (h : RfS w0 w b1 b2 b5 s k) (hk : k < 24) (r : Nat → Nat) (hx : a.eval x = .pointer (some ⟨b5, k * 32, none⟩)) (hy : a.eval y = rootV r) (hi : (P.info? 24).map (·.size) = some 32)
    (hK : ∀ w', RfT w0 w' b1 b2 b5 s k r → wpList P ops Q rest (a.put o.dst undef) w') : wpList P ops Q (o :: rest) a w := by
 obtain ⟨f, h1, h2⟩ := h.ex
 refine zfm hgd 24 x y ho h1 0 rfl (k * 32) 32 (u8v r) hx hy hi (by omega) (fun _ _ => rfl) (fun j => if k * 32 ≤ j ∧ j < k * 32 + 32 then u8v r (j - k * 32) else f j) (fun _ _ => rfl) fun w' hs => hK w' ⟨⟨h.ge, _, hs, fun j hj => ?_⟩, fun q hq => ?_⟩
 ·rw [if_neg (by omega)]; exact h2 j hj
 ·rw [hs.cell 0 (k * 32 + q) rfl (show k * 32 + q < 768 by omega)]
  show some (if k * 32 ≤ k * 32 + q ∧ k * 32 + q < k * 32 + 32 then u8v r (k * 32 + q - k * 32) else f (k * 32 + q)) = _
  rw [if_pos (by omega), show k * 32 + q - k * 32 = q by omega]
theorem za8 (hgd : o.guard = none) (x y : Operand) (ho : o.op = .store 24 x y) (h : RfS w0 w b1 b2 b5 s k) (hk : k < 24) (r : Nat → Nat) (hr : ∀ q, q < 32 → r q = stC s k q) (hx : a.eval x = .pointer (some ⟨b5, k * 32, none⟩)) (hy : a.eval y = rootV r) (hi : (P.info? 24).map (·.size) = some 32)
    (hK : ∀ w', RfS w0 w' b1 b2 b5 s (k + 1) → wpList P ops Q rest (a.put o.dst undef) w') : wpList P ops Q (o :: rest) a w := by
 obtain ⟨f, h1, h2⟩ := h.ex
 refine zfm hgd 24 x y ho h1 0 rfl (k * 32) 32 (u8v r) hx hy hi (by omega) (fun _ _ => rfl) (fun j => if k * 32 ≤ j ∧ j < k * 32 + 32 then u8v r (j - k * 32) else f j) (fun _ _ => rfl) fun w' hs => hK w' ⟨h.ge, _, hs, fun j hj => ?_⟩
 by_cases hj2 : j < k * 32
 ·rw [if_neg (by omega)]; exact h2 j hj2
 ·rw [if_pos (by omega)]
  have h3 := zwr s k (j - k * 32) (by omega)
  rw [show k * 32 + (j - k * 32) = j by omega] at h3
  simp only [u8v]
  rw [h3, hr _ (by omega)]
theorem znt (hgd : o.guard = none) (x y : Operand) (ho : o.op = .store 24 x y) (h : RfS w0 w b1 b2 b5 s k) (r : Nat → Nat) (hx : a.eval x = .pointer (some ⟨b2, 0, none⟩)) (hy : a.eval y = rootV r) (hi : (P.info? 24).map (·.size) = some 32)
    (hK : ∀ w', w'.rowIs b2 24 32 (u8v r) → Below w0.heap.size w0 w' → wpList P ops Q rest (a.put o.dst undef) w') : wpList P ops Q (o :: rest) a w := by
 obtain ⟨f, h1, h2⟩ := h.ex
 exact zaf hgd 24 x y ho h1 1 rfl (u8v r) hx hy hi (fun _ _ => rfl) fun w' hs => hK w' (hs.row 1 rfl) (hs.out (by have := h.ge; simp; omega))
end
namespace RefRoot
theorem zxl (n : Nat) : nch n = lvC 2 n := by
 show (n + 31) / 32 = (n + 32 - 1) / 32
 omega
theorem zxm (n : Nat) : nch n = lvC 3 n := by
 show (n + 31) / 32 = (n + 32 - 1) / 32
 omega
theorem zxn (n : Nat) : nch (8 * n) = lvC 4 n := by
 show (8 * n + 31) / 32 = (n + 4 - 1) / 4
 omega
theorem zta : ∀ k, k < 8 → leafAt Tryd.prog 8 49 (979 + k) = some 22 := by decide +kernel
theorem ztb : ∀ k, k < 4 → leafAt Tryd.prog 8 49 (989 + k) = some 4 := by decide +kernel
theorem zlu {F : Nat → Value} (hF : Sc F 49) (o n : Nat) (h : (List.range n).all (fun q => leafAt Tryd.prog 8 49 (o + q) == some 5) = true) : ∀ q, q < n → F (o + q) = u8v (byF F o) q := fun q hq => zb6 hF o q (eq_of_beq (List.all_eq_true.1 h q (List.mem_range.2 hq)))
theorem zw4 {s : StV} {w : World} {B : Nat} (h : StOk w B s) : ∀ i, i < s.nH * 32 → s.His i = u8v (b8 s.His) i := fun i hi => by
 have h1 := (h.scH (i / 32) (by omega)).u8 (i % 32) (by
  have h2 : (List.range 32).all (fun q => leafAt Tryd.prog 8 24 q == some 5) = true := by kernel_rfl
  exact eq_of_beq (List.all_eq_true.1 h2 _ (List.mem_range.2 (Nat.mod_lt _ (by omega)))))
 rw [show i / 32 * 32 + i % 32 = i by omega] at h1
 simp only [u8v, b8]
 rw [Nat.mod_eq_of_lt h1.2]; exact h1.1
theorem idxR8 (w : World) (b o k : Nat) (hk : k < 8) : (Instr.indexAt 31 (.pointer (some ⟨b, o, none⟩)) (.int .i64 (k : Int))).run Tryd.prog w = .ok (.pointer (some ⟨b, o + k * 32, none⟩)) w := by
 have hx : (k : Int) < 8 := by omega
 simp [go_sem, hx]
theorem idxU8 (w : World) (b o k : Nat) (hk : k < 8) : (Instr.indexAt 38 (.pointer (some ⟨b, o, none⟩)) (.int .i64 (k : Int))).run Tryd.prog w = .ok (.pointer (some ⟨b, o + k, none⟩)) w := by
 have hx : (k : Int) < 8 := by omega
 simp [go_sem, hx]
theorem idxK8 (w : World) (b o k : Nat) (hk : k < 8) : (Instr.indexAt 45 (.pointer (some ⟨b, o, none⟩)) (.int .i64 (k : Int))).run Tryd.prog w = .ok (.pointer (some ⟨b, o + k * 48, none⟩)) w := by
 have hx : (k : Int) < 8 := by omega
 simp [go_sem, hx]
theorem zf7 {X y : Nat → Nat} {z k : Nat} (h : ∀ q, q < z → y q = X (k * z + q)) : ∀ i, i < (k + 1) * z → catF (k * z) (u8v X) (u8v y) i = u8v X i := fun i hi => by
 rw [Nat.succ_mul] at hi
 unfold catF
 by_cases h1 : i < k * z
 ·rw [if_pos h1]
 ·rw [if_neg h1]
  simp only [u8v]
  rw [h _ (by omega), show k * z + (i - k * z) = i by omega]
theorem zne (g : Nat → Nat) (k : Nat) : ∀ i, i < (8 * (k + 1)) * 1 → catF (8 * k * 1) (u8v (LiveSmall.leS g)) (u8v (leB (g k))) i = u8v (LiveSmall.leS g) i := fun i hi => by
 unfold catF
 by_cases h1 : i < 8 * k * 1
 ·rw [if_pos h1]
 ·rw [if_neg h1]
  simp only [u8v, LiveSmall.leS]
  rw [show i / 8 = k by omega, show i % 8 = i - 8 * k * 1 by omega]
theorem zrl (f : Nat → Value) (k : Nat) (hf : f k = .int .u8 ((nat (f k) : Nat) : Int) ∧ nat (f k) < 256) : ∀ i, i < (k + 1) * 1 → catF (k * 1) (u8v (b8 f)) (fun _ => .int .u8 ((nat (f k) : Nat) : Int)) i = u8v (b8 f) i := fun i hi => by
 unfold catF
 by_cases h1 : i < k * 1
 ·rw [if_pos h1]
 ·rw [if_neg h1]
  simp only [u8v, b8]
  rw [show i = k by omega, Nat.mod_eq_of_lt hf.2]
theorem zw5 (V : Nat → Value) (k : Nat) : ∀ q, q < 32 → eth1N (fun q => V (k * 65 + q)) q = votX V (k * 32 + q) := fun q hq => by
 unfold votX
 rw [show (k * 32 + q) / 32 = k by omega, show (k * 32 + q) % 32 = q by omega]
theorem zw6 (V : Nat → Value) (k : Nat) : ∀ q, q < 32 → validN (fun q => V (k * 86 + q)) q = valX V (k * 32 + q) := fun q hq => by
 unfold valX
 rw [show (k * 32 + q) / 32 = k by omega, show (k * 32 + q) % 32 = q by omega]
theorem zw7 (F : Nat → Value) (k : Nat) : ∀ q, q < 32 → bytN F (k * 48) 48 q = keysX F (k * 32 + q) := fun q hq => by
 unfold keysX
 rw [show (k * 32 + q) / 32 = k by omega, show (k * 32 + q) % 32 = q by omega]
theorem zw8 (n : Nat) : nch (8 * n) = lvC 1 n := by
 show (8 * n + 31) / 32 = (n + 4 - 1) / 4
 omega
theorem lvC0 (n : Nat) : lvC 0 n = n := by
 show (n + 1 - 1) / 1 = n
 rw [Nat.div_one]; omega
theorem ztc (a r : Nat) (hr : r < 8) (ha : a < 2 ^ r) : ((a : Int) + 2 ^ r) % 256 = ((a + 2 ^ r : Nat) : Int) := by
 have hp : 2 ^ r ≤ 128 := by
  have := Nat.pow_le_pow_right (n := 2) (by omega) (show r ≤ 7 by omega)
  omega
 have c : ((2 ^ r : Nat) : Int) = (2 : Int) ^ r := by simp
 rw [← c]
 omega
end RefRoot
theorem zlo (B n cl : Nat) (A : Option Addr) (x : Nat → Bool) (w : World) (hl : Rd w B A n (fun i => .bool (x i))) (hB : B ≤ w.heap.size) (hn : n ≤ 140737488355328) :
 Calls Tryd.prog 75 #[.slice A n cl] w (NewRow w 5 ((n + 7) / 8) (laid x n)) := by
 have hm := zog (((n : Int) + 7) / 8) ((n + 7) / 8) (by omega) (by omega)
 have Hz := Hd (zle x)
 go_enter Tryd.func75, Tryd.ntmps75
 go_wp2
 go_loopw [4] (fun i wr => ∃ k : Nat, k ≤ n ∧ i = .int .i64 k ∧ wr.rowIs w.heap.size 5 ((n + 7) / 8) (laid x k) ∧ Below w.heap.size w wr) (fun i _ => n - (intOf i).toNat)
 case atStart => exact ⟨0, Nat.zero_le _, rfl, by rw [Hz.out]; exact World.rowIs_made _ _ _ _, (Below.refl _ _).alloc lR _⟩
 case round =>
  obtain ⟨k, hk, rfl, hrow, hbel⟩ := hrel
  by_cases hkn : k < n
  ·obtain ⟨ad, rfl, hb', hc⟩ := (hl.below (hbel.mono hB)).at_ hkn
   have Hl := Hd hl
   clear hl hm
   cases hx : x k
   ·rw [hx] at hc
    have Hs := Hd (zld x k hx)
    have Hrow := Hd hrow
    have Hbel := Hd hbel
    clear hx hrow hbel
    go_wp2
    go_roundw
    case rel => exact ⟨k + 1, by omega, by go_num, by rw [Hs.out]; exact Hrow.out, Hbel.out⟩
    case measure => simp [intOf]; omega
   ·rw [hx] at hc
    have Hs := Hd (zm3 x k hx)
    have ha := (zeq x k hx).2
    have hA := RefRoot.ztc (byteOf x k (k / 8)) (k % 8) (by omega) ha
    have hw := hrow.cell (i := k / 8) (by omega)
    have hf := hrow.frozen (k / 8)
    have hlt := hrow.lt
    have h8 : ((k % 8 : Nat) : Int) < 8 := by omega
    have Hrow := Hd hrow
    have Hbel := Hd hbel
    have HA := Hd hA
    unfold laid at hw
    clear hx hrow hbel ha hA
    go_wp2
    go_roundw
    case rel => exact ⟨k + 1, by omega, by go_num, by rw [HA.out, ← Hs.out]; exact Hrow.out.set _ _, Hbel.out.setCell lR _⟩
    case measure => simp [intOf]; omega
  ·obtain rfl : k = n := by omega
   have Hrow := Hd hrow
   have Hbel := Hd hbel
   clear hl hrow hbel hm
   go_wp2
   go_ret
   exact ⟨_, rfl, Nat.le_refl _, Hrow.out, Hbel.out⟩
open Committee in
theorem znf (F : Nat → Value) (hF : Sc F 47) (w : World) (hp : RefPkg w) :
 Calls Tryd.prog 77 #[.agg (arr 432 F)] w fun e w' => e = .returned (.tuple #[rootV (commN F), .int .i64 0]) ∧ Below w.heap.size w w' := by
 have HP := Hd hp
 have HSc := Hd hF
 have HS0 := Hd (HS.nil w)
 have tk1 := Tok.mk 1
 clear hp hF
 go_enter Tryd.func77, Tryd.ntmps77
 go_wp2_with (first
  | ((with_reducible refine at_l ?_); first
   | (refine zaz rfl 47 _ 1 rfl rfl HS0.out 432 F rfl ?_; intro b1 w1 hb1 hc1 hs1; have HS1 := Hd hs1; clear hs1)
   | (refine zac rfl 24 2 rfl rfl HS1.out _ z24 32 (u8v fun _ => 0) n24 f24 ?_; intro b2 w2 hb2 hc2 hs2; have HS2 := Hd hs2; clear hs2)
   | (refine zac rfl 152 5 rfl rfl HS2.out (Array.replicate 64 (.int .u8 0)) (by kernel_rfl) 64 (u8v fun _ => 0) (by rfl) (zbg 64 (.int .u8 0)) ?_; intro bc w3 hbc hcc hs; have HS3 := Hd hs; clear hs)))
 go_loopw [6, 7] (fun u i wr => ∃ (k : Nat) (A : Option Addr) (c : Nat), u = .slice A (k) c ∧ i = .int .i64 (k : Int) ∧ k ≤ 8 ∧ OwnZ wr w3.heap.size 24 32 A (k) c (u8v (keysX F)) ∧ Below w3.heap.size w3 wr) (fun _ i _ => 8 - (intOf i).toNat)
 case atStart => exact ⟨0, none, 0, rfl, rfl, Nat.zero_le _, OwnZ.nil _ _ _ _ _, Below.refl _ _⟩
 case round =>
  obtain ⟨k, A, c, rfl, rfl, hk, ho, hb⟩ := hrel
  have HO := Hd ho
  have HB := Hd hb
  have hsz := hb.size
  have HSr := Hd (HS3.out.below hb)
  clear ho hb
  by_cases hk8 : k < 8
  ·go_wp2_with (first
    | ((with_reducible refine at_l ?_); first
     | (refine zac rfl 24 8 rfl rfl (HS.nil wr) _ z24 32 (u8v fun _ => 0) n24 f24 ?_; intro bq v1 hbq hcq hs; have HQ1 := Hd hs; clear hs)
     | (refine zab rfl 15 rfl (.pointer (some ⟨b1, 0 + k * 48, none⟩)) ?_ ?_; (· exact zbb rfl rfl rfl (fun w => RefRoot.idxK8 w b1 0 k hk8) _); rw [Nat.zero_add])
     | (refine zaf rfl 24 (.tmp 8) (.tmp 18) rfl HQ3.out 0 rfl (u8v (bytN F (k * 48) 48)) rfl rfl (by kernel_rfl) (fun _ _ => rfl) ?_; intro v4 hs; have HQ4 := Hd hs; clear hs)
     | (refine zae rfl 24 (.tmp 8) rfl 32 _ Ty24 rfl s24 ⟨bq, 0, none⟩ rfl (u8v (bytN F (k * 48) 48)) (fun q hq => by rw [zai]; exact (HQ4.out.row 0 rfl).cell hq) ?_)
     | (refine zbu rfl Ty32 s24 (by omega) (by omega) z24 _ rfl (u8v (bytN F (k * 48) 48)) rfl HQ4.out ?_; intro bn v5 hbn hcn hs; have HQ5 := Hd hs; clear hs))
    | (have tx := tk1; clear tx; go_at_call 74; refine (zdh 48 48 (some ⟨b1, k * 48, none⟩) (byF F (k * 48)) _ (Rd.of_part ((HSr.out.below (HQ1.out.out (by simp; omega))).row 2 rfl) (show k * 48 + 48 ≤ 432 by omega) (fun q hq => zb6 HSc.out (k * 48) q (leafs _ (by omega)))) (by omega)).mono ?_; rintro e v2 ⟨A', c', rfl, ho, hb⟩; rw [show nch 48 = 2 from rfl] at ho ⊢; have HP1 := Hd ho; have HQ2 := Hd (HQ1.out.below hb); clear ho hb; clear tk1; have tk2 := Tok.mk 2)
    | (have tx := tk2; clear tx; go_at_call 70; refine (zbt 2 c' 2 A' (padN 48 (byF F (k * 48))) _ HP1.out.rd (za6 (zbm F _)) HP1.out.cap (by omega) (by omega) (HP.out.below ((HSr.out.below (HQ2.out.out (by simp; omega))).out (by simp; omega)))).mono ?_; rintro e v3 ⟨rfl, hb⟩; rw [show treeN (dep 2) 2 (padN 48 (byF F (k * 48))) = bytN F (k * 48) 48 from rfl]; have HQ3 := Hd (HQ2.out.below hb); clear hb HP1; clear tk2; have tk3 := Tok.mk 3)
    | (at_builtin; refine zba _ (.tmp 19) (.tmp 21) 32 w3.heap.size i24 Ty32 (by rfl) (by omega) rfl rfl (k + 1) (u8v (keysX F)) rfl rfl (HO.out.all (HQ5.out.out (by simp; omega))) (Rd.of_row (n := 1 * 32) (HQ5.out.row 0 rfl) lR (HQ5.out.lt 0 rfl)) (fun _ _ => rfl) rfl (RefRoot.zf7 (RefRoot.zw7 F k)) ⟨by omega, by omega⟩ (lT hsz HQ5.out.size) ?_; intro A' c' v6 ho9 hg9 ha9; have HO9 := Hd ho9; have HG9 := Hd hg9; clear ho9 hg9 ha9))
   go_roundw
   case rel => exact ⟨k + 1, A', c', rfl, by go_num, by omega, HO9.out, za4 (HB.out.trans ((HQ5.out.out (by simp; omega)).mono hsz)) HG9.out (lT hsz HQ5.out.size) (fun ad e => (HO.out.base_le ad e).1)⟩
   case measure => simp [intOf]; omega
  ·obtain rfl : k = 8 := by omega
   have tk4 := Tok.mk 4
   go_wp2_with (first
    | (have tx := tk4; clear tx; go_at_call 70; refine (zbt 8 c 8 A (keysX F) _ HO.out.rd (zje F) HO.out.cap (by omega) (by omega) (HP.out.below (HSr.out.out (by simp; omega)))).mono ?_; rintro e w4 ⟨rfl, hb⟩; have HS4 := Hd (HSr.out.below hb); clear hb; clear tk4; have tk5 := Tok.mk 5)
    | ((with_reducible refine at_l ?_); first
     | (refine zbc rfl (.tmp 25) (.tmp 24) rfl HS4.out 0 (fun _ => 0) (treeN (dep 8) 8 (keysX F)) (fun j hj => absurd hj (by omega)) (by omega) rfl rfl ?_; intro f1 w5 hs hf; have HS5 := Hd hs; have HF1 := Hd hf; clear hs hf)
     | (refine zbc rfl (.tmp 30) (.tmp 29) rfl HS7.out 1 _ (bytN F 384 48) HF1.out (by omega) rfl rfl ?_; intro f2 w8 hs hf; have HS8 := Hd hs; have HF2 := Hd hf; clear hs hf HF1)
     | (refine zaf rfl 24 (.tmp 2) (.tmp 33) rfl HZ.out 1 rfl (u8v (commN F)) rfl rfl (by kernel_rfl) (fun _ _ => rfl) ?_; intro wy hs; have HY := Hd hs; clear hs))
    | (have tx := tk5; clear tx; go_at_call 74; refine (zdh 48 48 (some ⟨b1, 384, none⟩) (byF F 384) _ (Rd.of_part (HS5.out.row 2 rfl) (show 384 + 48 ≤ 432 by omega) (fun q hq => zb6 HSc.out 384 q (leafs _ (by omega)))) (by omega)).mono ?_; rintro e w6 ⟨A', c', rfl, ho, hb⟩; rw [show nch 48 = 2 from rfl] at ho ⊢; have HP1 := Hd ho; have HS6 := Hd (HS5.out.below hb); clear ho hb; clear tk5; have tk6 := Tok.mk 6)
    | (have tx := tk6; clear tx; go_at_call 70; refine (zbt 2 c' 2 A' (padN 48 (byF F 384)) _ HP1.out.rd (za6 (zbm F _)) HP1.out.cap (by omega) (by omega) (HP.out.below (HS6.out.out (by simp; omega)))).mono ?_; rintro e w7 ⟨rfl, hb⟩; rw [show treeN (dep 2) 2 (padN 48 (byF F 384)) = bytN F 384 48 from rfl]; have HS7 := Hd (HS6.out.below hb); clear hb HP1; clear tk6; have tk7 := Tok.mk 7)
    | (have tx := tk7; clear tx; go_at_call 70; refine (zbt 2 2 2 (some ⟨bc, 0, none⟩) (commX F) _ (Rd.of_row (n := 2 * 32) (m := 64) ((HS8.out.row 0 rfl).congr HF2.out) lR (HS8.out.lt 0 rfl)) (zjf F) lR (by omega) lR (HP.out.below (HS8.out.out (by simp; omega)))).mono ?_; rintro e w9 ⟨rfl, hb⟩; rw [show treeN (dep 2) 2 (commX F) = commN F from rfl]; have HZ := Hd (HS8.out.below hb); clear hb; clear tk7; have tk8 := Tok.mk 8))
   exact zb4 rfl (HY.out.row 1 rfl) _ _ rfl rfl Ty24 rfl s24 rfl ⟨rfl, HY.out.out (by simp; omega)⟩
end Go.Proofs.YtomilckcgmhfcaaDoor
