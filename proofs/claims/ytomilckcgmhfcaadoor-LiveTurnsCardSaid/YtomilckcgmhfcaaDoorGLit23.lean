/- Lemmas that the proof stands on. -/
import Derived.Test.YtomilckcgmhfcaaDoorGLit22
namespace Go.Proofs.YtomilckcgmhfcaaDoor
set_option maxRecDepth 40000
set_option maxHeartbeats 64000000
open Go.RowKit
namespace StRight
def cp3 (F : Nat → Value) : Nat → Value := fun i => if i < 33 then F (993 + i) else if i < 66 then F (1026 + (i - 33)) else F (1059 + (i - 66))
def epC (F : Nat → Value) (j : Nat) : Nat := if j = 0 then nat (F 993) else if j = 1 then nat (F 1026) else nat (F 1059)
theorem built95 (F : Nat → Value) : Tryd.prog.built 95 [(0, .agg (arr 33 fun q => F (993 + q))), (1, .agg (arr 33 fun q => F (1026 + q))), (2, .agg (arr 33 fun q => F (1059 + q)))] = some (arr 99 (cp3 F)) := by kernel_rfl
theorem zwm {F : Nat → Value} (h : Sc F 49) : ∀ j, j < 3 → cp3 F (j * 33) = .int .u64 ((epC F j : Nat) : Int) := fun j hj => by
 rcases (show j = 0 ∨ j = 1 ∨ j = 2 by omega) with rfl | rfl | rfl
 ·exact (h.u64 993 (by kernel_rfl)).1
 ·exact (h.u64 1026 (by kernel_rfl)).1
 ·exact (h.u64 1059 (by kernel_rfl)).1
theorem zu0 {F : Nat → Value} (h : Sc F 49) : ∀ i, i < 99 → (cp3 F i).oneCell' = true := fun i hi => by
 have hall : (List.range 99).all (fun q => match leafAt Tryd.prog 8 49 (993 + q) with | some l => l == 22 || l == 5 | none => false) = true := by kernel_rfl
 have one : ∀ q, q < 99 → (F (993 + q)).oneCell' = true := fun q hq => by
  have h1 := List.all_eq_true.1 hall q (List.mem_range.2 hq)
  cases hl : leafAt Tryd.prog 8 49 (993 + q) with
  | none => rw [hl] at h1; cases h1
  | some l =>
   rw [hl] at h1
   simp only [Bool.or_eq_true, beq_iff_eq] at h1
   rcases h1 with rfl | rfl
   ·rw [(h.u64 _ hl).1]; rfl
   ·rw [(h.u8 _ hl).1]; rfl
 unfold cp3
 by_cases h1 : i < 33
 ·rw [if_pos h1]; exact one i hi
 ·rw [if_neg h1]
  by_cases h2 : i < 66
  ·rw [if_pos h2, show 1026 + (i - 33) = 993 + i by omega]; exact one i hi
  ·rw [if_neg h2, show 1059 + (i - 66) = 993 + i by omega]; exact one i hi
def valV (V : Nat → Value) (i : Nat) : Prop := nat (V (i * 86 + 80)) ≤ 32000000000 ∧ nat (V (i * 86 + 80)) % 1000000000 = 0 ∧ epB (nat (V (i * 86 + 82))) = true ∧ epB (nat (V (i * 86 + 83))) = true ∧ epB (nat (V (i * 86 + 84))) = true ∧ epB (nat (V (i * 86 + 85))) = true
theorem zu1 {V Sco : Nat → Value} {i : Nat} (h : valV V i) (h2 : nat (Sco i) ≤ 1099511627776) : valOk V Sco i := ⟨h.1, h.2.1, h.2.2.1, h.2.2.2.1, h.2.2.2.2.1, h.2.2.2.2.2, h2⟩
theorem zu2 {V Sco : Nat → Value} {i : Nat} (h : valOk V Sco i) : valV V i := ⟨h.1, h.2.1, h.2.2.1, h.2.2.2.1, h.2.2.2.2.1, h.2.2.2.2.2.1⟩
end StRight
open StRight in
set_option maxRecDepth 20000 in
theorem zef (s : StV) (w : World) (hS : StOk w w.heap.size s) : Calls Tryd.prog 16 #[.agg (arr 1957 s.F)] w (RightQ s w) := by
 have HS := Hd hS
 obtain ⟨F, aV, nV, cV, V, aB, nB, cB, Bal, aP, nP, cP, Prv, aC, nC, cC, Cur, aS, nS, cS, Sco, aH, nH, cH, His, aE, nE, cE, Vot⟩ := s
 have hle : nV ≤ 9223372036854775807 := by have := hS.lV; unfold maxLen at this; simp only at this; omega
 have E33 := Hd (hS.sc.u64 33 (by kernel_rfl)).1
 have E720 := Hd (hS.sc.u64 720 (by kernel_rfl)).1
 have E43 := Hd (hS.sc.u64 43 (by kernel_rfl)).1
 simp only at E33 E720 E43
 have HR : Hid (nV ≤ 65536 → nB = nV → nP = nV → nC = nV → nS = nV → nH ≤ 1024 → nE ≤ 8 → nat (F 33) < 1099511627776 → nat (F 720) < 1099511627776 → nat (F 43) ≤ nat (F 33) → (∀ j, j < 3 → epC F j ≤ nat (F 33) / 4) →
  (∀ i, i < nV → valOk V Sco i) → sumTo (fun i => nat (Bal i)) nB ≤ 144115188075855872 → sumTo (fun i => nat (F (979 + i))) 8 ≤ 144115188075855872 → RightF ⟨F, aV, nV, cV, V, aB, nB, cB, Bal, aP, nP, cP, Prv, aC, nC, cC, Cur, aS, nS, cS, Sco, aH, nH, cH, His, aE, nE, cE, Vot⟩) :=
  Hd (fun a1 a2 a3 a4 a5 a6 a7 a8 a9 a10 a11 a14 a15 a16 => ⟨a1, a2, a3, a4, a5, a6, a7, a8, a9, a10, a11 0 (by omega), a11 1 (by omega), a11 2 (by omega), a14, a15, a16⟩)
 have HI : Hid (RightF ⟨F, aV, nV, cV, V, aB, nB, cB, Bal, aP, nP, cP, Prv, aC, nC, cC, Cur, aS, nS, cS, Sco, aH, nH, cH, His, aE, nE, cE, Vot⟩ → (nV ≤ 65536 ∧ nV = nB ∧ nV = nP ∧ nV = nC ∧ nV = nS ∧ nH ≤ 1024 ∧ nE ≤ 8) ∧ (nat (F 33) < 1099511627776 ∧ nat (F 720) < 1099511627776 ∧ nat (F 43) ≤ nat (F 33)) ∧ (∀ j, j < 3 → epC F j ≤ nat (F 33) / 4) ∧
  (∀ i, i < nV → valV V i) ∧ (∀ i, i < nV → nat (Sco i) ≤ 1099511627776) ∧ sumTo (fun i => nat (Bal i)) nB ≤ 144115188075855872 ∧ sumTo (fun i => nat (F (979 + i))) 8 ≤ 144115188075855872) :=
  Hd (fun h => ⟨⟨h.n, h.nB.symm, h.nP.symm, h.nC.symm, h.nS.symm, h.nH, h.nE⟩, ⟨h.slot, h.dep, h.head⟩, fun j hj => by
   unfold epC
   split
   ·exact h.oldJ
   ·split
    ·exact h.just
    ·exact h.fin, fun i hi => zu2 (h.val i hi), fun i hi => (h.val i hi).2.2.2.2.2.2, h.bal, h.sla⟩)
 have RB0 := Hd (show Rd w w.heap.size aB nB (fun i => .int .u64 ((nat (Bal i) : Nat) : Int)) from hS.rB.congr (fun i hi => (hS.scB i hi).1))
 have BB0 := Hd (show ∀ i, i < nB → nat (Bal i) < 18446744073709551616 from fun i hi => (hS.scB i hi).2)
 have SL0 := Hd (show ∀ i, i < 8 → F (979 + i) = .int .u64 ((nat (F (979 + i)) : Nat) : Int) ∧ nat (F (979 + i)) < 18446744073709551616 from F979 hS.sc)
 clear hS
 generalize nat (F 33) = v33 at *
 generalize nat (F 720) = v720 at *
 generalize nat (F 43) = v43 at *
 have HC : Hid (∀ (w1 : World) (b : Nat), w1.rowIs b 49 1957 F → w1.cell? ⟨b, 653, none⟩ = some (.slice aH nH cH) ∧ w1.cell? ⟨b, 719, none⟩ = some (.slice aE nE cE) ∧ w1.cell? ⟨b, 721, none⟩ = some (.slice aV nV cV) ∧ w1.cell? ⟨b, 722, none⟩ = some (.slice aB nB cB) ∧ w1.cell? ⟨b, 987, none⟩ = some (.slice aP nP cP) ∧ w1.cell? ⟨b, 988, none⟩ = some (.slice aC nC cC) ∧ w1.cell? ⟨b, 1092, none⟩ = some (.slice aS nS cS) ∧ w1.cell? ⟨b, 33, none⟩ = some (.int .u64 (v33 : Int)) ∧ w1.cell? ⟨b, 720, none⟩ = some (.int .u64 (v720 : Int)) ∧ w1.cell? ⟨b, 43, none⟩ = some (.int .u64 (v43 : Int))) :=
  Hd (fun w1 b hr => ⟨(hr.cell (by omega)).trans (congrArg some HS.out.f7), (hr.cell (by omega)).trans (congrArg some HS.out.f9), (hr.cell (by omega)).trans (congrArg some HS.out.f11), (hr.cell (by omega)).trans (congrArg some HS.out.f12), (hr.cell (by omega)).trans (congrArg some HS.out.f15), (hr.cell (by omega)).trans (congrArg some HS.out.f16), (hr.cell (by omega)).trans (congrArg some HS.out.f21), (hr.cell (by omega)).trans (congrArg some E33.out), (hr.cell (by omega)).trans (congrArg some E720.out), (hr.cell (by omega)).trans (congrArg some E43.out)⟩)
 clear E33 E720 E43
 obtain ⟨now, hnow⟩ : ∃ now, now = v33 / 4 := ⟨_, rfl⟩
 have HD := Hd (show (v33 : Int) / 4 = (now : Int) by omega)
 have HNow := Hd hnow
 clear hnow
 go_enter Tryd.func16, Tryd.ntmps16
 obtain ⟨FP, hFP⟩ : ∃ FP : Prop, FP = (nV ≤ 65536 ∧ nV = nB ∧ nV = nP ∧ nV = nC ∧ nV = nS ∧ nH ≤ 1024 ∧ nE ≤ 8) := ⟨_, rfl⟩
 have HFP := Hd hFP
 clear hFP
 go_upto_region 2 with ((with_reducible refine at_l ?_); refine zg5 rfl _ _ rfl 1957 F rfl ?_; intro w1 hr1 hb1; have HR1 := Hd hr1; have HB1 := Hd hb1; obtain ⟨h653, h719, h721, h722, h987, h988, h1092, h33, h720, h43⟩ := HC.out _ _ hr1; clear hr1 hb1)
 go_cut [57] from 16 to 57 (fun v wx => CutB v FP ∧ w1 = wx)
 case first =>
  by_cases a1 : nV ≤ 65536
  ·have da1 : decide ((65536 : Int) < (nV : Int)) = false := decide_eq_false (by omega)
   have A1 := Hd a1
   clear a1
   by_cases a2 : nB = nV
   ·obtain rfl : nV = nB := a2.symm
    by_cases a3 : nP = nV
    ·obtain rfl : nV = nP := a3.symm
     by_cases a4 : nC = nV
     ·obtain rfl : nV = nC := a4.symm
      by_cases a5 : nS = nV
      ·obtain rfl : nV = nS := a5.symm
       by_cases b1 : nH ≤ 1024
       ·have db1 : decide ((1024 : Int) < (nH : Int)) = false := decide_eq_false (by omega)
        have B1 := Hd b1
        clear b1
        by_cases b2 : nE ≤ 8
        ·have db2 : decide ((8 : Int) < (nE : Int)) = false := decide_eq_false (by omega)
         have B2 := Hd b2
         clear b2
         go_wp2_with fail
         go_meet
         case rel => exact ⟨⟨false, rfl, ⟨fun _ => by rw [HFP.out]; exact ⟨A1.out, by trivial, by trivial, by trivial, by trivial, B1.out, B2.out⟩, fun _ => rfl⟩⟩, by first | trivial | rfl⟩
        ·have HN := Hd b2
         have db2 : decide ((8 : Int) < (nE : Int)) = true := decide_eq_true (by omega)
         clear b2
         go_wp2_with fail
         go_meet
         case rel => exact ⟨⟨true, rfl, ⟨(fun h => by cases h), fun hp => by rw [HFP.out] at hp; exact absurd (hp.2.2.2.2.2.2) HN.out⟩⟩, by first | trivial | rfl⟩
       ·have HN := Hd b1
        have db1 : decide ((1024 : Int) < (nH : Int)) = true := decide_eq_true (by omega)
        clear b1
        go_wp2_with fail
        go_meet
        case rel => exact ⟨⟨true, rfl, ⟨(fun h => by cases h), fun hp => by rw [HFP.out] at hp; exact absurd (hp.2.2.2.2.2.1) HN.out⟩⟩, by first | trivial | rfl⟩
      ·have HN := Hd a5
       have da5 : ((nS : Int) != (nV : Int)) = true := by rw [bne_iff_ne]; omega
       clear a5
       go_wp2_with fail
       go_meet
       case rel => exact ⟨⟨true, rfl, ⟨(fun h => by cases h), fun hp => by rw [HFP.out] at hp; exact absurd (hp.2.2.2.2.1.symm) HN.out⟩⟩, by first | trivial | rfl⟩
     ·have HN := Hd a4
      have da4 : ((nC : Int) != (nV : Int)) = true := by rw [bne_iff_ne]; omega
      clear a4
      go_wp2_with fail
      go_meet
      case rel => exact ⟨⟨true, rfl, ⟨(fun h => by cases h), fun hp => by rw [HFP.out] at hp; exact absurd (hp.2.2.2.1.symm) HN.out⟩⟩, by first | trivial | rfl⟩
    ·have HN := Hd a3
     have da3 : ((nP : Int) != (nV : Int)) = true := by rw [bne_iff_ne]; omega
     clear a3
     go_wp2_with fail
     go_meet
     case rel => exact ⟨⟨true, rfl, ⟨(fun h => by cases h), fun hp => by rw [HFP.out] at hp; exact absurd (hp.2.2.1.symm) HN.out⟩⟩, by first | trivial | rfl⟩
   ·have HN := Hd a2
    have da2 : ((nB : Int) != (nV : Int)) = true := by rw [bne_iff_ne]; omega
    clear a2
    go_wp2_with fail
    go_meet
    case rel => exact ⟨⟨true, rfl, ⟨(fun h => by cases h), fun hp => by rw [HFP.out] at hp; exact absurd (hp.2.1.symm) HN.out⟩⟩, by first | trivial | rfl⟩
  ·have HN := Hd a1
   have da1 : decide ((65536 : Int) < (nV : Int)) = true := decide_eq_true (by omega)
   clear a1
   go_wp2_with fail
   go_meet
   case rel => exact ⟨⟨true, rfl, ⟨(fun h => by cases h), fun hp => by rw [HFP.out] at hp; exact absurd (hp.1) HN.out⟩⟩, by first | trivial | rfl⟩
 case rest =>
  obtain ⟨⟨b, rfl, hF⟩, rfl⟩ := hcut
  rw [HFP.out] at hF
  have HFx := Hd hF
  clear HFP FP hF
  cases b with
  | true =>
   go_wp2_with fail
   go_ret
   exact ⟨false, rfl, ⟨(fun h => by cases h), fun hr => absurd (HFx.out.2 ((HI.out hr).1)) (by simp)⟩, HB1.out⟩
  | false =>
   have hF := HFx.out.1
   clear HFx
   have hF1 := hF rfl
   clear hF
   obtain ⟨hn, rfl, rfl, rfl, rfl, -, -⟩ := id hF1
   have HF1 := Hd hF1
   clear hF1
   obtain ⟨FP, hFP⟩ : ∃ FP : Prop, FP = (v33 < 1099511627776 ∧ v720 < 1099511627776 ∧ v43 ≤ v33) := ⟨_, rfl⟩
   have HFP := Hd hFP
   clear hFP
   go_upto_region 4 with fail
   go_cut [73] from 58 to 73 (fun v wx => CutB v FP ∧ w1 = wx)
   case first =>
    by_cases b3 : v33 < 1099511627776
    ·have db3 : decide ((1099511627776 : Int) ≤ (v33 : Int)) = false := decide_eq_false (by omega)
     have B3 := Hd b3
     clear b3
     by_cases b4 : v720 < 1099511627776
     ·have db4 : decide ((1099511627776 : Int) ≤ (v720 : Int)) = false := decide_eq_false (by omega)
      have B4 := Hd b4
      clear b4
      by_cases b5 : v43 ≤ v33
      ·have b5i : ¬ (v33 : Int) < (v43 : Int) := by omega
       have B5 := Hd b5
       clear b5
       go_wp2_with fail
       go_meet
       case rel => exact ⟨⟨false, rfl, ⟨fun _ => by rw [HFP.out]; exact ⟨B3.out, B4.out, B5.out⟩, fun _ => rfl⟩⟩, by first | trivial | rfl⟩
      ·have HN := Hd b5
       have b5i : (v33 : Int) < (v43 : Int) := by omega
       clear b5
       go_wp2_with fail
       go_meet
       case rel => exact ⟨⟨true, rfl, ⟨(fun h => by cases h), fun hp => by rw [HFP.out] at hp; exact absurd (hp.2.2) HN.out⟩⟩, by first | trivial | rfl⟩
     ·have HN := Hd b4
      have db4 : decide ((1099511627776 : Int) ≤ (v720 : Int)) = true := decide_eq_true (by omega)
      clear b4
      go_wp2_with fail
      go_meet
      case rel => exact ⟨⟨true, rfl, ⟨(fun h => by cases h), fun hp => by rw [HFP.out] at hp; exact absurd (hp.2.1) HN.out⟩⟩, by first | trivial | rfl⟩
    ·have HN := Hd b3
     have db3 : decide ((1099511627776 : Int) ≤ (v33 : Int)) = true := decide_eq_true (by omega)
     clear b3
     go_wp2_with fail
     go_meet
     case rel => exact ⟨⟨true, rfl, ⟨(fun h => by cases h), fun hp => by rw [HFP.out] at hp; exact absurd (hp.1) HN.out⟩⟩, by first | trivial | rfl⟩
   case rest =>
    obtain ⟨⟨b, rfl, hF⟩, rfl⟩ := hcut
    rw [HFP.out] at hF
    have HFx := Hd hF
    clear HFP FP hF
    cases b with
    | true =>
     go_wp2_with fail
     go_ret
     exact ⟨false, rfl, ⟨(fun h => by cases h), fun hr => absurd (HFx.out.2 ((HI.out hr).2.1)) (by simp)⟩, HB1.out⟩
    | false =>
     have hF := HFx.out.1
     clear HFx
     have HF2 := Hd (hF rfl)
     clear hF
     have hs40 := HF2.out.1
     go_upto_region 7 with fail
     rw [HD.out]
     clear HD
     obtain ⟨C, hC⟩ : ∃ C : Nat → Value, C = cp3 F := ⟨_, rfl⟩
     have HBu := Hd (built95 F)
     rw [← hC] at HBu
     have HC1 := Hd (show ∀ i, i < 99 → (C i).oneCell' = true from fun i hi => by rw [hC]; exact zu0 HS.out.sc i hi)
     have HCe := Hd (show ∀ j, j < 3 → C (j * 33) = .int .u64 ((epC F j : Nat) : Int) from fun j hj => by rw [hC]; exact zwm HS.out.sc j hj)
     clear hC
     have HLD := Hd (fun i (h : i < 1957) => (HR1.out.cell (i := i) h))
     go_wp2_with (first
      | ((with_reducible refine at_l ?_); first
       | (refine zag rfl 42 (.tmp 77) rfl w.heap.size 993 33 (fun q => F (993 + q)) rfl _ (fun i hi => HLD.out (993 + i) (by omega)) Ty42 rfl (by kernel_rfl) _ rfl ?_)
       | (refine zag rfl 42 (.tmp 79) rfl w.heap.size 1026 33 (fun q => F (1026 + q)) rfl _ (fun i hi => HLD.out (1026 + i) (by omega)) Ty42 rfl (by kernel_rfl) _ rfl ?_)
       | (refine zag rfl 42 (.tmp 81) rfl w.heap.size 1059 33 (fun q => F (1059 + q)) rfl _ (fun i hi => HLD.out (1059 + i) (by omega)) Ty42 rfl (by kernel_rfl) _ rfl ?_)
       | (refine zbx rfl 95 #[(0, .tmp 78), (1, .tmp 80), (2, .tmp 82)] rfl [(0, .agg (arr 33 fun q => F (993 + q))), (1, .agg (arr 33 fun q => F (1026 + q))), (2, .agg (arr 33 fun q => F (1059 + q)))] rfl (arr 99 C) HBu.out ?_)))
     clear HBu
     have hlt := HR1.out.lt
     go_loopw [84] (fun i wr => ∃ k : Nat, i = .int .i64 (k : Int) ∧ k ≤ 3 ∧ (∀ j, j < k → epC F j ≤ now) ∧ Below w1.heap.size w1 wr) (fun i _ => 3 - (intOf i).toNat)
     case atStart => exact ⟨0, rfl, Nat.zero_le _, fun j hj => absurd hj (Nat.not_lt_zero _), Below.refl _ _⟩
     case round =>
      obtain ⟨k, rfl, hk, hv, hb⟩ := hrel
      have HV1 := Hd hv
      have HBa := Hd hb
      have hsz := hb.size
      clear hv hb h722 h721 h1092 h653 h719 h987 h988 h33 h720 h43
      by_cases h1 : k < 3
      ·have HK1 := Hd (show ∀ q, q < 33 → (C (k * 33 + q)).oneCell' = true from fun q hq => HC1.out _ (by omega))
       have HKe := Hd (HCe.out k h1)
       obtain ⟨e, he⟩ : ∃ e, epC F k = e := ⟨_, rfl⟩
       rw [he] at HKe
       have HE := Hd he
       clear he
       by_cases h2 : e ≤ now
       ·have hi2 : ¬ (now : Int) < (e : Int) := by omega
        have H2 := Hd h2
        clear h2
        go_wp2_with (first
         | ((with_reducible refine at_l ?_); first
          | (refine zab rfl 86 rfl (.agg (arr 33 fun q => C (k * 33 + q))) ?_ ?_; (· exact zdb rfl rfl rfl (fun w => zea w Tryd.underlying95 (by kernel_rfl) Ty42 rfl C k h1 (by omega)) _))
          | (refine zbk rfl rfl 42 42 6 (.tmp 86) rfl rfl rfl 33 (zeroOf Tryd.prog 42) (by kernel_rfl) (by kernel_rfl) (arr 33 fun q => C (k * 33 + q)) rfl rfl (zam _ _) (by kernel_rfl) (fun q hq => ⟨_, zaq _ _ _ hq, HK1.out q hq⟩) (fun q => C (k * 33 + q)) (fun q hq => zaq _ _ _ hq) ?_; intro w2 hr2 hb2; have HB2 := Hd hb2; have hep := (hr2.cell (i := 0) (by omega)).trans (congrArg some HKe.out); clear hr2 hb2; simp only [pcX])))
        go_roundw
        case rel => exact ⟨k + 1, by go_num, by omega, fun j hj => by
         by_cases e1 : j = k
         ·subst e1; rw [HE.out]; exact H2.out
         ·exact HV1.out j (by omega), HBa.out.trans (HB2.out.mono hsz)⟩
        case measure => simp [intOf]; omega
       ·have hi2 : (now : Int) < (e : Int) := by omega
        have H2 := Hd h2
        clear h2
        go_wp2_with (first
         | ((with_reducible refine at_l ?_); first
          | (refine zab rfl 86 rfl (.agg (arr 33 fun q => C (k * 33 + q))) ?_ ?_; (· exact zdb rfl rfl rfl (fun w => zea w Tryd.underlying95 (by kernel_rfl) Ty42 rfl C k h1 (by omega)) _))
          | (refine zbk rfl rfl 42 42 6 (.tmp 86) rfl rfl rfl 33 (zeroOf Tryd.prog 42) (by kernel_rfl) (by kernel_rfl) (arr 33 fun q => C (k * 33 + q)) rfl rfl (zam _ _) (by kernel_rfl) (fun q hq => ⟨_, zaq _ _ _ hq, HK1.out q hq⟩) (fun q => C (k * 33 + q)) (fun q hq => zaq _ _ _ hq) ?_; intro w2 hr2 hb2; have HB2 := Hd hb2; have hep := (hr2.cell (i := 0) (by omega)).trans (congrArg some HKe.out); clear hr2 hb2; simp only [pcX])))
        go_ret
        exact ⟨false, rfl, ⟨(fun h => by cases h), fun hr => absurd (show epC F k ≤ now from (HNow.out ▸ HI.out hr).2.2.1 k h1) (by rw [HE.out]; exact H2.out)⟩, thnB HB1.out (HBa.out.trans (HB2.out.mono hsz)) HB1.out.size⟩
      ·obtain rfl : k = 3 := by omega
       clear HC1 HCe h1
       have h721 := (HBa.out.cell (p := ⟨w.heap.size, 721, none⟩) hlt).trans ((HR1.out.cell (i := 721) (by omega)).trans (congrArg some HS.out.f11))
       have hltr : w.heap.size < wr.heap.size := by omega
       have HBw := Hd (thnB HB1.out HBa.out HB1.out.size)
       obtain ⟨w3, hw3⟩ : ∃ w3 : World, w3 = wr := ⟨_, rfl⟩
       subst hw3
       go_wp2_with fail
       go_loopw [95] (fun i wr => ∃ k : Nat, i = .int .i64 (k : Int) ∧ k ≤ nV ∧ (∀ j, j < k → valV V j) ∧ Below w3.heap.size w3 wr) (fun i _ => nV - (intOf i).toNat)
       case atStart => exact ⟨0, rfl, Nat.zero_le _, fun j hj => absurd hj (Nat.not_lt_zero _), Below.refl _ _⟩
       case round =>
        obtain ⟨k, rfl, hk2, hv, hb⟩ := hrel
        have HV2 := Hd hv
        have HBb := Hd hb
        have hsz2 := hb.size
        clear hv hb h721
        by_cases h1 : k < nV
        ·obtain ⟨ad, rfl, hb2, hc1⟩ := (((HS.out.rV.below HBw.out).more HBw.out.size).below HBb.out).at_ (k := k * 86) (show k * 86 < nV * 86 by omega)
         have HCL := Hd (show ∀ q, q < 86 → wr.cell? ((ad.add (k * 86)).add q) = some (V (k * 86 + q)) from fun q hq => by
          rw [zb1]; exact ((((HS.out.rV.below HBw.out).more HBw.out.size).below HBb.out).cell_ (show k * 86 + q < nV * 86 by omega)))
         have HSC := Hd (HS.out.scV k h1)
         have X80 := Hd (HSC.out.u64 80 (by kernel_rfl)).1
         have X82 := Hd (HSC.out.u64 82 (by kernel_rfl)).1
         have X83 := Hd (HSC.out.u64 83 (by kernel_rfl)).1
         have X84 := Hd (HSC.out.u64 84 (by kernel_rfl)).1
         have X85 := Hd (HSC.out.u64 85 (by kernel_rfl)).1
         have HVO : Hid (nat (V (k * 86 + 80)) ≤ 32000000000 ∧ nat (V (k * 86 + 80)) % 1000000000 = 0 ∧ epB (nat (V (k * 86 + 82))) = true ∧ epB (nat (V (k * 86 + 83))) = true ∧ epB (nat (V (k * 86 + 84))) = true ∧ epB (nat (V (k * 86 + 85))) = true → valV V k) := Hd id
         have HVI : Hid (valV V k → nat (V (k * 86 + 80)) ≤ 32000000000 ∧ nat (V (k * 86 + 80)) % 1000000000 = 0 ∧ epB (nat (V (k * 86 + 82))) = true ∧ epB (nat (V (k * 86 + 83))) = true ∧ epB (nat (V (k * 86 + 84))) = true ∧ epB (nat (V (k * 86 + 85))) = true) := Hd id
         clear hc1
         simp only at X80 X82 X83 X84 X85
         generalize nat (V (k * 86 + 80)) = x80 at *
         generalize nat (V (k * 86 + 82)) = x82 at *
         generalize nat (V (k * 86 + 83)) = x83 at *
         generalize nat (V (k * 86 + 84)) = x84 at *
         generalize nat (V (k * 86 + 85)) = x85 at *
         obtain ⟨FP, hFP⟩ : ∃ FP : Prop, FP = (x80 ≤ 32000000000 ∧ x80 % 1000000000 = 0) := ⟨_, rfl⟩
         have HFP := Hd hFP
         clear hFP
         go_upto_region 16 with (first
          | ((with_reducible refine at_l ?_); first
           | (refine zae rfl 66 (.tmp 97) rfl 86 _ Ty66 rfl (by kernel_rfl) (ad.add (k * 86)) rfl (fun q => V (k * 86 + q)) HCL.out ?_)
           | (refine zbk rfl rfl 66 66 8 (.tmp 98) rfl rfl rfl 86 (zeroOf Tryd.prog 66) (by kernel_rfl) (by kernel_rfl) (arr 86 fun q => V (k * 86 + q)) rfl rfl (zam _ _) (by kernel_rfl) (HSC.out.one (by kernel_rfl)) (fun q => V (k * 86 + q)) (fun q hq => zaq _ _ _ hq) ?_; intro w2 hr2 hb2; have HB2 := Hd hb2; have h80 := (hr2.cell (i := 80) (by omega)).trans (congrArg some X80.out); have h82 := (hr2.cell (i := 82) (by omega)).trans (congrArg some X82.out); have h83 := (hr2.cell (i := 83) (by omega)).trans (congrArg some X83.out); have h84 := (hr2.cell (i := 84) (by omega)).trans (congrArg some X84.out); have h85 := (hr2.cell (i := 85) (by omega)).trans (congrArg some X85.out); clear hr2 hb2; simp only [pcX])))
         go_cut [107] from 99 to 107 (fun v wx => CutB v FP ∧ w2 = wx)
         case first =>
          by_cases d1 : x80 ≤ 32000000000
          ·have dd1 : decide ((32000000000 : Int) < (x80 : Int)) = false := decide_eq_false (by omega)
           have D1 := Hd d1
           clear d1
           by_cases d2 : x80 % 1000000000 = 0
           ·have dq : (((x80 : Int) % 1000000000) != 0) = false := by rw [bne_eq_false_iff_eq]; omega
            have D2 := Hd d2
            clear d2
            go_wp2_with fail
            go_meet
            case rel => exact ⟨⟨false, rfl, ⟨fun _ => by rw [HFP.out]; exact ⟨D1.out, D2.out⟩, fun _ => rfl⟩⟩, by first | trivial | rfl⟩
           ·have HN := Hd d2
            have dq : (((x80 : Int) % 1000000000) != 0) = true := by rw [bne_iff_ne]; omega
            clear d2
            go_wp2_with fail
            go_meet
            case rel => exact ⟨⟨true, rfl, ⟨(fun h => by cases h), fun hp => by rw [HFP.out] at hp; exact absurd (hp.2) HN.out⟩⟩, by first | trivial | rfl⟩
          ·have HN := Hd d1
           have dd1 : decide ((32000000000 : Int) < (x80 : Int)) = true := decide_eq_true (by omega)
           clear d1
           go_wp2_with fail
           go_meet
           case rel => exact ⟨⟨true, rfl, ⟨(fun h => by cases h), fun hp => by rw [HFP.out] at hp; exact absurd (hp.1) HN.out⟩⟩, by first | trivial | rfl⟩
         case rest =>
          obtain ⟨⟨b, rfl, hF⟩, rfl⟩ := hcut
          rw [HFP.out] at hF
          have HFx := Hd hF
          clear HFP FP hF
          cases b with
          | true =>
           go_wp2_with fail
           go_ret
           exact ⟨false, rfl, ⟨(fun h => by cases h), fun hr => absurd (HFx.out.2 (⟨(HVI.out ((HI.out hr).2.2.2.1 k h1)).1, (HVI.out ((HI.out hr).2.2.2.1 k h1)).2.1⟩)) (by simp)⟩, thnB HBw.out (HBb.out.trans (HB2.out.mono hsz2)) HBw.out.size⟩
          | false =>
           have hF := HFx.out.1
           clear HFx
           have HF4 := Hd (hF rfl)
           clear hF
           obtain ⟨ex, hex⟩ : ∃ ex : Nat → Nat, ex = fun q => if q = 0 then x82 else if q = 1 then x83 else if q = 2 then x84 else x85 := ⟨_, rfl⟩
           have HBe := Hd (show Tryd.prog.built 96 [(0, .int .u64 (x82 : Int)), (1, .int .u64 (x83 : Int)), (2, .int .u64 (x84 : Int)), (3, .int .u64 (x85 : Int))] = some (arr 4 (u64v ex)) by rw [hex]; kernel_rfl)
           have HEx := Hd hex
           clear hex
           go_wp2_with ((with_reducible refine at_l ?_); refine zbx rfl 96 #[(0, .tmp 109), (1, .tmp 111), (2, .tmp 113), (3, .tmp 115)] rfl [(0, .int .u64 (x82 : Int)), (1, .int .u64 (x83 : Int)), (2, .int .u64 (x84 : Int)), (3, .int .u64 (x85 : Int))] rfl (arr 4 (u64v ex)) HBe.out ?_)
           clear HBe h80 h82 h83 h84 h85
           go_loopw [117] (fun i wq => ∃ j : Nat, i = .int .i64 (j : Int) ∧ j ≤ 4 ∧ (∀ q, q < j → epB (ex q) = true) ∧ wq = w2) (fun i _ => 4 - (intOf i).toNat)
           case atStart => exact ⟨0, rfl, Nat.zero_le _, fun j hj => absurd hj (Nat.not_lt_zero _), rfl⟩
           case round =>
            obtain ⟨j, rfl, hj, hv, rfl⟩ := hrel
            have HV4 := Hd hv
            clear hv
            by_cases hj4 : j < 4
            ·obtain ⟨e, he⟩ : ∃ e, ex j = e := ⟨_, rfl⟩
             have HE := Hd he
             have HIx := Hd (fun w => zj3 (P := Tryd.prog) (n := 4) w Tryd.underlying96 (by kernel_rfl) Ty22 rfl (u64v ex) j hj4)
             simp only [u64v, he] at HIx
             clear he
             have HX1 : Hid (valV V k → epB (ex j) = true) := Hd (fun hv => by
              have h := HVI.out hv
              rw [HEx.out]
              rcases (show j = 0 ∨ j = 1 ∨ j = 2 ∨ j = 3 by omega) with rfl | rfl | rfl | rfl
              ·exact h.2.2.1
              ·exact h.2.2.2.1
              ·exact h.2.2.2.2.1
              ·exact h.2.2.2.2.2)
             by_cases e1 : e = 18446744073709551615
             ·have t1 : ((e : Int) != 18446744073709551615) = false := by rw [bne_eq_false_iff_eq]; omega
              have HO := Hd (show epB e = true by unfold epB; exact decide_eq_true (.inl e1))
              clear e1
              go_wp2_with ((with_reducible refine at_l ?_); refine zab rfl 119 rfl (.int .u64 (e : Int)) ?_ ?_; (· exact zdb rfl rfl rfl HIx.out _))
              go_roundw
              case rel => exact ⟨j + 1, by go_num, by omega, fun q hq => by
               by_cases e2 : q = j
               ·subst e2; rw [HE.out]; exact HO.out
               ·exact HV4.out q (by omega), True.intro⟩
              case measure => simp [intOf]; omega
             ·have t1 : ((e : Int) != 18446744073709551615) = true := by rw [bne_iff_ne]; omega
              by_cases e2 : e < 2199023255552
              ·have t2 : decide ((2199023255552 : Int) ≤ (e : Int)) = false := decide_eq_false (by omega)
               have HO := Hd (show epB e = true by unfold epB; exact decide_eq_true (.inr e2))
               clear e1 e2
               go_wp2_with ((with_reducible refine at_l ?_); refine zab rfl 119 rfl (.int .u64 (e : Int)) ?_ ?_; (· exact zdb rfl rfl rfl HIx.out _))
               go_roundw
               case rel => exact ⟨j + 1, by go_num, by omega, fun q hq => by
                by_cases e2 : q = j
                ·subst e2; rw [HE.out]; exact HO.out
                ·exact HV4.out q (by omega), True.intro⟩
               case measure => simp [intOf]; omega
              ·have t2 : decide ((2199023255552 : Int) ≤ (e : Int)) = true := decide_eq_true (by omega)
               have HO := Hd (show epB e = false by unfold epB; exact decide_eq_false (by omega))
               clear e1 e2
               go_wp2_with ((with_reducible refine at_l ?_); refine zab rfl 119 rfl (.int .u64 (e : Int)) ?_ ?_; (· exact zdb rfl rfl rfl HIx.out _))
               go_ret
               exact ⟨false, rfl, ⟨(fun h => by cases h), fun hr => absurd (HX1.out ((HI.out hr).2.2.2.1 k h1)) (by rw [HE.out, HO.out]; simp)⟩, thnB HBw.out (HBb.out.trans (HB2.out.mono hsz2)) HBw.out.size⟩
            ·obtain rfl : j = 4 := by omega
             have HF5 := Hd (HVO.out ⟨HF4.out.1, HF4.out.2, by have h := HV4.out 0 (by omega); rw [HEx.out] at h; exact h, by have h := HV4.out 1 (by omega); rw [HEx.out] at h; exact h, by have h := HV4.out 2 (by omega); rw [HEx.out] at h; exact h, by have h := HV4.out 3 (by omega); rw [HEx.out] at h; exact h⟩)
             go_wp2_with fail
             go_roundw
             case rel => exact ⟨k + 1, by go_num, by omega, fun j hj => by
              by_cases e1 : j = k
              ·subst e1; exact HF5.out
              ·exact HV2.out j (by omega), HBb.out.trans (HB2.out.mono hsz2)⟩
             case measure => simp [intOf]; omega
        ·obtain rfl : nV = k := by omega
         have h1092 := (HBb.out.cell (p := ⟨w.heap.size, 1092, none⟩) hltr).trans ((HBa.out.cell (p := ⟨w.heap.size, 1092, none⟩) hlt).trans ((HR1.out.cell (i := 1092) (by omega)).trans (congrArg some HS.out.f21)))
         have HBx := Hd (thnB HBw.out HBb.out HBw.out.size)
         have hltx : w.heap.size < wr.heap.size := by omega
         obtain ⟨w5, hw5⟩ : ∃ w5 : World, w5 = wr := ⟨_, rfl⟩
         subst hw5
         go_wp2_with fail
         go_loopw [131] (fun i wr => ∃ k : Nat, i = .int .i64 (k : Int) ∧ k ≤ nV ∧ (∀ j, j < k → nat (Sco j) ≤ 1099511627776) ∧ wr = w5) (fun i _ => nV - (intOf i).toNat)
         case atStart => exact ⟨0, rfl, Nat.zero_le _, fun j hj => absurd hj (Nat.not_lt_zero _), rfl⟩
         case round =>
          obtain ⟨k, rfl, hk3, hv, rfl⟩ := hrel
          have HV3 := Hd hv
          clear hv h1092
          by_cases h1 : k < nV
          ·obtain ⟨ad2, rfl, hbs, hcs⟩ := ((HS.out.rS.below HBx.out).more HBx.out.size).at_ h1
           rw [(HS.out.scS k h1).1] at hcs
           obtain ⟨x, hx⟩ : ∃ x, nat (Sco k) = x := ⟨_, rfl⟩
           simp only at hcs
           rw [hx] at hcs
           have HX := Hd hx
           clear hx
           by_cases h2 : x ≤ 1099511627776
           ·have hd2 : decide ((1099511627776 : Int) < (x : Int)) = false := decide_eq_false (by omega)
            have hi2 : ¬ (1099511627776 : Int) < (x : Int) := by omega
            have H2 := Hd h2
            clear h2
            go_wp2_with fail
            go_roundw
            case rel => exact ⟨k + 1, by go_num, by omega, fun j hj => by
             by_cases e1 : j = k
             ·subst e1; rw [HX.out]; exact H2.out
             ·exact HV3.out j (by omega), True.intro⟩
            case measure => simp [intOf]; omega
           ·have hd2 : decide ((1099511627776 : Int) < (x : Int)) = true := decide_eq_true (by omega)
            have hi2 : (1099511627776 : Int) < (x : Int) := by omega
            have H2 := Hd h2
            clear h2
            go_wp2_with fail
            go_ret
            exact ⟨false, rfl, ⟨(fun h => by cases h), fun hr => absurd ((HI.out hr).2.2.2.2.1 k h1) (by rw [HX.out]; exact H2.out)⟩, HBx.out⟩
          ·obtain rfl : nV = k := by omega
           have h722 := (HBb.out.cell (p := ⟨w.heap.size, 722, none⟩) hltr).trans ((HBa.out.cell (p := ⟨w.heap.size, 722, none⟩) hlt).trans ((HR1.out.cell (i := 722) (by omega)).trans (congrArg some HS.out.f12)))
           have RBa := Hd ((RB0.out.below HBx.out).more HBx.out.size)
           have RSl := Hd (Rd.of_part (o := 979) (n := 8) (f := fun i => .int .u64 ((nat (F (979 + i)) : Nat) : Int)) (zaj (zaj HR1.out HBa.out hlt) HBb.out hltr) (by omega) (fun i hi => (SL0.out i hi).1))
           have CUT := Hd (fun wz => zbp (P := Tryd.prog) (w := wz) Ty38 1 (by kernel_rfl) (g := w.heap.size) (o := 979) none none 0 8 (.inl ⟨rfl, rfl⟩) (.inl ⟨rfl, rfl⟩) (by omega) (by omega) (by omega) (off := 979) (len := 8) (cap := 8) (by omega) (by omega) (by omega))
           have HFI := Hd (HR.out HF1.out.1 (by trivial) (by trivial) (by trivial) (by trivial) HF1.out.2.2.2.2.2.1 HF1.out.2.2.2.2.2.2 HF2.out.1 HF2.out.2.1 HF2.out.2.2 (HNow.out ▸ HV1.out) (fun j hj => zu1 (HV2.out j hj) (HV3.out j hj)))
           have HSA := Hd (zmq aB nV cB (fun i => nat (Bal i)) wr wr.heap.size RBa.out BB0.out (lT HF1.out.1 (by unfold maxLen; omega)))
           have HSZ := Hd (zmq (some ⟨w.heap.size, 979, none⟩) 8 8 (fun i => nat (F (979 + i))) wr wr.heap.size RSl.out (fun i hi => (SL0.out i hi).2) (by unfold maxLen; omega))
           have HFK := Hd (fun hr => (⟨decide_eq_true (HI.out hr).2.2.2.2.2.1, decide_eq_true (HI.out hr).2.2.2.2.2.2⟩ : sumB (fun i => nat (Bal i)) nV = true ∧ sumB (fun i => nat (F (979 + i))) 8 = true))
           have HFJ : Hid (sumB (fun i => nat (Bal i)) nV = true → sumB (fun i => nat (F (979 + i))) 8 = true → _) := Hd (fun h1 h2 => HFI.out (of_decide_eq_true h1) (of_decide_eq_true h2))
           generalize sumB (fun i => nat (Bal i)) nV = b1 at *
           generalize sumB (fun i => nat (F (979 + i))) 8 = b2 at *
           clear HR HC HI HF2 HV1 HV2 HV3 HNow RSl RBa SL0 BB0 RB0 HS HFI
           have tok := Tok.mk 1
           cases b1 with
           | false =>
            go_wp2_with (go_at_call 43; refine HSA.out.mono ?_; rintro r w2 ⟨rfl, hw2⟩; obtain rfl : wr = w2 := hw2.symm)
            go_ret
            exact ⟨false, rfl, ⟨(fun h => by cases h), fun hr => absurd (HFK.out hr).1 (by simp)⟩, HBx.out⟩
           | true =>
            go_wp2_with (first
             | (go_at_call 43; clear tok; refine HSA.out.mono ?_; rintro r w2 ⟨rfl, hw2⟩; obtain rfl : wr = w2 := hw2.symm; have tok2 := Tok.mk 2)
             | ((with_reducible refine at_l ?_); refine zhj rfl rfl rfl 38 (.tmp 142) none none rfl rfl CUT.out rfl rfl ?_)
             | (go_at_call 43; clear tok2; refine HSZ.out.mono ?_; rintro r w2 ⟨rfl, hw2⟩; obtain rfl : wr = w2 := hw2.symm))
            go_ret
            exact ⟨_, rfl, ⟨fun h => HFJ.out (by trivial) h, fun hr => (HFK.out hr).2⟩, HBx.out⟩
noncomputable def pl70 : List (Nat × Nat) := match Tryd.prog.underlying 70 with
 | some (.struct fs) => (fs.toList.mapM fun f => (Tryd.prog.info? f.type).map fun i => (f.offset, i.size)).getD []
 | _ => []
noncomputable def z70 : Array Value := zeroOf Tryd.prog 70
theorem zst : z70.size = 1962 := by kernel_rfl
theorem built70 (parts : List (Nat × Value)) : Tryd.prog.built 70 parts = Instr.fill (fun x => pl70.toArray[x]?) z70 parts := by kernel_rfl
theorem zwn : pl70.toArray[0]? = some (0, 1957) := by kernel_rfl
theorem zlb {place : Nat → Option (Nat × Nat)} {z N off i : Nat} {f g : Nat → Value} {rest : List (Nat × Value)} (hp : place i = some (off, z)) (h : off + z ≤ N) :
 Instr.fill place (arr N g) ((i, .agg (arr z f)) :: rest) = Instr.fill place (arr N (fun q => if off ≤ q ∧ q < off + z then f (q - off) else g q)) rest := by
 have hc : (Value.agg (arr z f)).cells = arr z f := rfl
 have key : ((arr z f).zipIdx.foldl (fun cs (p : Value × Nat) => cs.setIfInBounds (off + p.2) p.1) (arr N g)) = arr N (fun q => if off ≤ q ∧ q < off + z then f (q - off) else g q) := by
  rw [← Array.foldl_toList, Array.toList_zipIdx]
  refine zfb _ N _ (by rw [zku, zam]) (fun q hq => ?_)
  rw [zl4 off (arr z f).toList 0 (arr N g) q (by simp [zam]; omega)]
  have hl : (arr z f).toList.length = z := by simp [zam]
  rw [hl]
  by_cases h1 : off ≤ q ∧ q < off + z
  ·rw [if_pos (by omega), if_pos h1, Array.getElem?_toList, Nat.add_zero, zaq z f _ (by omega)]
  ·rw [if_neg (by omega), if_neg h1, zaq N g q hq]
 conv => lhs; unfold Instr.fill
 simp only [hp, hc, zam]
 rw [if_neg (by simp; omega)]
 exact congrArg (fun cs => Instr.fill place cs rest) key
noncomputable def rawF (F : Nat → Value) : Nat → Value := fun q => if 0 ≤ q ∧ q < 0 + 1957 then F (q - 0) else z70.getD q undef
theorem zo5 (F : Nat → Value) : Tryd.prog.built 70 [(0, .agg (arr 1957 F))] = some (arr 1962 (rawF F)) := by
 rw [built70, show z70 = arr 1962 (fun q => z70.getD q undef) by rw [← zst]; exact zgy z70, zlb (place := fun x => pl70.toArray[x]?) zwn (by omega)]
 rfl
def srT (r : Nat) : Nat := if r = 0 then 70 else if r = 1 then 24 else if r = 2 then 34 else if r = 3 then 66 else if r = 4 then 22 else if r = 7 then 22 else 5
theorem zcy {w : World} {base z n c b : Nat} {e : TypeId} {A : Option Addr} {f : Nat → Value} (h : OwnZ w base e z A n c f) (hb : OnA A b) : ∃ m g, w.rowIs b e m g := by
 obtain ⟨ad, rfl, rfl⟩ := hb
 obtain ⟨F, hr, _⟩ := h.row
 exact ⟨_, F, hr⟩
theorem zgg {w : World} {base L m : Nat} {s : StV} {G : Nat → Value} (hr : w.rowIs L 70 m G) (ho : StOwn w base s) : ∀ r b, SRole L s r b → r < 8 ∧ ∃ m g, w.rowIs b (srT r) m g := fun r b h => by
 match r, h with
 | 0, h => rw [show b = L from h]; exact ⟨by omega, m, G, hr⟩
 | 1, h => exact ⟨by omega, zcy ho.H h⟩
 | 2, h => exact ⟨by omega, zcy ho.E h⟩
 | 3, h => exact ⟨by omega, zcy ho.V h⟩
 | 4, h => exact ⟨by omega, zcy ho.B h⟩
 | 5, h => exact ⟨by omega, zcy ho.P h⟩
 | 6, h => exact ⟨by omega, zcy ho.C h⟩
 | 7, h => exact ⟨by omega, zcy ho.S h⟩
theorem zwo (r r' : Nat) (h : r < 8) (h' : r' < 8) (e : srT r = srT r') : r = r' ∨ (r = 4 ∧ r' = 7) ∨ (r = 7 ∧ r' = 4) ∨ (r = 5 ∧ r' = 6) ∨ (r = 6 ∧ r' = 5) := by
 have key : (List.range 8).all (fun a => (List.range 8).all fun b => !(srT a == srT b) || (a == b || (a == 4 && b == 7) || (a == 7 && b == 4) || (a == 5 && b == 6) || (a == 6 && b == 5))) = true := by decide
 have h1 := List.all_eq_true.1 (List.all_eq_true.1 key r (List.mem_range.2 h)) r' (List.mem_range.2 h')
 simp [e] at h1
 omega
theorem zjg {w : World} {base L m : Nat} {s : StV} {G : Nat → Value} (hr : w.rowIs L 70 m G) (ho : StOwn w base s) (ha : StAp s) : ∀ r r' b, SRole L s r b → SRole L s r' b → r = r' := fun r r' b h h' => by
 obtain ⟨h8, _, _, k⟩ := zgg hr ho r b h
 obtain ⟨h8', _, _, k'⟩ := zgg hr ho r' b h'
 have e : srT r = srT r' := Classical.byContradiction fun hne => zv1 k k' hne rfl
 rcases zwo r r' h8 h8' e with e | ⟨rfl, rfl⟩ | ⟨rfl, rfl⟩ | ⟨rfl, rfl⟩ | ⟨rfl, rfl⟩
 ·exact e
 ·exact absurd h' (ha.bs b h)
 ·exact absurd h (ha.bs b h')
 ·exact absurd h' (ha.pc b h)
 ·exact absurd h (ha.pc b h')
structure LV (w : World) (base L : Nat) (s : StV) (T : Nat → Nat) (v : Nat → TV) (h : Nat) : Prop where
 lm : LM w base L s T v
 st : ∀ j, j < 5 → TSt (v j) (lvC j s.nV) (lvX s j)
 lim : ∀ j, j < 5 → (v j).lim = lvL j
 D : ∀ j, j < 5 → (v j).D = dep (lvL j)
 H : ∀ j, j < 5 → (v j).H ≤ h
 right : RightF s
theorem RightF.same {s t : StV} (h : RightF s) (e : SameS s t) : RightF t where
 n := by rw [e.nV]; exact h.n
 nB := by rw [e.nB, e.nV]; exact h.nB
 nP := by rw [e.nP, e.nV]; exact h.nP
 nC := by rw [e.nC, e.nV]; exact h.nC
 nS := by rw [e.nS, e.nV]; exact h.nS
 nH := by rw [e.nH]; exact h.nH
 nE := by rw [e.nE]; exact h.nE
 slot := by rw [e.F 33 (by omega) (by omega) (by omega) (by omega) (by omega) (by omega) (by omega)]; exact h.slot
 dep := by rw [e.F 720 (by omega) (by omega) (by omega) (by omega) (by omega) (by omega) (by omega)]; exact h.dep
 head := by rw [e.F 43 (by omega) (by omega) (by omega) (by omega) (by omega) (by omega) (by omega), e.F 33 (by omega) (by omega) (by omega) (by omega) (by omega) (by omega) (by omega)]; exact h.head
 oldJ := by rw [e.F 993 (by omega) (by omega) (by omega) (by omega) (by omega) (by omega) (by omega), e.F 33 (by omega) (by omega) (by omega) (by omega) (by omega) (by omega) (by omega)]; exact h.oldJ
 just := by rw [e.F 1026 (by omega) (by omega) (by omega) (by omega) (by omega) (by omega) (by omega), e.F 33 (by omega) (by omega) (by omega) (by omega) (by omega) (by omega) (by omega)]; exact h.just
 fin := by rw [e.F 1059 (by omega) (by omega) (by omega) (by omega) (by omega) (by omega) (by omega), e.F 33 (by omega) (by omega) (by omega) (by omega) (by omega) (by omega) (by omega)]; exact h.fin
 val := by rw [e.nV, e.V, e.Sco]; exact h.val
 bal := by rw [e.nB, e.Bal]; exact h.bal
 sla := by
  have : (fun i => nat (t.F (979 + i))) = fun i => if i < 8 then nat (s.F (979 + i)) else nat (t.F (979 + i)) := by
   funext i
   by_cases h8 : i < 8
   ·rw [if_pos h8, e.F (979 + i) (by omega) (by omega) (by omega) (by omega) (by omega) (by omega) (by omega)]
   ·rw [if_neg h8]
  rw [zit (z := fun i => nat (s.F (979 + i))) (fun i hi => by rw [e.F (979 + i) (by omega) (by omega) (by omega) (by omega) (by omega) (by omega) (by omega)])]
  exact h.sla
theorem zq2 (s : StV) (w : World) (hS : StOk w w.heap.size s) (hR : ¬ RightF s) : Calls Tryd.prog 6 #[.agg (arr 1957 s.F)] w fun r w' => r = .returned (.pointer none) ∧ Below w.heap.size w w' := by
 have HS0 := Hd (HS.nil w)
 have HSt := Hd hS
 have HR := Hd hR
 clear hS hR
 go_enter Tryd.func6, Tryd.ntmps6
 go_wp2_with (first
  | ((with_reducible refine at_l ?_); first
   | (refine zaz rfl 49 _ 1 rfl rfl HS0.out 1957 s.F rfl ?_; intro b1 w1 hb1 hc1 hs1; have HS1 := Hd hs1; clear hs1)
   | (refine zae rfl 49 (.tmp 1) rfl 1957 _ Ty49 rfl (by kernel_rfl) ⟨b1, 0, none⟩ rfl s.F (fun i hi => by rw [zai]; exact (HS1.out.row 0 rfl).cell hi) ?_))
  | (go_at_call 16; refine (zef s _ ((HSt.out.below (HS1.out.out (by simp; omega))).more HS1.out.size)).mono ?_; rintro r w2 ⟨b, rfl, hb, hbw⟩; obtain rfl : b = false := (by cases b <;> first | rfl | exact absurd (hb.1 rfl) HR.out); have HB2 := Hd ((HS1.out.below hbw).out (by simp; omega)); clear hb hbw))
 go_ret
 exact ⟨rfl, HB2.out⟩
theorem zlc (s : StV) (w : World) (hS : StOk w w.heap.size s) (hR : RightF s) (hp : ShaPkg w) : Calls Tryd.prog 6 #[.agg (arr 1957 s.F)] w fun r w' => ∃ L t T v, r = .returned (.pointer (some ⟨L, 0, none⟩)) ∧ LV w' w.heap.size L t T v 0 ∧ SameS s t ∧ Below w.heap.size w w' := by
 have HS0 := Hd (HS.nil w)
 have HSt := Hd hS
 have HR := Hd hR
 have HP := Hd hp
 clear hS hR hp
 go_enter Tryd.func6, Tryd.ntmps6
 have tk0 := Tok.mk 0
 go_wp2_with (first
  | ((with_reducible refine at_l ?_); first
   | (refine zaz rfl 49 _ 1 rfl rfl HS0.out 1957 s.F rfl ?_; intro b1 w1 hb1 hc1 hs1; have HS1 := Hd hs1; clear hs1)
   | (refine zae rfl 49 (.tmp 1) rfl 1957 _ Ty49 rfl (by kernel_rfl) ⟨b1, 0, none⟩ rfl s.F (fun i hi => by rw [zai]; exact (HS1.out.row 0 rfl).cell hi) ?_; clear tk0)
   | (refine zae rfl 49 (.tmp 1) rfl 1957 _ Ty49 rfl (by kernel_rfl) ⟨b1, 0, none⟩ rfl s.F (fun i hi => by rw [zai]; exact (HS2.out.row 0 rfl).cell hi) ?_; clear tk1)
   | (refine zbx rfl 70 #[(0, .tmp 8)] rfl [(0, .agg (arr 1957 t.F))] rfl (arr 1962 (rawF t.F)) (zo5 t.F) ?_)
   | (refine zaz rfl 70 _ 10 rfl rfl (HS.nil w3) 1962 (rawF t.F) rfl ?_; intro L w4 hL hcL hs4; have HS4 := Hd hs4; clear hs4))
  | (go_at_call 16; refine (zef s _ ((HSt.out.below (HS1.out.out (by simp; omega))).more HS1.out.size)).mono ?_; rintro r w2 ⟨b, rfl, hb, hbw⟩; obtain rfl : b = true := hb.2 HR.out; have HS2 := Hd (HS1.out.below hbw); have tk1 := Tok.mk 1; clear hb hbw)
  | (go_at_call 17; refine (zjy s _ ((HSt.out.below (HS2.out.out (by simp; omega))).more HS2.out.size) HR.out.n (HR.out.nB ▸ HR.out.n) (HR.out.nP ▸ HR.out.n) (HR.out.nC ▸ HR.out.n) (HR.out.nS ▸ HR.out.n) (lT HR.out.nH (by omega)) (lT HR.out.nE (by omega))).mono ?_; rintro r w3 ⟨t, rfl, hok, hown, hap, hsame, hb⟩; have HOk := Hd hok; have HOw := Hd (hown.mono HS2.out.size); have HAp := Hd hap; have HSm := Hd hsame; have HS3 := Hd (HS2.out.below hb); clear hok hown hap hsame hb))
 have hRt : RightF t := HR.out.same HSm.out
 have h03 : w.heap.size ≤ w3.heap.size := HS3.out.size
 have hr4 : w4.rowIs L 70 1962 (rawF t.F) := HS4.out.row 0 rfl
 have hb34 : Below w3.heap.size w3 w4 := HS4.out.out (by simp; omega)
 have ho4 : StOwn w4 w.heap.size t := HOw.out.all hb34
 have hlb : LB w4 w4 w.heap.size L t (rawF t.F) (fun _ => 0) (fun _ => ⟨0, 0, none, 0, 0, 0, none, 0, 0, fun _ => 0, 0, fun _ => none, fun _ => 0, fun _ => 0, fun _ _ => 0⟩) (fun _ => false) := {
  baseL := by omega, row := hr4, cells := fun i hi => by unfold rawF; rw [if_pos (by omega)]; rfl
  ok := HOk.out.of_own ho4, own := ho4, ap := zjg hr4 ho4 HAp.out
  slt := fun r b h => by obtain ⟨_, _, _, k⟩ := zgg hr4 ho4 r b h; exact k.lt
  tm := fun j h => by cases h
  nw := fun j h => by cases h
  tap := fun j k b h => by cases h
  nt := fun j h => by cases h
  chg := Chg.refl _ _ }
 have hpl := HP.out.lt
 have hp4 : ShaPkg w4 := (HP.out.below (HS3.out.out (by simp; omega))).below hb34
 go_at_call 18
 refine (zla w.heap.size L t.nV t (rawF t.F) _ _ w4 hlb hRt.n rfl hRt.nB hRt.nP hRt.nC hRt.nS hp4 hpl).mono ?_
 rintro r w5 ⟨T, v, rfl, hlm, hch, hst, hlim, hD, hH, hnw⟩
 have HLV : LV w5 w.heap.size L t T v 0 := ⟨hlm, hst, hlim, hD, fun j hj => by rw [hH j hj]; exact Nat.le_refl _, hRt⟩
 have HLV := Hd HLV
 have HB5 := Hd (thnB (HS3.out.out (by simp; omega)) (thnB hb34 (hch.below (B := w3.heap.size) hb34.size (fun b e => by rw [e]; exact hL)) lR) h03)
 clear hRt hr4 hb34 ho4 hlb hpl hp4 hlm hch hst hlim hD hH hnw
 go_wp2_with fail
 go_ret
 exact ⟨L, t, T, v, rfl, HLV.out, HSm.out, HB5.out⟩

def bt (x : Nat → Bool) (n j k : Nat) : Nat := if 8 * j + k < n ∧ x (8 * j + k) = true then 1 else 0
def byteOf (x : Nat → Bool) (n j : Nat) : Nat :=
 bt x n j 0 + 2 * bt x n j 1 + 4 * bt x n j 2 + 8 * bt x n j 3 + 16 * bt x n j 4 + 32 * bt x n j 5 + 64 * bt x n j 6 + 128 * bt x n j 7
theorem zfu (x : Nat → Bool) (n j k : Nat) : bt x n j k ≤ 1 := by unfold bt; split <;> omega
theorem zh4 (x : Nat → Bool) (n j : Nat) : byteOf x n j < 256 := by
 unfold byteOf
 have := zfu x n j 0; have := zfu x n j 1; have := zfu x n j 2; have := zfu x n j 3
 have := zfu x n j 4; have := zfu x n j 5; have := zfu x n j 6; have := zfu x n j 7
 omega
theorem zq3 (x : Nat → Bool) (n j k : Nat) (h : n ≤ 8 * j + k) : bt x n j k = 0 := by unfold bt; rw [if_neg (by omega)]
theorem zxh (x : Nat → Bool) (n j k : Nat) (h : 8 * j + k < n) : bt x n j k = (x (8 * j + k)).toNat := by
 unfold bt; cases x (8 * j + k) <;> simp [h]
theorem ze7 (x : Nat → Bool) (j : Nat) : byteOf x 0 j = 0 := by
 unfold byteOf; simp [zq3 x 0 j _ (Nat.zero_le _)]
theorem zd1 (x : Nat → Bool) (i j k : Nat) (h : 8 * j + k ≠ i ∨ x i = false) : bt x (i + 1) j k = bt x i j k := by
 unfold bt
 by_cases e : 8 * j + k = i
 ·rw [e]
  have hx : x i = false := by rcases h with h | h <;> simp_all
  simp [hx]
 ·by_cases c : 8 * j + k < i
  ·simp [c, show 8 * j + k < i + 1 by omega]
  ·simp [c, show ¬ 8 * j + k < i + 1 by omega]
theorem ze8 (x : Nat → Bool) (i j : Nat) (h : x i = false) : byteOf x (i + 1) j = byteOf x i j := by
 unfold byteOf; simp only [zd1 x i j _ (.inr h)]
theorem zf4 (x : Nat → Bool) (i j : Nat) (h : j ≠ i / 8) : byteOf x (i + 1) j = byteOf x i j := by
 unfold byteOf
 rw [zd1 x i j 0 (.inl (by omega)), zd1 x i j 1 (.inl (by omega)), zd1 x i j 2 (.inl (by omega)), zd1 x i j 3 (.inl (by omega)), zd1 x i j 4 (.inl (by omega)),
  zd1 x i j 5 (.inl (by omega)), zd1 x i j 6 (.inl (by omega)), zd1 x i j 7 (.inl (by omega))]
theorem zeq (x : Nat → Bool) (i : Nat) (h : x i = true) : byteOf x (i + 1) (i / 8) = byteOf x i (i / 8) + 2 ^ (i % 8) ∧ byteOf x i (i / 8) < 2 ^ (i % 8) := by
 obtain ⟨q, hq⟩ : ∃ q, q = i / 8 := ⟨_, rfl⟩
 obtain ⟨r, hr⟩ : ∃ r, r = i % 8 := ⟨_, rfl⟩
 have e : i = 8 * q + r := by omega
 have hr8 : r < 8 := by omega
 rw [← hq, ← hr]
 have hk : ∀ k, k ≠ r → k < 8 → bt x (i + 1) q k = bt x i q k := fun k hk h8 => zd1 x i q k (.inl (by omega))
 have h1 : bt x (i + 1) q r = 1 := by rw [zxh x _ _ _ (by omega), ← e, h]; rfl
 have h0 : ∀ k, r ≤ k → bt x i q k = 0 := fun k hk => zq3 x i q k (by omega)
 have hb := fun k => zfu x i q k
 have hb0 := hb 0; have hb1 := hb 1; have hb2 := hb 2; have hb3 := hb 3; have hb4 := hb 4; have hb5 := hb 5; have hb6 := hb 6
 clear hq hr hb
 unfold byteOf
 match r, hr8 with
 | 0, _ => rw [h1, hk 1 (by omega) (by omega), hk 2 (by omega) (by omega), hk 3 (by omega) (by omega), hk 4 (by omega) (by omega), hk 5 (by omega) (by omega), hk 6 (by omega) (by omega), hk 7 (by omega) (by omega), h0 0 (by omega), h0 1 (by omega), h0 2 (by omega), h0 3 (by omega), h0 4 (by omega), h0 5 (by omega), h0 6 (by omega), h0 7 (by omega)]; omega
 | 1, _ => rw [h1, hk 0 (by omega) (by omega), hk 2 (by omega) (by omega), hk 3 (by omega) (by omega), hk 4 (by omega) (by omega), hk 5 (by omega) (by omega), hk 6 (by omega) (by omega), hk 7 (by omega) (by omega), h0 1 (by omega), h0 2 (by omega), h0 3 (by omega), h0 4 (by omega), h0 5 (by omega), h0 6 (by omega), h0 7 (by omega)]; omega
 | 2, _ => rw [h1, hk 0 (by omega) (by omega), hk 1 (by omega) (by omega), hk 3 (by omega) (by omega), hk 4 (by omega) (by omega), hk 5 (by omega) (by omega), hk 6 (by omega) (by omega), hk 7 (by omega) (by omega), h0 2 (by omega), h0 3 (by omega), h0 4 (by omega), h0 5 (by omega), h0 6 (by omega), h0 7 (by omega)]; omega
 | 3, _ => rw [h1, hk 0 (by omega) (by omega), hk 1 (by omega) (by omega), hk 2 (by omega) (by omega), hk 4 (by omega) (by omega), hk 5 (by omega) (by omega), hk 6 (by omega) (by omega), hk 7 (by omega) (by omega), h0 3 (by omega), h0 4 (by omega), h0 5 (by omega), h0 6 (by omega), h0 7 (by omega)]; omega
 | 4, _ => rw [h1, hk 0 (by omega) (by omega), hk 1 (by omega) (by omega), hk 2 (by omega) (by omega), hk 3 (by omega) (by omega), hk 5 (by omega) (by omega), hk 6 (by omega) (by omega), hk 7 (by omega) (by omega), h0 4 (by omega), h0 5 (by omega), h0 6 (by omega), h0 7 (by omega)]; omega
 | 5, _ => rw [h1, hk 0 (by omega) (by omega), hk 1 (by omega) (by omega), hk 2 (by omega) (by omega), hk 3 (by omega) (by omega), hk 4 (by omega) (by omega), hk 6 (by omega) (by omega), hk 7 (by omega) (by omega), h0 5 (by omega), h0 6 (by omega), h0 7 (by omega)]; omega
 | 6, _ => rw [h1, hk 0 (by omega) (by omega), hk 1 (by omega) (by omega), hk 2 (by omega) (by omega), hk 3 (by omega) (by omega), hk 4 (by omega) (by omega), hk 5 (by omega) (by omega), hk 7 (by omega) (by omega), h0 6 (by omega), h0 7 (by omega)]; omega
 | 7, _ => rw [h1, hk 0 (by omega) (by omega), hk 1 (by omega) (by omega), hk 2 (by omega) (by omega), hk 3 (by omega) (by omega), hk 4 (by omega) (by omega), hk 5 (by omega) (by omega), hk 6 (by omega) (by omega), h0 7 (by omega)]; omega
theorem zwp (a r : Nat) (hr : r < 8) (ha : a < 2 ^ r) : bits .or .u8 (a : Int) (2 ^ r % 256) = ((a + 2 ^ r : Nat) : Int) := by
 have hp : 2 ^ r ≤ 128 := by
  have := Nat.pow_le_pow_right (n := 2) (by omega) (show r ≤ 7 by omega)
  omega
 have h1 : (BitVec.ofInt 8 (a : Int)).toNat = a := by
  rw [BitVec.ofInt_natCast, BitVec.toNat_ofNat]; exact Nat.mod_eq_of_lt (by omega)
 have h2 : (BitVec.ofInt 8 ((2 : Int) ^ r % 256)).toNat = 2 ^ r := by
  have c : ((2 ^ r : Nat) : Int) = (2 : Int) ^ r := by simp
  have e : ((2 : Int) ^ r % 256) = ((2 ^ r : Nat) : Int) := by rw [← c]; omega
  rw [e, BitVec.ofInt_natCast, BitVec.toNat_ofNat]; exact Nat.mod_eq_of_lt (by omega)
 show IntKind.u8.wrap ((BitVec.ofInt 8 (a : Int) ||| BitVec.ofInt 8 ((2 : Int) ^ r % 256)).toNat : Int) = _
 rw [BitVec.toNat_or, h1, h2]
 have h3 : a ||| 2 ^ r = a + 2 ^ r := by
  have := Nat.two_pow_add_eq_or_of_lt ha 1
  rw [Nat.mul_one] at this
  rw [Nat.or_comm, ← this, Nat.add_comm]
 rw [h3, IntKind.wrap_u8]
 omega
theorem zsu (i : Nat) (h : i ≤ 9223372036854775807) : bits .and .i64 (i : Int) 7 = ((i % 8 : Nat) : Int) := by
 have h1 : (BitVec.ofInt 64 (i : Int)).toNat = i := by
  rw [BitVec.ofInt_natCast, BitVec.toNat_ofNat]; exact Nat.mod_eq_of_lt (by omega)
 have h2 : (BitVec.ofInt 64 (7 : Int)).toNat = 7 := rfl
 show IntKind.i64.wrap ((BitVec.ofInt 64 (i : Int) &&& BitVec.ofInt 64 (7 : Int)).toNat : Int) = _
 rw [BitVec.toNat_and, h1, h2, show i &&& 7 = i % 8 from Nat.and_two_pow_sub_one_eq_mod i 3, IntKind.wrap_i64]
 omega
end Go.Proofs.YtomilckcgmhfcaaDoor
