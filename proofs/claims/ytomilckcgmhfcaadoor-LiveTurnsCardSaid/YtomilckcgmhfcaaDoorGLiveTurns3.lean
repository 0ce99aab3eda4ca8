/- Lemmas that the proof stands on. -/
import Derived.Test.YtomilckcgmhfcaaDoorGLit22
namespace Go.Proofs.YtomilckcgmhfcaaDoor
set_option maxRecDepth 40000
set_option maxHeartbeats 64000000
open Go.RowKit
set_option maxRecDepth 20000 in
theorem zic (s : StV) (w : World) (hS : StOk w w.heap.size s) : Calls Tryd.prog 7 #[.agg (arr 1957 s.F)] w (RightQ s w) := by
 have HS := Hd hS
 obtain ⟨F, aV, nV, cV, V, aB, nB, cB, Bal, aP, nP, cP, Prv, aC, nC, cC, Cur, aS, nS, cS, Sco, aH, nH, cH, His, aE, nE, cE, Vot⟩ := s
 have hle : nV ≤ 9223372036854775807 := by have := hS.lV; unfold maxLen at this; simp only at this; omega
 have E33 := Hd (hS.sc.u64 33 (by kernel_rfl)).1
 have E720 := Hd (hS.sc.u64 720 (by kernel_rfl)).1
 have E43 := Hd (hS.sc.u64 43 (by kernel_rfl)).1
 have E993 := Hd (hS.sc.u64 993 (by kernel_rfl)).1
 have E1026 := Hd (hS.sc.u64 1026 (by kernel_rfl)).1
 have E1059 := Hd (hS.sc.u64 1059 (by kernel_rfl)).1
 simp only at E33 E720 E43 E993 E1026 E1059
 have HR : Hid (nV ≤ 65536 → nB = nV → nP = nV → nC = nV → nS = nV → nH ≤ 1024 → nE ≤ 8 → nat (F 33) < 1099511627776 → nat (F 720) < 1099511627776 → nat (F 43) ≤ nat (F 33) → nat (F 993) ≤ nat (F 33) / 4 → nat (F 1026) ≤ nat (F 33) / 4 → nat (F 1059) ≤ nat (F 33) / 4 →
  (∀ i, i < nV → valOk V Sco i) → sumTo (fun i => nat (Bal i)) nB ≤ 144115188075855872 → sumTo (fun i => nat (F (979 + i))) 8 ≤ 144115188075855872 → RightF ⟨F, aV, nV, cV, V, aB, nB, cB, Bal, aP, nP, cP, Prv, aC, nC, cC, Cur, aS, nS, cS, Sco, aH, nH, cH, His, aE, nE, cE, Vot⟩) :=
  Hd (fun a1 a2 a3 a4 a5 a6 a7 a8 a9 a10 a11 a12 a13 a14 a15 a16 => ⟨a1, a2, a3, a4, a5, a6, a7, a8, a9, a10, a11, a12, a13, a14, a15, a16⟩)
 have HI : Hid (RightF ⟨F, aV, nV, cV, V, aB, nB, cB, Bal, aP, nP, cP, Prv, aC, nC, cC, Cur, aS, nS, cS, Sco, aH, nH, cH, His, aE, nE, cE, Vot⟩ → (nV ≤ 65536 ∧ nV = nB ∧ nV = nP ∧ nV = nC ∧ nV = nS) ∧ (nH ≤ 1024 ∧ nE ≤ 8 ∧ nat (F 33) < 1099511627776 ∧ nat (F 720) < 1099511627776 ∧ nat (F 43) ≤ nat (F 33)) ∧ (nat (F 993) ≤ nat (F 33) / 4 ∧ nat (F 1026) ≤ nat (F 33) / 4 ∧ nat (F 1059) ≤ nat (F 33) / 4) ∧
  (∀ i, i < nV → valOk V Sco i) ∧ sumTo (fun i => nat (Bal i)) nB ≤ 144115188075855872 ∧ sumTo (fun i => nat (F (979 + i))) 8 ≤ 144115188075855872) :=
  Hd (fun h => ⟨⟨h.n, h.nB.symm, h.nP.symm, h.nC.symm, h.nS.symm⟩, ⟨h.nH, h.nE, h.slot, h.dep, h.head⟩, ⟨h.oldJ, h.just, h.fin⟩, h.val, h.bal, h.sla⟩)
 have RB0 := Hd (show Rd w w.heap.size aB nB (fun i => .int .u64 ((nat (Bal i) : Nat) : Int)) from hS.rB.congr (fun i hi => (hS.scB i hi).1))
 have BB0 := Hd (show ∀ i, i < nB → nat (Bal i) < 18446744073709551616 from fun i hi => (hS.scB i hi).2)
 have SL0 := Hd (show ∀ i, i < 8 → F (979 + i) = .int .u64 ((nat (F (979 + i)) : Nat) : Int) ∧ nat (F (979 + i)) < 18446744073709551616 from F979 hS.sc)
 clear hS
 generalize nat (F 33) = v33 at *
 generalize nat (F 720) = v720 at *
 generalize nat (F 43) = v43 at *
 generalize nat (F 993) = v993 at *
 generalize nat (F 1026) = v1026 at *
 generalize nat (F 1059) = v1059 at *
 have HC : Hid (∀ (w1 : World) (b : Nat), w1.rowIs b 49 1957 F → w1.cell? ⟨b, 653, none⟩ = some (.slice aH nH cH) ∧ w1.cell? ⟨b, 719, none⟩ = some (.slice aE nE cE) ∧ w1.cell? ⟨b, 721, none⟩ = some (.slice aV nV cV) ∧ w1.cell? ⟨b, 722, none⟩ = some (.slice aB nB cB) ∧ w1.cell? ⟨b, 987, none⟩ = some (.slice aP nP cP) ∧ w1.cell? ⟨b, 988, none⟩ = some (.slice aC nC cC) ∧ w1.cell? ⟨b, 1092, none⟩ = some (.slice aS nS cS) ∧ w1.cell? ⟨b, 33, none⟩ = some (.int .u64 (v33 : Int)) ∧ w1.cell? ⟨b, 720, none⟩ = some (.int .u64 (v720 : Int)) ∧ w1.cell? ⟨b, 43, none⟩ = some (.int .u64 (v43 : Int)) ∧ w1.cell? ⟨b, 993, none⟩ = some (.int .u64 (v993 : Int)) ∧ w1.cell? ⟨b, 1026, none⟩ = some (.int .u64 (v1026 : Int)) ∧ w1.cell? ⟨b, 1059, none⟩ = some (.int .u64 (v1059 : Int))) :=
  Hd (fun w1 b hr => ⟨(hr.cell (by omega)).trans (congrArg some HS.out.f7), (hr.cell (by omega)).trans (congrArg some HS.out.f9), (hr.cell (by omega)).trans (congrArg some HS.out.f11), (hr.cell (by omega)).trans (congrArg some HS.out.f12), (hr.cell (by omega)).trans (congrArg some HS.out.f15), (hr.cell (by omega)).trans (congrArg some HS.out.f16), (hr.cell (by omega)).trans (congrArg some HS.out.f21), (hr.cell (by omega)).trans (congrArg some E33.out), (hr.cell (by omega)).trans (congrArg some E720.out), (hr.cell (by omega)).trans (congrArg some E43.out), (hr.cell (by omega)).trans (congrArg some E993.out), (hr.cell (by omega)).trans (congrArg some E1026.out), (hr.cell (by omega)).trans (congrArg some E1059.out)⟩)
 clear E33 E720 E43 E993 E1026 E1059
 obtain ⟨now, hnow⟩ : ∃ now, now = v33 / 4 := ⟨_, rfl⟩
 have HD := Hd (show (v33 : Int) / 4 = (now : Int) by omega)
 have HNow := Hd hnow
 clear hnow
 go_enter Tryd.func7, Tryd.ntmps7
 obtain ⟨FP, hFP⟩ : ∃ FP : Prop, FP = (nV ≤ 65536 ∧ nV = nB ∧ nV = nP ∧ nV = nC ∧ nV = nS) := ⟨_, rfl⟩
 have HFP := Hd hFP
 clear hFP
 go_upto_region 2 with (refine zg5 rfl _ _ rfl 1957 F rfl ?_; intro w1 hr1 hb1; have HR1 := Hd hr1; have HB1 := Hd hb1; obtain ⟨h653, h719, h721, h722, h987, h988, h1092, h33, h720, h43, h993, h1026, h1059⟩ := HC.out _ _ hr1; clear hr1 hb1)
 go_cut [39] from 10 to 39 (fun v wx => CutB v FP ∧ w1 = wx)
 case first =>
  by_cases a1 : nV ≤ 65536
  ·have da1 : decide ((65536 : Int) < (nV : Int)) = false := decide_eq_false (by omega)
   have A1 := Hd a1
   clear a1
   by_cases a2 : nB = nV
   ·obtain rfl : nV = nB := a2.symm
    by_cases a3 : nP = nV
    ·obtain rfl : nV = nP := a3.symm
     by_cases a4 : nC = nV
     ·obtain rfl : nV = nC := a4.symm
      by_cases a5 : nS = nV
      ·obtain rfl : nV = nS := a5.symm
       go_wp2_with fail
       go_meet
       case rel => exact ⟨⟨false, rfl, ⟨fun _ => by rw [HFP.out]; exact ⟨A1.out, by trivial, by trivial, by trivial, by trivial⟩, fun _ => rfl⟩⟩, by first | trivial | rfl⟩
      ·have HN := Hd a5
       have da5 : ((nV : Int) != (nS : Int)) = true := by rw [bne_iff_ne]; omega
       clear a5
       go_wp2_with fail
       go_meet
       case rel => exact ⟨⟨true, rfl, ⟨(fun h => by cases h), fun hp => by rw [HFP.out] at hp; exact absurd (hp.2.2.2.2.symm) HN.out⟩⟩, by first | trivial | rfl⟩
     ·have HN := Hd a4
      have da4 : ((nV : Int) != (nC : Int)) = true := by rw [bne_iff_ne]; omega
      clear a4
      go_wp2_with fail
      go_meet
      case rel => exact ⟨⟨true, rfl, ⟨(fun h => by cases h), fun hp => by rw [HFP.out] at hp; exact absurd (hp.2.2.2.1.symm) HN.out⟩⟩, by first | trivial | rfl⟩
    ·have HN := Hd a3
     have da3 : ((nV : Int) != (nP : Int)) = true := by rw [bne_iff_ne]; omega
     clear a3
     go_wp2_with fail
     go_meet
     case rel => exact ⟨⟨true, rfl, ⟨(fun h => by cases h), fun hp => by rw [HFP.out] at hp; exact absurd (hp.2.2.1.symm) HN.out⟩⟩, by first | trivial | rfl⟩
   ·have HN := Hd a2
    have da2 : ((nV : Int) != (nB : Int)) = true := by rw [bne_iff_ne]; omega
    clear a2
    go_wp2_with fail
    go_meet
    case rel => exact ⟨⟨true, rfl, ⟨(fun h => by cases h), fun hp => by rw [HFP.out] at hp; exact absurd (hp.2.1.symm) HN.out⟩⟩, by first | trivial | rfl⟩
  ·have HN := Hd a1
   have da1 : decide ((65536 : Int) < (nV : Int)) = true := decide_eq_true (by omega)
   clear a1
   go_wp2_with fail
   go_meet
   case rel => exact ⟨⟨true, rfl, ⟨(fun h => by cases h), fun hp => by rw [HFP.out] at hp; exact absurd (hp.1) HN.out⟩⟩, by first | trivial | rfl⟩
 case rest =>
  obtain ⟨⟨b, rfl, hF⟩, rfl⟩ := hcut
  rw [HFP.out] at hF
  have HFx := Hd hF
  clear HFP FP hF
  cases b with
  | true =>
   go_wp2_with fail
   go_ret
   exact ⟨false, rfl, ⟨(fun h => by cases h), fun hr => absurd (HFx.out.2 ((HI.out hr).1)) (by simp)⟩, HB1.out⟩
  | false =>
   have hF := HFx.out.1
   clear HFx
   obtain ⟨hn, rfl, rfl, rfl, rfl⟩ := hF rfl
   clear hF
   obtain ⟨FP, hFP⟩ : ∃ FP : Prop, FP = (nH ≤ 1024 ∧ nE ≤ 8 ∧ v33 < 1099511627776 ∧ v720 < 1099511627776 ∧ v43 ≤ v33) := ⟨_, rfl⟩
   have HFP := Hd hFP
   clear hFP
   go_upto_region 4 with fail
   go_cut [67] from 40 to 67 (fun v wx => CutB v FP ∧ w1 = wx)
   case first =>
    by_cases b1 : nH ≤ 1024
    ·have db1 : decide ((1024 : Int) < (nH : Int)) = false := decide_eq_false (by omega)
     have B1 := Hd b1
     clear b1
     by_cases b2 : nE ≤ 8
     ·have db2 : decide ((8 : Int) < (nE : Int)) = false := decide_eq_false (by omega)
      have B2 := Hd b2
      clear b2
      by_cases b3 : v33 < 1099511627776
      ·have db3 : decide ((1099511627776 : Int) ≤ (v33 : Int)) = false := decide_eq_false (by omega)
       have B3 := Hd b3
       clear b3
       by_cases b4 : v720 < 1099511627776
       ·have db4 : decide ((1099511627776 : Int) ≤ (v720 : Int)) = false := decide_eq_false (by omega)
        have B4 := Hd b4
        clear b4
        by_cases b5 : v43 ≤ v33
        ·have b5i : ¬ (v33 : Int) < (v43 : Int) := by omega
         have B5 := Hd b5
         clear b5
         go_wp2_with fail
         go_meet
         case rel => exact ⟨⟨false, rfl, ⟨fun _ => by rw [HFP.out]; exact ⟨B1.out, B2.out, B3.out, B4.out, B5.out⟩, fun _ => rfl⟩⟩, by first | trivial | rfl⟩
        ·have HN := Hd b5
         have b5i : (v33 : Int) < (v43 : Int) := by omega
         clear b5
         go_wp2_with fail
         go_meet
         case rel => exact ⟨⟨true, rfl, ⟨(fun h => by cases h), fun hp => by rw [HFP.out] at hp; exact absurd (hp.2.2.2.2) HN.out⟩⟩, by first | trivial | rfl⟩
       ·have HN := Hd b4
        have db4 : decide ((1099511627776 : Int) ≤ (v720 : Int)) = true := decide_eq_true (by omega)
        clear b4
        go_wp2_with fail
        go_meet
        case rel => exact ⟨⟨true, rfl, ⟨(fun h => by cases h), fun hp => by rw [HFP.out] at hp; exact absurd (hp.2.2.2.1) HN.out⟩⟩, by first | trivial | rfl⟩
      ·have HN := Hd b3
       have db3 : decide ((1099511627776 : Int) ≤ (v33 : Int)) = true := decide_eq_true (by omega)
       clear b3
       go_wp2_with fail
       go_meet
       case rel => exact ⟨⟨true, rfl, ⟨(fun h => by cases h), fun hp => by rw [HFP.out] at hp; exact absurd (hp.2.2.1) HN.out⟩⟩, by first | trivial | rfl⟩
     ·have HN := Hd b2
      have db2 : decide ((8 : Int) < (nE : Int)) = true := decide_eq_true (by omega)
      clear b2
      go_wp2_with fail
      go_meet
      case rel => exact ⟨⟨true, rfl, ⟨(fun h => by cases h), fun hp => by rw [HFP.out] at hp; exact absurd (hp.2.1) HN.out⟩⟩, by first | trivial | rfl⟩
    ·have HN := Hd b1
     have db1 : decide ((1024 : Int) < (nH : Int)) = true := decide_eq_true (by omega)
     clear b1
     go_wp2_with fail
     go_meet
     case rel => exact ⟨⟨true, rfl, ⟨(fun h => by cases h), fun hp => by rw [HFP.out] at hp; exact absurd (hp.1) HN.out⟩⟩, by first | trivial | rfl⟩
   case rest =>
    obtain ⟨⟨b, rfl, hF⟩, rfl⟩ := hcut
    rw [HFP.out] at hF
    have HFx := Hd hF
    clear HFP FP hF
    cases b with
    | true =>
     go_wp2_with fail
     go_ret
     exact ⟨false, rfl, ⟨(fun h => by cases h), fun hr => absurd (HFx.out.2 ((HI.out hr).2.1)) (by simp)⟩, HB1.out⟩
    | false =>
     have hF := HFx.out.1
     clear HFx
     have HF2 := Hd (hF rfl)
     clear hF
     have hs40 := HF2.out.2.2.1
     obtain ⟨FP, hFP⟩ : ∃ FP : Prop, FP = (v993 ≤ now ∧ v1026 ≤ now ∧ v1059 ≤ now) := ⟨_, rfl⟩
     have HFP := Hd hFP
     clear hFP
     go_upto_region 7 with fail
     rw [HD.out]
     clear HD
     go_cut [89] from 71 to 89 (fun v wx => CutB v FP ∧ w1 = wx)
     case first =>
      by_cases c1 : v993 ≤ now
      ·have c1i : ¬ (now : Int) < (v993 : Int) := by omega
       have C1 := Hd c1
       clear c1
       by_cases c2 : v1026 ≤ now
       ·have c2i : ¬ (now : Int) < (v1026 : Int) := by omega
        have C2 := Hd c2
        clear c2
        by_cases c3 : v1059 ≤ now
        ·have c3i : ¬ (now : Int) < (v1059 : Int) := by omega
         have C3 := Hd c3
         clear c3
         go_wp2_with fail
         go_meet
         case rel => exact ⟨⟨false, rfl, ⟨fun _ => by rw [HFP.out]; exact ⟨C1.out, C2.out, C3.out⟩, fun _ => rfl⟩⟩, by first | trivial | rfl⟩
        ·have HN := Hd c3
         have c3i : (now : Int) < (v1059 : Int) := by omega
         clear c3
         go_wp2_with fail
         go_meet
         case rel => exact ⟨⟨true, rfl, ⟨(fun h => by cases h), fun hp => by rw [HFP.out] at hp; exact absurd (hp.2.2) HN.out⟩⟩, by first | trivial | rfl⟩
       ·have HN := Hd c2
        have c2i : (now : Int) < (v1026 : Int) := by omega
        clear c2
        go_wp2_with fail
        go_meet
        case rel => exact ⟨⟨true, rfl, ⟨(fun h => by cases h), fun hp => by rw [HFP.out] at hp; exact absurd (hp.2.1) HN.out⟩⟩, by first | trivial | rfl⟩
      ·have HN := Hd c1
       have c1i : (now : Int) < (v993 : Int) := by omega
       clear c1
       go_wp2_with fail
       go_meet
       case rel => exact ⟨⟨true, rfl, ⟨(fun h => by cases h), fun hp => by rw [HFP.out] at hp; exact absurd (hp.1) HN.out⟩⟩, by first | trivial | rfl⟩
     case rest =>
      obtain ⟨⟨b, rfl, hF⟩, rfl⟩ := hcut
      rw [HFP.out] at hF
      have HFx := Hd hF
      clear HFP FP hF
      cases b with
      | true =>
       go_wp2_with fail
       go_ret
       exact ⟨false, rfl, ⟨(fun h => by cases h), fun hr => absurd (HFx.out.2 (by rw [HNow.out]; exact (HI.out hr).2.2.1)) (by simp)⟩, HB1.out⟩
      | false =>
       have hF := HFx.out.1
       clear HFx
       have HF3 := Hd (hF rfl)
       clear hF
       go_wp2_with fail
       have hlt := HR1.out.lt
       go_loopw [5] (fun i wr => ∃ k : Nat, i = .int .i64 (k : Int) ∧ k ≤ nV ∧ (∀ j, j < k → valOk V Sco j) ∧ Below w1.heap.size w1 wr) (fun i _ => nV - (intOf i).toNat)
       case atStart => exact ⟨0, rfl, Nat.zero_le _, fun j hj => absurd hj (Nat.not_lt_zero _), Below.refl _ _⟩
       case round =>
        obtain ⟨k, rfl, hk, hv, hb⟩ := hrel
        have HV2 := Hd hv
        have HB := Hd hb
        have hsz := hb.size
        have hltr : w.heap.size < wr.heap.size := by omega
        have h7 : wr.cell? ⟨w.heap.size, 721, none⟩ = some (.slice aV nV cV) := (hb.cell hlt).trans h721
        have h7s : wr.cell? ⟨w.heap.size, 1092, none⟩ = some (.slice aS nV cS) := (hb.cell hlt).trans h1092
        have H722 := Hd ((hb.cell (p := ⟨w.heap.size, 722, none⟩) hlt).trans h722)
        clear hv hb h721 h1092 h722 h653 h719 h987 h988 h33 h720 h43 h993 h1026 h1059
        by_cases h1 : k < nV
        ·obtain ⟨ad, rfl, hb2, hc1, -⟩ := ((HS.out.vok.below HB1.out).more HB1.out.size).below HB.out |>.at_ h1
         have HC1 := Hd hc1
         have HSC := Hd (HS.out.scV k h1)
         obtain ⟨ad2, rfl, hbs, hcs⟩ := (((HS.out.rS.below HB1.out).more HB1.out.size).below HB.out).at_ h1
         have hbs3 : ad2.block < wr.heap.size := by omega
         rw [(HS.out.scS k h1).1] at hcs
         have X80 := Hd (HSC.out.u64 80 (by kernel_rfl)).1
         have X82 := Hd (HSC.out.u64 82 (by kernel_rfl)).1
         have X83 := Hd (HSC.out.u64 83 (by kernel_rfl)).1
         have X84 := Hd (HSC.out.u64 84 (by kernel_rfl)).1
         have X85 := Hd (HSC.out.u64 85 (by kernel_rfl)).1
         have HVO : Hid (nat (V (k * 86 + 80)) ≤ 32000000000 ∧ nat (V (k * 86 + 80)) % 1000000000 = 0 ∧ epB (nat (V (k * 86 + 82))) = true ∧ epB (nat (V (k * 86 + 83))) = true ∧ epB (nat (V (k * 86 + 84))) = true ∧ epB (nat (V (k * 86 + 85))) = true ∧ nat (Sco k) ≤ 1099511627776 → valOk V Sco k) := Hd id
         have HVI : Hid (valOk V Sco k → nat (V (k * 86 + 80)) ≤ 32000000000 ∧ nat (V (k * 86 + 80)) % 1000000000 = 0 ∧ epB (nat (V (k * 86 + 82))) = true ∧ epB (nat (V (k * 86 + 83))) = true ∧ epB (nat (V (k * 86 + 84))) = true ∧ epB (nat (V (k * 86 + 85))) = true ∧ nat (Sco k) ≤ 1099511627776) := Hd id
         clear hc1
         simp only at X80 X82 X83 X84 X85 hcs
         generalize nat (V (k * 86 + 80)) = x80 at *
         generalize nat (V (k * 86 + 82)) = x82 at *
         generalize nat (V (k * 86 + 83)) = x83 at *
         generalize nat (V (k * 86 + 84)) = x84 at *
         generalize nat (V (k * 86 + 85)) = x85 at *
         generalize nat (Sco k) = xs at *
         obtain ⟨FP, hFP⟩ : ∃ FP : Prop, FP = (x80 ≤ 32000000000 ∧ x80 % 1000000000 = 0 ∧ epB x82 = true ∧ epB x83 = true ∧ epB x84 = true ∧ epB x85 = true ∧ xs ≤ 1099511627776) := ⟨_, rfl⟩
         have HFP := Hd hFP
         clear hFP
         go_upto_region 13 with (first
          | (refine zae rfl 66 _ rfl 86 _ Ty66 rfl (by kernel_rfl) (ad.add (k * 86)) rfl (fun q => V (k * 86 + q)) HC1.out ?_)
          | (refine zbk rfl rfl 66 66 6 (.tmp 99) rfl rfl rfl 86 (zeroOf Tryd.prog 66) (by kernel_rfl) (by kernel_rfl) (arr 86 fun q => V (k * 86 + q)) rfl rfl (zam _ _) (by kernel_rfl) (HSC.out.one (by kernel_rfl)) (fun q => V (k * 86 + q)) (fun q hq => zaq _ _ _ hq) ?_; intro w2 hr2 hb2; have HB2 := Hd hb2; have h80 := (hr2.cell (i := 80) (by omega)).trans (congrArg some X80.out); have h82 := (hr2.cell (i := 82) (by omega)).trans (congrArg some X82.out); have h83 := (hr2.cell (i := 83) (by omega)).trans (congrArg some X83.out); have h84 := (hr2.cell (i := 84) (by omega)).trans (congrArg some X84.out); have h85 := (hr2.cell (i := 85) (by omega)).trans (congrArg some X85.out); have h7b := (hb2.cell (p := ⟨w.heap.size, 1092, none⟩) hltr).trans h7s; have hcs2 := (hb2.cell (p := ad2.add k) (by rw [za7]; exact hbs3)).trans hcs; clear hr2 hb2 h7s hcs; simp only [pcX]))
         go_cut [140] from 100 to 140 (fun v wx => CutB v FP ∧ w2 = wx)
         case first =>
          by_cases d1 : x80 ≤ 32000000000
          ·have dd1 : decide ((32000000000 : Int) < (x80 : Int)) = false := decide_eq_false (by omega)
           have D1 := Hd d1
           clear d1
           by_cases d2 : x80 % 1000000000 = 0
           ·have dq : (((x80 : Int) % 1000000000) != 0) = false := by rw [bne_eq_false_iff_eq]; omega
            have D2 := Hd d2
            clear d2
            by_cases d3 : epB x82 = true
            ·have D3 := Hd d3
             by_cases d4 : epB x83 = true
             ·have D4 := Hd d4
              by_cases d5 : epB x84 = true
              ·have D5 := Hd d5
               by_cases d6 : epB x85 = true
               ·have D6 := Hd d6
                by_cases d7 : xs ≤ 1099511627776
                ·have dd7 : decide ((1099511627776 : Int) < (xs : Int)) = false := decide_eq_false (by omega)
                 have D7 := Hd d7
                 clear d7
                 go_wp2_with (go_at_call 19; refine (zdq _ _).mono ?_; rintro r w3 ⟨rfl, hw3⟩; obtain rfl : w2 = w3 := hw3.symm)
                 go_meet
                 case rel => exact ⟨⟨false, rfl, ⟨fun _ => by rw [HFP.out]; exact ⟨D1.out, D2.out, D3.out, D4.out, D5.out, D6.out, D7.out⟩, fun _ => rfl⟩⟩, by first | trivial | rfl⟩
                ·have HN := Hd d7
                 have dd7 : decide ((1099511627776 : Int) < (xs : Int)) = true := decide_eq_true (by omega)
                 clear d7
                 go_wp2_with (go_at_call 19; refine (zdq _ _).mono ?_; rintro r w3 ⟨rfl, hw3⟩; obtain rfl : w2 = w3 := hw3.symm)
                 go_meet
                 case rel => exact ⟨⟨true, rfl, ⟨(fun h => by cases h), fun hp => by rw [HFP.out] at hp; exact absurd (hp.2.2.2.2.2.2) HN.out⟩⟩, by first | trivial | rfl⟩
               ·have HN := Hd d6
                have d6f : epB x85 = false := by simpa using d6
                clear d6
                go_wp2_with (go_at_call 19; refine (zdq _ _).mono ?_; rintro r w3 ⟨rfl, hw3⟩; obtain rfl : w2 = w3 := hw3.symm)
                go_meet
                case rel => exact ⟨⟨true, rfl, ⟨(fun h => by cases h), fun hp => by rw [HFP.out] at hp; exact absurd (hp.2.2.2.2.2.1) HN.out⟩⟩, by first | trivial | rfl⟩
              ·have HN := Hd d5
               have d5f : epB x84 = false := by simpa using d5
               clear d5
               go_wp2_with (go_at_call 19; refine (zdq _ _).mono ?_; rintro r w3 ⟨rfl, hw3⟩; obtain rfl : w2 = w3 := hw3.symm)
               go_meet
               case rel => exact ⟨⟨true, rfl, ⟨(fun h => by cases h), fun hp => by rw [HFP.out] at hp; exact absurd (hp.2.2.2.2.1) HN.out⟩⟩, by first | trivial | rfl⟩
             ·have HN := Hd d4
              have d4f : epB x83 = false := by simpa using d4
              clear d4
              go_wp2_with (go_at_call 19; refine (zdq _ _).mono ?_; rintro r w3 ⟨rfl, hw3⟩; obtain rfl : w2 = w3 := hw3.symm)
              go_meet
              case rel => exact ⟨⟨true, rfl, ⟨(fun h => by cases h), fun hp => by rw [HFP.out] at hp; exact absurd (hp.2.2.2.1) HN.out⟩⟩, by first | trivial | rfl⟩
            ·have HN := Hd d3
             have d3f : epB x82 = false := by simpa using d3
             clear d3
             go_wp2_with (go_at_call 19; refine (zdq _ _).mono ?_; rintro r w3 ⟨rfl, hw3⟩; obtain rfl : w2 = w3 := hw3.symm)
             go_meet
             case rel => exact ⟨⟨true, rfl, ⟨(fun h => by cases h), fun hp => by rw [HFP.out] at hp; exact absurd (hp.2.2.1) HN.out⟩⟩, by first | trivial | rfl⟩
           ·have HN := Hd d2
            have dq : (((x80 : Int) % 1000000000) != 0) = true := by rw [bne_iff_ne]; omega
            clear d2
            go_wp2_with (go_at_call 19; refine (zdq _ _).mono ?_; rintro r w3 ⟨rfl, hw3⟩; obtain rfl : w2 = w3 := hw3.symm)
            go_meet
            case rel => exact ⟨⟨true, rfl, ⟨(fun h => by cases h), fun hp => by rw [HFP.out] at hp; exact absurd (hp.2.1) HN.out⟩⟩, by first | trivial | rfl⟩
          ·have HN := Hd d1
           have dd1 : decide ((32000000000 : Int) < (x80 : Int)) = true := decide_eq_true (by omega)
           clear d1
           go_wp2_with (go_at_call 19; refine (zdq _ _).mono ?_; rintro r w3 ⟨rfl, hw3⟩; obtain rfl : w2 = w3 := hw3.symm)
           go_meet
           case rel => exact ⟨⟨true, rfl, ⟨(fun h => by cases h), fun hp => by rw [HFP.out] at hp; exact absurd (hp.1) HN.out⟩⟩, by first | trivial | rfl⟩
         case rest =>
          obtain ⟨⟨b, rfl, hF⟩, rfl⟩ := hcut
          rw [HFP.out] at hF
          have HFx := Hd hF
          clear HFP FP hF
          cases b with
          | true =>
           go_wp2_with fail
           go_ret
           exact ⟨false, rfl, ⟨(fun h => by cases h), fun hr => absurd (HFx.out.2 (HVI.out ((HI.out hr).2.2.2.1 k h1))) (by simp)⟩, HB1.out.trans ((HB.out.trans (HB2.out.mono hsz)).mono HB1.out.size)⟩
          | false =>
           have hF := HFx.out.1
           clear HFx
           have HF4 := Hd (hF rfl)
           clear hF
           go_wp2_with fail
           go_roundw
           case rel => exact ⟨k + 1, by go_num, by omega, fun j hj => by
            by_cases e : j = k
            ·subst e; exact HVO.out HF4.out
            ·exact HV2.out j (by omega), HB.out.trans (HB2.out.mono hsz)⟩
           case measure => simp [intOf]; omega
        ·obtain rfl : nV = k := by omega
         have RBa := Hd (((RB0.out.below HB1.out).more HB1.out.size).below HB.out)
         have RSl := Hd (Rd.of_part (o := 979) (n := 8) (f := fun i => .int .u64 ((nat (F (979 + i)) : Nat) : Int)) (zaj HR1.out HB.out hlt) (by omega) (fun i hi => (SL0.out i hi).1))
         have h722 := H722.out
         have CUT := Hd (fun wz => zbp (P := Tryd.prog) (w := wz) Ty38 1 (by kernel_rfl) (g := w.heap.size) (o := 979) none none 0 8 (.inl ⟨rfl, rfl⟩) (.inl ⟨rfl, rfl⟩) (by omega) (by omega) (by omega) (off := 979) (len := 8) (cap := 8) (by omega) (by omega) (by omega))
         have HF := HR.out hn (by trivial) (by trivial) (by trivial) (by trivial) HF2.out.1 HF2.out.2.1 hs40 HF2.out.2.2.2.1 HF2.out.2.2.2.2 (HNow.out ▸ HF3.out.1) (HNow.out ▸ HF3.out.2.1) (HNow.out ▸ HF3.out.2.2) HV2.out
         have HFI := Hd HF
         clear HF
         have HSA := Hd (zkr aB nV cB (fun i => nat (Bal i)) wr w1.heap.size RBa.out BB0.out (lT hn (by unfold maxLen; omega)))
         have HSZ := Hd (zkr (some ⟨w.heap.size, 979, none⟩) 8 8 (fun i => nat (F (979 + i))) wr wr.heap.size RSl.out (fun i hi => (SL0.out i hi).2) (by unfold maxLen; omega))
         have HFK := Hd (fun hr => (⟨decide_eq_true (HI.out hr).2.2.2.2.1, decide_eq_true (HI.out hr).2.2.2.2.2⟩ : sumB (fun i => nat (Bal i)) nV = true ∧ sumB (fun i => nat (F (979 + i))) 8 = true))
         have HFJ : Hid (sumB (fun i => nat (Bal i)) nV = true → sumB (fun i => nat (F (979 + i))) 8 = true → _) := Hd (fun h1 h2 => HFI.out (of_decide_eq_true h1) (of_decide_eq_true h2))
         generalize sumB (fun i => nat (Bal i)) nV = b1 at *
         generalize sumB (fun i => nat (F (979 + i))) 8 = b2 at *
         clear HR HC HI HF2 HF3 HV2 HNow RSl RBa SL0 BB0 RB0 HS HFI
         have tok := Tok.mk 1
         cases b1 with
         | false =>
          go_wp2_with (go_at_call 20; refine HSA.out.mono ?_; rintro r w2 ⟨rfl, hw2⟩; obtain rfl : wr = w2 := hw2.symm)
          go_ret
          exact ⟨false, rfl, ⟨(fun h => by cases h), fun hr => absurd (HFK.out hr).1 (by simp)⟩, HB1.out.trans (HB.out.mono HB1.out.size)⟩
         | true =>
          go_wp2_with (first
           | (go_at_call 20; have hx : Tok 1 := (by assumption); clear hx tok; refine HSA.out.mono ?_; rintro r w2 ⟨rfl, hw2⟩; obtain rfl : wr = w2 := hw2.symm; have tok2 := Tok.mk 2)
           | (refine zhj rfl rfl rfl 38 (.tmp 145) none none rfl rfl CUT.out rfl rfl ?_)
           | (go_at_call 20; have hx : Tok 2 := (by assumption); clear hx; refine HSZ.out.mono ?_; rintro r w2 ⟨rfl, hw2⟩; obtain rfl : wr = w2 := hw2.symm))
          go_ret
          exact ⟨_, rfl, ⟨fun h => HFJ.out (by trivial) h, fun hr => (HFK.out hr).2⟩, HB1.out.trans (HB.out.mono HB1.out.size)⟩
end Go.Proofs.YtomilckcgmhfcaaDoor
