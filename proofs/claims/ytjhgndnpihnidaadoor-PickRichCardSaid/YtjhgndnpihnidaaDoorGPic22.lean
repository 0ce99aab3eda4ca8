/- A part of what the proofs stand on: Right, Laid, ShaLaid. -/
import Derived.Test.YtjhgndnpihnidaaDoorGPic21
import Derived.Test.YtjhgndnpihnidaaDoorGPic8
import Derived.Test.YtjhgndnpihnidaaDoorGPic2
import Derived.Test.YtjhgndnpihnidaaDoorGPic4
import Derived.WideKeyArr2
import Derived.Lib.LaidTab
import Derived.Deep.DeepHandedRow
import Derived.Test.YtjhgndnpihnidaaDoorGPic11
import Derived.KernelRfl
/- Is a state right? (Printed by a program of mine.) -/
namespace Go.Proofs.YtjhgndnpihnidaaDoor
set_option maxRecDepth 40000
open Go.RowKit

/-- What a right state is known to be. -/
structure RightF (s : StV) : Prop where
  n : s.nV ≤ 65536
  nB : s.nB = s.nV
  nP : s.nP = s.nV
  nC : s.nC = s.nV
  nS : s.nS = s.nV
  nH : s.nH ≤ 1024
  nE : s.nE ≤ 8
  slot : nat (s.F 33) < 1099511627776
  dep : nat (s.F 720) < 1099511627776
  head : nat (s.F 43) ≤ nat (s.F 33)
  oldJ : nat (s.F 993) ≤ nat (s.F 33) / 4
  just : nat (s.F 1026) ≤ nat (s.F 33) / 4
  fin : nat (s.F 1059) ≤ nat (s.F 33) / 4
  val : ∀ i, i < s.nV → effF s.V i ≤ 32000000000 ∧ effF s.V i % 1000000000 = 0 ∧ epB (nat (s.V (i * 86 + 82))) = true ∧ epB (nat (s.V (i * 86 + 83))) = true ∧ epB (nat (s.V (i * 86 + 84))) = true ∧ epB (nat (s.V (i * 86 + 85))) = true ∧ nat (s.Sco i) ≤ 1099511627776
  bal : sumTo (fun i => nat (s.Bal i)) s.nB ≤ 144115188075855872
  sla : sumTo (fun i => nat (s.F (979 + i))) 8 ≤ 144115188075855872
/-- A validator that is right. -/
def valOk (V Sco : Nat → Value) (i : Nat) : Prop := effF V i ≤ 32000000000 ∧ effF V i % 1000000000 = 0 ∧ epB (nat (V (i * 86 + 82))) = true ∧ epB (nat (V (i * 86 + 83))) = true ∧ epB (nat (V (i * 86 + 84))) = true ∧ epB (nat (V (i * 86 + 85))) = true ∧ nat (Sco i) ≤ 1099511627776

theorem F979 {F : Nat → Value} (h : Sc F 49) (i : Nat) (hi : i < 8) : F (979 + i) = .int .u64 ((nat (F (979 + i)) : Nat) : Int) ∧ nat (F (979 + i)) < 18446744073709551616 := by
  have h8 : i = 0 ∨ i = 1 ∨ i = 2 ∨ i = 3 ∨ i = 4 ∨ i = 5 ∨ i = 6 ∨ i = 7 := by omega
  rcases h8 with rfl | rfl | rfl | rfl | rfl | rfl | rfl | rfl <;> exact h.u64 _ (by kernel_rfl)
/-- A bool that is false just where p holds. -/
def CutB (v : Value) (p : Prop) : Prop := ∃ b, v = .bool b ∧ (b = false → p)
def RightQ (s : StV) (w : World) (r : Ending) (w' : World) : Prop := ∃ b, r = .returned (.bool b) ∧ (b = true → RightF s) ∧ Below w.heap.size w w'
set_option maxRecDepth 20000 in
set_option maxHeartbeats 20000000 in
theorem right_any (s : StV) (w : World) (hS : StOk w w.heap.size s) : Calls Tryd.prog 13 #[.agg (arr 1957 s.F)] w (RightQ s w) := by
  have HS := Lib.hid hS
  obtain ⟨F, aV, nV, cV, V, aB, nB, cB, Bal, aP, nP, cP, Prv, aC, nC, cC, Cur, aS, nS, cS, Sco, aH, nH, cH, His, aE, nE, cE, Vot⟩ := s
  have hle : nV ≤ 9223372036854775807 := by have := hS.lV; unfold maxLen at this; simp only at this; omega
  have E33 := Lib.hid (hS.sc.u64 33 (by kernel_rfl)).1
  have E720 := Lib.hid (hS.sc.u64 720 (by kernel_rfl)).1
  have E43 := Lib.hid (hS.sc.u64 43 (by kernel_rfl)).1
  have E993 := Lib.hid (hS.sc.u64 993 (by kernel_rfl)).1
  have E1026 := Lib.hid (hS.sc.u64 1026 (by kernel_rfl)).1
  have E1059 := Lib.hid (hS.sc.u64 1059 (by kernel_rfl)).1
  simp only at E33 E720 E43 E993 E1026 E1059
  have HR : Hid (nV ≤ 65536 → nB = nV → nP = nV → nC = nV → nS = nV → nH ≤ 1024 → nE ≤ 8 → nat (F 33) < 1099511627776 → nat (F 720) < 1099511627776 → nat (F 43) ≤ nat (F 33) → nat (F 993) ≤ nat (F 33) / 4 → nat (F 1026) ≤ nat (F 33) / 4 → nat (F 1059) ≤ nat (F 33) / 4 →
      (∀ i, i < nV → valOk V Sco i) → sumTo (fun i => nat (Bal i)) nB ≤ 144115188075855872 → sumTo (fun i => nat (F (979 + i))) 8 ≤ 144115188075855872 → RightF ⟨F, aV, nV, cV, V, aB, nB, cB, Bal, aP, nP, cP, Prv, aC, nC, cC, Cur, aS, nS, cS, Sco, aH, nH, cH, His, aE, nE, cE, Vot⟩) :=
    Lib.hid (fun a1 a2 a3 a4 a5 a6 a7 a8 a9 a10 a11 a12 a13 a14 a15 a16 => ⟨a1, a2, a3, a4, a5, a6, a7, a8, a9, a10, a11, a12, a13, a14, a15, a16⟩)
  have RB0 := Lib.hid (show Rd w w.heap.size aB nB (fun i => .int .u64 ((nat (Bal i) : Nat) : Int)) from hS.rB.congr (fun i hi => (hS.scB i hi).1))
  have BB0 := Lib.hid (show ∀ i, i < nB → nat (Bal i) < 18446744073709551616 from fun i hi => (hS.scB i hi).2)
  have SL0 := Lib.hid (show ∀ i, i < 8 → F (979 + i) = .int .u64 ((nat (F (979 + i)) : Nat) : Int) ∧ nat (F (979 + i)) < 18446744073709551616 from F979 hS.sc)
  clear hS
  generalize nat (F 33) = v33 at *
  generalize nat (F 720) = v720 at *
  generalize nat (F 43) = v43 at *
  generalize nat (F 993) = v993 at *
  generalize nat (F 1026) = v1026 at *
  generalize nat (F 1059) = v1059 at *
  have HC : Hid (∀ (w1 : World) (b : Nat), w1.rowIs b 49 1957 F → w1.cell? ⟨b, 653, none⟩ = some (.slice aH nH cH) ∧ w1.cell? ⟨b, 719, none⟩ = some (.slice aE nE cE) ∧ w1.cell? ⟨b, 721, none⟩ = some (.slice aV nV cV) ∧ w1.cell? ⟨b, 722, none⟩ = some (.slice aB nB cB) ∧ w1.cell? ⟨b, 987, none⟩ = some (.slice aP nP cP) ∧ w1.cell? ⟨b, 988, none⟩ = some (.slice aC nC cC) ∧ w1.cell? ⟨b, 1092, none⟩ = some (.slice aS nS cS) ∧ w1.cell? ⟨b, 33, none⟩ = some (.int .u64 (v33 : Int)) ∧ w1.cell? ⟨b, 720, none⟩ = some (.int .u64 (v720 : Int)) ∧ w1.cell? ⟨b, 43, none⟩ = some (.int .u64 (v43 : Int)) ∧ w1.cell? ⟨b, 993, none⟩ = some (.int .u64 (v993 : Int)) ∧ w1.cell? ⟨b, 1026, none⟩ = some (.int .u64 (v1026 : Int)) ∧ w1.cell? ⟨b, 1059, none⟩ = some (.int .u64 (v1059 : Int))) :=
    Lib.hid (fun w1 b hr => ⟨(hr.cell (by omega)).trans (congrArg some HS.out.f7), (hr.cell (by omega)).trans (congrArg some HS.out.f9), (hr.cell (by omega)).trans (congrArg some HS.out.f11), (hr.cell (by omega)).trans (congrArg some HS.out.f12), (hr.cell (by omega)).trans (congrArg some HS.out.f15), (hr.cell (by omega)).trans (congrArg some HS.out.f16), (hr.cell (by omega)).trans (congrArg some HS.out.f21), (hr.cell (by omega)).trans (congrArg some E33.out), (hr.cell (by omega)).trans (congrArg some E720.out), (hr.cell (by omega)).trans (congrArg some E43.out), (hr.cell (by omega)).trans (congrArg some E993.out), (hr.cell (by omega)).trans (congrArg some E1026.out), (hr.cell (by omega)).trans (congrArg some E1059.out)⟩)
  clear E33 E720 E43 E993 E1026 E1059
  obtain ⟨now, hnow⟩ : ∃ now, now = v33 / 4 := ⟨_, rfl⟩
  have HD := Lib.hid (show (v33 : Int) / 4 = (now : Int) by omega)
  have HNow := Lib.hid hnow
  clear hnow
  go_enter Tryd.func13, Tryd.ntmps13
  obtain ⟨FP, hFP⟩ : ∃ FP : Prop, FP = (nV ≤ 65536 ∧ nV = nB ∧ nV = nP ∧ nV = nC ∧ nV = nS) := ⟨_, rfl⟩
  have HFP := Lib.hid hFP
  clear hFP
  go_upto_region 2 with (refine wpList_box rfl _ _ rfl 1957 F rfl ?_; intro w1 hr1 hb1; have HR1 := Lib.hid hr1; have HB1 := Lib.hid hb1; obtain ⟨h653, h719, h721, h722, h987, h988, h1092, h33, h720, h43, h993, h1026, h1059⟩ := HC.out _ _ hr1; clear hr1 hb1)
  go_cut [39] from 10 to 39 (fun v wx => CutB v FP ∧ w1 = wx)
  case first =>
    by_cases a1 : nV ≤ 65536
    · have da1 : decide ((65536 : Int) < (nV : Int)) = false := decide_eq_false (by omega)
      have A1 := Lib.hid a1
      clear a1
      by_cases a2 : nB = nV
      · obtain rfl : nV = nB := a2.symm
        by_cases a3 : nP = nV
        · obtain rfl : nV = nP := a3.symm
          by_cases a4 : nC = nV
          · obtain rfl : nV = nC := a4.symm
            by_cases a5 : nS = nV
            · obtain rfl : nV = nS := a5.symm
              go_wp2_with fail
              go_meet
              case rel => exact ⟨⟨false, rfl, fun _ => by rw [HFP.out]; exact ⟨A1.out, by trivial, by trivial, by trivial, by trivial⟩⟩, by first | trivial | rfl⟩
            · have da5 : ((nV : Int) != (nS : Int)) = true := by rw [bne_iff_ne]; omega
              clear a5
              go_wp2_with fail
              go_meet
              case rel => exact ⟨⟨true, rfl, (fun h => by cases h)⟩, by first | trivial | rfl⟩
          · have da4 : ((nV : Int) != (nC : Int)) = true := by rw [bne_iff_ne]; omega
            clear a4
            go_wp2_with fail
            go_meet
            case rel => exact ⟨⟨true, rfl, (fun h => by cases h)⟩, by first | trivial | rfl⟩
        · have da3 : ((nV : Int) != (nP : Int)) = true := by rw [bne_iff_ne]; omega
          clear a3
          go_wp2_with fail
          go_meet
          case rel => exact ⟨⟨true, rfl, (fun h => by cases h)⟩, by first | trivial | rfl⟩
      · have da2 : ((nV : Int) != (nB : Int)) = true := by rw [bne_iff_ne]; omega
        clear a2
        go_wp2_with fail
        go_meet
        case rel => exact ⟨⟨true, rfl, (fun h => by cases h)⟩, by first | trivial | rfl⟩
    · have da1 : decide ((65536 : Int) < (nV : Int)) = true := decide_eq_true (by omega)
      clear a1
      go_wp2_with fail
      go_meet
      case rel => exact ⟨⟨true, rfl, (fun h => by cases h)⟩, by first | trivial | rfl⟩
  case rest =>
    obtain ⟨⟨b, rfl, hF⟩, rfl⟩ := hcut
    rw [HFP.out] at hF
    clear HFP FP
    cases b with
    | true =>
      go_wp2_with fail
      go_ret
      exact ⟨false, rfl, (fun h => by cases h), HB1.out⟩
    | false =>
      obtain ⟨hn, rfl, rfl, rfl, rfl⟩ := hF rfl
      clear hF
      obtain ⟨FP, hFP⟩ : ∃ FP : Prop, FP = (nH ≤ 1024 ∧ nE ≤ 8 ∧ v33 < 1099511627776 ∧ v720 < 1099511627776 ∧ v43 ≤ v33) := ⟨_, rfl⟩
      have HFP := Lib.hid hFP
      clear hFP
      go_upto_region 4 with fail
      go_cut [67] from 40 to 67 (fun v wx => CutB v FP ∧ w1 = wx)
      case first =>
        by_cases b1 : nH ≤ 1024
        · have db1 : decide ((1024 : Int) < (nH : Int)) = false := decide_eq_false (by omega)
          have B1 := Lib.hid b1
          clear b1
          by_cases b2 : nE ≤ 8
          · have db2 : decide ((8 : Int) < (nE : Int)) = false := decide_eq_false (by omega)
            have B2 := Lib.hid b2
            clear b2
            by_cases b3 : v33 < 1099511627776
            · have db3 : decide ((1099511627776 : Int) ≤ (v33 : Int)) = false := decide_eq_false (by omega)
              have B3 := Lib.hid b3
              clear b3
              by_cases b4 : v720 < 1099511627776
              · have db4 : decide ((1099511627776 : Int) ≤ (v720 : Int)) = false := decide_eq_false (by omega)
                have B4 := Lib.hid b4
                clear b4
                by_cases b5 : v43 ≤ v33
                · have b5i : ¬ (v33 : Int) < (v43 : Int) := by omega
                  have B5 := Lib.hid b5
                  clear b5
                  go_wp2_with fail
                  go_meet
                  case rel => exact ⟨⟨false, rfl, fun _ => by rw [HFP.out]; exact ⟨B1.out, B2.out, B3.out, B4.out, B5.out⟩⟩, by first | trivial | rfl⟩
                · have b5i : (v33 : Int) < (v43 : Int) := by omega
                  clear b5
                  go_wp2_with fail
                  go_meet
                  case rel => exact ⟨⟨true, rfl, (fun h => by cases h)⟩, by first | trivial | rfl⟩
              · have db4 : decide ((1099511627776 : Int) ≤ (v720 : Int)) = true := decide_eq_true (by omega)
                clear b4
                go_wp2_with fail
                go_meet
                case rel => exact ⟨⟨true, rfl, (fun h => by cases h)⟩, by first | trivial | rfl⟩
            · have db3 : decide ((1099511627776 : Int) ≤ (v33 : Int)) = true := decide_eq_true (by omega)
              clear b3
              go_wp2_with fail
              go_meet
              case rel => exact ⟨⟨true, rfl, (fun h => by cases h)⟩, by first | trivial | rfl⟩
          · have db2 : decide ((8 : Int) < (nE : Int)) = true := decide_eq_true (by omega)
            clear b2
            go_wp2_with fail
            go_meet
            case rel => exact ⟨⟨true, rfl, (fun h => by cases h)⟩, by first | trivial | rfl⟩
        · have db1 : decide ((1024 : Int) < (nH : Int)) = true := decide_eq_true (by omega)
          clear b1
          go_wp2_with fail
          go_meet
          case rel => exact ⟨⟨true, rfl, (fun h => by cases h)⟩, by first | trivial | rfl⟩
      case rest =>
        obtain ⟨⟨b, rfl, hF⟩, rfl⟩ := hcut
        rw [HFP.out] at hF
        clear HFP FP
        cases b with
        | true =>
          go_wp2_with fail
          go_ret
          exact ⟨false, rfl, (fun h => by cases h), HB1.out⟩
        | false =>
          have HF2 := Lib.hid (hF rfl)
          clear hF
          have hs40 := HF2.out.2.2.1
          obtain ⟨FP, hFP⟩ : ∃ FP : Prop, FP = (v993 ≤ now ∧ v1026 ≤ now ∧ v1059 ≤ now) := ⟨_, rfl⟩
          have HFP := Lib.hid hFP
          clear hFP
          go_upto_region 7 with fail
          rw [HD.out]
          clear HD
          go_cut [89] from 71 to 89 (fun v wx => CutB v FP ∧ w1 = wx)
          case first =>
            by_cases c1 : v993 ≤ now
            · have c1i : ¬ (now : Int) < (v993 : Int) := by omega
              have C1 := Lib.hid c1
              clear c1
              by_cases c2 : v1026 ≤ now
              · have c2i : ¬ (now : Int) < (v1026 : Int) := by omega
                have C2 := Lib.hid c2
                clear c2
                by_cases c3 : v1059 ≤ now
                · have c3i : ¬ (now : Int) < (v1059 : Int) := by omega
                  have C3 := Lib.hid c3
                  clear c3
                  go_wp2_with fail
                  go_meet
                  case rel => exact ⟨⟨false, rfl, fun _ => by rw [HFP.out]; exact ⟨C1.out, C2.out, C3.out⟩⟩, by first | trivial | rfl⟩
                · have c3i : (now : Int) < (v1059 : Int) := by omega
                  clear c3
                  go_wp2_with fail
                  go_meet
                  case rel => exact ⟨⟨true, rfl, (fun h => by cases h)⟩, by first | trivial | rfl⟩
              · have c2i : (now : Int) < (v1026 : Int) := by omega
                clear c2
                go_wp2_with fail
                go_meet
                case rel => exact ⟨⟨true, rfl, (fun h => by cases h)⟩, by first | trivial | rfl⟩
            · have c1i : (now : Int) < (v993 : Int) := by omega
              clear c1
              go_wp2_with fail
              go_meet
              case rel => exact ⟨⟨true, rfl, (fun h => by cases h)⟩, by first | trivial | rfl⟩
          case rest =>
            obtain ⟨⟨b, rfl, hF⟩, rfl⟩ := hcut
            rw [HFP.out] at hF
            clear HFP FP
            cases b with
            | true =>
              go_wp2_with fail
              go_ret
              exact ⟨false, rfl, (fun h => by cases h), HB1.out⟩
            | false =>
              have HF3 := Lib.hid (hF rfl)
              clear hF
              go_wp2_with fail
              have hlt := HR1.out.lt
              go_loopw [5] (fun i wr => ∃ k : Nat, i = .int .i64 (k : Int) ∧ k ≤ nV ∧ (∀ j, j < k → valOk V Sco j) ∧ Below w1.heap.size w1 wr) (fun i _ => nV - (intOf i).toNat)
              case atStart => exact ⟨0, rfl, Nat.zero_le _, fun j hj => absurd hj (Nat.not_lt_zero _), Below.refl _ _⟩
              case round =>
                obtain ⟨k, rfl, hk, hv, hb⟩ := hrel
                have HV2 := Lib.hid hv
                have HB := Lib.hid hb
                have hsz := hb.size
                have hltr : w.heap.size < wr.heap.size := by omega
                have h7 : wr.cell? ⟨w.heap.size, 721, none⟩ = some (.slice aV nV cV) := (hb.cell hlt).trans h721
                have h7s : wr.cell? ⟨w.heap.size, 1092, none⟩ = some (.slice aS nV cS) := (hb.cell hlt).trans h1092
                have H722 := Lib.hid ((hb.cell (p := ⟨w.heap.size, 722, none⟩) hlt).trans h722)
                clear hv hb h721 h1092 h722 h653 h719 h987 h988 h33 h720 h43 h993 h1026 h1059
                by_cases h1 : k < nV
                · obtain ⟨ad, rfl, hb2, hc1, -⟩ := ((HS.out.vok.below HB1.out).more HB1.out.size).below HB.out |>.at_ h1
                  have HC1 := Lib.hid hc1
                  have HSC := Lib.hid (HS.out.scV k h1)
                  obtain ⟨ad2, rfl, hbs, hcs⟩ := (((HS.out.rS.below HB1.out).more HB1.out.size).below HB.out).at_ h1
                  have hbs3 : ad2.block < wr.heap.size := by omega
                  rw [(HS.out.scS k h1).1] at hcs
                  have X80 := Lib.hid (HSC.out.u64 80 (by kernel_rfl)).1
                  have X82 := Lib.hid (HSC.out.u64 82 (by kernel_rfl)).1
                  have X83 := Lib.hid (HSC.out.u64 83 (by kernel_rfl)).1
                  have X84 := Lib.hid (HSC.out.u64 84 (by kernel_rfl)).1
                  have X85 := Lib.hid (HSC.out.u64 85 (by kernel_rfl)).1
                  have HVO : Hid (nat (V (k * 86 + 80)) ≤ 32000000000 ∧ nat (V (k * 86 + 80)) % 1000000000 = 0 ∧ epB (nat (V (k * 86 + 82))) = true ∧ epB (nat (V (k * 86 + 83))) = true ∧ epB (nat (V (k * 86 + 84))) = true ∧ epB (nat (V (k * 86 + 85))) = true ∧ nat (Sco k) ≤ 1099511627776 → valOk V Sco k) := Lib.hid id
                  clear hc1
                  simp only at X80 X82 X83 X84 X85 hcs
                  generalize nat (V (k * 86 + 80)) = x80 at *
                  generalize nat (V (k * 86 + 82)) = x82 at *
                  generalize nat (V (k * 86 + 83)) = x83 at *
                  generalize nat (V (k * 86 + 84)) = x84 at *
                  generalize nat (V (k * 86 + 85)) = x85 at *
                  generalize nat (Sco k) = xs at *
                  obtain ⟨FP, hFP⟩ : ∃ FP : Prop, FP = (x80 ≤ 32000000000 ∧ x80 % 1000000000 = 0 ∧ epB x82 = true ∧ epB x83 = true ∧ epB x84 = true ∧ epB x85 = true ∧ xs ≤ 1099511627776) := ⟨_, rfl⟩
                  have HFP := Lib.hid hFP
                  clear hFP
                  go_upto_region 13 with (first
                    | (refine wpList_load_rd rfl 57 _ rfl 86 _ Tryd.underlying57 rfl (by kernel_rfl) (ad.add (k * 86)) rfl (fun q => V (k * 86 + q)) HC1.out ?_)
                    | (refine wpList_new rfl rfl 57 57 6 (.tmp 99) rfl rfl rfl 86 (zeroOf Tryd.prog 57) (by kernel_rfl) (by kernel_rfl) (arr 86 fun q => V (k * 86 + q)) rfl rfl (size_arr _ _) (by kernel_rfl) (HSC.out.one (by kernel_rfl)) (fun q => V (k * 86 + q)) (fun q hq => arr_at _ _ _ hq) ?_; intro w2 hr2 hb2; have HB2 := Lib.hid hb2; have h80 := (hr2.cell (i := 80) (by omega)).trans (congrArg some X80.out); have h82 := (hr2.cell (i := 82) (by omega)).trans (congrArg some X82.out); have h83 := (hr2.cell (i := 83) (by omega)).trans (congrArg some X83.out); have h84 := (hr2.cell (i := 84) (by omega)).trans (congrArg some X84.out); have h85 := (hr2.cell (i := 85) (by omega)).trans (congrArg some X85.out); have h7b := (hb2.cell (p := ⟨w.heap.size, 1092, none⟩) hltr).trans h7s; have hcs2 := (hb2.cell (p := ad2.add k) (by rw [block_of_add]; exact hbs3)).trans hcs; clear hr2 hb2 h7s hcs; simp only [Act.put, List.setIfInBounds_toArray, List.set_cons_succ, List.set_cons_zero]))
                  go_cut [140] from 100 to 140 (fun v wx => CutB v FP ∧ w2 = wx)
                  case first =>
                    by_cases d1 : x80 ≤ 32000000000
                    · have dd1 : decide ((32000000000 : Int) < (x80 : Int)) = false := decide_eq_false (by omega)
                      have D1 := Lib.hid d1
                      clear d1
                      by_cases d2 : x80 % 1000000000 = 0
                      · have dq : (((x80 : Int) % 1000000000) != 0) = false := by rw [bne_eq_false_iff_eq]; omega
                        have D2 := Lib.hid d2
                        clear d2
                        by_cases d3 : epB x82 = true
                        · have D3 := Lib.hid d3
                          by_cases d4 : epB x83 = true
                          · have D4 := Lib.hid d4
                            by_cases d5 : epB x84 = true
                            · have D5 := Lib.hid d5
                              by_cases d6 : epB x85 = true
                              · have D6 := Lib.hid d6
                                by_cases d7 : xs ≤ 1099511627776
                                · have dd7 : decide ((1099511627776 : Int) < (xs : Int)) = false := decide_eq_false (by omega)
                                  have D7 := Lib.hid d7
                                  clear d7
                                  go_wp2_with (go_at_call 43; refine (epoch_any _ _).mono ?_; rintro r w3 ⟨rfl, hw3⟩; obtain rfl : w2 = w3 := hw3.symm)
                                  go_meet
                                  case rel => exact ⟨⟨false, rfl, fun _ => by rw [HFP.out]; exact ⟨D1.out, D2.out, D3.out, D4.out, D5.out, D6.out, D7.out⟩⟩, by first | trivial | rfl⟩
                                · have dd7 : decide ((1099511627776 : Int) < (xs : Int)) = true := decide_eq_true (by omega)
                                  clear d7
                                  go_wp2_with (go_at_call 43; refine (epoch_any _ _).mono ?_; rintro r w3 ⟨rfl, hw3⟩; obtain rfl : w2 = w3 := hw3.symm)
                                  go_meet
                                  case rel => exact ⟨⟨true, rfl, (fun h => by cases h)⟩, by first | trivial | rfl⟩
                              · have d6f : epB x85 = false := by simpa using d6
                                clear d6
                                go_wp2_with (go_at_call 43; refine (epoch_any _ _).mono ?_; rintro r w3 ⟨rfl, hw3⟩; obtain rfl : w2 = w3 := hw3.symm)
                                go_meet
                                case rel => exact ⟨⟨true, rfl, (fun h => by cases h)⟩, by first | trivial | rfl⟩
                            · have d5f : epB x84 = false := by simpa using d5
                              clear d5
                              go_wp2_with (go_at_call 43; refine (epoch_any _ _).mono ?_; rintro r w3 ⟨rfl, hw3⟩; obtain rfl : w2 = w3 := hw3.symm)
                              go_meet
                              case rel => exact ⟨⟨true, rfl, (fun h => by cases h)⟩, by first | trivial | rfl⟩
                          · have d4f : epB x83 = false := by simpa using d4
                            clear d4
                            go_wp2_with (go_at_call 43; refine (epoch_any _ _).mono ?_; rintro r w3 ⟨rfl, hw3⟩; obtain rfl : w2 = w3 := hw3.symm)
                            go_meet
                            case rel => exact ⟨⟨true, rfl, (fun h => by cases h)⟩, by first | trivial | rfl⟩
                        · have d3f : epB x82 = false := by simpa using d3
                          clear d3
                          go_wp2_with (go_at_call 43; refine (epoch_any _ _).mono ?_; rintro r w3 ⟨rfl, hw3⟩; obtain rfl : w2 = w3 := hw3.symm)
                          go_meet
                          case rel => exact ⟨⟨true, rfl, (fun h => by cases h)⟩, by first | trivial | rfl⟩
                      · have dq : (((x80 : Int) % 1000000000) != 0) = true := by rw [bne_iff_ne]; omega
                        clear d2
                        go_wp2_with (go_at_call 43; refine (epoch_any _ _).mono ?_; rintro r w3 ⟨rfl, hw3⟩; obtain rfl : w2 = w3 := hw3.symm)
                        go_meet
                        case rel => exact ⟨⟨true, rfl, (fun h => by cases h)⟩, by first | trivial | rfl⟩
                    · have dd1 : decide ((32000000000 : Int) < (x80 : Int)) = true := decide_eq_true (by omega)
                      clear d1
                      go_wp2_with (go_at_call 43; refine (epoch_any _ _).mono ?_; rintro r w3 ⟨rfl, hw3⟩; obtain rfl : w2 = w3 := hw3.symm)
                      go_meet
                      case rel => exact ⟨⟨true, rfl, (fun h => by cases h)⟩, by first | trivial | rfl⟩
                  case rest =>
                    obtain ⟨⟨b, rfl, hF⟩, rfl⟩ := hcut
                    rw [HFP.out] at hF
                    clear HFP FP
                    cases b with
                    | true =>
                      go_wp2_with fail
                      go_ret
                      exact ⟨false, rfl, (fun h => by cases h), HB1.out.trans ((HB.out.trans (HB2.out.mono hsz)).mono HB1.out.size)⟩
                    | false =>
                      have HF4 := Lib.hid (hF rfl)
                      clear hF
                      go_wp2_with fail
                      go_roundw
                      case rel => exact ⟨k + 1, by go_num, by omega, fun j hj => by
                        by_cases e : j = k
                        · subst e; exact HVO.out HF4.out
                        · exact HV2.out j (by omega), HB.out.trans (HB2.out.mono hsz)⟩
                      case measure => simp [intOf]; omega
                · obtain rfl : nV = k := by omega
                  have RBa := Lib.hid (((RB0.out.below HB1.out).more HB1.out.size).below HB.out)
                  have RSl := Lib.hid (Rd.of_part (o := 979) (n := 8) (f := fun i => .int .u64 ((nat (F (979 + i)) : Nat) : Int)) (row_below HR1.out HB.out hlt) (by omega) (fun i hi => (SL0.out i hi).1))
                  have h722 := H722.out
                  have CUT := Lib.hid (fun wz => cut_arr (P := Tryd.prog) (w := wz) Tryd.underlying38 1 (by kernel_rfl) (g := w.heap.size) (o := 979) none none 0 8 (.inl ⟨rfl, rfl⟩) (.inl ⟨rfl, rfl⟩) (by omega) (by omega) (by omega) (off := 979) (len := 8) (cap := 8) (by omega) (by omega) (by omega))
                  have HF := HR.out hn (by trivial) (by trivial) (by trivial) (by trivial) HF2.out.1 HF2.out.2.1 hs40 HF2.out.2.2.2.1 HF2.out.2.2.2.2 (HNow.out ▸ HF3.out.1) (HNow.out ▸ HF3.out.2.1) (HNow.out ▸ HF3.out.2.2) HV2.out
                  have HFI := Lib.hid HF
                  clear HF
                  have HSA := Lib.hid (sum10_any aB nV cB (fun i => nat (Bal i)) wr w1.heap.size RBa.out BB0.out (Nat.le_trans hn (by unfold maxLen; omega)))
                  have HSZ := Lib.hid (sum10_any (some ⟨w.heap.size, 979, none⟩) 8 8 (fun i => nat (F (979 + i))) wr wr.heap.size RSl.out (fun i hi => (SL0.out i hi).2) (by unfold maxLen; omega))
                  have HFJ : Hid (sumB (fun i => nat (Bal i)) nV = true → sumB (fun i => nat (F (979 + i))) 8 = true → _) := Lib.hid (fun h1 h2 => HFI.out (of_decide_eq_true h1) (of_decide_eq_true h2))
                  generalize sumB (fun i => nat (Bal i)) nV = b1 at *
                  generalize sumB (fun i => nat (F (979 + i))) 8 = b2 at *
                  clear HR HC HF2 HF3 HV2 HNow RSl RBa SL0 BB0 RB0 HS HFI
                  have tok := Tok.mk 1
                  cases b1 with
                  | false =>
                    go_wp2_with (go_at_call 44; refine HSA.out.mono ?_; rintro r w2 ⟨rfl, hw2⟩; obtain rfl : wr = w2 := hw2.symm)
                    go_ret
                    exact ⟨false, rfl, (fun h => by cases h), HB1.out.trans (HB.out.mono HB1.out.size)⟩
                  | true =>
                    go_wp2_with (first
                      | (go_at_call 44; have hx : Tok 1 := (by assumption); clear hx tok; refine HSA.out.mono ?_; rintro r w2 ⟨rfl, hw2⟩; obtain rfl : wr = w2 := hw2.symm; have tok2 := Tok.mk 2)
                      | (refine wpList_sliceG rfl rfl rfl 38 (.tmp 145) none none rfl rfl CUT.out rfl rfl ?_)
                      | (go_at_call 44; have hx : Tok 2 := (by assumption); clear hx; refine HSZ.out.mono ?_; rintro r w2 ⟨rfl, hw2⟩; obtain rfl : wr = w2 := hw2.symm))
                    go_ret
                    exact ⟨_, rfl, fun h => HFJ.out (by trivial) h, HB1.out.trans (HB.out.mono HB1.out.size)⟩
end Go.Proofs.YtjhgndnpihnidaaDoor
/- Arguments that are arrays; package variables that lie as they were laid. -/
namespace Go.Proofs.YtjhgndnpihnidaaDoor
set_option maxRecDepth 40000
open Go.RowKit Go.ChangeShapes Go.WideShapes Go.ChangeAt
theorem open_arr_ints {H : Type} {enc : TypeId × Value → H} {P : Program} {W : World} {base b0 : Nat} {sp : Nat → Bool} {held : Bool} {r : Reach} {t e : TypeId} {n : Nat} {k : IntKind} {v : Value} {d : DataW H} {ps : List MemPlace}
    (hu : P.underlying t = some (.array n e)) (he : P.underlying e = some (.int k)) (hce : P.cellsOf e = 1) (hct : P.cellsOf t = n) (hval : Value.okWide P W r b0 t v) (hd : DataW.Trod enc P W base sp held t v d ps) :
    ∃ z : Nat → Int, v = .agg (arr n fun i => .int k (z i)) ∧ ∀ i, i < n → (Lit.int k (z i)).wf = true := by
  simp only [Value.okWide, hu] at hval
  obtain ⟨xs, rfl, hn, _⟩ := hval
  obtain ⟨fuel, hf⟩ := hd
  cases fuel with
  | zero => simp [DataW.trod] at hf
  | succ m =>
    rw [DataW.trod_step] at hf
    unfold DataW.trodStep at hf
    simp only [hu, Value.cells] at hf
    rw [if_pos (by simpa using hn)] at hf
    simp only [Option.map_eq_some_iff] at hf
    obtain ⟨ys, hy, e1⟩ := hf
    have hcell : ∀ i, i < n → ∃ z, xs[i]? = some (.int k z) ∧ (Lit.int k z).wf = true := by
      intro i hi
      obtain ⟨b, _, hb⟩ := Lib.mapM_at hy i i (by simp [hi])
      rw [hce] at hb
      obtain ⟨z, h1, _, h3⟩ := DataW.trod_int he hb
      refine ⟨z, ?_, h3⟩
      have hl : (List.take 1 (List.drop (i * 1) xs.toList))[0]? = some (.int k z) := by rw [h1]; rfl
      simpa using hl
    have h2 : ∀ i, ∃ z, i < n → (xs[i]? = some (.int k z) ∧ (Lit.int k z).wf = true) := fun i => by
      by_cases hi : i < n
      · obtain ⟨z, hz⟩ := hcell i hi; exact ⟨z, fun _ => hz⟩
      · exact ⟨0, fun h => absurd h hi⟩
    obtain ⟨z, hz⟩ := Classical.axiomOfChoice h2
    exact ⟨z, by rw [arr_of xs n (fun i => .int k (z i)) (by rw [hn, hct]) (fun i hi => (hz i hi).1)], fun i hi => (hz i hi).2⟩
/-- A [32]byte and its like. -/
theorem open_bytes {H : Type} {enc : TypeId × Value → H} {P : Program} {W : World} {base b0 : Nat} {sp : Nat → Bool} {held : Bool} {r : Reach} {t e : TypeId} {n : Nat} {v : Value} {d : DataW H} {ps : List MemPlace}
    (hu : P.underlying t = some (.array n e)) (he : P.underlying e = some (.int .u8)) (hce : P.cellsOf e = 1) (hct : P.cellsOf t = n) (hval : Value.okWide P W r b0 t v) (hd : DataW.Trod enc P W base sp held t v d ps) :
    ∃ x : Nat → Nat, v = .agg (arr n fun i => .int .u8 ((x i : Nat) : Int)) ∧ ∀ i, x i < 256 := by
  obtain ⟨z, rfl, hw⟩ := open_arr_ints hu he hce hct hval hd
  refine ⟨fun i => if i < n then (z i).toNat else 0, congrArg Value.agg (arr_congr fun i hi => ?_), fun i => ?_⟩
  · have := wf_u8 (hw i hi)
    simp only [if_pos hi, Int.toNat_of_nonneg this.1]
  · show (if i < n then (z i).toNat else 0) < 256
    split
    · rename_i h; have := wf_u8 (hw i h); omega
    · omega

/-- What lies behind the first on the list. -/
theorem laid_tail {P : Program} {W : World} {x : String × DataW Unit} {rest : List (String × DataW Unit)} {ps : List MemPlace} (h : DataW.LaidVars P W (x :: rest) ps) : ∃ q, DataW.LaidVars P W rest q := by
  obtain ⟨g', t', cs, fuel, p, q, _, _, _, _, h1, _⟩ := h
  exact ⟨q, h1⟩
theorem tab_of {P : Program} {W : World} {name : String} {k : IntKind} {zs : List Int} {rest : List (String × DataW Unit)} {g : Nat} {t e : TypeId} {n : Nat} {ps : List MemPlace}
    (hg : P.globalNamed name = some g) (hty : (P.globals[g]?).map (·.type) = some t) (ht : P.underlying t = some (.array n e)) (he : P.underlying e = some (.int k)) (hce : P.cellsOf e = 1) (hct : P.cellsOf t = n)
    (h : DataW.LaidVars P W ((name, Lib.tabData k zs) :: rest) ps) (i : Nat) (hi : i < zs.length) : W.cell? ⟨g, i, none⟩ = some (.int k (zs.getD i 0)) := by
  obtain ⟨g', t', cs, fuel, p, q, hg', ht', hvar, hd, _, _⟩ := h
  obtain rfl := Option.some.inj (hg.symm.trans hg')
  obtain rfl := Option.some.inj (hty.symm.trans ht')
  have hT : Lib.TabIs P W name k zs := by
    unfold Lib.TabIs
    rw [hvar, ← Lib.cells_of_tab ht he hce hct hd]
  exact hT.cell hg i hi
/-- The witness's world: the settled one, block g holding these cells. -/
noncomputable def laidInto (w : World) (g : Nat) (cs : Array Value) : World :=
  { w with heap := w.heap.modify g fun
      | .cells _ t frozen => .cells cs t frozen
      | o => o }
end Go.Proofs.YtjhgndnpihnidaaDoor
/- The tables of sha, as they were laid. -/
namespace Go.Proofs.YtjhgndnpihnidaaDoor
set_option maxRecDepth 40000
open Go.RowKit Go.ChangeShapes Go.WideShapes Go.ChangeAt

def zsK : List Int := kList.map fun n : Nat => (n : Int)
def zsH : List Int := hList.map fun n : Nat => (n : Int)
theorem zsK_at : ∀ i, i < 64 → zsK.getD i 0 = ((kw i).toNat : Int) := by decide +kernel
theorem zsH_at : ∀ i, i < 8 → zsH.getD i 0 = ((h0 i).toNat : Int) := by decide +kernel
theorem tab_start {W : World} {rest : List (String × DataW Unit)} {ps : List MemPlace} (h : DataW.LaidVars Tryd.prog W (("pharos/sha.start", Rows.laid_pharos_sha_start) :: rest) ps) : ∀ i, i < 8 → W.cell? ⟨0, i, none⟩ = some (wv (h0 i)) := fun i hi => by
  have h' : DataW.LaidVars Tryd.prog W (("pharos/sha.start", Lib.tabData .u32 zsH) :: rest) ps := h
  have := tab_of (P := Tryd.prog) (g := 0) (t := 127) (e := 125) (n := 8) (by kernel_rfl) (by kernel_rfl) Tryd.underlying127 Tryd.underlying125 (by kernel_rfl) (by kernel_rfl) h' i hi
  rw [this, zsH_at i hi]
theorem tab_round {W : World} {rest : List (String × DataW Unit)} {ps : List MemPlace} (h : DataW.LaidVars Tryd.prog W (("pharos/sha.round", Rows.laid_pharos_sha_round) :: rest) ps) : ∀ i, i < 64 → W.cell? ⟨3, i, none⟩ = some (wv (kw i)) := fun i hi => by
  have h' : DataW.LaidVars Tryd.prog W (("pharos/sha.round", Lib.tabData .u32 zsK) :: rest) ps := h
  have := tab_of (P := Tryd.prog) (g := 3) (t := 146) (e := 125) (n := 64) (by kernel_rfl) (by kernel_rfl) Tryd.underlying146 Tryd.underlying125 (by kernel_rfl) (by kernel_rfl) h' i hi
  rw [this, zsK_at i hi]
theorem tab_constants {W : World} {rest : List (String × DataW Unit)} {ps : List MemPlace} (h : DataW.LaidVars Tryd.prog W (("pharos/pharosref02.constants", Rows.laid_pharos_pharosref02_constants) :: rest) ps) : ∀ i, i < 64 → W.cell? ⟨1, i, none⟩ = some (wv (kw i)) := fun i hi => by
  have h' : DataW.LaidVars Tryd.prog W (("pharos/pharosref02.constants", Lib.tabData .u32 zsK) :: rest) ps := h
  have := tab_of (P := Tryd.prog) (g := 1) (t := 146) (e := 125) (n := 64) (by kernel_rfl) (by kernel_rfl) Tryd.underlying146 Tryd.underlying125 (by kernel_rfl) (by kernel_rfl) h' i hi
  rw [this, zsK_at i hi]
/-- What the witness's world holds. -/
def csK : Array Value := (zsK.map (Value.int .u32)).toArray
def csH : Array Value := (zsH.map (Value.int .u32)).toArray
end Go.Proofs.YtjhgndnpihnidaaDoor
