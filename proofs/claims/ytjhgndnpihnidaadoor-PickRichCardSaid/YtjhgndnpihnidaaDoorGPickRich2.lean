/- A part of what the proofs stand on: PickRichLaw. -/
import Derived.Test.YtjhgndnpihnidaaDoorGPic21
import Derived.Test.YtjhgndnpihnidaaDoorGPickRich1
import Derived.Test.YtjhgndnpihnidaaDoorGPic13
import Derived.Test.YtjhgndnpihnidaaDoorGPic22
/- The law PickRich. (Printed by a program of mine.) -/
namespace Go.Proofs.YtjhgndnpihnidaaDoor
set_option maxRecDepth 40000
open Go.RowKit
open PickRich in
set_option maxHeartbeats 16000000 in
theorem pickRich_law (w : World) (s : StV) (hS : StOk w w.heap.size s) (t : StV) (hT : StOk w w.heap.size t) (hp : ShaPkg w) : Calls Tryd.prog 4 #[.agg (arr 1957 s.F), .agg (arr 1957 t.F)] w fun r w' => r = .returned (.bool true) ∧ Below w.heap.size w w' := by
  have HS0 := Lib.hid (HS.nil w)
  have HSo := Lib.hid hS
  have HTo := Lib.hid hT
  have HP := Lib.hid hp
  obtain ⟨h33, -⟩ := hS.sc.u64 33 (by kernel_rfl)
  obtain ⟨sl, hsl'⟩ : ∃ sl, nat (s.F 33) = sl := ⟨_, rfl⟩
  rw [hsl'] at h33
  have HF33 := Lib.hid h33
  have HSl := Lib.hid hsl'
  obtain ⟨Z, hZ⟩ : ∃ Z : Nat → Value, Z = fun i => z49.getD i undef := ⟨_, rfl⟩
  have HZ := Lib.hid (show ∀ i, i < 1957 → z49[i]? = some (Z i) from fun i hi => by rw [hZ]; exact arr_getD i (by rw [z49_size]; exact hi))
  clear hS hT hp h33 hsl' hZ
  have tok1 := Tok.mk 1
  go_enter Tryd.func4, Tryd.ntmps4
  go_wp2_with (first
    | (refine wpList_boxL rfl 49 _ 2 rfl rfl HS0.out 1957 s.F rfl ?_; intro b2 w1 hb2 hc2 hs; have HS1 := Lib.hid hs; clear hs)
    | (refine wpList_boxL rfl 49 _ 3 rfl rfl HS1.out 1957 t.F rfl ?_; intro b3 w2 hb3 hc3 hs; have HS2 := Lib.hid hs; clear hs)
    | (go_at_call 12; refine (awake15_any _ (HP.out.below (HS2.out.out (by simp; omega)))).mono ?_; rintro r w3 ⟨rfl, hb⟩; have HS3 := Lib.hid (HS2.out.below hb); clear hb)
    | (refine wpList_load_rd rfl 49 (.tmp 2) rfl 1957 _ Tryd.underlying49 rfl (by kernel_rfl) ⟨b2, 0, none⟩ rfl s.F (fun i hi => by rw [add_lit0]; exact (HS3.out.row 1 rfl).cell hi) ?_)
    | (go_at_call 13; have hx : Tok 1 := (by assumption); clear hx tok1; refine stop_here ?_))
  refine Lib.hid ?_
  refine (right_any s _ ((HSo.out.below (HS3.out.out (by simp; omega))).more HS3.out.size)).mono ?_
  rintro r w4 ⟨b, rfl, hF, hb⟩
  have HF := Lib.hid hF
  have HS4 := Lib.hid (HS3.out.below hb)
  clear hb hF
  cases b with
  | false =>
    go_wp2_with fail
    go_ret
    exact ⟨rfl, HS4.out.out (by simp; omega)⟩
  | true =>
    have HRF := Lib.hid (HF.out rfl)
    clear HF
    go_upto_if 23 with (first
      | (refine wpList_load_rdG rfl rfl rfl 49 (.tmp 3) rfl 1957 _ Tryd.underlying49 rfl (by kernel_rfl) ⟨b3, 0, none⟩ rfl t.F (fun i hi => by rw [add_lit0]; exact (HS4.out.row 0 rfl).cell hi) ?_)
      | (go_at_call 13; refine (right_any t _ ((HTo.out.below (HS4.out.out (by simp; omega))).more HS4.out.size)).mono ?_; rintro r w5 ⟨b, rfl, hF, hb⟩; have HS5 := Lib.hid (HS4.out.below hb); clear hb hF))
    cases b with
    | false =>
      go_wp2_with fail
      go_ret
      exact ⟨rfl, HS5.out.out (by simp; omega)⟩
    | true =>
      have hn := HRF.out.n
      have hnB := HRF.out.nB
      have hnC := HRF.out.nC
      have hsl : sl < 1099511627776 := by have := HRF.out.slot; rw [HSl.out] at this; exact this
      obtain ⟨e, he⟩ : ∃ e, sl / 4 = e := ⟨_, rfl⟩
      have HSe := Lib.hid he
      clear he HS4 HS3 HS2 HS1 HS0
      go_upto_region 6 with (first
        | (refine wpList_load_rd rfl 49 (.tmp 2) rfl 1957 _ Tryd.underlying49 rfl (by kernel_rfl) ⟨b2, 0, none⟩ rfl s.F (fun i hi => by rw [add_lit0]; exact (HS5.out.row 1 rfl).cell hi) ?_)
        | (go_at_call 17; refine (copy10_any s _ ((HSo.out.below (HS5.out.out (by simp; omega))).more HS5.out.size) hn (by omega) (by have := HRF.out.nP; omega) (by omega) (by have := HRF.out.nS; omega) (by have := HRF.out.nH; omega) (by have := HRF.out.nE; omega)).mono ?_; rintro r w6 ⟨F1, aV1, aB1, aP1, aC1, aS1, aH1, aE1, cV1, cB1, cP1, cC1, cS1, cH1, cE1, rfl, hok, hown, hfe, hb⟩; have HOK1 := Lib.hid hok; have HOW1 := Lib.hid hown; have HFE1 := Lib.hid hfe; have H1F1 := Lib.hid (st_one hok); have HS6 := Lib.hid (HS5.out.below hb); have HVb := Lib.hid (fun ad (e : aV1 = some ad) => (hown.V.base_le ad e).2); have HN6 := Lib.hid (HS.nil w6); clear hok hown hfe hb)
        | (refine wpList_allocL rfl 49 5 rfl rfl HN6.out z49 z49_zero 1957 Z z49_size HZ.out ?_; intro b5 w7 hb5 hc5 hs; have HN7 := Lib.hid hs; clear hs)
        | (refine wpList_storeH rfl 49 (.tmp 5) (.tmp 25) rfl HN7.out 0 rfl F1 rfl rfl (by kernel_rfl) H1F1.out ?_; intro w8 hs; have HN8 := Lib.hid hs; clear hs))
      have HB68 := Lib.hid (HN8.out.out (by simp; omega))
      have HS8 := Lib.hid ((HS6.out.below HB68.out).add (HN8.out.row 0 rfl) (Nat.le_trans HS6.out.size hc5) (by have h3 := HS6.out.lt 0 rfl; have h2 := HS6.out.lt 1 rfl; simp; omega))
      have HOW8 := Lib.hid (HOW1.out.all HB68.out)
      have hb5w : w.heap.size ≤ b5 := Nat.le_trans HS6.out.size hc5
      have hVb5 : ∀ bV, aV1 = some ⟨bV, 0, none⟩ → bV < b5 ∧ w5.heap.size ≤ bV := fun bV e => by
        have h1 := HVb.out _ e
        have h2 := (HOW1.out.V.base_le _ e).1
        exact ⟨Nat.lt_of_lt_of_le h1 hc5, h2⟩
      have h5w : w.heap.size ≤ w5.heap.size := HS5.out.size
      have h5b3 := HS5.out.lt 0 rfl
      have h5b2 := HS5.out.lt 1 rfl
      have hf11 := Lib.hid HOK1.out.f11
      have HSc1 := Lib.hid HOK1.out.sc
      clear HS6 HN6 HN7 HN8 HOW1 HVb HB68
      go_wp2_with fail
      go_loopw [6] (fun i wr => ∃ j : Nat, i = .int .i64 (j : Int) ∧ j ≤ s.nV ∧ HS w wr [⟨b5, 49, 1957, F1⟩, ⟨b3, 49, 1957, t.F⟩, ⟨b2, 49, 1957, s.F⟩] ∧ StOwn wr w5.heap.size ⟨F1, aV1, s.nV, cV1, richV s.V j, aB1, s.nB, cB1, s.Bal, aP1, s.nP, cP1, s.Prv, aC1, s.nC, cC1, s.Cur, aS1, s.nS, cS1, s.Sco, aH1, s.nH, cH1, s.His, aE1, s.nE, cE1, s.Vot⟩) (fun i _ => s.nV - (intOf i).toNat)
      case atStart => exact ⟨0, rfl, by omega, HS8.out, by rw [rich_0]; exact HOW8.out⟩
      case round =>
        clear HS8 HOW8
        obtain ⟨j, rfl, hj, hs, ho⟩ := hrel
        have HSq := Lib.hid hs
        have HOq := Lib.hid ho
        have h721 : wr.cell? ⟨b5, 721, none⟩ = some (.slice aV1 s.nV cV1) := by rw [← hf11.out]; exact hs.cell 0 721 rfl (show 721 < 1957 by omega)
        clear hs ho
        by_cases hjn : j < s.nV
        · obtain ⟨bV, hA⟩ := own_some HOq.out.V (show 0 < s.nV by omega)
          simp only at hA
          obtain ⟨hV5, hV6⟩ := hVb5 bV hA
          subst hA
          go_wp2_with (first
            | (refine wpList_as rfl 36 rfl (.pointer (some ⟨bV, j * 86, none⟩)) ?_ ?_; (· exact ex_idx rfl rfl rfl (fun w => (run_idxZ (z := 86) w Tryd.underlying36 (by kernel_rfl) ⟨bV, 0, none⟩ (by omega)).trans (by rw [add_lit0])) _))
            | (refine wpList_stL rfl 22 _ _ rfl HOq.out.V (j * 86 + 80) (show j * 86 + 80 < s.nV * 86 by omega) (.int .u64 32000000000) (ShufLawOps.stU _) rfl rfl (richV s.V (j + 1)) rich_step ?_; intro w' ho hg; have HSn := Lib.hid (HSq.out.other hg (by omega) (by simp; omega)); have HOn := Lib.hid (HOq.out.setV rfl ho hg); clear ho hg))
          go_roundw
          case rel => exact ⟨j + 1, by go_num, by omega, HSn.out, HOn.out⟩
          case measure => simp [intOf]; omega
        · obtain rfl : j = s.nV := by omega
          obtain ⟨w9, rfl⟩ : ∃ w9 : World, w9 = wr := ⟨_, rfl⟩
          have HOKy : Hid (StOk w9 w9.heap.size ⟨F1, aV1, s.nV, cV1, richV s.V s.nV, aB1, s.nB, cB1, s.Bal, aP1, s.nP, cP1, s.Prv, aC1, s.nC, cC1, s.Cur, aS1, s.nS, cS1, s.Sco, aH1, s.nH, cH1, s.His, aE1, s.nE, cE1, s.Vot⟩) := Lib.hid (HOK1.out.own HOq.out (fun i hi => rich_sc (HOK1.out.scV i hi)))
          have hz9 := HSq.out.size
          go_upto_region 11 with (first
            | (refine wpList_load_rd rfl 49 (.tmp 5) rfl 1957 _ Tryd.underlying49 rfl (by kernel_rfl) ⟨b5, 0, none⟩ rfl F1 (fun i hi => by rw [add_lit0]; exact (HSq.out.row 0 rfl).cell hi) ?_)
            | (go_at_call 17; refine (copy10_any ⟨F1, aV1, s.nV, cV1, richV s.V s.nV, aB1, s.nB, cB1, s.Bal, aP1, s.nP, cP1, s.Prv, aC1, s.nC, cC1, s.Cur, aS1, s.nS, cS1, s.Sco, aH1, s.nH, cH1, s.His, aE1, s.nE, cE1, s.Vot⟩ _ HOKy.out hn (show s.nB ≤ 65536 by omega) (show s.nP ≤ 65536 by have := HRF.out.nP; omega) (show s.nC ≤ 65536 by omega) (show s.nS ≤ 65536 by have := HRF.out.nS; omega) (show s.nH ≤ 65536 by have := HRF.out.nH; omega) (show s.nE ≤ 65536 by have := HRF.out.nE; omega)).mono ?_; rintro r wa ⟨F2, aV2, aB2, aP2, aC2, aS2, aH2, aE2, cV2, cB2, cP2, cC2, cS2, cH2, cE2, rfl, hok, hown, hfe, hb⟩; have HOK2 := Lib.hid hok; have HOW2 := Lib.hid hown; have HFE2 := Lib.hid hfe; have H1F2 := Lib.hid (st_one hok); have HBa := Lib.hid hb; have HSa := Lib.hid (HSq.out.below hb); have HNa := Lib.hid (HS.nil wa); clear hok hown hfe hb)
            | (refine wpList_allocL rfl 49 7 rfl rfl HNa.out z49 z49_zero 1957 Z z49_size HZ.out ?_; intro b7 wb hb7 hc7 hs; have HNb := Lib.hid hs; clear hs)
            | (refine wpList_storeH rfl 49 (.tmp 7) (.tmp 39) rfl HNb.out 0 rfl F2 rfl rfl (by kernel_rfl) H1F2.out ?_; intro wc hs; have HNc := Lib.hid hs; have HSc := Lib.hid (HSa.out.below (hs.out (by simp; omega))); clear hs))
          clear h721
          go_upto_region 15 with (first
            | (refine wpList_load_rd rfl 24 (.tmp 40) rfl 32 _ Tryd.underlying24 rfl (by kernel_rfl) ⟨b3, 1, none⟩ rfl (fun q => t.F (1 + q)) (fun q hq => by rw [add_litO]; exact (HSc.out.row 1 rfl).cell (show 1 + q < 1957 by omega)) ?_)
            | (refine wpList_storeP rfl 24 (.tmp 42) (.tmp 41) rfl HNc.out 0 rfl 1 32 (fun q => t.F (1 + q)) rfl rfl (by kernel_rfl) (by omega) (one_part HTo.out 1 32 (by omega)) (fun i => if 1 ≤ i ∧ i < 33 then t.F i else F2 i) (z1 F2 t.F) ?_; intro wd hs; have HNd := Lib.hid hs; have HSd := Lib.hid (HSa.out.below (hs.out (by simp; omega))); clear hs)
            | (refine wpList_load_rd rfl 31 (.tmp 43) rfl 256 _ Tryd.underlying31 rfl (by kernel_rfl) ⟨b3, 141, none⟩ rfl (fun q => t.F (141 + q)) (fun q hq => by rw [add_litO]; exact (HSd.out.row 1 rfl).cell (show 141 + q < 1957 by omega)) ?_)
            | (refine wpList_storeP rfl 31 (.tmp 45) (.tmp 44) rfl HNd.out 0 rfl 141 256 (fun q => t.F (141 + q)) rfl rfl (by kernel_rfl) (by omega) (one_part HTo.out 141 256 (by omega)) (fun i => if 1 ≤ i ∧ i < 33 then t.F i else if 141 ≤ i ∧ i < 397 then t.F i else F2 i) (z2 F2 t.F) ?_; intro we hs; have HNe := Lib.hid hs; have HSe2 := Lib.hid (HSa.out.below (hs.out (by simp; omega))); clear hs)
            | (refine wpList_load_rd rfl 24 (.tmp 47) rfl 32 _ Tryd.underlying24 rfl (by kernel_rfl) ⟨b3, 109, none⟩ rfl (fun q => t.F (109 + q)) (fun q hq => by rw [add_litO]; exact (HSe2.out.row 1 rfl).cell (show 109 + q < 1957 by omega)) ?_)
            | (refine wpList_storeP rfl 24 (.tmp 50) (.tmp 48) rfl HNe.out 0 rfl 109 32 (fun q => t.F (109 + q)) rfl rfl (by kernel_rfl) (by omega) (one_part HTo.out 109 32 (by omega)) (fun i => if 1 ≤ i ∧ i < 33 then t.F i else if 141 ≤ i ∧ i < 397 then t.F i else if 109 ≤ i ∧ i < 141 then t.F i else F2 i) (z3 F2 t.F) ?_; intro wf hs; have HNf := Lib.hid hs; have HSf := Lib.hid (HSa.out.below (hs.out (by simp; omega))); clear hs)
            | (refine wpList_as rfl 52 rfl (.slice t.aH t.nH t.cH) ?_ ?_; (· exact ex_ldSl rfl rfl Tryd.underlying32 ((HSf.out.row 1 rfl).cell (show 653 < 1957 by omega)) HTo.out.f7))
            | (refine ShufLawOps.wpList_st1 rfl 32 (.tmp 53) (.tmp 52) rfl HNf.out 0 rfl 653 (.slice t.aH t.nH t.cH) (StCopy.stSlR _ _ _) rfl rfl (show 653 < 1957 by omega) (zF F2 t.F) (z4 F2 t.F _ HTo.out.f7) ?_; intro wg hs _; have HNg := Lib.hid hs; clear hs))
          obtain ⟨Gz, hGz⟩ : ∃ G, G = zF F2 t.F := ⟨_, rfl⟩
          rw [← hGz] at HNg
          have HBg := Lib.hid (HNg.out.out (by simp; omega))
          have HS9 := Lib.hid ((((HS.nil w9).below HBa.out).below HBg.out).add (HNg.out.row 0 rfl) (Nat.le_trans HBa.out.size hc7) (by simp))
          have HOg := Lib.hid (HOW2.out.all HBg.out)
          have hV7 : ∀ bV, aV2 = some ⟨bV, 0, none⟩ → bV < b7 ∧ w9.heap.size ≤ bV := fun bV e => ⟨Nat.lt_of_lt_of_le (HOW2.out.V.base_le _ e).2 hc7, (HOW2.out.V.base_le _ e).1⟩
          have hB7 : ∀ bV, aB2 = some ⟨bV, 0, none⟩ → bV < b7 ∧ w9.heap.size ≤ bV := fun bV e => ⟨Nat.lt_of_lt_of_le (HOW2.out.B.base_le _ e).2 hc7, (HOW2.out.B.base_le _ e).1⟩
          have hC7 : ∀ bV, aC2 = some ⟨bV, 0, none⟩ → bV < b7 ∧ w9.heap.size ≤ bV := fun bV e => ⟨Nat.lt_of_lt_of_le (HOW2.out.C.base_le _ e).2 hc7, (HOW2.out.C.base_le _ e).1⟩
          have HScz : Hid (Sc Gz 49) := Lib.hid (by rw [hGz]; exact Sc.mix HOK2.out.sc HTo.out.sc (zF_mix F2 t.F))
          have H133 : Hid (F1 33 = .int .u64 (sl : Int)) := Lib.hid (by rw [HFE1.out 33 (by omega) (by omega) (by omega) (by omega) (by omega) (by omega) (by omega)]; exact HF33.out)
          have HG33 : Hid (Gz 33 = .int .u64 (sl : Int)) := Lib.hid (by rw [hGz, zF_F (.inl rfl), HFE2.out 33 (by omega) (by omega) (by omega) (by omega) (by omega) (by omega) (by omega)]; exact H133.out)
          have HG721 : Hid (Gz 721 = .slice aV2 s.nV cV2) := Lib.hid (by rw [hGz, zF_F (.inr (by omega))]; exact HOK2.out.f11)
          have HG722 : Hid (Gz 722 = .slice aB2 s.nB cB2) := Lib.hid (by rw [hGz, zF_F (.inr (by omega))]; exact HOK2.out.f12)
          have HG988 : Hid (Gz 988 = .slice aC2 s.nC cC2) := Lib.hid (by rw [hGz, zF_F (.inr (by omega))]; exact HOK2.out.f16)
          have HGm : Hid (∀ i, 723 ≤ i → i < 979 → Gz i = F1 i) := Lib.hid (fun i h1 h2 => by rw [hGz, zF_F (.inr (by omega)), HFE2.out i (by omega) (by omega) (by omega) (by omega) (by omega) (by omega) (by omega)])
          have HScv : Hid (∀ i, i < s.nV → Sc (fun q => freeV (richV s.V s.nV) s.nV (i * 86 + q)) 57) := Lib.hid (fun i hi => free_sc (HOK2.out.scV i hi))
          have h79 : w9.heap.size ≤ b7 := Nat.le_trans HBa.out.size hc7
          clear hGz HNa HNb HNc HNd HNe HNf HNg HSa HSc HSd HSe2 HSf HOW2 HOK2 HOq HBa HBg hf11
          go_wp2_with fail
          go_loopw [8] (fun i wr => ∃ (j : Nat) (Bf Cf : Nat → Value), i = .int .i64 (j : Int) ∧ j ≤ s.nV ∧ HS w9 wr [⟨b7, 49, 1957, Gz⟩] ∧ OwnZ wr w9.heap.size 57 86 aV2 s.nV cV2 (freeV (richV s.V s.nV) j) ∧ OwnZ wr w9.heap.size 22 1 aB2 s.nB cB2 Bf ∧ OwnZ wr w9.heap.size 5 1 aC2 s.nC cC2 Cf) (fun i _ => s.nV - (intOf i).toNat)
          case atStart => exact ⟨0, s.Bal, s.Cur, rfl, by omega, HS9.out, by rw [free_0]; exact HOg.out.V, HOg.out.B, HOg.out.C⟩
          case round =>
            clear HS9 HOg
            obtain ⟨j, Bf, Cf, rfl, hj, hs, hov, hob, hoc⟩ := hrel
            have HSr := Lib.hid hs
            have HOV := Lib.hid hov
            have HOB := Lib.hid hob
            have HOC := Lib.hid hoc
            have h721 : wr.cell? ⟨b7, 721, none⟩ = some (.slice aV2 s.nV cV2) := by rw [← HG721.out]; exact hs.cell 0 721 rfl (show 721 < 1957 by omega)
            clear hs hov hob hoc
            by_cases hjn : j < s.nV
            · obtain ⟨bV, hA⟩ := own_some HOV.out (show 0 < s.nV by omega)
              obtain ⟨bB, hA2⟩ := own_some HOB.out (show 0 < s.nB by omega)
              obtain ⟨bC, hA3⟩ := own_some HOC.out (show 0 < s.nC by omega)
              obtain ⟨hV8, hV9⟩ := hV7 bV hA
              obtain ⟨hB8, hB9⟩ := hB7 bB hA2
              obtain ⟨hC8, hC9⟩ := hC7 bC hA3
              subst hA hA2 hA3
              go_wp2_with (first
                | (refine wpList_as rfl 62 rfl (.slice (some ⟨bB, 0, none⟩) s.nB cB2) ?_ ?_; (· exact ex_ldSl rfl rfl Tryd.underlying37 (HSr.out.cell 0 722 rfl (show 722 < 1957 by omega)) HG722.out))
                | (refine wpList_as rfl 64 rfl (.pointer (some ⟨bB, j * 1, none⟩)) ?_ ?_; (· exact ex_idx rfl rfl rfl (fun w => (run_idxZ (z := 1) w Tryd.underlying37 (by kernel_rfl) ⟨bB, 0, none⟩ (by omega)).trans (by rw [add_lit0])) _))
                | (refine wpList_stL rfl 22 (.tmp 64) _ rfl HOB.out (j * 1) (show j * 1 < s.nB * 1 by omega) (.int .u64 0) (ShufLawOps.stU _) rfl rfl (fun q => if q = j * 1 then .int .u64 0 else Bf q) (fun _ _ => rfl) ?_; intro x1 ho hg; have HOB1 := Lib.hid ho; have HSr1 := Lib.hid (HSr.out.other hg (by omega) (by simp; omega)); have HOV1 := Lib.hid (HOV.out.kept hg (own_ne HOV.out HOB.out (by decide))); have HOC1 := Lib.hid (HOC.out.kept hg (own_ne HOC.out HOB.out (by decide))); clear ho hg)
                | (refine wpList_as rfl 66 rfl (.slice (some ⟨bC, 0, none⟩) s.nC cC2) ?_ ?_; (· exact ex_ldSl rfl rfl Tryd.underlying39 (HSr1.out.cell 0 988 rfl (show 988 < 1957 by omega)) HG988.out))
                | (refine wpList_as rfl 68 rfl (.pointer (some ⟨bC, j * 1, none⟩)) ?_ ?_; (· exact ex_idx rfl rfl rfl (fun w => (run_idxZ (z := 1) w Tryd.underlying39 (by kernel_rfl) ⟨bC, 0, none⟩ (by omega)).trans (by rw [add_lit0])) _))
                | (refine wpList_stL rfl 5 (.tmp 68) _ rfl HOC1.out (j * 1) (show j * 1 < s.nC * 1 by omega) (.int .u8 1) (stB8 _) rfl rfl (fun q => if q = j * 1 then .int .u8 1 else Cf q) (fun _ _ => rfl) ?_; intro x2 ho hg; have HOC2 := Lib.hid ho; have HSr2 := Lib.hid (HSr1.out.other hg (by omega) (by simp; omega)); have HOV2 := Lib.hid (HOV1.out.kept hg (own_ne HOV1.out HOC1.out (by decide))); have HOB2 := Lib.hid (HOB1.out.kept hg (own_ne HOB1.out HOC1.out (by decide))); clear ho hg)
                | (refine wpList_as rfl 70 rfl (.slice (some ⟨bV, 0, none⟩) s.nV cV2) ?_ ?_; (· exact ex_ldSl rfl rfl Tryd.underlying36 (HSr2.out.cell 0 721 rfl (show 721 < 1957 by omega)) HG721.out))
                | (refine wpList_as rfl 72 rfl (.pointer (some ⟨bV, j * 86, none⟩)) ?_ ?_; (· exact ex_idx rfl rfl rfl (fun w => (run_idxZ (z := 86) w Tryd.underlying36 (by kernel_rfl) ⟨bV, 0, none⟩ (by omega)).trans (by rw [add_lit0])) _))
                | (refine wpList_stL rfl 4 (.tmp 73) _ rfl HOV2.out (j * 86 + 81) (show j * 86 + 81 < s.nV * 86 by omega) (.bool false) (ShufLawOps.stBool _) rfl rfl (freeV (richV s.V s.nV) (j + 1)) free_step ?_; intro x3 ho hg; have HOV3 := Lib.hid ho; have HSr3 := Lib.hid (HSr2.out.other hg (by omega) (by simp; omega)); have HOB3 := Lib.hid (HOB2.out.kept hg (own_ne HOB2.out HOV2.out (by decide))); have HOC3 := Lib.hid (HOC2.out.kept hg (own_ne HOC2.out HOV2.out (by decide))); clear ho hg))
              go_roundw
              case rel => exact ⟨j + 1, _, _, by go_num, by omega, HSr3.out, HOV3.out, HOB3.out, HOC3.out⟩
              case measure => simp [intOf]; omega
            · obtain rfl : j = s.nV := by omega
              have HBz := Lib.hid (HSr.out.out (by simp; omega))
              have HSy := Lib.hid (HSq.out.below HBz.out)
              have HNy := Lib.hid (HS.nil wr)
              have HVy := Lib.hid (((HOKy.out.below HBz.out).more HBz.out.size).vok)
              have HVz : Hid (VOk wr wr.heap.size Gz aV2 s.nV cV2 (freeV (richV s.V s.nV) s.nV)) := Lib.hid ⟨HG721.out, HOV.out.rd, HScv.out, by unfold maxLen; omega⟩
              obtain ⟨PL, hPL⟩ : ∃ PL, PL = propL F1 (richV s.V s.nV) s.nV sl := ⟨_, rfl⟩
              obtain ⟨a, ha⟩ : ∃ a, a = PL.getD 0 0 := ⟨_, rfl⟩
              obtain ⟨k, hk⟩ : ∃ k, k = pickE PL := ⟨_, rfl⟩
              obtain ⟨L, hL⟩ : ∃ L, L = (actIx (richV s.V s.nV) e s.nV).length := ⟨_, rfl⟩
              have hcase : (L = 0 ∧ k = 7) ∨ (L ≠ 0 ∧ k = 0 ∧ a < s.nV) := by
                rw [← HSe.out] at hL
                by_cases h0 : L = 0
                · exact .inl ⟨h0, by rw [hk, hPL, rich_none (by omega)]; rfl⟩
                · have h3 := rich_take (F := F1) (V := s.V) (n := s.nV) (s := sl) (by omega)
                  exact .inr ⟨h0, by rw [hk, hPL]; exact h3.2.2, by rw [ha, hPL]; exact h3.2.1⟩
              have HPL := Lib.hid hPL.symm
              have HPLz : Hid (propL Gz (freeV (richV s.V s.nV) s.nV) s.nV sl = PL) := Lib.hid (by rw [hPL]; exact free_prop HGm.out)
              have HA := Lib.hid (And.intro ha.symm hk.symm)
              have HL := Lib.hid hL
              have h721y : wr.cell? ⟨b5, 721, none⟩ = some (.slice aV1 s.nV cV1) := by rw [← HOKy.out.f11]; exact HSy.out.cell 0 721 rfl (show 721 < 1957 by omega)
              clear hPL ha hk hL h721y
              have tok2 := Tok.mk 2
              go_upto_region 24 with (first
                | (have hx : Tok 2 := (by assumption); clear hx; refine wpList_load_rd rfl 49 (.tmp 5) rfl 1957 _ Tryd.underlying49 rfl (by kernel_rfl) ⟨b5, 0, none⟩ rfl F1 (fun i hi => by rw [add_lit0]; exact (HSy.out.row 0 rfl).cell hi) ?_)
                | (go_at_call 14; have hx : Tok 2 := (by assumption); clear hx; refine (proposer_look F1 HSc1.out aV1 s.nV cV1 (richV s.V s.nV) sl e HSe.out _ H133.out hsl HVy.out hn (HP.out.below (HSy.out.out (by simp; omega)))).mono ?_; clear tok2; rintro r wp ⟨rfl, hb⟩; rw [HPL.out, HA.out.1, HA.out.2]; have HNp := Lib.hid (HNy.out.below hb); have HSp := Lib.hid (HSr.out.below hb); clear hb; have tok3 := Tok.mk 3)
                | (have hx : Tok 3 := (by assumption); clear hx; refine wpList_load_rd rfl 49 (.tmp 7) rfl 1957 _ Tryd.underlying49 rfl (by kernel_rfl) ⟨b7, 0, none⟩ rfl Gz (fun i hi => by rw [add_lit0]; exact (HSp.out.row 0 rfl).cell hi) ?_)
                | (go_at_call 14; have hx : Tok 3 := (by assumption); clear hx; refine (proposer_look Gz HScz.out aV2 s.nV cV2 (freeV (richV s.V s.nV) s.nV) sl e HSe.out _ HG33.out hsl ((HVz.out.below HNp.out.bel).more HNp.out.size) hn (HP.out.below ((HSy.out.below HNp.out.bel).out (by simp; omega)))).mono ?_; clear tok3; rintro r wq ⟨rfl, hb⟩; rw [HPLz.out, HA.out.1, HA.out.2]; have HNq := Lib.hid (HNp.out.below hb); have HSu := Lib.hid (HSy.out.below HNq.out.bel); clear hb; have tok4 := Tok.mk 4)
                | (have hx : Tok 4 := (by assumption); clear hx; refine wpList_load_rd rfl 49 (.tmp 5) rfl 1957 _ Tryd.underlying49 rfl (by kernel_rfl) ⟨b5, 0, none⟩ rfl F1 (fun i hi => by rw [add_lit0]; exact (HSu.out.row 0 rfl).cell hi) ?_)
                | (refine wpList_as rfl 86 rfl (.int .u64 ((sl : Nat) : Int)) ?_ ?_; (· exact ex_ld1 .u64 rfl rfl Tryd.underlying22 (by rw [← HF33.out]; exact HSu.out.cell 2 33 rfl (show 33 < 1957 by omega))))
                | (refine wpList_as rfl 87 rfl (.int .u64 ((e : Nat) : Int)) ?_ ?_; (· exact ex_bin rfl rfl rfl rfl (fun w => PickTop.quo4 sl e HSe.out hsl w) _))
                | (go_at_call 18; refine (PickTopRef.acts_refO F1 aV1 s.nV cV1 (richV s.V s.nV) e L _ HL.out rfl _ ((HVy.out.below HNq.out.bel).more HNq.out.size) hn).mono ?_; clear tok4; rintro r wv ⟨C, cC, rfl, _, hb⟩; have HSv := Lib.hid (HSu.out.below hb); clear hb))
              have hend := Lib.hid (HSv.out.out (by simp; omega))
              rcases hcase with ⟨rfl, rfl⟩ | ⟨hL0, rfl, han⟩
              · go_wp2_with fail
                go_ret
                exact ⟨rfl, hend.out⟩
              · have hLt : (((L : Nat) : Int) == 0) = false := by simp; omega
                go_wp2_with (first
                  | (refine wpList_asG rfl rfl rfl 107 rfl (.bool true) ?_ ?_; (· exact ex_eqS .u64 ((a : Nat) : Int) rfl rfl rfl))
                  | (refine wpList_asG rfl rfl rfl 112 rfl (.slice aV1 s.nV cV1) ?_ ?_; (· exact ex_ldSl rfl rfl Tryd.underlying36 (HSv.out.cell 0 721 rfl (show 721 < 1957 by omega)) HOKy.out.f11))
                  | (refine wpList_asG rfl rfl rfl 114 rfl (.int .u64 ((s.nV : Nat) : Int)) ?_ ?_; (· exact ex_cnv rfl rfl (fun w => ShufList.cvIU s.nV (by omega) w) _))
                  | (refine wpList_asG rfl rfl rfl 115 rfl (.bool true) ?_ ?_; (· exact ex_bin rfl rfl rfl rfl (fun w => ltU a s.nV han w) _)))
                go_ret
                exact ⟨rfl, hend.out⟩
end Go.Proofs.YtjhgndnpihnidaaDoor
