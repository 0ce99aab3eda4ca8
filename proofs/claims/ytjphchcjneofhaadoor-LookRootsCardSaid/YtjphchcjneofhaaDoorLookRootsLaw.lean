/- The law LookRoots. (Printed by a program of mine.) -/
import Derived.Test.YtjphchcjneofhaaDoorLookAwake
import Derived.Test.YtjphchcjneofhaaDoorRight
import Derived.Test.YtjphchcjneofhaaDoorLawOps
import Derived.Test.YtjphchcjneofhaaDoorLookSeedRef
import Derived.Test.YtjphchcjneofhaaDoorLookLeakRef
namespace Go.Proofs.YtjphchcjneofhaaDoor
open Go.RowKit
namespace LookRootsLaw
theorem ent_l1 (vs : Array Value) (w : World) : (callFunc 8 vs).run Tryd.prog w = .ok (.enter 8 vs) w := by kernel_rfl
theorem ent_l2 (vs : Array Value) (w : World) : (callFunc 9 vs).run Tryd.prog w = .ok (.enter 9 vs) w := by kernel_rfl
theorem ent_s1 (vs : Array Value) (w : World) : (callFunc 10 vs).run Tryd.prog w = .ok (.enter 10 vs) w := by kernel_rfl
theorem ent_s2 (vs : Array Value) (w : World) : (callFunc 11 vs).run Tryd.prog w = .ok (.enter 11 vs) w := by kernel_rfl
theorem at_eq {F : Nat → Value} (hF : Sc F 49) (s t : Nat) : ∃ g, atV F s t = rootV g := by
  refine ⟨fun q => if atB s t then nat (F (141 + t % 8 * 32 + q)) else 0, ?_⟩
  unfold atV
  cases atB s t with
  | false => rfl
  | true =>
    refine congrArg Value.agg (arr_congr fun q hq => ?_)
    have h : ∀ i, i < 8 → ∀ q, q < 32 → leafAt Tryd.prog 8 49 (141 + i * 32 + q) = some 5 := by decide +kernel
    exact (hF.u8 _ (h (t % 8) (Nat.mod_lt _ (by omega)) q hq)).1
theorem leB_low {a b : Nat} (h : a % 4294967296 = b % 4294967296) : ∀ i, i < 4 → leB a i = leB b i := fun i hi => by
  have h4 : i = 0 ∨ i = 1 ∨ i = 2 ∨ i = 3 := by omega
  unfold leB
  rcases h4 with rfl | rfl | rfl | rfl
  · show a / 1 % 256 = b / 1 % 256; omega
  · show a / 256 % 256 = b / 256 % 256; omega
  · show a / 65536 % 256 = b / 65536 % 256; omega
  · show a / 16777216 % 256 = b / 16777216 % 256; omega
theorem seed_low {a b E : Nat} {M : Nat → Nat} (h : a % 4294967296 = b % 4294967296) : shaB (seedF a E M) 44 = shaB (seedF b E M) 44 := shaB_congr fun i hi => by
  unfold seedF catN
  by_cases h1 : i < 4
  · rw [if_pos (by omega), if_pos h1, if_pos (by omega), if_pos h1, leB_low h i h1]
  · by_cases h2 : i < 12
    · rw [if_pos h2, if_neg h1, if_pos h2, if_neg h1]
    · rw [if_neg h2, if_neg h2]
end LookRootsLaw
open LookRootsLaw in
set_option maxRecDepth 20000 in
set_option maxHeartbeats 4000000 in
theorem lookRoots_law (w : World) (s : StV) (hS : StOk w w.heap.size s) (t : Nat) (ht : t < 18446744073709551616) (E : Nat) (_hE : E < 18446744073709551616) (k : Int) (_hk : -9223372036854775808 ≤ k ∧ k ≤ 9223372036854775807) (hp : ShaPkg w) (hpr : RefPkg w) :
    Calls Tryd.prog 3 #[.agg (arr 1957 s.F), .int .u64 (t : Int), .int .u64 (E : Int), .int .i64 k] w fun r w' => r = .returned (.bool true) ∧ Below w.heap.size w w' := by
  have HOk := Lib.hid hS
  have HP := Lib.hid hp
  have HPR := Lib.hid hpr
  obtain ⟨K, hK⟩ : ∃ K : Nat, IntKind.u64.wrap k = (K : Int) := ⟨(k % 18446744073709551616).toNat, by rw [wrapU]; omega⟩
  obtain ⟨K2, hK2⟩ : ∃ K : Nat, k % 4294967296 = (K : Int) := ⟨(k % 4294967296).toNat, by omega⟩
  have HSE := Lib.hid (show Ending.returned (rootV (shaB (seedF K2 E (mixN s.F E)) 44)) = .returned (rootV (shaB (seedF K E (mixN s.F E)) 44)) by rw [seed_low (a := K2) (b := K) (by rw [wrapU] at hK; omega)])
  have HK := Lib.hid hK
  have HK2 := Lib.hid hK2
  clear hS hp hpr hK hK2 _hk
  go_enter Tryd.func3, Tryd.ntmps3
  go_upto_if 17 with (first
    | (refine wpList_box rfl _ _ rfl 1957 s.F rfl ?_; intro w1 hr1 hb1; have HR1 := Lib.hid hr1; have HB1 := Lib.hid hb1; clear hr1 hb1)
    | (go_at_call 4; refine (awake_any _).mono ?_; rintro r w2 ⟨rfl, hb2⟩; have HB2 := Lib.hid hb2; clear hb2)
    | (refine wpList_load_rd rfl 49 _ rfl 1957 _ Tryd.underlying49 rfl (by kernel_rfl) ⟨w.heap.size, 0, none⟩ rfl s.F (fun i hi => by rw [add_lit0]; exact (row_below HR1.out HB2.out HR1.out.lt).cell hi) ?_)
    | (go_at_call 5; refine (right_any s _ ((HOk.out.below (HB1.out.trans (HB2.out.mono HB1.out.size))).more (Nat.le_trans HB1.out.size HB2.out.size))).mono ?_; rintro r w3 ⟨b, rfl, hF, hb3⟩; have HF := Lib.hid hF; have HB3 := Lib.hid (HB2.out.trans (hb3.mono HB2.out.size)); clear hb3 hF))
  cases b with
  | false =>
    go_wp2_with fail
    go_ret
    exact ⟨rfl, HB1.out.trans (HB3.out.mono HB1.out.size)⟩
  | true =>
    have HRF := HF.out rfl
    have HSc := Lib.hid HOk.out.sc
    obtain ⟨S0, hS0e⟩ : ∃ S0, S0 = nat (s.F 33) := ⟨_, rfl⟩
    have H33 := Lib.hid (show s.F 33 = .int .u64 (S0 : Int) by rw [hS0e]; exact (HOk.out.sc.u64 33 (by kernel_rfl)).1)
    have H1059 := Lib.hid (HOk.out.sc.u64 1059 (by kernel_rfl)).1
    have hS0 : S0 < 1099511627776 := by rw [hS0e]; exact HRF.slot
    have hfin : nat (s.F 1059) ≤ S0 / 4 := by rw [hS0e]; exact HRF.fin
    obtain ⟨g, hg⟩ := at_eq HSc.out S0 t
    obtain ⟨er, her⟩ : ∃ er, er = atE S0 t := ⟨_, rfl⟩
    have HAT := Lib.hid (And.intro hg her.symm)
    have H3 := Lib.hid (((((HS.nil w).below HB1.out).add HR1.out (Nat.le_refl _) (by simp)).below HB3.out))
    clear HF HB2 HB3 HB1 HR1 hS0e HRF hg her
    have tok1 := Tok.mk 1
    go_upto_region 7 with (first
      | (have hx : Tok 1 := (by assumption); refine wpList_load_rd rfl 49 _ rfl 1957 _ Tryd.underlying49 rfl (by kernel_rfl) ⟨w.heap.size, 0, none⟩ rfl s.F (fun i hi => by rw [add_lit0]; exact H3.out.cell 0 i rfl hi) ?_; clear hx)
      | (go_at_call 6; have hx : Tok 1 := (by assumption); clear hx tok1; refine (rootAt_look s.F HSc.out S0 t H33.out (by omega) ht _).mono ?_; rintro r w4 ⟨rfl, hb⟩; rw [HAT.out.1, HAT.out.2]; have H4 := Lib.hid (H3.out.below hb); clear hb; have tok2 := Tok.mk 2)
      | (have hx : Tok 2 := (by assumption); refine wpList_allocH rfl 24 rfl H4.out (Array.replicate 32 (.int .u8 0)) (by kernel_rfl) 32 (u8v fun _ => 0) (by rfl) (zero_at 32 (.int .u8 0)) ?_; clear hx tok2; intro w5 hs; have H5a := Lib.hid hs; clear hs; have tok3 := Tok.mk 3)
      | (have hx : Tok 3 := (by assumption); refine wpList_storeH rfl 24 (.tmp 9) (.tmp 22) rfl H5a.out 0 rfl (u8v g) rfl rfl (by kernel_rfl) (fun _ _ => rfl) ?_; clear hx tok3; intro w5s hs; have H5 := Lib.hid hs; clear hs H5a; have tok4 := Tok.mk 4)
      | (have hx : Tok 4 := (by assumption); refine wpList_load_rd rfl 49 _ rfl 1957 _ Tryd.underlying49 rfl (by kernel_rfl) ⟨w.heap.size, 0, none⟩ rfl s.F (fun i hi => by rw [add_lit0]; exact H5.out.cell 1 i rfl hi) ?_; clear hx)
      | (go_at_call 7; have hx : Tok 4 := (by assumption); clear hx tok4; refine (rootAt_ref s.F HSc.out S0 t H33.out (by omega) ht _).mono ?_; rintro r w6 ⟨rfl, hb⟩; rw [HAT.out.1, HAT.out.2]; have H6 := Lib.hid (H5.out.below hb); clear hb; have tok5 := Tok.mk 5)
      | (have hx : Tok 5 := (by assumption); refine wpList_allocH rfl 24 rfl H6.out (Array.replicate 32 (.int .u8 0)) (by kernel_rfl) 32 (u8v fun _ => 0) (by rfl) (zero_at 32 (.int .u8 0)) ?_; clear hx tok5; intro w7 hs; have H7a := Lib.hid hs; clear hs; have tok6 := Tok.mk 6)
      | (have hx : Tok 6 := (by assumption); refine wpList_storeH rfl 24 (.tmp 11) (.tmp 28) rfl H7a.out 0 rfl (u8v g) rfl rfl (by kernel_rfl) (fun _ _ => rfl) ?_; clear hx tok6; intro w7s hs; have H7 := Lib.hid hs; clear hs H7a; have tok7 := Tok.mk 7))
    have hs : HS w w7s [⟨w6.heap.size, 24, 32, u8v g⟩, ⟨w4.heap.size, 24, 32, u8v g⟩, ⟨w.heap.size, 49, 1957, s.F⟩] := H7.out
    obtain ⟨b9, hb9⟩ : ∃ b, b = w4.heap.size := ⟨_, rfl⟩
    obtain ⟨b11, hb11⟩ : ∃ b, b = w6.heap.size := ⟨_, rfl⟩
    have hl9 : w.heap.size ≤ b9 := by rw [hb9]; exact H4.out.size
    have hl11 : w.heap.size ≤ b11 := by rw [hb11]; exact H6.out.size
    rw [← hb9, ← hb11] at hs ⊢
    obtain ⟨wc, hwc⟩ : ∃ wc, wc = w7s := ⟨_, rfl⟩
    rw [← hwc] at hs ⊢
    have LS := Lib.hid (ld_all (hs.row 2 rfl) (hs.row 2 rfl).lt Tryd.underlying49 rfl (by kernel_rfl))
    have L9 := Lib.hid (ld_all (hs.row 1 rfl) (hs.row 1 rfl).lt Tryd.underlying24 rfl (by kernel_rfl))
    have L11 := Lib.hid (ld_all (hs.row 0 rfl) (hs.row 0 rfl).lt Tryd.underlying24 rfl (by kernel_rfl))
    have HWC := Lib.hid (hs.out (by simp; omega))
    have HR0 := Lib.hid (hs.row 2 rfl)
    clear hs hwc hb9 hb11 H3 H4 H5 H6 H7 tok7
    refine wp_region_facts (B := wc.heap.size) (w0 := wc) [SF.is (rootV g), SF.is (rootV g), SF.is (.bool false), SF.is (.bool false), SF.is (.int .i64 (er)), SF.is (.int .i64 (er)), SF.is (.bool false), SF.is (.bool false), SF.is (.bool false), SF.is (.agg (arr 1957 s.F)), SF.is (.bool (leakB S0 (nat (s.F 1059)))), SF.is (.agg (arr 1957 s.F)), SF.is (.bool (leakB S0 (nat (s.F 1059)))), SF.is (.bool false), SF.is (.bool false)] (by kernel_rfl) (by kernel_rfl) rfl (Nat.le_refl _) (Below.refl _ _) ⟨?_, ?_, ?_, ?_, ?_, ?_, ?_, ?_, ?_, ?_, ?_, ?_, ?_, ?_, ?_, trivial⟩ ?_
    · exact opOb_ld rfl rfl (OpK.tmp rfl) (fun w' hb => L9.out w' hb)
    · exact opOb_ld rfl rfl (OpK.tmp rfl) (fun w' hb => L11.out w' hb)
    · exact opOb_neArr 5 32 .u8 (fun i => ((g i : Nat) : Int)) (fun i => ((g i : Nat) : Int)) false Tryd.underlying24 Tryd.underlying5 (by kernel_rfl) (by kernel_rfl) (by simp) rfl rfl (OpK.tmp rfl) (OpK.tmp rfl)
    · exact (opOb_move _ rfl (.inl rfl) rfl)
    · exact opOb_on 33 rfl rfl ((opOb_move _ rfl (.inl rfl) rfl))
    · exact opOb_on 33 rfl rfl ((opOb_move _ rfl (.inl rfl) rfl))
    · exact opOb_on 33 rfl rfl (opOb_neSame .i64 (er) rfl rfl (OpK.tmp rfl) (OpK.tmp rfl))
    · exact opOb_pickF rfl rfl rfl (OpK.tmp rfl)
    · exact (opOb_move _ rfl (.inl rfl) rfl)
    · exact opOb_on 38 rfl rfl (opOb_ld rfl rfl (OpK.tmp rfl) (fun w' hb => LS.out w' hb))
    · exact opOb_on 38 rfl rfl (opOb_fn1 ent_l1 rfl rfl (OpK.tmp rfl) (fun w' hb => (leak_look s.F S0 (nat (s.F 1059)) w' H33.out hS0 H1059.out hfin).mono fun r w'' ⟨he', hb2⟩ => ⟨_, he', rfl, hb2⟩))
    · exact opOb_on 38 rfl rfl (opOb_ld rfl rfl (OpK.tmp rfl) (fun w' hb => LS.out w' hb))
    · exact opOb_on 38 rfl rfl (opOb_fn1 ent_l2 rfl rfl (OpK.tmp rfl) (fun w' hb => (leak_ref s.F S0 (nat (s.F 1059)) w' H33.out hS0 H1059.out hfin).mono fun r w'' ⟨he', hb2⟩ => ⟨_, he', rfl, hb2⟩))
    · exact opOb_on 38 rfl rfl (opOb_neBool (leakB S0 (nat (s.F 1059))) Tryd.underlying4 rfl rfl (OpK.tmp rfl) (OpK.tmp rfl))
    · exact opOb_pickF rfl rfl rfl (OpK.tmp rfl)
    · intro w' hb
      simp only [fin, SF.is, forall_eq]
      simp only [Act.put, List.setIfInBounds_toArray, List.set_cons_succ, List.set_cons_zero]
      have HWC2 := Lib.hid (HWC.out.trans (hb.mono HWC.out.size))
      have HR2 := Lib.hid (row_below HR0.out hb HR0.out.lt)
      clear hb LS L9 L11 HWC HR0
      go_upto_region 9 with fail
      obtain ⟨wd, hwd⟩ : ∃ wd, wd = w' := ⟨_, rfl⟩
      rw [← hwd] at HWC2 HR2 ⊢
      have HWC := HWC2
      have LS := Lib.hid (ld_all HR2.out HR2.out.lt Tryd.underlying49 rfl (by kernel_rfl))
      clear hwd HWC2
      refine wp_region_facts (B := wd.heap.size) (w0 := wd) [SF.is (.agg (arr 1957 s.F)), SF.is (.int .u64 ((E : Nat) : Int)), SF.is (.int .i64 k), SF.is (rootV (shaB (seedF K E (mixN s.F E)) 44)), SF.is (.agg (arr 1957 s.F)), SF.is (.int .u64 ((E : Nat) : Int)), SF.is (.int .i64 k), SF.is (rootV (shaB (seedF K E (mixN s.F E)) 44)), SF.is (.bool true), SF.is (.bool true)] (by kernel_rfl) (by kernel_rfl) rfl (Nat.le_refl _) (Below.refl _ _) ⟨?_, ?_, ?_, ?_, ?_, ?_, ?_, ?_, ?_, ?_, trivial⟩ ?_
      · exact opOb_ld rfl rfl (OpK.tmp rfl) (fun w' hb => LS.out w' hb)
      · exact (opOb_move _ rfl (.inl rfl) rfl)
      · exact (opOb_move _ rfl (.inl rfl) rfl)
      · exact opOb_fn3 ent_s1 rfl rfl (OpK.tmp rfl) (OpK.tmp rfl) (OpK.tmp rfl) (fun w' hb => (seed_look s.F HSc.out E k K HK.out w' (HP.out.below (HWC.out.trans (hb.mono HWC.out.size)))).mono fun r w'' ⟨he', hb2⟩ => ⟨_, he'.trans rfl, rfl, hb2⟩)
      · exact opOb_ld rfl rfl (OpK.tmp rfl) (fun w' hb => LS.out w' hb)
      · exact (opOb_move _ rfl (.inl rfl) rfl)
      · exact (opOb_move _ rfl (.inl rfl) rfl)
      · exact opOb_fn3 ent_s2 rfl rfl (OpK.tmp rfl) (OpK.tmp rfl) (OpK.tmp rfl) (fun w' hb => (seed_ref s.F HSc.out E k K2 HK2.out w' (HPR.out.below (HWC.out.trans (hb.mono HWC.out.size)))).mono fun r w'' ⟨he', hb2⟩ => ⟨_, he'.trans HSE.out, rfl, hb2⟩)
      · exact opOb_eqArr 5 32 .u8 (fun i => ((shaB (seedF K E (mixN s.F E)) 44 i : Nat) : Int)) (fun i => ((shaB (seedF K E (mixN s.F E)) 44 i : Nat) : Int)) true Tryd.underlying24 Tryd.underlying5 (by kernel_rfl) (by kernel_rfl) (by simp) rfl rfl (OpK.tmp rfl) (OpK.tmp rfl)
      · exact (opOb_move _ rfl (.inr rfl) rfl)
      · intro w9 hb
        simp only [fin, SF.is, forall_eq]
        simp only [Act.put, List.setIfInBounds_toArray, List.set_cons_succ, List.set_cons_zero]
        have hend := HWC.out.trans (hb.mono HWC.out.size)
        go_wp2_with fail
        go_ret
        exact ⟨rfl, hend⟩
end Go.Proofs.YtjphchcjneofhaaDoor
