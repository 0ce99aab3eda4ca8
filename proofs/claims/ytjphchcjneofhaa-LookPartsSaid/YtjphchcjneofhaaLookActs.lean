/- Who is active: the lists of package look, and of its reference. -/
import Derived.Test.YtjphchcjneofhaaLookSums
namespace Go.Proofs.Ytjphchcjneofhaa
open Go.RowKit
theorem u64_info : (Try.prog.info? 22).map (fun i => (i.zero, i.size, i.bytes)) = some (some (.int .u64 0), 1, 8) := by kernel_rfl
theorem aw_le {V : Nat → Value} {e i : Nat} (h : effF V i ≤ 32000000000) : aw V e i ≤ 32000000000 := by
  unfold aw; split
  · exact h
  · exact Nat.zero_le _
theorem Own.weak {w : World} {base base' : Nat} {e : TypeId} {A : Option Addr} {n c : Nat} {f : Nat → Value} (h : Own w base' e A n c f) (hb : base ≤ base') : Own w base e A n c f := by
  obtain ⟨h1, h2⟩ := h
  refine ⟨h1, ?_⟩
  rcases h2 with h2 | ⟨g, cap, cur, hv, hg, r⟩
  · exact .inl h2
  · exact .inr ⟨g, cap, cur, hv, by omega, r⟩

set_option maxHeartbeats 1000000 in
theorem actives_look (F : Nat → Value) (A : Option Addr) (n c : Nat) (V : Nat → Value) (e : Nat) (w : World) (hV : VOk w w.heap.size F A n c V) (hn : n ≤ 65536) :
    Calls Try.prog 19 #[.agg (arr 1957 F), .int .u64 (e : Int)] w fun r w' => ∃ C cC, r = .returned (.slice C (actIx V e n).length cC) ∧ Own w' w.heap.size 22 C (actIx V e n).length cC (fun j => .int .u64 ((ax V e n j : Nat) : Int)) ∧ Below w.heap.size w w' := by
  have HV := Lib.hid hV
  clear hV
  go_enter Try.func19, Try.ntmps19
  go_wp2_with (refine wpList_box rfl _ _ rfl 1957 F rfl ?_; intro w1 hr1 hb1; have HR1 := Lib.hid hr1; have HB1 := Lib.hid hb1; have h721 := hr1.cell (i := 721) (by omega); rw [HV.out.f] at h721; clear hr1 hb1)
  have hlt := HR1.out.lt
  go_loopw [5, 11] (fun t i wr => ∃ (k : Nat) (C : Option Addr) (cC : Nat), t = .slice C (actIx V e k).length cC ∧ i = .int .i64 (k : Int) ∧ k ≤ n ∧ Own wr w1.heap.size 22 C (actIx V e k).length cC (fun j => .int .u64 ((ax V e k j : Nat) : Int)) ∧ Below w1.heap.size w1 wr) (fun _ i _ => n - (intOf i).toNat)
  case atStart => exact ⟨0, none, 0, rfl, rfl, Nat.zero_le _, Own.nil _ _ _ _, Below.refl _ _⟩
  case round =>
    obtain ⟨k, C, cC, rfl, rfl, hk, ho, hb⟩ := hrel
    have HO := Lib.hid ho
    have HB := Lib.hid hb
    have hsz := hb.size
    have hL := actIx_le V e k
    have h7 : wr.cell? ⟨w.heap.size, 721, none⟩ = some (.slice A n c) := (hb.cell hlt).trans h721
    clear ho hb h721
    by_cases h1 : k < n
    · obtain ⟨ad, rfl, hb2, hc1, hc2⟩ := ((HV.out.below HB1.out).more HB1.out.size).below HB.out |>.at_ h1
      have hc83 := hc2 83 (by omega) (by omega)
      have hc84 := hc2 84 (by omega) (by omega)
      obtain ⟨e83, -⟩ := (HV.out.sc _ h1).u64 83 (by kernel_rfl)
      obtain ⟨e84, -⟩ := (HV.out.sc _ h1).u64 84 (by kernel_rfl)
      rw [e83] at hc83
      rw [e84] at hc84
      have HC1 := Lib.hid hc1
      clear hc1 hc2 e83 e84
      have HI : Hid (isAct V e k = actB (nat (V (k * 86 + 83))) e (nat (V (k * 86 + 84)))) := Lib.hid rfl
      generalize nat (V (k * 86 + 83)) = x at *
      generalize nat (V (k * 86 + 84)) = y at *
      by_cases h2 : (x : Int) ≤ (e : Int)
      · by_cases h3 : (e : Int) < (y : Int)
        · have hI : isAct V e k = true := by rw [HI.out]; unfold actB; exact decide_eq_true (by omega)
          have HF := Lib.hid (ax_cat hI)
          have HL := Lib.hid (show (actIx V e (k + 1)).length = (actIx V e k).length + 1 by rw [actIx_t hI, List.length_append]; rfl)
          clear hI
          generalize hL2 : (actIx V e k).length = L at *
          go_wp2_with (at_builtin; refine wpList_app _ (.tmp 32) (.tmp 35) 37 w1.heap.size u64_info Try.underlying37 rfl rfl rfl (L + 1) (fun j => .int .u64 ((ax V e (k + 1) j : Nat) : Int)) rfl rfl (HO.out.alloc _) (Rd.one _ _ _) (fun _ _ => rfl) rfl HF.out ⟨by omega, by omega⟩ (by simp; omega) ?_; intro C2 c2 w2 o2 g2 b2; have O2 := Lib.hid (And.intro o2 (And.intro g2 b2)); clear o2 g2 b2)
          go_roundw
          case rel => exact ⟨k + 1, _, _, by rw [HL.out], by go_num, by omega, by rw [HL.out]; exact O2.out.1, below_app (HB.out.alloc hsz _) O2.out.2.1 (by simp; omega) (fun ad h => (HO.out.base_le ad h).1)⟩
          case measure => simp [intOf]; omega
        · have hI : isAct V e k = false := by rw [HI.out]; unfold actB; exact decide_eq_false (by omega)
          have HL := Lib.hid (actIx_f hI)
          have HX := Lib.hid (show ax V e (k + 1) = ax V e k by unfold ax; rw [actIx_f hI])
          clear hI
          go_wp2_with fail
          go_roundw
          case rel => exact ⟨k + 1, C, cC, by rw [HL.out], by go_num, by omega, by rw [HL.out, HX.out]; exact HO.out, HB.out⟩
          case measure => simp [intOf]; omega
      · have hI : isAct V e k = false := by rw [HI.out]; unfold actB; exact decide_eq_false (by omega)
        have HL := Lib.hid (actIx_f hI)
        have HX := Lib.hid (show ax V e (k + 1) = ax V e k by unfold ax; rw [actIx_f hI])
        clear hI
        go_wp2_with fail
        go_roundw
        case rel => exact ⟨k + 1, C, cC, by rw [HL.out], by go_num, by omega, by rw [HL.out, HX.out]; exact HO.out, HB.out⟩
        case measure => simp [intOf]; omega
    · obtain rfl : n = k := by omega
      have HL : ∃ L, L = (actIx V e n).length := ⟨_, rfl⟩
      go_wp2_with fail
      go_ret
      exact ⟨_, _, rfl, HO.out.weak (by omega), HB1.out.trans (HB.out.mono HB1.out.size)⟩

set_option maxHeartbeats 1000000 in
theorem actives_ref (F : Nat → Value) (A : Option Addr) (n c : Nat) (V : Nat → Value) (e : Nat) (w : World) (hV : VOk w w.heap.size F A n c V) (hn : n ≤ 65536) :
    Calls Try.prog 20 #[.agg (arr 1957 F), .int .u64 (e : Int)] w fun r w' => ∃ C cC, r = .returned (.slice C (actIx V e n).length cC) ∧ Own w' w.heap.size 22 C (actIx V e n).length cC (fun j => .int .u64 ((ax V e n j : Nat) : Int)) ∧ Below w.heap.size w w' := by
  have HV := Lib.hid hV
  clear hV
  go_enter Try.func20, Try.ntmps20
  go_wp2_with (refine wpList_box rfl _ _ rfl 1957 F rfl ?_; intro w1 hr1 hb1; have HR1 := Lib.hid hr1; have HB1 := Lib.hid hb1; have h721 := hr1.cell (i := 721) (by omega); rw [HV.out.f] at h721; clear hr1 hb1)
  have hlt := HR1.out.lt
  go_loopw [5, 6] (fun t i wr => ∃ (k : Nat) (C : Option Addr) (cC : Nat), t = .slice C (actIx V e k).length cC ∧ i = .int .i64 (k : Int) ∧ k ≤ n ∧ Own wr w1.heap.size 22 C (actIx V e k).length cC (fun j => .int .u64 ((ax V e k j : Nat) : Int)) ∧ Below w1.heap.size w1 wr) (fun _ i _ => n - (intOf i).toNat)
  case atStart => exact ⟨0, none, 0, rfl, rfl, Nat.zero_le _, Own.nil _ _ _ _, Below.refl _ _⟩
  case round =>
    obtain ⟨k, C, cC, rfl, rfl, hk, ho, hb⟩ := hrel
    have HO := Lib.hid ho
    have HB := Lib.hid hb
    have hsz := hb.size
    have hL := actIx_le V e k
    have h7 : wr.cell? ⟨w.heap.size, 721, none⟩ = some (.slice A n c) := (hb.cell hlt).trans h721
    clear ho hb h721
    by_cases h1 : k < n
    · obtain ⟨ad, rfl, hb2, hc1, -⟩ := ((HV.out.below HB1.out).more HB1.out.size).below HB.out |>.at_ h1
      have HC1 := Lib.hid hc1
      clear hc1
      cases hI : isAct V e k with
      | true =>
        have HI := Lib.hid hI
        have HF := Lib.hid (ax_cat hI)
        have HL := Lib.hid (show (actIx V e (k + 1)).length = (actIx V e k).length + 1 by rw [actIx_t hI, List.length_append]; rfl)
        clear hI
        generalize hL2 : (actIx V e k).length = L at *
        go_wp2_with (first
          | (refine wpList_load_rd rfl 60 _ rfl 86 _ Try.underlying60 rfl (by kernel_rfl) (ad.add (k * 86)) rfl (fun q => V (k * 86 + q)) HC1.out ?_)
          | (go_at_call 16; refine (active_ref (fun q => V (k * 86 + q)) (HV.out.sc _ h1) e _).mono ?_; rintro r w2 ⟨hr, hb2⟩; rw [show actB (nat (V (k * 86 + 83))) e (nat (V (k * 86 + 84))) = true from HI.out] at hr; subst hr; have HB2 := Lib.hid hb2; have hsz2 := hb2.size; clear hb2)
          | (at_builtin; refine wpList_app _ (.tmp 21) (.tmp 24) 37 w1.heap.size u64_info Try.underlying37 rfl rfl rfl (L + 1) (fun j => .int .u64 ((ax V e (k + 1) j : Nat) : Int)) rfl rfl ((HO.out.below HB2.out (fun ad h => (HO.out.base_le ad h).2)).alloc _) (Rd.one _ _ _) (fun _ _ => rfl) rfl HF.out ⟨by omega, by omega⟩ (by simp; omega) ?_; intro C2 c2 w3 o2 g2 b2; have O2 := Lib.hid (And.intro o2 (And.intro g2 b2)); clear o2 g2 b2))
        go_roundw
        case rel => exact ⟨k + 1, _, _, by rw [HL.out], by go_num, by omega, by rw [HL.out]; exact O2.out.1, below_app (((HB.out.trans (HB2.out.mono hsz))).alloc (by omega) _) O2.out.2.1 (by simp; omega) (fun ad h => (HO.out.base_le ad h).1)⟩
        case measure => simp [intOf]; omega
      | false =>
        have HI := Lib.hid hI
        have HL := Lib.hid (actIx_f hI)
        have HX := Lib.hid (show ax V e (k + 1) = ax V e k by unfold ax; rw [actIx_f hI])
        clear hI
        go_wp2_with (first
          | (refine wpList_load_rd rfl 60 _ rfl 86 _ Try.underlying60 rfl (by kernel_rfl) (ad.add (k * 86)) rfl (fun q => V (k * 86 + q)) HC1.out ?_)
          | (go_at_call 16; refine (active_ref (fun q => V (k * 86 + q)) (HV.out.sc _ h1) e _).mono ?_; rintro r w2 ⟨hr, hb2⟩; rw [show actB (nat (V (k * 86 + 83))) e (nat (V (k * 86 + 84))) = false from HI.out] at hr; subst hr; have HB2 := Lib.hid hb2; have hsz2 := hb2.size; clear hb2))
        go_roundw
        case rel => exact ⟨k + 1, C, cC, by rw [HL.out], by go_num, by omega, by rw [HL.out, HX.out]; exact HO.out.below HB2.out (fun ad h => (HO.out.base_le ad h).2), HB.out.trans (HB2.out.mono hsz)⟩
        case measure => simp [intOf]; omega
    · obtain rfl : n = k := by omega
      go_wp2_with fail
      go_ret
      exact ⟨_, _, rfl, HO.out.weak (by omega), HB1.out.trans (HB.out.mono HB1.out.size)⟩

set_option maxHeartbeats 1000000 in
theorem now_any (b : Nat) (F : Nat → Value) (A : Option Addr) (n c : Nat) (V : Nat → Value) (s e : Nat) (hse : s / 4 = e) (w : World) (hrow : w.rowIs b 49 1957 F) (hs : F 33 = .int .u64 (s : Int)) (hs2 : s < 1099511627776) (hV : VOk w w.heap.size F A n c V) (he : ∀ i, i < n → effF V i ≤ 32000000000) (hn : n ≤ 65536) :
    Calls Try.prog 23 #[.pointer (some ⟨b, 0, none⟩)] w fun r w' => r = .returned (.tuple #[.int .u64 ((totB (sumTo (aw V e) n) : Nat) : Int), .int .u64 ((sumTo (ac V e) n : Nat) : Int)]) ∧ w' = w := by
  have HV := Lib.hid hV
  have HE := Lib.hid he
  have h33 := hrow.cell (i := 33) (by omega)
  have h721 := hrow.cell (i := 721) (by omega)
  rw [hs] at h33
  rw [hV.f] at h721
  clear hV he hrow hs
  have HD := Lib.hid (show (s : Int) / 4 = (e : Int) by omega)
  go_enter Try.func23, Try.ntmps23
  go_upto_region 2 with fail
  rw [HD.out]
  clear HD hse
  go_wp2_with fail
  go_loopw [2, 3, 17] (fun t u i wr => ∃ k : Nat, t = .int .u64 ((sumTo (aw V e) k : Nat) : Int) ∧ u = .int .u64 ((sumTo (ac V e) k : Nat) : Int) ∧ i = .int .i64 (k : Int) ∧ k ≤ n ∧ wr = w) (fun _ _ i _ => n - (intOf i).toNat)
  case atStart => exact ⟨0, rfl, rfl, rfl, Nat.zero_le _, rfl⟩
  case round =>
    obtain ⟨k, rfl, rfl, rfl, hk, rfl⟩ := hrel
    have ht := sumTo_small (z := aw V e) (k := k) fun i hi => aw_le (HE.out i (by omega))
    have hu : sumTo (ac V e) k ≤ k := by rw [← actIx_len]; exact actIx_le _ _ _
    generalize hT : sumTo (aw V e) k = t at *
    generalize hU : sumTo (ac V e) k = u at *
    by_cases h1 : k < n
    · obtain ⟨ad, rfl, hb2, -, hc2⟩ := HV.out.at_ h1
      have hc80 := hc2 80 (by omega) (by omega)
      have hc83 := hc2 83 (by omega) (by omega)
      have hc84 := hc2 84 (by omega) (by omega)
      obtain ⟨e80, -⟩ := (HV.out.sc _ h1).u64 80 (by kernel_rfl)
      obtain ⟨e83, -⟩ := (HV.out.sc _ h1).u64 83 (by kernel_rfl)
      obtain ⟨e84, -⟩ := (HV.out.sc _ h1).u64 84 (by kernel_rfl)
      rw [e80] at hc80
      rw [e83] at hc83
      rw [e84] at hc84
      have hz := HE.out k h1
      clear hc2 e80 e83 e84
      have HI : Hid (isAct V e k = actB (nat (V (k * 86 + 83))) e (nat (V (k * 86 + 84)))) := Lib.hid rfl
      have HZ : Hid (effF V k = nat (V (k * 86 + 80))) := Lib.hid rfl
      rw [HZ.out] at hz
      generalize nat (V (k * 86 + 83)) = x at *
      generalize nat (V (k * 86 + 84)) = y at *
      generalize nat (V (k * 86 + 80)) = z at *
      by_cases h2 : (x : Int) ≤ (e : Int)
      · by_cases h3 : (e : Int) < (y : Int)
        · have hI : isAct V e k = true := by rw [HI.out]; unfold actB; exact decide_eq_true (by omega)
          have H1 := Lib.hid (show sumTo (aw V e) (k + 1) = t + z by rw [← hT]; show _ + aw V e k = _; unfold aw; rw [hI, HZ.out]; rfl)
          have H2 := Lib.hid (show sumTo (ac V e) (k + 1) = u + 1 by rw [← hU]; show _ + ac V e k = _; unfold ac; rw [hI]; rfl)
          clear hI hT hU
          go_wp2_with fail
          go_roundw
          case rel => exact ⟨k + 1, by rw [H1.out]; go_num, by rw [H2.out]; go_num, by go_num, by omega, True.intro⟩
          case measure => simp [intOf]; omega
        · have hI : isAct V e k = false := by rw [HI.out]; unfold actB; exact decide_eq_false (by omega)
          have H1 := Lib.hid (show sumTo (aw V e) (k + 1) = t + 0 by rw [← hT]; show _ + aw V e k = _; unfold aw; rw [hI]; rfl)
          have H2 := Lib.hid (show sumTo (ac V e) (k + 1) = u + 0 by rw [← hU]; show _ + ac V e k = _; unfold ac; rw [hI]; rfl)
          clear hI hT hU
          go_wp2_with fail
          go_roundw
          case rel => exact ⟨k + 1, by rw [H1.out]; go_num, by rw [H2.out]; go_num, by go_num, by omega, True.intro⟩
          case measure => simp [intOf]; omega
      · have hI : isAct V e k = false := by rw [HI.out]; unfold actB; exact decide_eq_false (by omega)
        have H1 := Lib.hid (show sumTo (aw V e) (k + 1) = t + 0 by rw [← hT]; show _ + aw V e k = _; unfold aw; rw [hI]; rfl)
        have H2 := Lib.hid (show sumTo (ac V e) (k + 1) = u + 0 by rw [← hU]; show _ + ac V e k = _; unfold ac; rw [hI]; rfl)
        clear hI hT hU
        go_wp2_with fail
        go_roundw
        case rel => exact ⟨k + 1, by rw [H1.out]; go_num, by rw [H2.out]; go_num, by go_num, by omega, True.intro⟩
        case measure => simp [intOf]; omega
    · obtain rfl : n = k := by omega
      have HT := Lib.hid hT
      have HU := Lib.hid hU
      clear hT hU
      go_wp2_with (refine wpList_max rfl rfl .u64 _ _ _ rfl rfl (totB_max t) ?_)
      go_ret2
      rw [HT.out, HU.out]
      exact ⟨rfl, rfl⟩
end Go.Proofs.Ytjphchcjneofhaa
