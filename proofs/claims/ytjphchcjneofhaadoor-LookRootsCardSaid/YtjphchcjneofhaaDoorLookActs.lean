/- Who is active: the lists of package look, and of its reference. -/
import Derived.Test.YtjphchcjneofhaaDoorLookSums
namespace Go.Proofs.YtjphchcjneofhaaDoor
open Go.RowKit
theorem u64_info : (Tryd.prog.info? 22).map (fun i => (i.zero, i.size, i.bytes)) = some (some (.int .u64 0), 1, 8) := by kernel_rfl
theorem aw_le {V : Nat → Value} {e i : Nat} (h : effF V i ≤ 32000000000) : aw V e i ≤ 32000000000 := by
  unfold aw; split
  · exact h
  · exact Nat.zero_le _
theorem Own.weak {w : World} {base base' : Nat} {e : TypeId} {A : Option Addr} {n c : Nat} {f : Nat → Value} (h : Own w base' e A n c f) (hb : base ≤ base') : Own w base e A n c f := by
  obtain ⟨h1, h2⟩ := h
  refine ⟨h1, ?_⟩
  rcases h2 with h2 | ⟨g, cap, cur, hv, hg, r⟩
  · exact .inl h2
  · exact .inr ⟨g, cap, cur, hv, by omega, r⟩

set_option maxHeartbeats 1000000 in
theorem now_any (b : Nat) (F : Nat → Value) (A : Option Addr) (n c : Nat) (V : Nat → Value) (s e : Nat) (hse : s / 4 = e) (w : World) (hrow : w.rowIs b 49 1957 F) (hs : F 33 = .int .u64 (s : Int)) (hs2 : s < 1099511627776) (hV : VOk w w.heap.size F A n c V) (he : ∀ i, i < n → effF V i ≤ 32000000000) (hn : n ≤ 65536) :
    Calls Tryd.prog 27 #[.pointer (some ⟨b, 0, none⟩)] w fun r w' => r = .returned (.tuple #[.int .u64 ((totB (sumTo (aw V e) n) : Nat) : Int), .int .u64 ((sumTo (ac V e) n : Nat) : Int)]) ∧ w' = w := by
  have HV := Lib.hid hV
  have HE := Lib.hid he
  have h33 := hrow.cell (i := 33) (by omega)
  have h721 := hrow.cell (i := 721) (by omega)
  rw [hs] at h33
  rw [hV.f] at h721
  clear hV he hrow hs
  have HD := Lib.hid (show (s : Int) / 4 = (e : Int) by omega)
  go_enter Tryd.func27, Tryd.ntmps27
  go_upto_region 2 with fail
  rw [HD.out]
  clear HD hse
  go_wp2_with fail
  go_loopw [2, 3, 17] (fun t u i wr => ∃ k : Nat, t = .int .u64 ((sumTo (aw V e) k : Nat) : Int) ∧ u = .int .u64 ((sumTo (ac V e) k : Nat) : Int) ∧ i = .int .i64 (k : Int) ∧ k ≤ n ∧ wr = w) (fun _ _ i _ => n - (intOf i).toNat)
  case atStart => exact ⟨0, rfl, rfl, rfl, Nat.zero_le _, rfl⟩
  case round =>
    obtain ⟨k, rfl, rfl, rfl, hk, rfl⟩ := hrel
    have ht := sumTo_small (z := aw V e) (k := k) fun i hi => aw_le (HE.out i (by omega))
    have hu : sumTo (ac V e) k ≤ k := by rw [← actIx_len]; exact actIx_le _ _ _
    generalize hT : sumTo (aw V e) k = t at *
    generalize hU : sumTo (ac V e) k = u at *
    by_cases h1 : k < n
    · obtain ⟨ad, rfl, hb2, -, hc2⟩ := HV.out.at_ h1
      have hc80 := hc2 80 (by omega) (by omega)
      have hc83 := hc2 83 (by omega) (by omega)
      have hc84 := hc2 84 (by omega) (by omega)
      obtain ⟨e80, -⟩ := (HV.out.sc _ h1).u64 80 (by kernel_rfl)
      obtain ⟨e83, -⟩ := (HV.out.sc _ h1).u64 83 (by kernel_rfl)
      obtain ⟨e84, -⟩ := (HV.out.sc _ h1).u64 84 (by kernel_rfl)
      rw [e80] at hc80
      rw [e83] at hc83
      rw [e84] at hc84
      have hz := HE.out k h1
      clear hc2 e80 e83 e84
      have HI : Hid (isAct V e k = actB (nat (V (k * 86 + 83))) e (nat (V (k * 86 + 84)))) := Lib.hid rfl
      have HZ : Hid (effF V k = nat (V (k * 86 + 80))) := Lib.hid rfl
      rw [HZ.out] at hz
      generalize nat (V (k * 86 + 83)) = x at *
      generalize nat (V (k * 86 + 84)) = y at *
      generalize nat (V (k * 86 + 80)) = z at *
      by_cases h2 : (x : Int) ≤ (e : Int)
      · by_cases h3 : (e : Int) < (y : Int)
        · have hI : isAct V e k = true := by rw [HI.out]; unfold actB; exact decide_eq_true (by omega)
          have H1 := Lib.hid (show sumTo (aw V e) (k + 1) = t + z by rw [← hT]; show _ + aw V e k = _; unfold aw; rw [hI, HZ.out]; rfl)
          have H2 := Lib.hid (show sumTo (ac V e) (k + 1) = u + 1 by rw [← hU]; show _ + ac V e k = _; unfold ac; rw [hI]; rfl)
          clear hI hT hU
          go_wp2_with fail
          go_roundw
          case rel => exact ⟨k + 1, by rw [H1.out]; go_num, by rw [H2.out]; go_num, by go_num, by omega, True.intro⟩
          case measure => simp [intOf]; omega
        · have hI : isAct V e k = false := by rw [HI.out]; unfold actB; exact decide_eq_false (by omega)
          have H1 := Lib.hid (show sumTo (aw V e) (k + 1) = t + 0 by rw [← hT]; show _ + aw V e k = _; unfold aw; rw [hI]; rfl)
          have H2 := Lib.hid (show sumTo (ac V e) (k + 1) = u + 0 by rw [← hU]; show _ + ac V e k = _; unfold ac; rw [hI]; rfl)
          clear hI hT hU
          go_wp2_with fail
          go_roundw
          case rel => exact ⟨k + 1, by rw [H1.out]; go_num, by rw [H2.out]; go_num, by go_num, by omega, True.intro⟩
          case measure => simp [intOf]; omega
      · have hI : isAct V e k = false := by rw [HI.out]; unfold actB; exact decide_eq_false (by omega)
        have H1 := Lib.hid (show sumTo (aw V e) (k + 1) = t + 0 by rw [← hT]; show _ + aw V e k = _; unfold aw; rw [hI]; rfl)
        have H2 := Lib.hid (show sumTo (ac V e) (k + 1) = u + 0 by rw [← hU]; show _ + ac V e k = _; unfold ac; rw [hI]; rfl)
        clear hI hT hU
        go_wp2_with fail
        go_roundw
        case rel => exact ⟨k + 1, by rw [H1.out]; go_num, by rw [H2.out]; go_num, by go_num, by omega, True.intro⟩
        case measure => simp [intOf]; omega
    · obtain rfl : n = k := by omega
      have HT := Lib.hid hT
      have HU := Lib.hid hU
      clear hT hU
      go_wp2_with (refine wpList_max rfl rfl .u64 _ _ _ rfl rfl (totB_max t) ?_)
      go_ret2
      rw [HT.out, HU.out]
      exact ⟨rfl, rfl⟩
end Go.Proofs.YtjphchcjneofhaaDoor
