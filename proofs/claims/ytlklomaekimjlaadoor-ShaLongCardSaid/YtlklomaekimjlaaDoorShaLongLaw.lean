/- The law ShaLong. (Printed by a program of mine.) -/
import Derived.Test.YtlklomaekimjlaaDoorShaAwake
import Derived.Test.YtlklomaekimjlaaDoorShaRef2
namespace Go.Proofs.YtlklomaekimjlaaDoor
open Go.RowKit
namespace ShaLongLaw
theorem ent_dsum (vs : Array Value) (w : World) : (callFunc 15 vs).run Tryd.prog w = .ok (.enter 15 vs) w := by kernel_rfl
theorem ent_sum (vs : Array Value) (w : World) : (callFunc 9 vs).run Tryd.prog w = .ok (.enter 9 vs) w := by kernel_rfl
def xF (c : Nat) (i : Nat) : Nat := (c + i / 77) % 256
theorem snoc_F (c k : Nat) (v : Value) (hv : v = .int .u8 ((xF c k : Nat) : Int)) : ∀ i, i < k + 1 → catF k (u8v (xF c)) (fun _ => v) i = u8v (xF c) i := fun i hi => by
  simp only [catF, u8v]
  by_cases h : i < k
  · rw [if_pos h]
  · obtain rfl : i = k := by omega
    rw [if_neg h, hv]
theorem cat_self (x : Nat → Nat) (M : Nat) {n : Nat} : ∀ i, i < n → catN (0 + M) x (fun i => x (M + i)) i = x i := fun i _ => by
  unfold catN
  by_cases h : i < 0 + M
  · rw [if_pos h]
  · rw [if_neg h]
    show x (M + (i - (0 + M))) = x i
    rw [show M + (i - (0 + M)) = i by omega]
end ShaLongLaw
open ShaLongLaw in
set_option maxHeartbeats 4000000 in
theorem shaLong_law (w : World) (c : Nat) (_hc : c < 256) (a : Int) (_ha : -9223372036854775808 ≤ a ∧ a ≤ 9223372036854775807) (b : Int) (_hb : -9223372036854775808 ≤ b ∧ b ≤ 9223372036854775807) (hp : ShaPkg w) (hr : RefPkg w) :
    Calls Tryd.prog 5 #[.int .u8 (c : Int), .int .i64 a, .int .i64 b] w fun e w' => e = .returned (.bool true) ∧ Below w.heap.size w w' := by
  have HP := Lib.hid hp
  have HR := Lib.hid hr
  have hlt := hp.lt
  have hA1 : -5000 ≤ a.tmod 5001 ∧ a.tmod 5001 ≤ 5000 := by
    have h1 := Int.tmod_lt_of_pos a (show (0 : Int) < 5001 by omega)
    have h2 := Int.lt_tmod_of_pos a (show (0 : Int) < 5001 by omega)
    omega
  obtain ⟨N, hN, hN5⟩ : ∃ N : Nat, (a.tmod 5001 + 5001) % 5001 = (N : Int) ∧ N ≤ 5000 := ⟨((a.tmod 5001 + 5001) % 5001).toNat, by omega, by omega⟩
  have hB1 : -(N : Int) ≤ b.tmod ((N : Int) + 1) ∧ b.tmod ((N : Int) + 1) ≤ N := by
    have h1 := Int.tmod_lt_of_pos b (show (0 : Int) < (N : Int) + 1 by omega)
    have h2 := Int.lt_tmod_of_pos b (show (0 : Int) < (N : Int) + 1 by omega)
    omega
  obtain ⟨M, hM, hMN⟩ : ∃ M : Nat, (b.tmod ((N : Int) + 1) + N + 1) % ((N : Int) + 1) = (M : Int) ∧ M ≤ N := by
    have h1 := Int.emod_nonneg (b.tmod ((N : Int) + 1) + N + 1) (show (N : Int) + 1 ≠ 0 by omega)
    have h2 := Int.emod_lt_of_pos (b.tmod ((N : Int) + 1) + N + 1) (show (0 : Int) < (N : Int) + 1 by omega)
    exact ⟨((b.tmod ((N : Int) + 1) + N + 1) % ((N : Int) + 1)).toNat, by omega, by omega⟩
  obtain ⟨hA1a, hA1b⟩ := hA1
  obtain ⟨hB1a, hB1b⟩ := hB1
  have hnz : ((N : Int) + 1 == 0) = false := by rw [beq_eq_false_iff_ne]; omega
  clear hp hr
  go_enter Tryd.func5, Tryd.ntmps5
  go_wp2_with (first
    | (go_at_call 8; refine (awake_any _ HP.out).mono ?_; rintro e w1 ⟨rfl, hb1⟩; have HB1 := Lib.hid hb1; clear hb1))
  rw [hN, hM]
  clear hN hM hA1a hA1b hB1a hB1b hnz
  go_loopw [7, 8] (fun s i wr => ∃ (k : Nat) (A : Option Addr) (ck : Nat), s = .slice A k ck ∧ i = .int .i64 k ∧ k ≤ N ∧ Own wr w.heap.size 5 A k ck (u8v (xF c)) ∧ Below w.heap.size w wr) (fun _ i _ => N - (intOf i).toNat)
  case atStart => exact ⟨0, none, 0, rfl, rfl, Nat.zero_le _, Own.nil _ _ _ _, HB1.out⟩
  case round =>
    obtain ⟨k, A, ck, rfl, rfl, hk, hown, hbel⟩ := hrel
    have HO := Lib.hid hown
    have HBl := Lib.hid hbel
    clear hown hbel
    by_cases hkn : k < N
    · have HF := Lib.hid (snoc_F c k (.int .u8 (((c : Int) + (k : Int) / 77) % 256)) (by unfold xF; congr 1))
      go_wp2_with (at_builtin; refine wpList_app _ (.tmp 32) (.tmp 38) 22 w.heap.size u8_info Tryd.underlying22 rfl rfl rfl (k + 1) (u8v (xF c)) rfl rfl (HO.out.alloc _) (Rd.one _ _ _) (fun _ _ => rfl) rfl HF.out ⟨by omega, by omega⟩ (by have := HBl.out.size; simp; omega) ?_; intro A3 c3 w3 o3 g3 b3; have O3 := Lib.hid (And.intro o3 (And.intro g3 b3)); clear o3 g3 b3)
      have hb3 : Below w.heap.size w w3 := below_app (HBl.out.alloc HBl.out.size _) O3.out.2.1 (by have := HBl.out.size; simp; omega) (fun ad h => (HO.out.base_le ad h).1)
      have HB3 := Lib.hid hb3
      clear hb3
      go_roundw
      case rel => exact ⟨k + 1, A3, c3, rfl, by go_num, by omega, O3.out.1, HB3.out⟩
      case measure => simp [intOf]; omega
    · obtain rfl : k = N := by omega
      obtain ⟨x, hx⟩ : ∃ x, x = xF c := ⟨_, rfl⟩
      have hx256 : ∀ i, x i < 256 := fun i => by rw [hx]; exact Nat.mod_lt _ (by omega)
      have ho := HO.out
      rw [← hx] at ho
      obtain ⟨N, hNk⟩ : ∃ N : Nat, N = k := ⟨_, rfl⟩
      rw [← hNk] at ho hMN hN5 ⊢
      obtain ⟨c7, hc7e⟩ : ∃ c7, c7 = ck := ⟨_, rfl⟩
      rw [← hc7e] at ho ⊢
      have HX := Lib.hid hx256
      have hc7 : N ≤ c7 := ho.cap
      have HRd0 := Lib.hid ho.rd
      clear ho hx256 hx HO HB1 _hc hNk hc7e hkn hk
      go_wp2_with (first
        | (go_at_call 13; refine (new_any _ (HP.out.below HBl.out) x).mono ?_; rintro e w2 ⟨g, rfl, hg2, hrow2, hbel2⟩; have HN := Lib.hid (And.intro hrow2 hbel2); clear hrow2 hbel2)
        | (refine wpList_sliceM rfl 22 (.tmp 44) none (some (.tmp 45)) rfl rfl (hv := .slice A M c7) (by intro w; exact cut_to Tryd.underlying22 (by kernel_rfl) A N c7 M (by omega) w) rfl rfl ?_))
      have hwg : w.heap.size ≤ g := Nat.le_trans HBl.out.size hg2
      have hrd2 := (HRd0.out.below HN.out.2).more HN.out.2.size
      have HB2 := HBl.out.trans (HN.out.2.mono HBl.out.size)
      refine (write_any g 0 M c7 A x x w2 (dig_new x HN.out.1) (hrd2.short hMN) ((HRd0.out.short hMN).apt hg2) HX.out HX.out (by omega) (by omega) (HP.out.below HB2) ⟨by omega, by omega⟩).mono ?_
      rintro e w3 ⟨rfl, hd3, hg3⟩
      have hrd3 : Rd w3 w2.heap.size A N (u8v x) := hrd2.apart hg3 (Nat.le_refl _) (HRd0.out.apt hg2)
      have hb3 : Below w.heap.size w w3 := HB2.trans (below_of_grown hg3 hwg HB2.size)
      have HD3 := Lib.hid (hd3.congr (m' := x) (fun i _ => by unfold catN; rw [if_neg (by omega), Nat.sub_zero]))
      have HR3 := Lib.hid (hrd3.more hg3.size)
      have HAp := Lib.hid (HRd0.out.apt hg2)
      have HB3 := Lib.hid hb3
      clear hrd2 HB2 hd3 hg3 hrd3 hb3 HN HRd0 HBl
      obtain ⟨A4, hcut, hcut2⟩ := cut_from (P := Tryd.prog) Tryd.underlying22 (by kernel_rfl) A N c7 M hMN hc7
      have HC := Lib.hid hcut2
      clear hcut2
      simp only []
      go_wp2_with fail
      refine (write_any g (0 + M) (N - M) (c7 - M) A4 x (fun i => x (M + i)) w3 HD3.out (HC.out.rd HR3.out) (HC.out.apart HAp.out) (fun i => HX.out _) HX.out (by omega) (by omega) (HP.out.below HB3.out) ⟨by omega, by omega⟩).mono ?_
      rintro e w4 ⟨rfl, hd4, hg4⟩
      have hrd4 : Rd w4 w3.heap.size A N (u8v x) := HR3.out.apart hg4 (Nat.le_refl _) HAp.out
      have hb4 : Below w.heap.size w w4 := HB3.out.trans (below_of_grown hg4 hwg HB3.out.size)
      have hd5 : Dig w4 g x N := by
        have h := hd4.congr (m' := x) (cat_self x M)
        rwa [show 0 + M + (N - M) = N by omega] at h
      have HD5 := Lib.hid hd5
      have HR4 := Lib.hid (hrd4.more hg4.size)
      have HB4 := Lib.hid hb4
      clear hd4 hg4 hrd4 hb4 hd5 HD3 HR3 HB3 hcut
      simp only []
      go_wp2_with (first
        | (go_at_call 10; refine (refSum_any N c7 A x _ HR4.out HX.out (by omega) (HR.out.below HB4.out)).mono ?_; rintro e w5 ⟨rfl, hb5⟩; have H5 := Lib.hid hb5; clear hb5)
        | (refine wpList_new rfl rfl 24 24 10 (.tmp 54) rfl rfl rfl 32 (zeroOf Tryd.prog 24) (by kernel_rfl) (by kernel_rfl) (arr 32 (u8v (shaB x N))) rfl rfl (size_arr _ _) (by kernel_rfl) (fun i hi => ⟨_, arr_at _ _ i hi, rfl⟩) _ (fun i hi => arr_at _ _ i hi) ?_; intro wr hr6 hb6; have N6 := Lib.hid (And.intro hr6 hb6); clear hr6 hb6))
      simp only [Act.put, List.setIfInBounds_toArray, List.set_cons_succ, List.set_cons_zero]
      have HB := Lib.hid (HB4.out.trans ((H5.out.trans (N6.out.2.mono H5.out.size)).mono HB4.out.size))
      have HRd := Lib.hid ((((HR4.out.below H5.out).more H5.out.size).below N6.out.2).more N6.out.2.size)
      have HD := Lib.hid ((HD5.out.below H5.out HD5.out.lt).below N6.out.2 (Nat.lt_of_lt_of_le HD5.out.lt H5.out.size))
      have R10 := Lib.hid N6.out.1
      clear HB4 HR4 HD5 H5 N6
      refine wp_region_facts (B := wr.heap.size) (w0 := wr) [SF.is (.slice (A) (N) (c7)), SF.is (rootV (shaB x N)), SF.is (rootV (shaB x N)), SF.is (.bool true), SF.is (.bool true), SF.is (.pointer (some ⟨g, 0, none⟩)), SF.is (rootV (shaB x N)), SF.is (rootV (shaB x N)), SF.is (.bool true), SF.is (.bool true), SF.is (.bool true)] (by kernel_rfl) (by kernel_rfl) rfl (Nat.le_refl _) (Below.refl _ _) ⟨?_, ?_, ?_, ?_, ?_, ?_, ?_, ?_, ?_, ?_, ?_, trivial⟩ ?_
      · exact (opOb_move _ rfl (.inl rfl) rfl)
      · exact opOb_fn1 ent_sum rfl rfl (OpK.tmp rfl) (fun w' hb => (sum_any N c7 A x w' ((HRd.out.below hb).more hb.size) HX.out (by omega) hc7 (HP.out.below (HB.out.trans (hb.mono HB.out.size)))).mono fun e w'' ⟨he, hb2⟩ => ⟨_, he, rfl, hb2⟩)
      · exact opOb_ld rfl rfl (OpK.tmp rfl) (fun w' hb => run_loadAt_part w' _ 0 32 _ _ (u8v (shaB x N)) (fun i hi => by rw [Nat.zero_add]; exact (row_below (B := wr.heap.size) R10.out hb R10.out.lt).cell hi) Tryd.underlying24 rfl (by kernel_rfl))
      · exact opOb_eqArr 5 32 .u8 (fun i => ((shaB x N i : Nat) : Int)) (fun i => ((shaB x N i : Nat) : Int)) true Tryd.underlying24 Tryd.underlying5 (by kernel_rfl) (by kernel_rfl) (by simp) rfl rfl (OpK.tmp rfl) (OpK.tmp rfl)
      · exact (opOb_move _ rfl (.inl rfl) rfl)
      · exact opOb_on 59 rfl rfl ((opOb_move _ rfl (.inl rfl) rfl))
      · exact opOb_on 59 rfl rfl (opOb_fn1 ent_dsum rfl rfl (OpK.tmp rfl) (fun w' hb => (sumd_any g N x w' (HD.out.below hb HD.out.lt) HX.out (HP.out.below (HB.out.trans (hb.mono HB.out.size)))).mono fun e w'' ⟨he, hb2⟩ => ⟨_, he, rfl, hb2⟩))
      · exact opOb_on 59 rfl rfl (opOb_ld rfl rfl (OpK.tmp rfl) (fun w' hb => run_loadAt_part w' _ 0 32 _ _ (u8v (shaB x N)) (fun i hi => by rw [Nat.zero_add]; exact (row_below (B := wr.heap.size) R10.out hb R10.out.lt).cell hi) Tryd.underlying24 rfl (by kernel_rfl)))
      · exact opOb_on 59 rfl rfl (opOb_eqArr 5 32 .u8 (fun i => ((shaB x N i : Nat) : Int)) (fun i => ((shaB x N i : Nat) : Int)) true Tryd.underlying24 Tryd.underlying5 (by kernel_rfl) (by kernel_rfl) (by simp) rfl rfl (OpK.tmp rfl) (OpK.tmp rfl))
      · exact opOb_pickT rfl rfl rfl (OpK.tmp rfl)
      · exact (opOb_move _ rfl (.inr rfl) rfl)
      · intro w' hb
        simp only [fin, SF.is, forall_eq]
        simp only [Act.put, List.setIfInBounds_toArray, List.set_cons_succ, List.set_cons_zero]
        have hend := HB.out.trans (hb.mono HB.out.size)
        go_wp2_with fail
        go_ret
        exact ⟨rfl, hend⟩
end Go.Proofs.YtlklomaekimjlaaDoor
