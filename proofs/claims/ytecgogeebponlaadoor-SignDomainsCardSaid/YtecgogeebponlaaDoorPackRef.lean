/- Packed bytes, by the reference. -/
import Derived.Test.YtecgogeebponlaaDoorBuildS
import Derived.Test.YtecgogeebponlaaDoorBytes
namespace Go.Proofs.YtecgogeebponlaaDoor
set_option maxRecDepth 40000
open Go.RowKit
namespace PackRef
theorem lay_step {x : Nat → Nat} {j k n : Nat} (hk : k < 32) (hn : j * 32 + k < n) (v : Value) (hv : v = .int .u8 ((x (j * 32 + k) : Nat) : Int)) (i : Nat) : (if i = k then v else u8v (fun q => if q < k then padN n x (j * 32 + q) else 0) i) = u8v (fun q => if q < k + 1 then padN n x (j * 32 + q) else 0) i := by
  unfold padN
  by_cases e : i = k
  · subst e; rw [if_pos rfl, hv]; simp only [u8v]; rw [if_pos (by omega), if_pos hn]
  · rw [if_neg e]; simp only [u8v]
    by_cases e2 : i < k
    · rw [if_pos e2, if_pos (show i < k + 1 by omega)]
    · rw [if_neg e2, if_neg (show ¬ i < k + 1 by omega)]
theorem lay_all {x : Nat → Nat} {j k n : Nat} (h : k = 32 ∨ k < 32 ∧ j * 32 + k = n) : ∀ q, q < 32 → u8v (fun q => if q < k then padN n x (j * 32 + q) else 0) q = u8v (fun q => padN n x (j * 32 + q)) q := fun q hq => by
  simp only [u8v]
  by_cases e : q < k
  · rw [if_pos e]
  · rw [if_neg e]; unfold padN; rw [if_neg (by omega)]
theorem cat_ch {x : Nat → Nat} {j n : Nat} : ∀ i, i < (j + 1) * 32 → catF (j * 32) (u8v (padN n x)) (u8v fun q => padN n x (j * 32 + q)) i = u8v (padN n x) i := fun i _ => by
  simp only [catF, u8v]
  split
  · rfl
  · rw [show j * 32 + (i - j * 32) = i by omega]
end PackRef
open PackRef in
set_option maxHeartbeats 4000000 in
theorem pack_ref (n c : Nat) (A : Option Addr) (x : Nat → Nat) (w : World) (hb : Rd w w.heap.size A n (u8v x)) (hn : n ≤ 140737488355000) :
    Calls Tryd.prog 37 #[.slice A n c] w fun e w' => ∃ A' c', e = .returned (.slice A' (nch n) c') ∧ OwnZ w' w.heap.size 24 32 A' (nch n) c' (u8v (padN n x)) ∧ Below w.heap.size w w' := by
  have HB := Lib.hid hb
  obtain ⟨N, hN⟩ : ∃ N, N = nch n := ⟨_, rfl⟩
  have hN1 : N * 32 < n + 32 := by rw [hN]; unfold nch; omega
  have hN2 : n ≤ N * 32 := by rw [hN]; unfold nch; omega
  rw [← hN]
  clear hb hN
  go_enter Tryd.func37, Tryd.ntmps37
  go_wp2_with fail
  go_loopw [3, 4] (fun v i wr => ∃ (j : Nat) (C : Option Addr) (cC : Nat), v = .slice C j cC ∧ i = .int .i64 ((j * 32 : Nat) : Int) ∧ j ≤ N ∧ OwnZ wr w.heap.size 24 32 C j cC (u8v (padN n x)) ∧ Below w.heap.size w wr) (fun _ i _ => n + 32 - (intOf i).toNat)
  case atStart => exact ⟨0, none, 0, rfl, rfl, Nat.zero_le _, OwnZ.nil _ _ _ _ _, Below.refl _ _⟩
  case round =>
    obtain ⟨j, C, cC, rfl, rfl, hj, ho, hbw⟩ := hrel
    have HO := Lib.hid ho
    have HW := Lib.hid hbw
    have hsz := hbw.size
    clear ho hbw
    obtain ⟨wo, rfl⟩ : ∃ wo : World, wo = wr := ⟨_, rfl⟩
    have HS0 := Lib.hid (HS.nil wo)
    by_cases hjn : j * 32 < n
    · go_wp2_with (refine wpList_allocL rfl 24 5 rfl rfl HS0.out (Array.replicate 32 (.int .u8 0)) (by kernel_rfl) 32 (u8v fun q => if q < 0 then padN n x (j * 32 + q) else 0) (by rfl) (zero_at 32 (.int .u8 0)) ?_; intro b5 w5 hb5 hc5 hs5; have HS5 := Lib.hid hs5; clear hs5)
      go_loopw [6] (fun i wq => ∃ k : Nat, i = .int .i64 (k : Int) ∧ k ≤ 32 ∧ j * 32 + k ≤ n ∧ HS wo wq [⟨b5, 24, 32, u8v fun q => if q < k then padN n x (j * 32 + q) else 0⟩]) (fun i _ => 32 - (intOf i).toNat)
      case atStart => exact ⟨0, rfl, by omega, by omega, HS5.out⟩
      case round =>
        clear HS5
        obtain ⟨k, rfl, hk, hkn, hs⟩ := hrel
        by_cases h32 : k < 32
        · by_cases hin : j * 32 + k < n
          · have co := hs.cell 0 k rfl h32
            have fo := hs.frozen 0 k rfl
            obtain ⟨ad, hA, hblk, hc⟩ := ((HB.out.below HW.out).more hsz |>.below (hs.out (by simp; omega))).at_ hin
            subst hA
            have HSq := Lib.hid hs
            clear hs
            go_wp2_with fail
            go_roundw
            case rel => exact ⟨k + 1, by go_num, by omega, by omega, (HSq.out.set 0 k rfl _).congr 0 rfl (fun i _ => lay_step h32 hin _ rfl i)⟩
            case measure => simp [intOf]; omega
          · have HSq := Lib.hid (hs.congr 0 rfl (lay_all (.inr ⟨h32, by omega⟩)))
            clear hs
            go_wp2_with (first
              | (refine wpList_load_rd rfl 24 _ rfl 32 _ Tryd.underlying24 rfl (by kernel_rfl) ⟨b5, 0, none⟩ rfl (u8v fun q => padN n x (j * 32 + q)) (fun q hq => by rw [add_lit0]; exact HSq.out.cell 0 q rfl hq) ?_)
              | (refine wpList_bs1 rfl Tryd.underlying32 (z := 32) (by kernel_rfl) (by omega) (by omega) (v0 := .agg (Array.replicate 32 (.int .u8 0))) (by kernel_rfl) _ rfl (u8v fun q => padN n x (j * 32 + q)) rfl HSq.out ?_; intro b35 w35 hb35 hc35 hs35; have HS35 := Lib.hid hs35; clear hs35)
              | (at_builtin; refine wpList_appZ _ (.tmp 33) (.tmp 35) 32 w.heap.size (e := 24) (z := .agg (Array.replicate 32 (.int .u8 0))) (k := 32) (bytes := 32) (by kernel_rfl) Tryd.underlying32 (by rfl) (by omega) rfl rfl (j + 1) (u8v (padN n x)) rfl rfl (HO.out.all (HS35.out.out (by simp; omega))) (Rd.of_row (HS35.out.row 0 rfl) (Nat.le_refl _) (HS35.out.lt 0 rfl)) (fun _ _ => rfl) rfl cat_ch ⟨by omega, by omega⟩ (Nat.le_trans hsz HS35.out.size) ?_; intro A36 c36 w36 ho36 hg36 ha36; have HO36 := Lib.hid ho36; have HB36 := Lib.hid (below_app (HW.out.trans ((HS35.out.out (by simp; omega)).mono hsz)) hg36 (Nat.le_trans hsz HS35.out.size) (fun ad e => (HO.out.base_le ad e).1)); clear ho36 hg36 ha36))
            go_roundw
            case rel => exact ⟨j + 1, A36, c36, rfl, by go_num, by omega, HO36.out, HB36.out⟩
            case measure => simp [intOf]; omega
        · have HSq := Lib.hid (hs.congr 0 rfl (lay_all (.inl (by omega))))
          clear hs
          go_wp2_with (first
            | (refine wpList_load_rd rfl 24 _ rfl 32 _ Tryd.underlying24 rfl (by kernel_rfl) ⟨b5, 0, none⟩ rfl (u8v fun q => padN n x (j * 32 + q)) (fun q hq => by rw [add_lit0]; exact HSq.out.cell 0 q rfl hq) ?_)
            | (refine wpList_bs1 rfl Tryd.underlying32 (z := 32) (by kernel_rfl) (by omega) (by omega) (v0 := .agg (Array.replicate 32 (.int .u8 0))) (by kernel_rfl) _ rfl (u8v fun q => padN n x (j * 32 + q)) rfl HSq.out ?_; intro b35 w35 hb35 hc35 hs35; have HS35 := Lib.hid hs35; clear hs35)
            | (at_builtin; refine wpList_appZ _ (.tmp 33) (.tmp 35) 32 w.heap.size (e := 24) (z := .agg (Array.replicate 32 (.int .u8 0))) (k := 32) (bytes := 32) (by kernel_rfl) Tryd.underlying32 (by rfl) (by omega) rfl rfl (j + 1) (u8v (padN n x)) rfl rfl (HO.out.all (HS35.out.out (by simp; omega))) (Rd.of_row (HS35.out.row 0 rfl) (Nat.le_refl _) (HS35.out.lt 0 rfl)) (fun _ _ => rfl) rfl cat_ch ⟨by omega, by omega⟩ (Nat.le_trans hsz HS35.out.size) ?_; intro A36 c36 w36 ho36 hg36 ha36; have HO36 := Lib.hid ho36; have HB36 := Lib.hid (below_app (HW.out.trans ((HS35.out.out (by simp; omega)).mono hsz)) hg36 (Nat.le_trans hsz HS35.out.size) (fun ad e => (HO.out.base_le ad e).1)); clear ho36 hg36 ha36))
          go_roundw
          case rel => exact ⟨j + 1, A36, c36, rfl, by go_num, by omega, HO36.out, HB36.out⟩
          case measure => simp [intOf]; omega
    · obtain rfl : j = N := by omega
      go_wp2_with fail
      go_ret
      exact ⟨C, cC, rfl, HO.out, HW.out⟩
end Go.Proofs.YtecgogeebponlaaDoor
