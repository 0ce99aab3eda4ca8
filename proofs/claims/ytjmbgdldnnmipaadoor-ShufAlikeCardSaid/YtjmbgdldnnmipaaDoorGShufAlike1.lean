/- A part of what the proofs stand on: ShufAlikeLaw. -/
import Derived.Test.YtjmbgdldnnmipaaDoorGShu18
/- The law ShufAlike. (Printed by a program of mine.) -/
namespace Go.Proofs.YtjmbgdldnnmipaaDoor
set_option maxRecDepth 40000
open Go.RowKit
open ShufLawOps ShufRefList in
set_option maxHeartbeats 16000000 in
theorem shufAlike_law (w : World) (A : Option Addr) (n c : Nat) (x : Nat → Nat) (hA : Rd w w.heap.size A n (u64v x)) (_hx : ∀ i, x i < 18446744073709551616) (_hn : n ≤ 140737488351232) (_hnc : n ≤ c) (hA0 : A = none → c = 0) (s : Nat → Nat) (hs : ∀ i, s i < 256) (by_ : Nat) (_hby : by_ < 18446744073709551616) (hp : ShaPkg w) :
    Calls Tryd.prog 12 #[.slice A n c, rootV s, .int .u64 (by_ : Int)] w fun e w' => e = .returned (.bool true) ∧ Below w.heap.size w w' := by
  have HS0 := Lib.hid (HS.nil w)
  have HX := Lib.hid hA
  have HP := Lib.hid hp
  have HSl := Lib.hid hs
  have HA0 := Lib.hid hA0
  clear hA hp hs hA0
  by_cases hbig : 600 < n
  · have t1 : decide ((600 : Int) < (n : Int)) = true := decide_eq_true (by omega)
    go_enter Tryd.func12, Tryd.ntmps12
    go_wp2_with (first
      | (refine wpList_boxL rfl 23 _ 4 rfl rfl HS0.out 32 (u8v s) rfl ?_; intro b4 w4 hb4 hc4 hs; have HS4 := Lib.hid hs; have hb4w : b4 < w4.heap.size := hs.lt 0 rfl; clear hs)
      | (go_at_call 29; refine (awake12_any _ (HP.out.below (HS4.out.out (by simp; omega)))).mono ?_; rintro e w6 ⟨rfl, hb⟩; have HS6 := Lib.hid (HS4.out.below hb); have h46 := hb.size; clear hb))
    go_ret
    exact ⟨rfl, HS6.out.out (by simp; omega)⟩
  · have t1 : decide ((600 : Int) < (n : Int)) = false := decide_eq_false (by omega)
    obtain ⟨y, hy⟩ : ∃ y : Nat → Nat, y = fun q => (x q * 5 % 18446744073709551616 + by_) % 18446744073709551616 := ⟨_, rfl⟩
    have HYd := Lib.hid (show ∀ q, (x q * 5 % 18446744073709551616 + by_) % 18446744073709551616 = y q by intro q; rw [hy])
    clear hy
    go_enter Tryd.func12, Tryd.ntmps12
    go_wp2_with (first
      | (refine wpList_boxL rfl 23 _ 4 rfl rfl HS0.out 32 (u8v s) rfl ?_; intro b4 w4 hb4 hc4 hs; have HS4 := Lib.hid hs; have hb4w : b4 < w4.heap.size := hs.lt 0 rfl; clear hs)
      | (go_at_call 29; refine (awake12_any _ (HP.out.below (HS4.out.out (by simp; omega)))).mono ?_; rintro e w6 ⟨rfl, hb⟩; have HS6 := Lib.hid (HS4.out.below hb); have h46 := hb.size; clear hb))
    have h06 := HS6.out.size
    go_loopw [7, 8] (fun o7 o8 wr => ∃ (k : Nat) (A' : Option Addr) (c' : Nat), o7 = .slice A' k c' ∧ o8 = .int .i64 (k : Int) ∧ k ≤ n ∧ OwnZ wr w6.heap.size 25 1 A' k c' (u64v y) ∧ Below w6.heap.size w6 wr) (fun _ ix _ => n - (intOf ix).toNat)
    case atStart => exact ⟨0, none, 0, rfl, rfl, by omega, OwnZ.nil _ _ _ _ _, Below.refl _ _⟩
    case round =>
      obtain ⟨k, A', c', rfl, rfl, hk, ho, hw⟩ := hrel
      have HO := Lib.hid ho
      have HW := Lib.hid hw
      have HN4 := Lib.hid (HS.nil wr)
      have hsz := hw.size
      clear ho hw
      by_cases hkn : k < n
      · obtain ⟨ad, hA, _, _⟩ := HX.out (by omega)
        subst hA
        have HWw := Lib.hid ((HS6.out.out (by simp; omega)).trans (HW.out.mono h06))
        obtain ⟨m5, hm5⟩ : ∃ m, m = x k * 5 % 18446744073709551616 := ⟨_, rfl⟩
        have HM5 := Lib.hid hm5.symm
        have HYk := Lib.hid (show (m5 + by_) % 18446744073709551616 = y k by rw [hm5]; exact HYd.out k)
        clear hm5
        go_wp2_with (first
          | (refine wpList_as rfl 28 rfl (.pointer (some (ad.add (k * 1)))) ?_ ?_; (· exact ex_idx rfl rfl rfl (fun w => run_idxZ (z := 1) w Tryd.underlying46 (by kernel_rfl) ad hkn) _))
          | (refine wpList_as rfl 29 rfl (.int .u64 ((x k : Nat) : Int)) ?_ ?_; (· exact ex_ld1 .u64 rfl rfl Tryd.underlying25 (by rw [Nat.mul_one]; exact (HX.out.below HWw.out).cells hkn)))
          | (refine wpList_as rfl 30 rfl (.int .u64 ((m5 : Nat) : Int)) ?_ ?_; (· exact ex_bin rfl rfl rfl rfl (fun w => mulW (x k) 5 m5 HM5.out w) _))
          | (refine wpList_as rfl 32 rfl (.int .u64 ((y k : Nat) : Int)) ?_ ?_; (· exact ex_bin rfl rfl rfl rfl (fun w => addW m5 by_ (y k) HYk.out w) _))
          | (refine wpList_bs1s rfl (.tmp 32) (.int .u64 ((y k : Nat) : Int)) rfl rfl (fun w => run_bs1_64 _ w) HN4.out ?_; intro b33 w7 hb33 hc33 hbl hs; have HR7 := Lib.hid (hs.row 0 rfl); have HB7 := Lib.hid hbl; clear hs hbl)
          | (at_builtin; refine wpList_appZ _ (.tmp 25) (.tmp 33) 46 w6.heap.size (e := 25) (z := .int .u64 0) (k := 1) (bytes := 8) (by kernel_rfl) Tryd.underlying46 (by rfl) (by omega) rfl rfl (k + 1) (u64v y) rfl rfl (HO.out.all HB7.out) (Rd.of_row (n := 1 * 1) HR7.out (Nat.le_refl _) HR7.out.lt) (fun _ _ => rfl) rfl cat_one ⟨by omega, by omega⟩ (Nat.le_trans hsz HB7.out.size) ?_; intro A35 c35 w8 ho hg _; have HO8 := Lib.hid ho; have HB8 := Lib.hid (below_app (HW.out.trans (HB7.out.mono hsz)) hg (Nat.le_trans hsz HB7.out.size) (fun ad e => (HO.out.base_le ad e).1)); clear ho hg))
        go_roundw
        case rel => exact ⟨k + 1, A35, c35, rfl, by go_num, by omega, HO8.out, HB8.out⟩
        case measure => simp [intOf]; omega
      · obtain rfl : n = k := by omega
        have tok1 := Tok.mk 1
        have HSr := Lib.hid (HS6.out.below HW.out)
        go_wp2_with (first
          | (have hx : Tok 1 := (by assumption); clear hx; refine wpList_load_rd rfl 23 _ rfl 32 _ Tryd.underlying23 rfl (by kernel_rfl) ⟨b4, 0, none⟩ rfl (u8v s) (fun i hi => by rw [add_lit0]; exact (HSr.out.row 0 rfl).cell hi) ?_)
          | (go_at_call 30; have hx : Tok 1 := (by assumption); refine (list_ok n c A x s HSl.out _ ((HX.out.below (HSr.out.out (by simp; omega))).more HSr.out.size) (by omega) HA0.out (HP.out.below (HSr.out.out (by simp; omega)))).mono ?_; clear hx tok1; rintro e w9 ⟨A9, c9, rfl, ho, hb⟩; have HO9 := Lib.hid ho; have HS9 := Lib.hid (HSr.out.below hb); have HM9 := Lib.hid (HO.out.all hb); clear ho hb; have tok2 := Tok.mk 2)
          | (have hx : Tok 2 := (by assumption); clear hx; refine wpList_load_rd rfl 23 _ rfl 32 _ Tryd.underlying23 rfl (by kernel_rfl) ⟨b4, 0, none⟩ rfl (u8v s) (fun i hi => by rw [add_lit0]; exact (HS9.out.row 0 rfl).cell hi) ?_)
          | (go_at_call 30; have hx : Tok 2 := (by assumption); refine (list_ok n c' A' y s HSl.out _ (by have h := HM9.out.rd; rwa [Nat.mul_one] at h) (by omega) (own_cap0 HM9.out) (HP.out.below (HS9.out.out (by simp; omega)))).mono ?_; clear hx tok2; rintro e w10 ⟨A11, c11, rfl, ho, hb⟩; have HO11 := Lib.hid ho; have HS10 := Lib.hid (HS9.out.below hb); have HN9 := Lib.hid (HO9.out.all hb); clear ho hb))
        go_loopw [13] (fun i wr => ∃ j : Nat, i = .int .i64 (j : Int) ∧ j ≤ n ∧ Below w10.heap.size w10 wr) (fun i _ => n - (intOf i).toNat)
        case atStart => exact ⟨0, rfl, by omega, Below.refl _ _⟩
        case round =>
          obtain ⟨j, rfl, hj, hbw⟩ := hrel
          have HW := Lib.hid hbw
          clear hbw
          by_cases hjn : j < n
          · obtain ⟨ad9, hA, _, _⟩ := HN9.out.rd (show 0 < n * 1 by omega)
            subst hA
            obtain ⟨ad11, hA, _, _⟩ := HO11.out.rd (show 0 < n * 1 by omega)
            subst hA
            obtain ⟨p, hpp⟩ : ∃ p, p = placeN s n j := ⟨_, rfl⟩
            have HC9 : Hid (∀ w', Below wr.heap.size wr w' → w'.cell? (ad9.add (j * 1)) = some (.int .u64 ((x p : Nat) : Int))) := Lib.hid (fun w' hb => by rw [Nat.mul_one, hpp]; exact (HN9.out.rd.below (HW.out.trans (hb.mono HW.out.size))).cells (by omega))
            have HC11 : Hid (∀ w', Below wr.heap.size wr w' → w'.cell? (ad11.add (j * 1)) = some (.int .u64 ((y p : Nat) : Int))) := Lib.hid (fun w' hb => by rw [Nat.mul_one, hpp]; exact (HO11.out.rd.below (HW.out.trans (hb.mono HW.out.size))).cells (by omega))
            obtain ⟨m5, hm5⟩ : ∃ m, m = x p * 5 % 18446744073709551616 := ⟨_, rfl⟩
            have HM5 := Lib.hid hm5.symm
            have HYp := Lib.hid (show (m5 + by_) % 18446744073709551616 = y p by rw [hm5]; exact HYd.out p)
            clear hpp hm5
            go_wp2_with fail
            refine wp_region_facts (B := wr.heap.size) (w0 := wr) [SF.is (.slice (some ad11) (n) (c11)), SF.is (.int .i64 ((j : Nat) : Int)), SF.is (.pointer (some (ad11.add (j * 1)))), SF.is (.int .u64 ((y p : Nat) : Int)), SF.is (.slice (some ad9) (n) (c9)), SF.is (.int .i64 ((j : Nat) : Int)), SF.is (.pointer (some (ad9.add (j * 1)))), SF.is (.int .u64 ((x p : Nat) : Int)), SF.is (.int .u64 ((m5 : Nat) : Int)), SF.is (.int .u64 ((by_ : Nat) : Int)), SF.is (.int .u64 ((y p : Nat) : Int)), SF.is (.bool false)] (by kernel_rfl) (by kernel_rfl) rfl (Nat.le_refl _) (Below.refl _ _) ⟨?_, ?_, ?_, ?_, ?_, ?_, ?_, ?_, ?_, ?_, ?_, ?_, trivial⟩ ?_
            · exact (opOb_move _ rfl (.inl rfl) rfl)
            · exact (opOb_move _ rfl (.inl rfl) rfl)
            · exact opOb_idx rfl rfl (OpK.tmp rfl) (OpK.tmp rfl) (fun w => run_idxZ (z := 1) (k := j) w Tryd.underlying46 (by kernel_rfl) ad11 (by omega))
            · exact opOb_ld rfl rfl (OpK.tmp rfl) (fun w' hb => run_ld1 w' (ad11.add (j * 1)) _ .u64 _ (HC11.out w' hb) Tryd.underlying25)
            · exact (opOb_move _ rfl (.inl rfl) rfl)
            · exact (opOb_move _ rfl (.inl rfl) rfl)
            · exact opOb_idx rfl rfl (OpK.tmp rfl) (OpK.tmp rfl) (fun w => run_idxZ (z := 1) (k := j) w Tryd.underlying46 (by kernel_rfl) ad9 (by omega))
            · exact opOb_ld rfl rfl (OpK.tmp rfl) (fun w' hb => run_ld1 w' (ad9.add (j * 1)) _ .u64 _ (HC9.out w' hb) Tryd.underlying25)
            · exact opOb_bin rfl rfl rfl (OpK.tmp rfl) OpK.const (fun w => mulW (x p) 5 m5 HM5.out w)
            · exact (opOb_move _ rfl (.inl rfl) rfl)
            · exact opOb_bin rfl rfl rfl (OpK.tmp rfl) (OpK.tmp rfl) (fun w => addW m5 by_ (y p) HYp.out w)
            · exact opOb_neSame .u64 ((y p : Nat) : Int) rfl rfl (OpK.tmp rfl) (OpK.tmp rfl)
            · intro w' hb
              simp only [fin, SF.is, forall_eq]
              simp only [Act.put, List.setIfInBounds_toArray, List.set_cons_succ, List.set_cons_zero]
              have hend := Lib.hid (HW.out.trans (hb.mono HW.out.size))
              clear hb
              go_wp2_with fail
              go_roundw
              case rel => exact ⟨j + 1, by go_num, by omega, hend.out⟩
              case measure => simp [intOf]; omega
          · go_wp2_with fail
            go_ret
            exact ⟨rfl, (HS10.out.out (by simp; omega)).trans (HW.out.mono HS10.out.size)⟩
end Go.Proofs.YtjmbgdldnnmipaaDoor
