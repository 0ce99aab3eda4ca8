/- A part of what the proofs stand on: ShufAllLaw. -/
import Derived.Test.YtjmbgdldnnmipaaDoorGShu18
/- The law ShufAll. (Printed by a program of mine.) -/
namespace Go.Proofs.YtjmbgdldnnmipaaDoor
set_option maxRecDepth 40000
open Go.RowKit
namespace ShufAllLaw
theorem cut300 (m : Int) (_h : -9223372036854775808 ≤ m ∧ m ≤ 9223372036854775807) : ∃ n : Nat, n < 300 ∧ (m.tmod 300 + 300).tmod 300 = (n : Int) ∧ -300 < m.tmod 300 ∧ m.tmod 300 < 300 := by
  have h1 : -300 < m.tmod 300 := Int.lt_tmod_of_pos m (by omega)
  have h2 : m.tmod 300 < 300 := Int.tmod_lt_of_pos m (by omega)
  have h3 : (m.tmod 300 + 300).tmod 300 < 300 := Int.tmod_lt_of_pos _ (by omega)
  have h4 : 0 ≤ (m.tmod 300 + 300).tmod 300 := Int.tmod_nonneg _ (by omega)
  exact ⟨((m.tmod 300 + 300).tmod 300).toNat, by omega, by omega, h1, h2⟩
theorem addI (a b r : Int) (h : a + b = r) (hr : -9223372036854775808 ≤ r ∧ r ≤ 9223372036854775807) (w : World) : (binOp .add 3 (.int .i64 a) (.int .i64 b)).run Tryd.prog w = .ok (.int .i64 r) w := by
  subst h
  simp [go_sem, IntKind.wrap, IntKind.bits, IntKind.signed]; omega
theorem idxB (w : World) (b i : Nat) (hi : i < 300) : (Instr.indexAt 51 (.pointer (some ⟨b, 0, none⟩)) (.int .u64 (i : Int))).run Tryd.prog w = .ok (.pointer (some ⟨b, i, none⟩)) w := by
  have h : ¬ (300 : Nat) ≤ i := by omega
  simp [go_sem, Instr.indexAt, h]
  try omega
theorem ld_bool {w : World} {o : Oper} {a : Act} {x : Operand} {ad : Addr} {v : Value} (ho : o.op = .load 4 x) (hx : a.eval x = .pointer (some ad)) (h : w.cell? ad = some v) : (execOp a.eval o).run Tryd.prog w = .ok (.value v) w := by
  unfold execOp
  rw [ho]
  simp only [hx]
  simp [go_sem, h]
theorem geqF (a b : Nat) (h : a < b) (w : World) : (binOp .geq 25 (.int .u64 (a : Int)) (.int .u64 (b : Int))).run Tryd.prog w = .ok (.bool false) w := by
  simp [go_sem]; omega
end ShufAllLaw
open ShufLawOps ShufRefList ShufAllLaw in
set_option maxHeartbeats 16000000 in
theorem shufAll_law (w : World) (m : Int) (hm : -9223372036854775808 ≤ m ∧ m ≤ 9223372036854775807) (s : Nat → Nat) (hs : ∀ i, s i < 256) (hp : ShaPkg w) :
    Calls Tryd.prog 10 #[.int .i64 m, rootV s] w fun e w' => e = .returned (.bool true) ∧ Below w.heap.size w w' := by
  have HS0 := Lib.hid (HS.nil w)
  have HP := Lib.hid hp
  have HSl := Lib.hid hs
  obtain ⟨n, hn, hnm, hr1, hr2⟩ := cut300 m hm
  have HM := Lib.hid hm
  obtain ⟨r, hr⟩ : ∃ r, r = m.tmod 300 := ⟨_, rfl⟩
  rw [← hr] at hnm hr1 hr2
  have HR := Lib.hid hr.symm
  have HNM := Lib.hid hnm
  obtain ⟨y, hy⟩ : ∃ y : Nat → Nat, y = fun q => q := ⟨_, rfl⟩
  have HYd := Lib.hid (show ∀ q, y q = q by intro q; rw [hy])
  have tokA := Tok.mk 10
  clear hp hs hr hnm hy hm
  go_enter Tryd.func10, Tryd.ntmps10
  go_wp2_with (first
    | (refine wpList_boxL rfl 23 _ 3 rfl rfl HS0.out 32 (u8v s) rfl ?_; intro b3 w3 hb3 hc3 hs; have HS3 := Lib.hid hs; have hb3w : b3 < w3.heap.size := hs.lt 0 rfl; clear hs)
    | (go_at_call 29; refine (awake12_any _ (HP.out.below (HS3.out.out (by simp; omega)))).mono ?_; rintro e w6 ⟨rfl, hb⟩; have HS6 := Lib.hid (HS3.out.below hb); have h36 := hb.size; clear hb)
    | (refine wpList_as rfl 16 rfl (.int .i64 r) ?_ ?_; (· rw [← HR.out]; exact ex_bin rfl rfl rfl rfl (fun w => remI m HM.out w) _))
    | (refine wpList_as rfl 17 rfl (.int .i64 (r + 300)) ?_ ?_; (· exact ex_bin rfl rfl rfl rfl (fun w => addI r 300 _ rfl (by omega) w) _))
    | (refine wpList_as rfl 18 rfl (.int .i64 (n : Int)) ?_ ?_; (· rw [← HNM.out]; exact ex_bin rfl rfl rfl rfl (fun w => remI (r + 300) (by omega) w) _)))
  have h06 := HS6.out.size
  go_loopw [5, 6] (fun o5 o6 wr => ∃ (k : Nat) (A' : Option Addr) (c' : Nat), o5 = .slice A' k c' ∧ o6 = .int .i64 (k : Int) ∧ k ≤ n ∧ OwnZ wr w6.heap.size 25 1 A' k c' (u64v y) ∧ Below w6.heap.size w6 wr) (fun _ ix _ => n - (intOf ix).toNat)
  case atStart => exact ⟨0, none, 0, rfl, rfl, by omega, OwnZ.nil _ _ _ _ _, Below.refl _ _⟩
  case round =>
    obtain ⟨k, A', c', rfl, rfl, hk, ho, hw⟩ := hrel
    have HO := Lib.hid ho
    have HW := Lib.hid hw
    have HN4 := Lib.hid (HS.nil wr)
    have hsz := hw.size
    clear ho hw
    by_cases hkn : k < n
    · have HYk := Lib.hid (HYd.out k)
      go_wp2_with (first
        | (refine wpList_as rfl 26 rfl (.int .u64 ((y k : Nat) : Int)) ?_ ?_; (· rw [HYk.out]; exact ex_cnv rfl rfl (fun w => cvIU k (by omega) w) _))
        | (refine wpList_bs1s rfl (.tmp 26) (.int .u64 ((y k : Nat) : Int)) rfl rfl (fun w => run_bs1_64 _ w) HN4.out ?_; intro b33 w7 hb33 hc33 hbl hs; have HR7 := Lib.hid (hs.row 0 rfl); have HB7 := Lib.hid hbl; clear hs hbl)
        | (at_builtin; refine wpList_appZ _ (.tmp 24) (.tmp 27) 46 w6.heap.size (e := 25) (z := .int .u64 0) (k := 1) (bytes := 8) (by kernel_rfl) Tryd.underlying46 (by rfl) (by omega) rfl rfl (k + 1) (u64v y) rfl rfl (HO.out.all HB7.out) (Rd.of_row (n := 1 * 1) HR7.out (Nat.le_refl _) HR7.out.lt) (fun _ _ => rfl) rfl cat_one ⟨by omega, by omega⟩ (Nat.le_trans hsz HB7.out.size) ?_; intro A35 c35 w8 ho hg _; have HO8 := Lib.hid ho; have HB8 := Lib.hid (below_app (HW.out.trans (HB7.out.mono hsz)) hg (Nat.le_trans hsz HB7.out.size) (fun ad e => (HO.out.base_le ad e).1)); clear ho hg))
      go_roundw
      case rel => exact ⟨k + 1, A35, c35, rfl, by go_num, by omega, HO8.out, HB8.out⟩
      case measure => simp [intOf]; omega
    · obtain rfl : n = k := by omega
      obtain ⟨wq, rfl⟩ : ∃ wq : World, wq = wr := ⟨_, rfl⟩
      have HSr := Lib.hid (HS6.out.below HW.out)
      have tok1 := Tok.mk 1
      go_wp2_with (first
        | (have hx : Tok 1 := (by assumption); clear hx; refine wpList_load_rd rfl 23 _ rfl 32 _ Tryd.underlying23 rfl (by kernel_rfl) ⟨b3, 0, none⟩ rfl (u8v s) (fun i hi => by rw [add_lit0]; exact (HSr.out.row 0 rfl).cell hi) ?_)
        | (go_at_call 30; refine (list_ok n c' A' y s HSl.out _ (by have h := HO.out.rd; rwa [Nat.mul_one] at h) (by omega) (own_cap0 HO.out) (HP.out.below (HSr.out.out (by simp; omega)))).mono ?_; clear tok1; rintro e w9 ⟨A7, c7, rfl, ho, hb⟩; have HO9 := Lib.hid (ho.congr (f' := u64v fun q => placeN s n q) (fun i _ => congrArg (fun m : Nat => Value.int .u64 (m : Int)) (HYd.out _))); have HS9 := Lib.hid (HSr.out.below hb); have hr9 := hb.size; have HN9 := Lib.hid (HS.nil w9); clear ho hb)
        | (refine wpList_allocL rfl 51 9 rfl rfl HN9.out (Array.replicate 300 (.bool false)) (by kernel_rfl) 300 (fun _ => .bool false) (by simp) (zero_at 300 _) ?_; intro b9 wb hb9 hc9 hs; have HB9 := Lib.hid (hs.out (by simp; omega)); have HSb := Lib.hid ((HS9.out.below HB9.out).add (hs.row 0 rfl) (Nat.le_trans HS9.out.size hb9) (by have := HS9.out.lt 0 rfl; simp; omega)); have HOb := Lib.hid (HO9.out.all HB9.out); have HAb := Lib.hid (show ∀ ad, A7 = some ad → ad.block < b9 from fun ad e => Nat.lt_of_lt_of_le (HO9.out.base_le ad e).2 hb9); clear hs))
      have hb9w : w.heap.size ≤ b9 := Nat.le_trans HS9.out.size hb9
      go_loopw [10] (fun i wr => ∃ j : Nat, i = .int .i64 (j : Int) ∧ j ≤ n ∧ HS w wr [⟨b9, 51, 300, fun q => .bool (seenN s n j q)⟩, ⟨b3, 23, 32, u8v s⟩] ∧ OwnZ wr wq.heap.size 25 1 A7 n c7 (u64v fun q => placeN s n q)) (fun i _ => n - (intOf i).toNat)
      case atStart => exact ⟨0, rfl, by omega, HSb.out.congr 0 rfl (fun i _ => by simp [seenN]), HOb.out⟩
      case round =>
        obtain ⟨j, rfl, hj, hsj, hoj⟩ := hrel
        have HSj := Lib.hid hsj
        have HOj := Lib.hid hoj
        clear hsj hoj
        by_cases hjn : j < n
        · obtain ⟨ad, hA, _, _⟩ := HOj.out.rd (show 0 < n * 1 by omega)
          subst hA
          have hadb : ad.block < b9 := HAb.out ad rfl
          obtain ⟨p, hpp⟩ : ∃ p, p = placeN s n j := ⟨_, rfl⟩
          have hpn : p < n := by rw [hpp]; exact place_lt hjn
          have HPe := Lib.hid hpp.symm
          have HSN := Lib.hid (show seenN s n j p = false by rw [hpp]; exact seen_no hjn)
          have HST := Lib.hid (show ∀ q, (if q = p then Value.bool true else .bool (seenN s n j q)) = .bool (seenN s n (j + 1) q) by rw [hpp]; exact seen_step s n j)
          clear hpp
          have tok2 := Tok.mk 2
          go_wp2_with (first
            | (refine wpList_as rfl 50 rfl (.int .u64 ((j : Nat) : Int)) ?_ ?_; (· exact ex_cnv rfl rfl (fun w => cvIU j (by omega) w) _))
            | (refine wpList_as rfl 52 rfl (.int .u64 ((n : Nat) : Int)) ?_ ?_; (· exact ex_cnv rfl rfl (fun w => cvIU n (by omega) w) _))
            | (have hx : Tok 2 := (by assumption); clear hx; refine wpList_load_rd rfl 23 _ rfl 32 _ Tryd.underlying23 rfl (by kernel_rfl) ⟨b3, 0, none⟩ rfl (u8v s) (fun i hi => by rw [add_lit0]; exact (HSj.out.row 1 rfl).cell hi) ?_)
            | (go_at_call 33; refine (place_ok s HSl.out n j _ (by omega) hjn (HP.out.below (HSj.out.out (by simp; omega)))).mono ?_; clear tok2; rintro e w10 ⟨rfl, hb⟩; rw [HPe.out]; have HSk := Lib.hid (HSj.out.below hb); have HOk := Lib.hid (HOj.out.all hb); have HCP := Lib.hid (show w10.cell? (ad.add (j * 1)) = some (.int .u64 ((p : Nat) : Int)) by rw [Nat.mul_one, ← HPe.out]; exact HOk.out.rd.cells (by omega)); clear hb)
            | (refine wpList_asG rfl rfl rfl 63 rfl (.pointer (some (ad.add (j * 1)))) ?_ ?_; (· exact ex_idx rfl rfl rfl (fun w => run_idxZ (z := 1) w Tryd.underlying46 (by kernel_rfl) ad (by omega)) _))
            | (refine wpList_asG rfl rfl rfl 64 rfl (.int .u64 ((p : Nat) : Int)) ?_ ?_; (· exact ex_ld1 .u64 rfl rfl Tryd.underlying25 HCP.out))
            | (refine wpList_asG rfl rfl rfl 70 rfl (.pointer (some (ad.add (j * 1)))) ?_ ?_; (· exact ex_idx rfl rfl rfl (fun w => run_idxZ (z := 1) w Tryd.underlying46 (by kernel_rfl) ad (by omega)) _))
            | (refine wpList_asG rfl rfl rfl 71 rfl (.int .u64 ((p : Nat) : Int)) ?_ ?_; (· exact ex_ld1 .u64 rfl rfl Tryd.underlying25 HCP.out))
            | (refine wpList_asG rfl rfl rfl 73 rfl (.int .u64 ((n : Nat) : Int)) ?_ ?_; (· exact ex_cnv rfl rfl (fun w => cvIU n (by omega) w) _))
            | (refine wpList_asG rfl rfl rfl 74 rfl (.bool false) ?_ ?_; (· exact ex_bin rfl rfl rfl rfl (fun w => geqF p n hpn w) _))
            | (refine wpList_asG rfl rfl rfl 79 rfl (.pointer (some (ad.add (j * 1)))) ?_ ?_; (· exact ex_idx rfl rfl rfl (fun w => run_idxZ (z := 1) w Tryd.underlying46 (by kernel_rfl) ad (by omega)) _))
            | (refine wpList_asG rfl rfl rfl 80 rfl (.int .u64 ((p : Nat) : Int)) ?_ ?_; (· exact ex_ld1 .u64 rfl rfl Tryd.underlying25 HCP.out))
            | (refine wpList_asG rfl rfl rfl 81 rfl (.pointer (some ⟨b9, p, none⟩)) ?_ ?_; (· exact ex_idx rfl rfl rfl (fun w => idxB w b9 p (by omega)) _))
            | (refine wpList_asG rfl rfl rfl 82 rfl (.bool false) ?_ ?_; (· exact ld_bool rfl rfl ((HSk.out.cell 0 p rfl (by omega)).trans (congrArg (fun b : Bool => some (Value.bool b)) HSN.out))))
            | (refine wpList_as rfl 86 rfl (.pointer (some (ad.add (j * 1)))) ?_ ?_; (· exact ex_idx rfl rfl rfl (fun w => run_idxZ (z := 1) w Tryd.underlying46 (by kernel_rfl) ad (by omega)) _))
            | (refine wpList_as rfl 87 rfl (.int .u64 ((p : Nat) : Int)) ?_ ?_; (· exact ex_ld1 .u64 rfl rfl Tryd.underlying25 HCP.out))
            | (refine wpList_as rfl 88 rfl (.pointer (some ⟨b9, p, none⟩)) ?_ ?_; (· exact ex_idx rfl rfl rfl (fun w => idxB w b9 p (by omega)) _))
            | (refine wpList_st1 rfl 4 (.tmp 88) (.const (.bool true)) rfl HSk.out 0 rfl p (.bool true) (stBool true) rfl rfl (by omega) (fun q => .bool (seenN s n (j + 1) q)) (fun q _ => HST.out q) ?_; intro w11 hs hg; have HSl2 := Lib.hid hs; have HOl := Lib.hid (HOk.out.kept hg (fun ad e er => by injection er with er; injection e with e; subst e; omega)); clear hs hg))
          go_roundw
          case rel => exact ⟨j + 1, by go_num, by omega, HSl2.out, HOl.out⟩
          case measure => simp [intOf]; omega
        · go_wp2_with fail
          go_ret
          exact ⟨rfl, HSj.out.out (by simp; omega)⟩
end Go.Proofs.YtjmbgdldnnmipaaDoor
