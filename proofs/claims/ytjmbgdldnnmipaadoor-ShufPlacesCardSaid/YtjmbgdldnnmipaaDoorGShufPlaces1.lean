/- A part of what the proofs stand on: ShufPlacesLaw. -/
import Derived.Test.YtjmbgdldnnmipaaDoorGShu17
import Derived.Test.YtjmbgdldnnmipaaDoorGShu18
/- The law ShufPlaces. (Printed by a program of mine.) -/
namespace Go.Proofs.YtjmbgdldnnmipaaDoor
set_option maxRecDepth 40000
open Go.RowKit
set_option maxHeartbeats 16000000 in
theorem shufPlaces_law (w : World) (i : Nat) (_hi : i < 18446744073709551616) (n : Nat) (_hn : n < 18446744073709551616) (s : Nat → Nat) (hs : ∀ i, s i < 256) (hp : ShaPkg w) (hpr : RefPkg w) :
    Calls Tryd.prog 13 #[.int .u64 (i : Int), .int .u64 (n : Int), rootV s] w fun e w' => e = .returned (.bool true) ∧ Below w.heap.size w w' := by
  have HS0 := Lib.hid (HS.nil w)
  have HP := Lib.hid hp
  have HPR := Lib.hid hpr
  have HSl := Lib.hid hs
  clear hp hpr hs
  by_cases hno : 4294967296 < n ∨ n ≤ i
  · go_enter Tryd.func13, Tryd.ntmps13
    go_wp2_with (first
      | (refine wpList_boxL rfl 23 _ 5 rfl rfl HS0.out 32 (u8v s) rfl ?_; intro b5 w5 hb5 hc5 hs; have HS5 := Lib.hid hs; clear hs)
      | (go_at_call 29; refine (awake12_any _ (HP.out.below (HS5.out.out (by simp; omega)))).mono ?_; rintro e w6 ⟨rfl, hb⟩; have HT1 := Lib.hid (HS5.out.below hb); clear hb; have tok1 := Tok.mk 1)
      | (have hx : Tok 1 := (by assumption); clear hx; refine wpList_load_rd rfl 23 _ rfl 32 _ Tryd.underlying23 rfl (by kernel_rfl) ⟨b5, 0, none⟩ rfl (u8v s) (fun i hi => by rw [add_lit0]; exact HT1.out.cell 0 i rfl hi) ?_)
      | (go_at_call 33; have hx : Tok 1 := (by assumption); refine (place_no s n i _ hno).mono ?_; clear hx tok1; rintro e wc1 ⟨rfl, hb⟩; have HT2 := Lib.hid (HT1.out.below hb); clear hb; have tok2 := Tok.mk 2)
      | (have hx : Tok 2 := (by assumption); clear hx; refine wpList_load_rd rfl 23 _ rfl 32 _ Tryd.underlying23 rfl (by kernel_rfl) ⟨b5, 0, none⟩ rfl (u8v s) (fun i hi => by rw [add_lit0]; exact HT2.out.cell 0 i rfl hi) ?_)
      | (go_at_call 34; have hx : Tok 2 := (by assumption); refine (placeRef_no s n i _ hno).mono ?_; clear hx tok2; rintro e wc2 ⟨rfl, hb⟩; have HT3 := Lib.hid (HT2.out.below hb); clear hb; have tok3 := Tok.mk 3)
      | (have hx : Tok 3 := (by assumption); clear hx; refine wpList_load_rd rfl 23 _ rfl 32 _ Tryd.underlying23 rfl (by kernel_rfl) ⟨b5, 0, none⟩ rfl (u8v s) (fun i hi => by rw [add_lit0]; exact HT3.out.cell 0 i rfl hi) ?_)
      | (go_at_call 35; have hx : Tok 3 := (by assumption); refine (back_no s n i _ hno).mono ?_; clear hx tok3; rintro e wc3 ⟨rfl, hb⟩; have HT4 := Lib.hid (HT3.out.below hb); clear hb; have tok4 := Tok.mk 4)
      | (have hx : Tok 4 := (by assumption); clear hx; refine wpList_load_rd rfl 23 _ rfl 32 _ Tryd.underlying23 rfl (by kernel_rfl) ⟨b5, 0, none⟩ rfl (u8v s) (fun i hi => by rw [add_lit0]; exact HT4.out.cell 0 i rfl hi) ?_)
      | (go_at_call 36; have hx : Tok 4 := (by assumption); refine (backRef_no s n i _ hno).mono ?_; clear hx tok4; rintro e wc4 ⟨rfl, hb⟩; have HT5 := Lib.hid (HT4.out.below hb); clear hb; have tok5 := Tok.mk 5))
    go_ret
    exact ⟨rfl, HT5.out.out (by simp; omega)⟩
  · have hn : n ≤ 4294967296 := by omega
    have hi : i < n := by omega
    obtain ⟨a, ha⟩ : ∃ a, a = placeN s n i := ⟨_, rfl⟩
    obtain ⟨c, hc⟩ : ∃ c, c = backN s n i := ⟨_, rfl⟩
    have HA := Lib.hid ha.symm
    have HC := Lib.hid hc.symm
    have han : a < n := by rw [ha]; exact place_lt hi
    have hcn : c < n := by rw [hc]; exact back_lt hi
    have HB1 := Lib.hid (show backN s n a = i by rw [ha]; exact back_place hi)
    have HB2 := Lib.hid (show placeN s n c = i by rw [hc]; exact place_back hi)
    have t1 : decide ((a : Int) < (n : Int)) = true := decide_eq_true (by omega)
    clear ha hc
    go_enter Tryd.func13, Tryd.ntmps13
    go_wp2_with (first
      | (refine wpList_boxL rfl 23 _ 5 rfl rfl HS0.out 32 (u8v s) rfl ?_; intro b5 w5 hb5 hc5 hs; have HS5 := Lib.hid hs; clear hs)
      | (go_at_call 29; refine (awake12_any _ (HP.out.below (HS5.out.out (by simp; omega)))).mono ?_; rintro e w6 ⟨rfl, hb⟩; have HT1 := Lib.hid (HS5.out.below hb); clear hb; have tok1 := Tok.mk 1)
      | (have hx : Tok 1 := (by assumption); clear hx; refine wpList_load_rd rfl 23 _ rfl 32 _ Tryd.underlying23 rfl (by kernel_rfl) ⟨b5, 0, none⟩ rfl (u8v s) (fun i hi => by rw [add_lit0]; exact HT1.out.cell 0 i rfl hi) ?_)
      | (go_at_call 33; have hx : Tok 1 := (by assumption); refine (place_ok s HSl.out n i _ hn hi (HP.out.below (HT1.out.out (by simp; omega)))).mono ?_; clear hx tok1; rintro e wc1 ⟨rfl, hb⟩; rw [HA.out]; have HT2 := Lib.hid (HT1.out.below hb); clear hb; have tok2 := Tok.mk 2)
      | (have hx : Tok 2 := (by assumption); clear hx; refine wpList_load_rd rfl 23 _ rfl 32 _ Tryd.underlying23 rfl (by kernel_rfl) ⟨b5, 0, none⟩ rfl (u8v s) (fun i hi => by rw [add_lit0]; exact HT2.out.cell 0 i rfl hi) ?_)
      | (go_at_call 34; have hx : Tok 2 := (by assumption); refine (placeRef_ok s HSl.out n i _ hn hi (HPR.out.below (HT2.out.out (by simp; omega)))).mono ?_; clear hx tok2; rintro e wc2 ⟨rfl, hb⟩; rw [HA.out]; have HT3 := Lib.hid (HT2.out.below hb); clear hb; have tok3 := Tok.mk 3)
      | (have hx : Tok 3 := (by assumption); clear hx; refine wpList_load_rd rfl 23 _ rfl 32 _ Tryd.underlying23 rfl (by kernel_rfl) ⟨b5, 0, none⟩ rfl (u8v s) (fun i hi => by rw [add_lit0]; exact HT3.out.cell 0 i rfl hi) ?_)
      | (go_at_call 35; have hx : Tok 3 := (by assumption); refine (back_ok s HSl.out n i _ hn hi (HP.out.below (HT3.out.out (by simp; omega)))).mono ?_; clear hx tok3; rintro e wc3 ⟨rfl, hb⟩; rw [HC.out]; have HT4 := Lib.hid (HT3.out.below hb); clear hb; have tok4 := Tok.mk 4)
      | (have hx : Tok 4 := (by assumption); clear hx; refine wpList_load_rd rfl 23 _ rfl 32 _ Tryd.underlying23 rfl (by kernel_rfl) ⟨b5, 0, none⟩ rfl (u8v s) (fun i hi => by rw [add_lit0]; exact HT4.out.cell 0 i rfl hi) ?_)
      | (go_at_call 36; have hx : Tok 4 := (by assumption); refine (backRef_ok s HSl.out n i _ hn hi (HPR.out.below (HT4.out.out (by simp; omega)))).mono ?_; clear hx tok4; rintro e wc4 ⟨rfl, hb⟩; rw [HC.out]; have HT5 := Lib.hid (HT4.out.below hb); clear hb; have tok5 := Tok.mk 5)
      | (have hx : Tok 5 := (by assumption); clear hx; refine wpList_load_rd rfl 23 _ rfl 32 _ Tryd.underlying23 rfl (by kernel_rfl) ⟨b5, 0, none⟩ rfl (u8v s) (fun i hi => by rw [add_lit0]; exact HT5.out.cell 0 i rfl hi) ?_)
      | (go_at_call 35; have hx : Tok 5 := (by assumption); refine (back_ok s HSl.out n a _ hn han (HP.out.below (HT5.out.out (by simp; omega)))).mono ?_; clear hx tok5; rintro e wc5 ⟨rfl, hb⟩; rw [HB1.out]; have HT6 := Lib.hid (HT5.out.below hb); clear hb; have tok6 := Tok.mk 6)
      | (have hx : Tok 6 := (by assumption); clear hx; refine wpList_load_rd rfl 23 _ rfl 32 _ Tryd.underlying23 rfl (by kernel_rfl) ⟨b5, 0, none⟩ rfl (u8v s) (fun i hi => by rw [add_lit0]; exact HT6.out.cell 0 i rfl hi) ?_)
      | (go_at_call 33; have hx : Tok 6 := (by assumption); refine (place_ok s HSl.out n c _ hn hcn (HP.out.below (HT6.out.out (by simp; omega)))).mono ?_; clear hx tok6; rintro e wc6 ⟨rfl, hb⟩; rw [HB2.out]; have HT7 := Lib.hid (HT6.out.below hb); clear hb; have tok7 := Tok.mk 7))
    go_ret
    exact ⟨by simp, HT7.out.out (by simp; omega)⟩
end Go.Proofs.YtjmbgdldnnmipaaDoor
