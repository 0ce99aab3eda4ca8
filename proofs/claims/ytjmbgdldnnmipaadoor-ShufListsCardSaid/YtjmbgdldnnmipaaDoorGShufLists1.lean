/- A part of what the proofs stand on: ShufListsLaw. -/
import Derived.Test.YtjmbgdldnnmipaaDoorGShu17
import Derived.Test.YtjmbgdldnnmipaaDoorGShu18
/- The law ShufLists. (Printed by a program of mine.) -/
namespace Go.Proofs.YtjmbgdldnnmipaaDoor
set_option maxRecDepth 40000
open Go.RowKit
namespace ShufListsLaw
def endN (n : Nat) (x : Nat → Nat) : Nat → Nat := fun q => if q < n then x q else 7
theorem cat_end {n : Nat} {x : Nat → Nat} : ∀ q, q < (n + 1) * 1 → catF (n * 1) (u64v x) (fun _ => .int .u64 7) q = u64v (endN n x) q := fun q hq => by
  unfold catF endN
  simp only [u64v]
  by_cases h : q < n
  · rw [if_pos (by omega), if_pos h]
  · rw [if_neg (by omega), if_neg h]; rfl
end ShufListsLaw
open ShufListsLaw ShufRefList in
set_option maxHeartbeats 16000000 in
theorem shufLists_law (w : World) (A : Option Addr) (n c : Nat) (x : Nat → Nat) (hA : Rd w w.heap.size A n (u64v x)) (_hx : ∀ i, x i < 18446744073709551616) (_hn : n ≤ 140737488351232) (_hnc : n ≤ c) (s : Nat → Nat) (hs : ∀ i, s i < 256) (hp : ShaPkg w) (hpr : RefPkg w) :
    Calls Tryd.prog 9 #[.slice A n c, rootV s] w fun e w' => e = .returned (.bool true) ∧ Below w.heap.size w w' := by
  have HS0 := Lib.hid (HS.nil w)
  have HX := Lib.hid hA
  have HP := Lib.hid hp
  have HPR := Lib.hid hpr
  have HSl := Lib.hid hs
  clear hA hp hpr hs
  by_cases hbig : 600 < n
  · have t1 : decide ((600 : Int) < (n : Int)) = true := decide_eq_true (by omega)
    go_enter Tryd.func9, Tryd.ntmps9
    go_wp2_with (first
      | (refine wpList_boxL rfl 23 _ 3 rfl rfl HS0.out 32 (u8v s) rfl ?_; intro b3 w3 hb3 hc3 hs; have HS3 := Lib.hid hs; clear hs)
      | (go_at_call 29; refine (awake12_any _ (HP.out.below (HS3.out.out (by simp; omega)))).mono ?_; rintro e w6 ⟨rfl, hb⟩; have HS6 := Lib.hid (HS3.out.below hb); clear hb))
    go_ret
    exact ⟨rfl, HS6.out.out (by simp; omega)⟩
  · have t1 : decide ((600 : Int) < (n : Int)) = false := decide_eq_false (by omega)
    obtain ⟨Y, hY⟩ : ∃ Y : Nat → Nat, Y = fun q => x (placeN s n q) := ⟨_, rfl⟩
    have HYd := Lib.hid hY.symm
    obtain ⟨z, hz⟩ : ∃ z : Nat → Nat, z = endN n x := ⟨_, rfl⟩
    have HZd := Lib.hid hz.symm
    have HZx := Lib.hid (show ∀ q, q < n → u64v z q = u64v x q by intro q hq; rw [hz]; simp only [u64v, endN]; rw [if_pos hq])
    have HZn := Lib.hid (show u64v z n = .int .u64 7 by rw [hz]; simp only [u64v, endN]; rw [if_neg (by omega)]; rfl)
    clear hY hz
    have tok1 := Tok.mk 1
    go_enter Tryd.func9, Tryd.ntmps9
    go_wp2_with (first
      | (refine wpList_boxL rfl 23 _ 3 rfl rfl HS0.out 32 (u8v s) rfl ?_; intro b3 w3 hb3 hc3 hs; have HS3 := Lib.hid hs; clear hs)
      | (go_at_call 29; refine (awake12_any _ (HP.out.below (HS3.out.out (by simp; omega)))).mono ?_; rintro e w6 ⟨rfl, hb⟩; have HS6 := Lib.hid (HS3.out.below hb); clear hb)
      | (refine wpList_bs0L rfl 1 rfl run_bs0_64 HS6.out ?_; intro b15 w7 hb15 hs ho; have HS7 := Lib.hid hs; have HO7 := Lib.hid (ho.mono (base' := b3 + 1) (HS6.out.lt 0 rfl)); clear hs ho)
      | (at_builtin; refine wpList_app0L rfl (.tmp 15) (.tmp 16) 46 (b3 + 1) (z := .int .u64 0) (k := 1) (bytes := 8) (by kernel_rfl) Tryd.underlying46 (by rfl) (by omega) rfl rfl HO7.out rfl (by rw [Nat.mul_one]; exact HX.out.below (HS7.out.out (by simp; omega))) (fun _ _ => rfl) ⟨by omega, by omega⟩ (by have := HO7.out.base_le _ rfl; omega) HS7.out ?_; intro A17 c17 w8 ho hs; have HO8 := Lib.hid ho; have HS8 := Lib.hid hs; have h8 : b3 + 1 ≤ w8.heap.size := HS8.out.lt 0 rfl; clear ho hs)
      | (refine wpList_bs1s rfl (.const (.int .u64 7)) (.int .u64 7) rfl rfl (fun w => run_bs1_64 _ w) (HS.nil w8) ?_; intro b18 w9 hb18 hc18 hbl hs; have HR9 := Lib.hid (hs.row 0 rfl); have HB9 := Lib.hid hbl; clear hs hbl)
      | (at_builtin; refine wpList_appZ _ (.tmp 17) (.tmp 18) 46 (b3 + 1) (e := 25) (z := .int .u64 0) (k := 1) (bytes := 8) (by kernel_rfl) Tryd.underlying46 (by rfl) (by omega) rfl rfl (n + 1) (u64v (endN n x)) rfl rfl (HO8.out.all HB9.out) (Rd.of_row (n := 1 * 1) HR9.out (Nat.le_refl _) HR9.out.lt) (fun _ _ => rfl) rfl cat_end ⟨by omega, by omega⟩ (Nat.le_trans h8 HB9.out.size) ?_; intro A19 c19 w10 ho hg _; rw [HZd.out] at ho; obtain ⟨ad, hA19, _, _⟩ := ho.rd (show 0 < (n + 1) * 1 by omega); subst hA19; have HO10 := Lib.hid ho; have hc19 := ho.cap; have HS10 := Lib.hid ((HS8.out.below HB9.out).appO hg (B := b3 + 1) (fun ad e => (HO8.out.base_le ad e).1) (by simp; omega)); clear ho hg)
      | (refine wpList_as rfl 22 rfl (.slice (some ad) n c19) ?_ ?_; (· exact ex_slice rfl rfl rfl rfl (fun w => cut_toZ (z := 1) Tryd.underlying46 (by kernel_rfl) (some ad) (n + 1) c19 n (by omega) w) _))
      | (have hx : Tok 1 := (by assumption); refine wpList_load_rd rfl 23 _ rfl 32 _ Tryd.underlying23 rfl (by kernel_rfl) ⟨b3, 0, none⟩ rfl (u8v s) (fun i hi => by rw [add_lit0]; exact HS10.out.cell 0 i rfl hi) ?_)
      | (go_at_call 30; refine (list_ok n c19 (some ad) x s HSl.out _ ((HO10.out.rd.short (by omega)).congr (fun i hi => HZx.out i hi)) (by omega) (fun h => by cases h) (HP.out.below (HS10.out.out (by simp; omega)))).mono ?_; clear tok1; rintro e w11 ⟨A6, c6, rfl, ho, hb⟩; rw [HYd.out] at ho; have HO11 := Lib.hid ho; have HS11 := Lib.hid (HS10.out.below hb); have HM11 := Lib.hid (HO10.out.all hb); clear ho hb; have tok2 := Tok.mk 2)
      | (have hx : Tok 2 := (by assumption); refine wpList_load_rd rfl 23 _ rfl 32 _ Tryd.underlying23 rfl (by kernel_rfl) ⟨b3, 0, none⟩ rfl (u8v s) (fun i hi => by rw [add_lit0]; exact HS11.out.cell 0 i rfl hi) ?_)
      | (go_at_call 31; refine (listRef_ok n c A x s HSl.out _ ((HX.out.below (HS11.out.out (by simp; omega))).more HS11.out.size) (by omega) (HPR.out.below (HS11.out.out (by simp; omega)))).mono ?_; clear tok2; rintro e w12 ⟨A8, c8, rfl, ho, hb⟩; rw [HYd.out] at ho; have HO12 := Lib.hid ho; have HS12 := Lib.hid (HS11.out.below hb); have HM12 := Lib.hid (HM11.out.all hb); have HL12 := Lib.hid (HO11.out.all hb); clear ho hb; have tok3 := Tok.mk 3)
      | (go_at_call 32; have hx : Tok 3 := (by assumption); refine (same12_any n c6 c8 A6 A8 Y _ (by have h := HL12.out.rd; rwa [Nat.mul_one] at h) (by have h := HO12.out.rd; rwa [Nat.mul_one] at h) (by omega)).mono ?_; clear hx tok3; rintro e w13 ⟨rfl, hb⟩; have HS13 := Lib.hid (HS12.out.below hb); have HM13 := Lib.hid (HM12.out.all hb); clear hb; have tok4 := Tok.mk 4)
      | (go_at_call 32; have hx : Tok 4 := (by assumption); refine (same12_any n c19 c (some ad) A x _ ((HM13.out.rd.short (by omega)).congr (fun i hi => HZx.out i hi)) ((HX.out.below (HS13.out.out (by simp; omega))).more HS13.out.size) (by omega)).mono ?_; clear hx tok4; rintro e w14 ⟨rfl, hb⟩; have HS14 := Lib.hid (HS13.out.below hb); have HM14 := Lib.hid (HM13.out.all hb); clear hb)
      | (refine wpList_asG rfl rfl rfl 53 rfl (.slice (some ad) (n + 1) c19) ?_ ?_; (· exact ex_slice rfl rfl rfl rfl (fun w => cut_toZ (z := 1) Tryd.underlying46 (by kernel_rfl) (some ad) n c19 (n + 1) (by omega) w) _))
      | (refine wpList_asG rfl rfl rfl 56 rfl (.pointer (some (ad.add (n * 1)))) ?_ ?_; (· exact ex_idx rfl rfl rfl (fun w => run_idxZ (z := 1) w Tryd.underlying46 (by kernel_rfl) ad (by omega)) _))
      | (refine wpList_asG rfl rfl rfl 57 rfl (.int .u64 7) ?_ ?_; (· exact ex_ld1 .u64 rfl rfl Tryd.underlying25 (by rw [Nat.mul_one, ← HZn.out]; exact HM14.out.rd.cells (by omega)))))
    go_ret
    exact ⟨rfl, HS14.out.out (by simp; omega)⟩
end Go.Proofs.YtjmbgdldnnmipaaDoor
