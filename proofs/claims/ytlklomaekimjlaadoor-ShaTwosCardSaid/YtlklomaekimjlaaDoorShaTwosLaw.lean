/- The law ShaTwos. (Printed by a program of mine.) -/
import Derived.Test.YtlklomaekimjlaaDoorShaAwake
import Derived.Test.YtlklomaekimjlaaDoorShaRef2
namespace Go.Proofs.YtlklomaekimjlaaDoor
open Go.RowKit
namespace ShaTwosLaw
theorem ent_dsum (vs : Array Value) (w : World) : (callFunc 15 vs).run Tryd.prog w = .ok (.enter 15 vs) w := by kernel_rfl
theorem ent_sum (vs : Array Value) (w : World) : (callFunc 9 vs).run Tryd.prog w = .ok (.enter 9 vs) w := by kernel_rfl
theorem ent_two (vs : Array Value) (w : World) : (callFunc 11 vs).run Tryd.prog w = .ok (.enter 11 vs) w := by kernel_rfl
theorem u8_info : (Tryd.prog.info? 5).map (fun i => (i.zero, i.size, i.bytes)) = some (some (.int .u8 0), 1, 1) := by kernel_rfl
theorem run_bs0_u8 (w : World) : (Instr.buildSlice 22 0 #[]).run Tryd.prog w = .ok (.slice (some ⟨w.heap.size, 0, none⟩) 0 0) (w.alloc (.cells #[] 5)) := by simp [go_sem]
theorem cat_F (x y : Nat → Nat) (n : Nat) : ∀ i, i < n → catF 32 (u8v x) (u8v y) i = u8v (catN 32 x y) i := fun i _ => by
  simp only [catF, u8v, catN]; split <;> rfl
end ShaTwosLaw
open ShaTwosLaw in
set_option maxHeartbeats 4000000 in
theorem shaTwos_law (w : World) (x : Nat → Nat) (hx : ∀ i, x i < 256) (y : Nat → Nat) (hy : ∀ i, y i < 256) (hp : ShaPkg w) :
    Calls Tryd.prog 4 #[rootV x, rootV y] w fun e w' => e = .returned (.bool true) ∧ Below w.heap.size w w' := by
  have HP := Lib.hid hp
  have HX := Lib.hid hx
  have HY := Lib.hid hy
  have hlt := hp.lt
  have H0 := Lib.hid (((HS.nil w).allocB _ (arr 32 (u8v x)) 24 32 _ (size_arr _ _) (arr_at _ _) rfl).allocB (w.heap.size + 1) (arr 32 (u8v y)) 24 32 _ (size_arr _ _) (arr_at _ _) (by simp))
  clear hp hx hy
  go_enter Tryd.func4, Tryd.ntmps4
  go_wp2_with (first
    | (go_at_call 8; refine (awake_any _ (HP.out.below (H0.out.out (by simp)))).mono ?_; rintro e w1 ⟨rfl, hb1⟩; have H1 := Lib.hid (H0.out.below hb1); clear hb1)
    | (go_at_call 13; refine (new_any _ (HP.out.below (H1.out.out (by simp))) x).mono ?_; rintro e w2 ⟨g, rfl, hg2, hrow2, hbel2⟩; have HN := Lib.hid (And.intro hrow2 hbel2); clear hrow2 hbel2))
  have hs := H1.out.below HN.out.2
  have hgw : w.heap.size + 2 ≤ g := by have := H1.out.lt 0 rfl; omega
  have hne : ∀ r ∈ ([⟨w.heap.size + 1, 24, 32, u8v y⟩, ⟨w.heap.size, 24, 32, u8v x⟩] : List RowSpec), r.b ≠ g := fun r hr => by
    simp at hr
    rcases hr with rfl | rfl
    · show w.heap.size + 1 ≠ g; omega
    · show w.heap.size ≠ g; omega
  have hpk := HP.out.below (hs.out (by simp))
  have hd2 := dig_new x HN.out.1
  refine (write_any g 0 32 32 (some ⟨w.heap.size, 0, none⟩) x x w2 hd2 (Rd.of_row (hs.row 1 rfl) (Nat.le_refl _) (hs.lt 1 rfl)) (fun _ ad e => by injection e with e; subst e; show w.heap.size ≠ g; omega) HX.out HX.out (by omega) (Nat.le_refl _) hpk ⟨by omega, by omega⟩).mono ?_
  rintro e w3 ⟨rfl, hd3, hg3⟩
  have hs3 := hs.other hg3 (by omega) hne
  have HD3 := Lib.hid hd3
  have HS3 := Lib.hid hs3
  clear hs hs3 hpk hd2 hd3 hg3
  simp only []
  go_wp2_with fail
  have hs := HS3.out
  have hpk := HP.out.below (hs.out (by simp))
  refine (write_any g 32 32 32 (some ⟨w.heap.size + 1, 0, none⟩) (catN 0 x x) y w3 HD3.out (Rd.of_row (hs.row 0 rfl) (Nat.le_refl _) (hs.lt 0 rfl)) (fun _ ad e => by injection e with e; subst e; show w.heap.size + 1 ≠ g; omega) HY.out (catN_lt HX.out HX.out) (by omega) (Nat.le_refl _) hpk ⟨by omega, by omega⟩).mono ?_
  rintro e w4 ⟨rfl, hd4, hg4⟩
  have hs4 := hs.other hg4 (by omega) hne
  have hd5 : Dig w4 g (catN 32 x y) 64 := hd4.congr (fun i _ => by unfold catN; split <;> simp)
  have HD4 := Lib.hid hd5
  have HS4 := Lib.hid hs4
  have HXr := Lib.hid (heap_arr (hs4.row 1 rfl))
  have HYr := Lib.hid (heap_arr (hs4.row 0 rfl))
  clear hs hs4 hpk hd4 hd5 hg4 HD3 HS3
  simp only []
  have tok1 : Hid True := Lib.hid trivial
  go_wp2_with (first
    | (refine wpList_load_row rfl 24 (.tmp 2) rfl w.heap.size rfl 24 _ _ _ HXr.out Tryd.underlying24 rfl (by kernel_rfl) ?_)
    | (refine wpList_load_row rfl 24 (.tmp 3) rfl (w.heap.size + 1) rfl 24 _ _ _ HYr.out Tryd.underlying24 rfl (by kernel_rfl) ?_)
    | (refine wpList_new rfl rfl 24 24 6 (.tmp 21) rfl rfl rfl 32 (zeroOf Tryd.prog 24) (by kernel_rfl) (by kernel_rfl) (arr 32 (u8v (shaB (catN 32 x y) 64))) rfl rfl (size_arr _ _) (by kernel_rfl) (fun i hi => ⟨_, arr_at _ _ i hi, rfl⟩) _ (fun i hi => arr_at _ _ i hi) ?_; intro w6 hr6 hb6; have N6 := Lib.hid (And.intro hr6 hb6); clear hr6 hb6; have hs5 := HS4.out.below H5.out; have hs6 := (hs5.below N6.out.2).add N6.out.1 hs5.size (fun r hr => by have := (hs5.has r hr).lt; omega); have hd6 := (HD4.out.below H5.out HD4.out.lt).below N6.out.2 (Nat.lt_of_lt_of_le HD4.out.lt H5.out.size); have hwb6 : w.heap.size ≤ w5.heap.size := hs5.size; have HD6 := Lib.hid hd6; have HS6 := Lib.hid hs6; clear HXr HYr; have HXr := Lib.hid (heap_arr (hs6.row 2 rfl)); have HYr := Lib.hid (heap_arr (hs6.row 1 rfl)); clear hs5 hs6 hd6 N6)
    | (refine wpList_new rfl rfl 24 24 7 (.tmp 24) rfl rfl rfl 32 (zeroOf Tryd.prog 24) (by kernel_rfl) (by kernel_rfl) (arr 32 (u8v (shaB (catN 32 y x) 64))) rfl rfl (size_arr _ _) (by kernel_rfl) (fun i hi => ⟨_, arr_at _ _ i hi, rfl⟩) _ (fun i hi => arr_at _ _ i hi) ?_; intro w8 hr8 hb8; have N8 := Lib.hid (And.intro hr8 hb8); clear hr8 hb8; have hs7 := HS6.out.below H7.out; have hs8 := (hs7.below N8.out.2).add N8.out.1 hs7.size (fun r hr => by have := (hs7.has r hr).lt; omega); have hd8 := (HD6.out.below H7.out HD6.out.lt).below N8.out.2 (Nat.lt_of_lt_of_le HD6.out.lt H7.out.size); have hwb7 : w.heap.size ≤ w7.heap.size := hs7.size; have HD8 := Lib.hid hd8; have HS8 := Lib.hid hs8; clear hs7 hs8 hd8 N8)
    | (go_at_call 11; have _t := tok1; refine (two_any x y HX.out HY.out _ (HP.out.below (HS4.out.out (by simp)))).mono ?_; rintro e w5 ⟨rfl, hb5⟩; have H5 := Lib.hid hb5; clear hb5; clear _t tok1)
    | (go_at_call 11; refine (two_any y x HY.out HX.out _ (HP.out.below (HS6.out.out (by simp; omega)))).mono ?_; rintro e w7 ⟨rfl, hb7⟩; have H7 := Lib.hid hb7; clear hb7))
  simp only [Act.put, List.setIfInBounds_toArray, List.set_cons_succ, List.set_cons_zero]
  obtain ⟨b6, hb6⟩ : ∃ b, b = w5.heap.size := ⟨_, rfl⟩
  obtain ⟨b7, hb7⟩ : ∃ b, b = w7.heap.size := ⟨_, rfl⟩
  have hs8 := HS8.out
  have hd8 := HD8.out
  rw [← hb6, ← hb7] at hs8 ⊢
  rw [← hb6] at hwb6
  rw [← hb7] at hwb7
  clear HS8 HD8 HS6 HD6 HXr HYr hb6 hb7
  obtain ⟨wr, hwr⟩ : ∃ wr, wr = w8 := ⟨_, rfl⟩
  rw [← hwr] at hs8 hd8 ⊢
  have HD := Lib.hid hd8
  have R7 : Hid (wr.rowIs b7 24 32 (u8v (shaB (catN 32 y x) 64))) := Lib.hid (hs8.row 0 rfl)
  have R6 : Hid (wr.rowIs b6 24 32 (u8v (shaB (catN 32 x y) 64))) := Lib.hid (hs8.row 1 rfl)
  have R3 : Hid (wr.rowIs (w.heap.size + 1) 24 32 (u8v y)) := Lib.hid (hs8.row 2 rfl)
  have R2 : Hid (wr.rowIs w.heap.size 24 32 (u8v x)) := Lib.hid (hs8.row 3 rfl)
  have HB := Lib.hid (hs8.out (by simp; omega))
  clear hs8 hd8 hwr
  refine wp_region_own (l := [_, _, _, _, _, _, _, _, _, _, _, _, _, _, _, _, _, _, _, _, _, _, _, _, _, _, _, _, _, _, _, _]) (tl := []) (B := wr.heap.size) (w0 := wr) [OF.is (.pointer (some ⟨g, 0, none⟩)), OF.is (rootV (shaB (catN 32 x y) 64)), OF.is (rootV (shaB (catN 32 x y) 64)), OF.is (.bool true), OF.is (.bool true), OF.is (rootV (shaB (catN 32 x y) 64)), OF.own0 wr.heap.size 5, OF.is (.slice (some ⟨w.heap.size, 0, none⟩) (32) (32)), OF.own wr.heap.size 5 32 (u8v x), OF.is (.slice (some ⟨w.heap.size + 1, 0, none⟩) (32) (32)), OF.own wr.heap.size 5 64 (u8v (catN 32 x y)), OF.is (rootV (shaB (catN 32 x y) 64)), OF.is (.bool true), OF.is (.bool true), OF.is (.bool true), OF.is (rootV (shaB (catN 32 y x) 64)), OF.own0 wr.heap.size 5, OF.is (.slice (some ⟨w.heap.size + 1, 0, none⟩) (32) (32)), OF.own wr.heap.size 5 32 (u8v y), OF.is (.slice (some ⟨w.heap.size, 0, none⟩) (32) (32)), OF.own wr.heap.size 5 64 (u8v (catN 32 y x)), OF.is (rootV (shaB (catN 32 y x) 64)), OF.is (.bool true), OF.is (.bool true), OF.is (.bool true), OF.is (rootV (x)), OF.is (rootV (y)), OF.is (rootV (shaB (catN 32 x y) 64)), OF.is (rootV (shaB (catN 32 x y) 64)), OF.is (.bool true), OF.is (.bool true), OF.is (.bool true)] [none, none, none, none, none, none, none, none, some 31, none, some 33, none, none, none, none, none, none, none, some 41, none, some 43, none, none, none, none, none, none, none, none, none, none, none] [false, false, false, false, false, false, true, false, true, false, false, false, false, false, false, false, true, false, true, false, false, false, false, false, false, false, false, false, false, false, false, false] (by kernel_rfl) (by kernel_rfl) rfl (Nat.le_refl _) (Below.refl _ _) ⟨?_, ?_, ?_, ?_, ?_, ?_, ?_, ?_, ?_, ?_, ?_, ?_, ?_, ?_, ?_, ?_, ?_, ?_, ?_, ?_, ?_, ?_, ?_, ?_, ?_, ?_, ?_, ?_, ?_, ?_, ?_, ?_, trivial⟩ ?_
  · exact opObO_is ((opOb_move _ rfl (.inl rfl) rfl))
  · exact opObO_is (opOb_fn1 ent_dsum rfl rfl (OpK.tmp rfl) (fun w' hb => (sumd_any g 64 (catN 32 x y) w' (HD.out.below hb HD.out.lt) (catN_lt HX.out HY.out) (HP.out.below (HB.out.trans (hb.mono HB.out.size)))).mono fun e w'' ⟨he, hb2⟩ => ⟨_, he, rfl, hb2⟩))
  · exact opObO_is (opOb_ld rfl rfl (OpK.tmp rfl) (fun w' hb => run_loadAt_part w' _ 0 32 _ _ (u8v (shaB (catN 32 x y) 64)) (fun i hi => by rw [Nat.zero_add]; exact (row_below (B := wr.heap.size) R6.out hb R6.out.lt).cell hi) Tryd.underlying24 rfl (by kernel_rfl)))
  · exact opObO_is (opOb_eqArr 5 32 .u8 (fun i => ((shaB (catN 32 x y) 64 i : Nat) : Int)) (fun i => ((shaB (catN 32 x y) 64 i : Nat) : Int)) true Tryd.underlying24 Tryd.underlying5 (by kernel_rfl) (by kernel_rfl) (by simp) rfl rfl (OpK.tmp rfl) (OpK.tmp rfl))
  · exact opObO_is ((opOb_move _ rfl (.inl rfl) rfl))
  · exact opObO_on 29 rfl rfl (opObO_is (opOb_ld rfl rfl (OpK.tmp rfl) (fun w' hb => run_loadAt_part w' _ 0 32 _ _ (u8v (shaB (catN 32 x y) 64)) (fun i hi => by rw [Nat.zero_add]; exact (row_below (B := wr.heap.size) R6.out hb R6.out.lt).cell hi) Tryd.underlying24 rfl (by kernel_rfl))))
  · exact opObO_on 29 rfl rfl (opObO_bs0 rfl rfl run_bs0_u8 _ (Nat.le_refl _))
  · exact opObO_on 29 rfl rfl (opObO_is (opOb_slc rfl rfl (OpK.tmp rfl) (OpKo.no) (OpKo.no) (fun w => cut_arr Tryd.underlying24 1 (by kernel_rfl) none none (0) (32) (.inl ⟨rfl, rfl⟩) (.inl ⟨rfl, rfl⟩) (by omega) (by omega) (by omega) (by omega) (by omega) (by omega))))
  · exact opObO_on 29 rfl rfl (opObO_app0 (s := 31) wr.heap.size u8_info Tryd.underlying22 rfl rfl rfl (by rfl) (OpK.tmp rfl) (fun w' hb => Rd.of_row (row_below (B := wr.heap.size) R2.out hb R2.out.lt) (Nat.le_refl _) (Nat.lt_succ_self _)) (fun _ _ => rfl) (by omega) (Nat.le_refl _))
  · exact opObO_on 29 rfl rfl (opObO_is (opOb_slc rfl rfl (OpK.tmp rfl) (OpKo.no) (OpKo.no) (fun w => cut_arr Tryd.underlying24 1 (by kernel_rfl) none none (0) (32) (.inl ⟨rfl, rfl⟩) (.inl ⟨rfl, rfl⟩) (by omega) (by omega) (by omega) (by omega) (by omega) (by omega))))
  · exact opObO_on 29 rfl rfl (opObO_app (s := 33) wr.heap.size u8_info Tryd.underlying22 rfl rfl rfl (by rfl) (Nat.le_refl _) (OpK.tmp rfl) (fun w' hb => Rd.of_row (row_below (B := wr.heap.size) R3.out hb R3.out.lt) (Nat.le_refl _) (Nat.lt_succ_self _)) (fun _ _ => rfl) 64 (u8v (catN 32 x y)) rfl (cat_F x y 64) (by omega) (Nat.le_refl _))
  · exact opObO_on 29 rfl rfl (opObO_fn ent_sum 35 wr.heap.size 5 64 (u8v (catN 32 x y)) (fun A c => #[.slice A 64 c]) rfl rfl (by rfl) (by simp) (fun a w A c hf e1 => by simp [e1]) (fun w' A c hb ho => sum_any 64 c A (catN 32 x y) w' ho.rd (catN_lt HX.out HY.out) (by omega) ho.cap (HP.out.below (HB.out.trans (hb.mono HB.out.size)))))
  · exact opObO_on 29 rfl rfl (opObO_is (opOb_eqArr 5 32 .u8 (fun i => ((shaB (catN 32 x y) 64 i : Nat) : Int)) (fun i => ((shaB (catN 32 x y) 64 i : Nat) : Int)) true Tryd.underlying24 Tryd.underlying5 (by kernel_rfl) (by kernel_rfl) (by simp) rfl rfl (OpK.tmp rfl) (OpK.tmp rfl)))
  · exact opObO_is (opOb_pickT rfl rfl rfl (OpK.tmp rfl))
  · exact opObO_is ((opOb_move _ rfl (.inl rfl) rfl))
  · exact opObO_on 39 rfl rfl (opObO_is (opOb_ld rfl rfl (OpK.tmp rfl) (fun w' hb => run_loadAt_part w' _ 0 32 _ _ (u8v (shaB (catN 32 y x) 64)) (fun i hi => by rw [Nat.zero_add]; exact (row_below (B := wr.heap.size) R7.out hb R7.out.lt).cell hi) Tryd.underlying24 rfl (by kernel_rfl))))
  · exact opObO_on 39 rfl rfl (opObO_bs0 rfl rfl run_bs0_u8 _ (Nat.le_refl _))
  · exact opObO_on 39 rfl rfl (opObO_is (opOb_slc rfl rfl (OpK.tmp rfl) (OpKo.no) (OpKo.no) (fun w => cut_arr Tryd.underlying24 1 (by kernel_rfl) none none (0) (32) (.inl ⟨rfl, rfl⟩) (.inl ⟨rfl, rfl⟩) (by omega) (by omega) (by omega) (by omega) (by omega) (by omega))))
  · exact opObO_on 39 rfl rfl (opObO_app0 (s := 41) wr.heap.size u8_info Tryd.underlying22 rfl rfl rfl (by rfl) (OpK.tmp rfl) (fun w' hb => Rd.of_row (row_below (B := wr.heap.size) R3.out hb R3.out.lt) (Nat.le_refl _) (Nat.lt_succ_self _)) (fun _ _ => rfl) (by omega) (Nat.le_refl _))
  · exact opObO_on 39 rfl rfl (opObO_is (opOb_slc rfl rfl (OpK.tmp rfl) (OpKo.no) (OpKo.no) (fun w => cut_arr Tryd.underlying24 1 (by kernel_rfl) none none (0) (32) (.inl ⟨rfl, rfl⟩) (.inl ⟨rfl, rfl⟩) (by omega) (by omega) (by omega) (by omega) (by omega) (by omega))))
  · exact opObO_on 39 rfl rfl (opObO_app (s := 43) wr.heap.size u8_info Tryd.underlying22 rfl rfl rfl (by rfl) (Nat.le_refl _) (OpK.tmp rfl) (fun w' hb => Rd.of_row (row_below (B := wr.heap.size) R2.out hb R2.out.lt) (Nat.le_refl _) (Nat.lt_succ_self _)) (fun _ _ => rfl) 64 (u8v (catN 32 y x)) rfl (cat_F y x 64) (by omega) (Nat.le_refl _))
  · exact opObO_on 39 rfl rfl (opObO_fn ent_sum 45 wr.heap.size 5 64 (u8v (catN 32 y x)) (fun A c => #[.slice A 64 c]) rfl rfl (by rfl) (by simp) (fun a w A c hf e1 => by simp [e1]) (fun w' A c hb ho => sum_any 64 c A (catN 32 y x) w' ho.rd (catN_lt HY.out HX.out) (by omega) ho.cap (HP.out.below (HB.out.trans (hb.mono HB.out.size)))))
  · exact opObO_on 39 rfl rfl (opObO_is (opOb_eqArr 5 32 .u8 (fun i => ((shaB (catN 32 y x) 64 i : Nat) : Int)) (fun i => ((shaB (catN 32 y x) 64 i : Nat) : Int)) true Tryd.underlying24 Tryd.underlying5 (by kernel_rfl) (by kernel_rfl) (by simp) rfl rfl (OpK.tmp rfl) (OpK.tmp rfl)))
  · exact opObO_is (opOb_pickT rfl rfl rfl (OpK.tmp rfl))
  · exact opObO_is ((opOb_move _ rfl (.inl rfl) rfl))
  · exact opObO_on 49 rfl rfl (opObO_is (opOb_ld rfl rfl (OpK.tmp rfl) (fun w' hb => run_loadAt_part w' _ 0 32 _ _ (u8v (x)) (fun i hi => by rw [Nat.zero_add]; exact (row_below (B := wr.heap.size) R2.out hb R2.out.lt).cell hi) Tryd.underlying24 rfl (by kernel_rfl))))
  · exact opObO_on 49 rfl rfl (opObO_is (opOb_ld rfl rfl (OpK.tmp rfl) (fun w' hb => run_loadAt_part w' _ 0 32 _ _ (u8v (y)) (fun i hi => by rw [Nat.zero_add]; exact (row_below (B := wr.heap.size) R3.out hb R3.out.lt).cell hi) Tryd.underlying24 rfl (by kernel_rfl))))
  · exact opObO_on 49 rfl rfl (opObO_is (opOb_fn2 ent_two rfl rfl (OpK.tmp rfl) (OpK.tmp rfl) (fun w' hb => (two_any x y HX.out HY.out w' (HP.out.below (HB.out.trans (hb.mono HB.out.size)))).mono fun e w'' ⟨he, hb2⟩ => ⟨_, he, rfl, hb2⟩)))
  · exact opObO_on 49 rfl rfl (opObO_is (opOb_ld rfl rfl (OpK.tmp rfl) (fun w' hb => run_loadAt_part w' _ 0 32 _ _ (u8v (shaB (catN 32 x y) 64)) (fun i hi => by rw [Nat.zero_add]; exact (row_below (B := wr.heap.size) R6.out hb R6.out.lt).cell hi) Tryd.underlying24 rfl (by kernel_rfl))))
  · exact opObO_on 49 rfl rfl (opObO_is (opOb_eqArr 5 32 .u8 (fun i => ((shaB (catN 32 x y) 64 i : Nat) : Int)) (fun i => ((shaB (catN 32 x y) 64 i : Nat) : Int)) true Tryd.underlying24 Tryd.underlying5 (by kernel_rfl) (by kernel_rfl) (by simp) rfl rfl (OpK.tmp rfl) (OpK.tmp rfl)))
  · exact opObO_is (opOb_pickT rfl rfl rfl (OpK.tmp rfl))
  · exact opObO_is ((opOb_move _ rfl (.inr rfl) rfl))
  · intro w' hb
    simp only [finO, OF.is, OF.own, forall_eq]
    rintro _ _ _ ⟨_, _, rfl, _⟩ _ _ _ ⟨_, _, rfl, _⟩
    simp only [Act.put, List.setIfInBounds_toArray, List.set_cons_succ, List.set_cons_zero, seqWp]
    have hend := HB.out.trans (hb.mono HB.out.size)
    go_wp2_with fail
    go_ret
    exact ⟨rfl, hend⟩
end Go.Proofs.YtlklomaekimjlaaDoor
