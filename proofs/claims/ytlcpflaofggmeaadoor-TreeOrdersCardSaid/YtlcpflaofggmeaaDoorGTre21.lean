/- A part of what the proofs stand on: TreeRef6A. -/
import Derived.Test.YtlcpflaofggmeaaDoorGTre20
/- The reference's trees: Append. (Printed by a program of mine.) -/
namespace Go.Proofs.YtlcpflaofggmeaaDoor
set_option maxRecDepth 40000
open Go.RowKit
namespace TreeRef6A
theorem cat_none (x : Nat → Nat) (f : Nat → Value) {n : Nat} : ∀ i, i < n * 32 → catF (0 * 32) f (u8v x) i = u8v x i := fun i _ => by
  simp [catF]
theorem wp_bs0L {P : Program} {o : Oper} {a : Act} {w : World} {K : Act → World → Prop} {Q : Exit → Act → World → Prop} {t e : TypeId} {z : Nat} (ho : o.op = .buildSlice t 0 #[]) (hr : ∀ w : World, (Instr.buildSlice t 0 #[]).run P w = .ok (.slice (some ⟨w.heap.size, 0, none⟩) 0 0) (w.alloc (.cells #[] e)))
    (hK : ∀ b w', w.heap.size ≤ b → OwnZ w' w.heap.size e z (some ⟨b, 0, none⟩) 0 0 (fun _ => undef) → Below w.heap.size w w' → K (a.put o.dst (.slice (some ⟨b, 0, none⟩) 0 0)) w') : o.wp P a w K Q := by
  have hrun : (execOp a.eval o).run P w = .ok (.value (.slice (some ⟨w.heap.size, 0, none⟩) 0 0)) (w.alloc (.cells #[] e)) := by
    unfold execOp
    rw [ho]
    simp [hr w]
  unfold Oper.wp
  rw [hrun]
  exact hK _ _ (Nat.le_refl _) (OwnZ.new0 w w.heap.size e z _ (Nat.le_refl _)) ((Below.refl _ _).alloc (Nat.le_refl _) _)
end TreeRef6A
open TreeMark TreeRef6 in
set_option maxHeartbeats 8000000 in
theorem rapp_full (p l n c : Nat) (A : Option Addr) (x y : Nat → Nat) (w : World) (h : RM w p l A n c x) (hfull : l ≤ n) :
    Calls Tryd.prog 23 #[.pointer (some ⟨p, 0, none⟩), rootV y] w fun r w' => r = .returned (.int .i64 6) ∧ Below w.heap.size w w' := by
  have HS0 := Lib.hid (HS.nil w)
  have HSn := Lib.hid h.row
  have hpl := h.row.lt
  clear h
  go_enter Tryd.func23, Tryd.ntmps23
  go_upto_region 1 with (refine wpList_boxL rfl 30 _ 3 rfl rfl HS0.out 32 (u8v y) rfl ?_; intro b5 w4 hb5 hc5 hs; have HS4 := Lib.hid hs; have hw4 : b5 < w4.heap.size := hs.lt 0 rfl; have hz4 : w.heap.size ≤ w4.heap.size := hs.size; clear hs)
  have HRp := Lib.hid (row_below HSn.out (HS4.out.out (by simp; omega)) hpl)
  have HB4 := Lib.hid (HS4.out.out (by simp; omega))
  refine wp_region_facts (B := w4.heap.size) (w0 := w4) [SF.is (.pointer (some ⟨p, 0, none⟩)), SF.is (.pointer (some ⟨p, 0, none⟩)), SF.is (.pointer (some ⟨p, 1, none⟩)), SF.is (.slice (A) (n) (c)), SF.is (.int .i64 ((n : Nat) : Int)), SF.is (.pointer (some ⟨p, 0, none⟩)), SF.is (.pointer (some ⟨p, 0, none⟩)), SF.is (.pointer (some ⟨p, 0, none⟩)), SF.is (.int .i64 ((l : Nat) : Int)), SF.is (.bool true)] (by kernel_rfl) (by kernel_rfl) rfl (Nat.le_refl _) (Below.refl _ _) ⟨?_, ?_, ?_, ?_, ?_, ?_, ?_, ?_, ?_, ?_, trivial⟩ ?_
  · exact (opOb_move _ rfl (.inl rfl) rfl)
  · exact opOb_nil _ rfl rfl (OpK.tmp rfl)
  · exact opOb_fld rfl rfl (OpK.tmp rfl) (fun w => by simp [go_sem])
  · exact opOb_ld rfl rfl (OpK.tmp rfl) (fun w' hb => PickDraw.run_ldSl w' _ _ _ _ ((row_below HRp.out hb HRp.out.lt).cell (show 1 < 2 by omega)) Tryd.underlying22)
  · exact opOb_len Tryd.underlying22 rfl rfl (OpK.tmp rfl)
  · exact (opOb_move _ rfl (.inl rfl) rfl)
  · exact opOb_nil _ rfl rfl (OpK.tmp rfl)
  · exact opOb_fld rfl rfl (OpK.tmp rfl) (fun w => by simp [go_sem])
  · exact opOb_ld rfl rfl (OpK.tmp rfl) (fun w' hb => run_ld1 w' _ _ .i64 _ ((row_below HRp.out hb HRp.out.lt).cell (show 0 < 2 by omega)) Tryd.underlying3)
  · exact opOb_bin rfl rfl rfl (OpK.tmp rfl) (OpK.tmp rfl) (fun w => geI n l hfull w)
  · intro w' hb
    simp only [fin, SF.is, forall_eq]
    simp only [Act.put, List.setIfInBounds_toArray, List.set_cons_succ, List.set_cons_zero]
    have HBe := Lib.hid (HB4.out.trans (hb.mono HB4.out.size))
    clear hb
    go_wp2_with fail
    go_ret
    exact ⟨rfl, HBe.out⟩
open TreeMark TreeNil TreeRef6 TreeRef6A in
set_option maxHeartbeats 16000000 in
theorem rapp_look (p l n c : Nat) (A : Option Addr) (x y : Nat → Nat) (w : World) (h : RM w p l A n c x) (hlt : n < l) (hl : l ≤ 1073741824) :
    Calls Tryd.prog 23 #[.pointer (some ⟨p, 0, none⟩), rootV y] w fun r w' => ∃ A' c', r = .returned (.int .i64 0) ∧ RM w' p l A' (n + 1) c' (appN x n y) ∧ w.grownBy w' (some p) ∧ ∀ b, OnA A' b → w.heap.size ≤ b := by
  have HR := Lib.hid h
  have HS0 := Lib.hid ((HS.nil w).take h.row (by simp))
  have HX : Hid (∀ (wz : World) (b : Nat), w.heap.size ≤ b → HS w wz [⟨b, 30, 32, u8v y⟩, ⟨p, 42, 2, rfF l A n c⟩] → Rd wz w.heap.size A (n * 32) (u8v x)) := Lib.hid (fun wz b hb hz => rd_hs HR.out.rd hz (by
    intro r hr
    rcases List.mem_cons.1 hr with rfl | hr
    · exact .inl hb
    · rcases List.mem_cons.1 hr with rfl | hr
      · exact .inr HR.out.apart
      · cases hr))
  have hpl := h.row.lt
  clear h
  go_enter Tryd.func23, Tryd.ntmps23
  go_upto_region 1 with (refine wpList_boxL rfl 30 _ 3 rfl rfl HS0.out 32 (u8v y) rfl ?_; intro b5 w4 hb5 hc5 hs; have HS4 := Lib.hid hs; have hw4 : b5 < w4.heap.size := hs.lt 0 rfl; have hz4 : w.heap.size ≤ w4.heap.size := hs.size; clear hs)
  have HRp := Lib.hid (show w4.rowIs p 42 2 (rfF l A n c) from HS4.out.row 1 rfl)
  refine wp_region_facts (B := w4.heap.size) (w0 := w4) [SF.is (.pointer (some ⟨p, 0, none⟩)), SF.is (.pointer (some ⟨p, 0, none⟩)), SF.is (.pointer (some ⟨p, 1, none⟩)), SF.is (.slice (A) (n) (c)), SF.is (.int .i64 ((n : Nat) : Int)), SF.is (.pointer (some ⟨p, 0, none⟩)), SF.is (.pointer (some ⟨p, 0, none⟩)), SF.is (.pointer (some ⟨p, 0, none⟩)), SF.is (.int .i64 ((l : Nat) : Int)), SF.is (.bool false)] (by kernel_rfl) (by kernel_rfl) rfl (Nat.le_refl _) (Below.refl _ _) ⟨?_, ?_, ?_, ?_, ?_, ?_, ?_, ?_, ?_, ?_, trivial⟩ ?_
  · exact (opOb_move _ rfl (.inl rfl) rfl)
  · exact opOb_nil _ rfl rfl (OpK.tmp rfl)
  · exact opOb_fld rfl rfl (OpK.tmp rfl) (fun w => by simp [go_sem])
  · exact opOb_ld rfl rfl (OpK.tmp rfl) (fun w' hb => PickDraw.run_ldSl w' _ _ _ _ ((row_below HRp.out hb HRp.out.lt).cell (show 1 < 2 by omega)) Tryd.underlying22)
  · exact opOb_len Tryd.underlying22 rfl rfl (OpK.tmp rfl)
  · exact (opOb_move _ rfl (.inl rfl) rfl)
  · exact opOb_nil _ rfl rfl (OpK.tmp rfl)
  · exact opOb_fld rfl rfl (OpK.tmp rfl) (fun w => by simp [go_sem])
  · exact opOb_ld rfl rfl (OpK.tmp rfl) (fun w' hb => run_ld1 w' _ _ .i64 _ ((row_below HRp.out hb HRp.out.lt).cell (show 0 < 2 by omega)) Tryd.underlying3)
  · exact opOb_bin rfl rfl rfl (OpK.tmp rfl) (OpK.tmp rfl) (fun w => geI' n l hlt w)
  · intro w' hb
    simp only [fin, SF.is, forall_eq]
    simp only [Act.put, List.setIfInBounds_toArray, List.set_cons_succ, List.set_cons_zero]
    have HS6 := Lib.hid (HS4.out.below hb)
    have hz6 := hb.size
    obtain ⟨w6, hw6⟩ : ∃ w6 : World, w6 = w' := ⟨_, rfl⟩
    subst hw6
    clear hb HS4
    go_upto_region 3 with fail
    go_cut [] from 15 to 26 (fun wx => ∃ (A24 : Option Addr) (c24 : Nat), HS w wx [⟨b5, 30, 32, u8v y⟩, ⟨p, 42, 2, rfF l A24 (n + 1) c24⟩] ∧ OwnZ wx w4.heap.size 30 32 A24 (n + 1) c24 (u8v (appN x n y)))
    case first =>
      refine ord_enter (n := 13) (by kernel_rfl) (by kernel_rfl) ?_
      have HSv0 := Lib.hid HS6.out.drew
      have hzv : w4.heap.size ≤ w6.drew.heap.size := hz6
      generalize w6.drew = wv at HSv0 hzv ⊢
      have HSv := Lib.hid HSv0.out
      clear HSv0 HS6
      refine ord_take (i := 0) (.pointer (some ⟨p, 0, none⟩)) rfl (by kernel_rfl) (by kernel_rfl) (by kernel_rfl) rfl (fun _ _ _ h => h) (ex_move (.inl rfl) rfl) ?_
      refine ord_take (i := 2) (.pointer (some ⟨p, 0, none⟩)) rfl (by kernel_rfl) (by kernel_rfl) (by kernel_rfl) rfl (fun _ _ _ h => h) (ex_move (.inl rfl) rfl) ?_
      simp only [Act.put, List.setIfInBounds_toArray, List.set_cons_succ, List.set_cons_zero]
      refine ord_take (i := 3) (.pointer (some ⟨p, 0, none⟩)) rfl (by kernel_rfl) (by kernel_rfl) (by kernel_rfl) rfl (fun _ _ _ h => h) (ex_nil rfl rfl) ?_
      simp only [Act.put, List.setIfInBounds_toArray, List.set_cons_succ, List.set_cons_zero]
      refine ord_take (i := 4) (.pointer (some ⟨p, 1, none⟩)) rfl (by kernel_rfl) (by kernel_rfl) (by kernel_rfl) rfl (fun _ _ _ h => h) (ex_fld rfl rfl (fun w => by simp [go_sem])) ?_
      simp only [Act.put, List.setIfInBounds_toArray, List.set_cons_succ, List.set_cons_zero]
      refine ord_three (i := 1) (j := 5) (k := 7) rfl rfl rfl (by kernel_rfl) rfl rfl rfl (fun K hK => ?_) (fun K hK => ?_) (fun K hK => ?_)
      · refine wp_bs0L (z := 32) rfl run_bs0_R ?_
        intro b16 w16 hb16 ho hb
        have hl16 := (ho.base_le _ rfl).2
        have HB16 := Lib.hid hb
        have HO16 := Lib.hid ho
        clear ho hb
        simp only at hl16
        have HS1 := Lib.hid (HSv.out.below HB16.out)
        have hz1 := HB16.out.size
        refine hK _ _ ?_
        clear hK
        simp only [Act.put, List.setIfInBounds_toArray, List.set_cons_succ, List.set_cons_zero]
        refine ord_two (i := 5) (j := 7) rfl rfl (by kernel_rfl) rfl rfl (fun K hK => ?_) (fun K hK => ?_)
        · refine wp_as (.slice A n c) (ex_ldSl rfl rfl Tryd.underlying22 ((HS1.out.row 1 rfl).cell (show 1 < 2 by omega)) rfl) ?_
          refine hK _ _ ?_
          clear hK
          simp only [Act.put, List.setIfInBounds_toArray, List.set_cons_succ, List.set_cons_zero]
          refine ord_two (i := 6) (j := 7) rfl rfl (by kernel_rfl) rfl rfl (fun K hK => ?_) (fun K hK => ?_)
          · refine wp_appZ _ (.tmp 16) (.tmp 20) 22 wv.heap.size (e := 30) (z := .agg (Array.replicate 32 (.int .u8 0))) (k := 32) (bytes := 32) (by kernel_rfl) Tryd.underlying22 (by rfl) (by omega) rfl n (u8v x) rfl rfl (HO16.out.mono (by omega)) (HX.out _ _ hb5 HS1.out) (fun _ _ => rfl) (by omega) (cat_none x _) ⟨by omega, by omega⟩ (by omega) ?_
            intro A21 c21 w21 ho hg ha
            have hs21 := hg.size
            have HO21 := Lib.hid ho
            have HS21 := Lib.hid (HS1.out.appO (A := some ⟨b16, 0, none⟩) hg (B := b16) (fun ad e => by injection e with e; rw [← e]; exact Nat.le_refl _) (by simp; omega))
            clear ho hg ha
            refine hK _ _ ?_
            clear hK
            simp only [Act.put, List.setIfInBounds_toArray, List.set_cons_succ, List.set_cons_zero]
            refine ord_step (i := 7) rfl (by kernel_rfl) rfl (fun K hK => ?_)
            refine wp_as (rootV y) (ex_ldR 32 (u8v y) rfl rfl (fun q hq => by rw [add_lit0]; exact (HS21.out.row 0 rfl).cell hq) Tryd.underlying30 rfl (by kernel_rfl)) ?_
            refine hK _ _ ?_
            clear hK
            simp only [Act.put, List.setIfInBounds_toArray, List.set_cons_succ, List.set_cons_zero]
            refine ord_step (i := 8) rfl (by kernel_rfl) rfl (fun K hK => ?_)
            refine wp_bs1L Tryd.underlying22 (z := 32) (by kernel_rfl) (by omega) (by omega) (v0 := .agg (Array.replicate 32 (.int .u8 0))) (by kernel_rfl) _ rfl (u8v y) rfl (HS.nil _) ?_
            intro b23 w23 hb23 hc23 hs
            have HB23 := Lib.hid (hs.out (by simp; omega))
            have HR23 := Lib.hid (hs.row 0 rfl)
            have hl23 : b23 < w23.heap.size := hs.lt 0 rfl
            clear hs
            have HS2 := Lib.hid (HS21.out.below HB23.out)
            have HO212 := Lib.hid (HO21.out.all HB23.out)
            have hz2 := HB23.out.size
            refine hK _ _ ?_
            clear hK
            simp only [Act.put, List.setIfInBounds_toArray, List.set_cons_succ, List.set_cons_zero]
            refine ord_step (i := 9) rfl (by kernel_rfl) rfl (fun K hK => ?_)
            refine wp_appZ _ (.tmp 21) (.tmp 23) 22 wv.heap.size (e := 30) (z := .agg (Array.replicate 32 (.int .u8 0))) (k := 32) (bytes := 32) (by kernel_rfl) Tryd.underlying22 (by rfl) (by omega) rfl (n + 1) (u8v (appN x n y)) rfl rfl HO212.out (Rd.of_row (n := 1 * 32) HR23.out (Nat.le_refl _) HR23.out.lt) (fun _ _ => rfl) rfl (TreeApp.cat_app n x y) ⟨by omega, by omega⟩ (by omega) ?_
            intro A24 c24 w24 ho hg ha
            have HO24 := Lib.hid ho
            have HS24 := Lib.hid (HS2.out.appO hg (B := wv.heap.size) (fun ad e => (HO212.out.base_le ad e).1) (by simp; omega))
            clear ho hg ha
            refine hK _ _ ?_
            clear hK
            simp only [Act.put, List.setIfInBounds_toArray, List.set_cons_succ, List.set_cons_zero]
            refine ord_take (i := 10) (.pointer (some ⟨p, 0, none⟩)) rfl (by kernel_rfl) (by kernel_rfl) (by kernel_rfl) rfl (fun _ _ _ h => h) (ex_nil rfl rfl) ?_
            simp only [Act.put, List.setIfInBounds_toArray, List.set_cons_succ, List.set_cons_zero]
            refine ord_take (i := 11) (.pointer (some ⟨p, 1, none⟩)) rfl (by kernel_rfl) (by kernel_rfl) (by kernel_rfl) rfl (fun _ _ _ h => h) (ex_fld rfl rfl (fun w => by simp [go_sem])) ?_
            simp only [Act.put, List.setIfInBounds_toArray, List.set_cons_succ, List.set_cons_zero]
            refine ord_step (i := 12) rfl (by kernel_rfl) rfl (fun K hK => ?_)
            refine TreeNew.wp_st1G 22 (.tmp 26) (.tmp 24) rfl HS24.out 1 rfl 1 (.slice A24 (n + 1) c24) (StCopy.stSlR _ _ _) rfl rfl (show 1 < 2 by omega) (rfF l A24 (n + 1) c24) (rf_step _ _ _ _ _ _ _) ?_
            intro w9 hs hg
            have HS9 := Lib.hid hs
            have HO9 := Lib.hid (HO24.out.kept hg (fun ad e => by have := (HO24.out.base_le ad e).1; intro e2; injection e2 with e2; omega))
            clear hs hg
            refine hK _ _ ?_
            clear hK
            simp only [Act.put]
            refine wpAny_done (by kernel_rfl) ?_ _
            go_wp2_with fail
            go_meet
            case rel => exact ⟨A24, c24, HS9.out, HO9.out.mono hzv⟩
          · refine wp_as (rootV y) (ex_ldR 32 (u8v y) rfl rfl (fun q hq => by rw [add_lit0]; exact (HS1.out.row 0 rfl).cell hq) Tryd.underlying30 rfl (by kernel_rfl)) ?_
            refine hK _ _ ?_
            clear hK
            simp only [Act.put, List.setIfInBounds_toArray, List.set_cons_succ, List.set_cons_zero]
            refine ord_two (i := 6) (j := 8) rfl rfl (by kernel_rfl) rfl rfl (fun K hK => ?_) (fun K hK => ?_)
            · refine wp_appZ _ (.tmp 16) (.tmp 20) 22 wv.heap.size (e := 30) (z := .agg (Array.replicate 32 (.int .u8 0))) (k := 32) (bytes := 32) (by kernel_rfl) Tryd.underlying22 (by rfl) (by omega) rfl n (u8v x) rfl rfl (HO16.out.mono (by omega)) (HX.out _ _ hb5 HS1.out) (fun _ _ => rfl) (by omega) (cat_none x _) ⟨by omega, by omega⟩ (by omega) ?_
              intro A21 c21 w21 ho hg ha
              have hs21 := hg.size
              have HO21 := Lib.hid ho
              have HS21 := Lib.hid (HS1.out.appO (A := some ⟨b16, 0, none⟩) hg (B := b16) (fun ad e => by injection e with e; rw [← e]; exact Nat.le_refl _) (by simp; omega))
              clear ho hg ha
              refine hK _ _ ?_
              clear hK
              simp only [Act.put, List.setIfInBounds_toArray, List.set_cons_succ, List.set_cons_zero]
              refine ord_step (i := 8) rfl (by kernel_rfl) rfl (fun K hK => ?_)
              refine wp_bs1L Tryd.underlying22 (z := 32) (by kernel_rfl) (by omega) (by omega) (v0 := .agg (Array.replicate 32 (.int .u8 0))) (by kernel_rfl) _ rfl (u8v y) rfl (HS.nil _) ?_
              intro b23 w23 hb23 hc23 hs
              have HB23 := Lib.hid (hs.out (by simp; omega))
              have HR23 := Lib.hid (hs.row 0 rfl)
              have hl23 : b23 < w23.heap.size := hs.lt 0 rfl
              clear hs
              have HS3 := Lib.hid (HS21.out.below HB23.out)
              have HO213 := Lib.hid (HO21.out.all HB23.out)
              have hz3 := HB23.out.size
              refine hK _ _ ?_
              clear hK
              simp only [Act.put, List.setIfInBounds_toArray, List.set_cons_succ, List.set_cons_zero]
              refine ord_step (i := 9) rfl (by kernel_rfl) rfl (fun K hK => ?_)
              refine wp_appZ _ (.tmp 21) (.tmp 23) 22 wv.heap.size (e := 30) (z := .agg (Array.replicate 32 (.int .u8 0))) (k := 32) (bytes := 32) (by kernel_rfl) Tryd.underlying22 (by rfl) (by omega) rfl (n + 1) (u8v (appN x n y)) rfl rfl HO213.out (Rd.of_row (n := 1 * 32) HR23.out (Nat.le_refl _) HR23.out.lt) (fun _ _ => rfl) rfl (TreeApp.cat_app n x y) ⟨by omega, by omega⟩ (by omega) ?_
              intro A24 c24 w24 ho hg ha
              have HO24 := Lib.hid ho
              have HS24 := Lib.hid (HS3.out.appO hg (B := wv.heap.size) (fun ad e => (HO213.out.base_le ad e).1) (by simp; omega))
              clear ho hg ha
              refine hK _ _ ?_
              clear hK
              simp only [Act.put, List.setIfInBounds_toArray, List.set_cons_succ, List.set_cons_zero]
              refine ord_take (i := 10) (.pointer (some ⟨p, 0, none⟩)) rfl (by kernel_rfl) (by kernel_rfl) (by kernel_rfl) rfl (fun _ _ _ h => h) (ex_nil rfl rfl) ?_
              simp only [Act.put, List.setIfInBounds_toArray, List.set_cons_succ, List.set_cons_zero]
              refine ord_take (i := 11) (.pointer (some ⟨p, 1, none⟩)) rfl (by kernel_rfl) (by kernel_rfl) (by kernel_rfl) rfl (fun _ _ _ h => h) (ex_fld rfl rfl (fun w => by simp [go_sem])) ?_
              simp only [Act.put, List.setIfInBounds_toArray, List.set_cons_succ, List.set_cons_zero]
              refine ord_step (i := 12) rfl (by kernel_rfl) rfl (fun K hK => ?_)
              refine TreeNew.wp_st1G 22 (.tmp 26) (.tmp 24) rfl HS24.out 1 rfl 1 (.slice A24 (n + 1) c24) (StCopy.stSlR _ _ _) rfl rfl (show 1 < 2 by omega) (rfF l A24 (n + 1) c24) (rf_step _ _ _ _ _ _ _) ?_
              intro w9 hs hg
              have HS9 := Lib.hid hs
              have HO9 := Lib.hid (HO24.out.kept hg (fun ad e => by have := (HO24.out.base_le ad e).1; intro e2; injection e2 with e2; omega))
              clear hs hg
              refine hK _ _ ?_
              clear hK
              simp only [Act.put]
              refine wpAny_done (by kernel_rfl) ?_ _
              go_wp2_with fail
              go_meet
              case rel => exact ⟨A24, c24, HS9.out, HO9.out.mono hzv⟩
            · refine wp_bs1L Tryd.underlying22 (z := 32) (by kernel_rfl) (by omega) (by omega) (v0 := .agg (Array.replicate 32 (.int .u8 0))) (by kernel_rfl) _ rfl (u8v y) rfl (HS.nil _) ?_
              intro b23 w23 hb23 hc23 hs
              have HB23 := Lib.hid (hs.out (by simp; omega))
              have HR23 := Lib.hid (hs.row 0 rfl)
              have hl23 : b23 < w23.heap.size := hs.lt 0 rfl
              clear hs
              have HS4 := Lib.hid (HS1.out.below HB23.out)
              have HO164 := Lib.hid (HO16.out.all HB23.out)
              have hz4 := HB23.out.size
              refine hK _ _ ?_
              clear hK
              simp only [Act.put, List.setIfInBounds_toArray, List.set_cons_succ, List.set_cons_zero]
              refine ord_step (i := 6) rfl (by kernel_rfl) rfl (fun K hK => ?_)
              refine wp_appZ _ (.tmp 16) (.tmp 20) 22 wv.heap.size (e := 30) (z := .agg (Array.replicate 32 (.int .u8 0))) (k := 32) (bytes := 32) (by kernel_rfl) Tryd.underlying22 (by rfl) (by omega) rfl n (u8v x) rfl rfl (HO164.out.mono (by omega)) (HX.out _ _ hb5 HS4.out) (fun _ _ => rfl) (by omega) (cat_none x _) ⟨by omega, by omega⟩ (by omega) ?_
              intro A21 c21 w21 ho hg ha
              have hs21 := hg.size
              have HO21 := Lib.hid ho
              have HS21 := Lib.hid (HS4.out.appO (A := some ⟨b16, 0, none⟩) hg (B := b16) (fun ad e => by injection e with e; rw [← e]; exact Nat.le_refl _) (by simp; omega))
              have HR23b := Lib.hid (HR23.out.of_block (hg.block b23 (by omega) (fun e => by injection e with e; have e2 : b23 = b16 := e; omega)))
              clear ho hg ha
              refine hK _ _ ?_
              clear hK
              simp only [Act.put, List.setIfInBounds_toArray, List.set_cons_succ, List.set_cons_zero]
              refine ord_step (i := 9) rfl (by kernel_rfl) rfl (fun K hK => ?_)
              refine wp_appZ _ (.tmp 21) (.tmp 23) 22 wv.heap.size (e := 30) (z := .agg (Array.replicate 32 (.int .u8 0))) (k := 32) (bytes := 32) (by kernel_rfl) Tryd.underlying22 (by rfl) (by omega) rfl (n + 1) (u8v (appN x n y)) rfl rfl HO21.out (Rd.of_row (n := 1 * 32) HR23b.out (Nat.le_refl _) HR23b.out.lt) (fun _ _ => rfl) rfl (TreeApp.cat_app n x y) ⟨by omega, by omega⟩ (by omega) ?_
              intro A24 c24 w24 ho hg ha
              have HO24 := Lib.hid ho
              have HS24 := Lib.hid (HS21.out.appO hg (B := wv.heap.size) (fun ad e => (HO21.out.base_le ad e).1) (by simp; omega))
              clear ho hg ha
              refine hK _ _ ?_
              clear hK
              simp only [Act.put, List.setIfInBounds_toArray, List.set_cons_succ, List.set_cons_zero]
              refine ord_take (i := 10) (.pointer (some ⟨p, 0, none⟩)) rfl (by kernel_rfl) (by kernel_rfl) (by kernel_rfl) rfl (fun _ _ _ h => h) (ex_nil rfl rfl) ?_
              simp only [Act.put, List.setIfInBounds_toArray, List.set_cons_succ, List.set_cons_zero]
              refine ord_take (i := 11) (.pointer (some ⟨p, 1, none⟩)) rfl (by kernel_rfl) (by kernel_rfl) (by kernel_rfl) rfl (fun _ _ _ h => h) (ex_fld rfl rfl (fun w => by simp [go_sem])) ?_
              simp only [Act.put, List.setIfInBounds_toArray, List.set_cons_succ, List.set_cons_zero]
              refine ord_step (i := 12) rfl (by kernel_rfl) rfl (fun K hK => ?_)
              refine TreeNew.wp_st1G 22 (.tmp 26) (.tmp 24) rfl HS24.out 1 rfl 1 (.slice A24 (n + 1) c24) (StCopy.stSlR _ _ _) rfl rfl (show 1 < 2 by omega) (rfF l A24 (n + 1) c24) (rf_step _ _ _ _ _ _ _) ?_
              intro w9 hs hg
              have HS9 := Lib.hid hs
              have HO9 := Lib.hid (HO24.out.kept hg (fun ad e => by have := (HO24.out.base_le ad e).1; intro e2; injection e2 with e2; omega))
              clear hs hg
              refine hK _ _ ?_
              clear hK
              simp only [Act.put]
              refine wpAny_done (by kernel_rfl) ?_ _
              go_wp2_with fail
              go_meet
              case rel => exact ⟨A24, c24, HS9.out, HO9.out.mono hzv⟩
        · refine wp_as (rootV y) (ex_ldR 32 (u8v y) rfl rfl (fun q hq => by rw [add_lit0]; exact (HS1.out.row 0 rfl).cell hq) Tryd.underlying30 rfl (by kernel_rfl)) ?_
          refine hK _ _ ?_
          clear hK
          simp only [Act.put, List.setIfInBounds_toArray, List.set_cons_succ, List.set_cons_zero]
          refine ord_two (i := 5) (j := 8) rfl rfl (by kernel_rfl) rfl rfl (fun K hK => ?_) (fun K hK => ?_)
          · refine wp_as (.slice A n c) (ex_ldSl rfl rfl Tryd.underlying22 ((HS1.out.row 1 rfl).cell (show 1 < 2 by omega)) rfl) ?_
            refine hK _ _ ?_
            clear hK
            simp only [Act.put, List.setIfInBounds_toArray, List.set_cons_succ, List.set_cons_zero]
            refine ord_two (i := 6) (j := 8) rfl rfl (by kernel_rfl) rfl rfl (fun K hK => ?_) (fun K hK => ?_)
            · refine wp_appZ _ (.tmp 16) (.tmp 20) 22 wv.heap.size (e := 30) (z := .agg (Array.replicate 32 (.int .u8 0))) (k := 32) (bytes := 32) (by kernel_rfl) Tryd.underlying22 (by rfl) (by omega) rfl n (u8v x) rfl rfl (HO16.out.mono (by omega)) (HX.out _ _ hb5 HS1.out) (fun _ _ => rfl) (by omega) (cat_none x _) ⟨by omega, by omega⟩ (by omega) ?_
              intro A21 c21 w21 ho hg ha
              have hs21 := hg.size
              have HO21 := Lib.hid ho
              have HS21 := Lib.hid (HS1.out.appO (A := some ⟨b16, 0, none⟩) hg (B := b16) (fun ad e => by injection e with e; rw [← e]; exact Nat.le_refl _) (by simp; omega))
              clear ho hg ha
              refine hK _ _ ?_
              clear hK
              simp only [Act.put, List.setIfInBounds_toArray, List.set_cons_succ, List.set_cons_zero]
              refine ord_step (i := 8) rfl (by kernel_rfl) rfl (fun K hK => ?_)
              refine wp_bs1L Tryd.underlying22 (z := 32) (by kernel_rfl) (by omega) (by omega) (v0 := .agg (Array.replicate 32 (.int .u8 0))) (by kernel_rfl) _ rfl (u8v y) rfl (HS.nil _) ?_
              intro b23 w23 hb23 hc23 hs
              have HB23 := Lib.hid (hs.out (by simp; omega))
              have HR23 := Lib.hid (hs.row 0 rfl)
              have hl23 : b23 < w23.heap.size := hs.lt 0 rfl
              clear hs
              have HS5 := Lib.hid (HS21.out.below HB23.out)
              have HO215 := Lib.hid (HO21.out.all HB23.out)
              have hz5 := HB23.out.size
              refine hK _ _ ?_
              clear hK
              simp only [Act.put, List.setIfInBounds_toArray, List.set_cons_succ, List.set_cons_zero]
              refine ord_step (i := 9) rfl (by kernel_rfl) rfl (fun K hK => ?_)
              refine wp_appZ _ (.tmp 21) (.tmp 23) 22 wv.heap.size (e := 30) (z := .agg (Array.replicate 32 (.int .u8 0))) (k := 32) (bytes := 32) (by kernel_rfl) Tryd.underlying22 (by rfl) (by omega) rfl (n + 1) (u8v (appN x n y)) rfl rfl HO215.out (Rd.of_row (n := 1 * 32) HR23.out (Nat.le_refl _) HR23.out.lt) (fun _ _ => rfl) rfl (TreeApp.cat_app n x y) ⟨by omega, by omega⟩ (by omega) ?_
              intro A24 c24 w24 ho hg ha
              have HO24 := Lib.hid ho
              have HS24 := Lib.hid (HS5.out.appO hg (B := wv.heap.size) (fun ad e => (HO215.out.base_le ad e).1) (by simp; omega))
              clear ho hg ha
              refine hK _ _ ?_
              clear hK
              simp only [Act.put, List.setIfInBounds_toArray, List.set_cons_succ, List.set_cons_zero]
              refine ord_take (i := 10) (.pointer (some ⟨p, 0, none⟩)) rfl (by kernel_rfl) (by kernel_rfl) (by kernel_rfl) rfl (fun _ _ _ h => h) (ex_nil rfl rfl) ?_
              simp only [Act.put, List.setIfInBounds_toArray, List.set_cons_succ, List.set_cons_zero]
              refine ord_take (i := 11) (.pointer (some ⟨p, 1, none⟩)) rfl (by kernel_rfl) (by kernel_rfl) (by kernel_rfl) rfl (fun _ _ _ h => h) (ex_fld rfl rfl (fun w => by simp [go_sem])) ?_
              simp only [Act.put, List.setIfInBounds_toArray, List.set_cons_succ, List.set_cons_zero]
              refine ord_step (i := 12) rfl (by kernel_rfl) rfl (fun K hK => ?_)
              refine TreeNew.wp_st1G 22 (.tmp 26) (.tmp 24) rfl HS24.out 1 rfl 1 (.slice A24 (n + 1) c24) (StCopy.stSlR _ _ _) rfl rfl (show 1 < 2 by omega) (rfF l A24 (n + 1) c24) (rf_step _ _ _ _ _ _ _) ?_
              intro w9 hs hg
              have HS9 := Lib.hid hs
              have HO9 := Lib.hid (HO24.out.kept hg (fun ad e => by have := (HO24.out.base_le ad e).1; intro e2; injection e2 with e2; omega))
              clear hs hg
              refine hK _ _ ?_
              clear hK
              simp only [Act.put]
              refine wpAny_done (by kernel_rfl) ?_ _
              go_wp2_with fail
              go_meet
              case rel => exact ⟨A24, c24, HS9.out, HO9.out.mono hzv⟩
            · refine wp_bs1L Tryd.underlying22 (z := 32) (by kernel_rfl) (by omega) (by omega) (v0 := .agg (Array.replicate 32 (.int .u8 0))) (by kernel_rfl) _ rfl (u8v y) rfl (HS.nil _) ?_
              intro b23 w23 hb23 hc23 hs
              have HB23 := Lib.hid (hs.out (by simp; omega))
              have HR23 := Lib.hid (hs.row 0 rfl)
              have hl23 : b23 < w23.heap.size := hs.lt 0 rfl
              clear hs
              have HS6 := Lib.hid (HS1.out.below HB23.out)
              have HO166 := Lib.hid (HO16.out.all HB23.out)
              have hz6 := HB23.out.size
              refine hK _ _ ?_
              clear hK
              simp only [Act.put, List.setIfInBounds_toArray, List.set_cons_succ, List.set_cons_zero]
              refine ord_step (i := 6) rfl (by kernel_rfl) rfl (fun K hK => ?_)
              refine wp_appZ _ (.tmp 16) (.tmp 20) 22 wv.heap.size (e := 30) (z := .agg (Array.replicate 32 (.int .u8 0))) (k := 32) (bytes := 32) (by kernel_rfl) Tryd.underlying22 (by rfl) (by omega) rfl n (u8v x) rfl rfl (HO166.out.mono (by omega)) (HX.out _ _ hb5 HS6.out) (fun _ _ => rfl) (by omega) (cat_none x _) ⟨by omega, by omega⟩ (by omega) ?_
              intro A21 c21 w21 ho hg ha
              have hs21 := hg.size
              have HO21 := Lib.hid ho
              have HS21 := Lib.hid (HS6.out.appO (A := some ⟨b16, 0, none⟩) hg (B := b16) (fun ad e => by injection e with e; rw [← e]; exact Nat.le_refl _) (by simp; omega))
              have HR23b := Lib.hid (HR23.out.of_block (hg.block b23 (by omega) (fun e => by injection e with e; have e2 : b23 = b16 := e; omega)))
              clear ho hg ha
              refine hK _ _ ?_
              clear hK
              simp only [Act.put, List.setIfInBounds_toArray, List.set_cons_succ, List.set_cons_zero]
              refine ord_step (i := 9) rfl (by kernel_rfl) rfl (fun K hK => ?_)
              refine wp_appZ _ (.tmp 21) (.tmp 23) 22 wv.heap.size (e := 30) (z := .agg (Array.replicate 32 (.int .u8 0))) (k := 32) (bytes := 32) (by kernel_rfl) Tryd.underlying22 (by rfl) (by omega) rfl (n + 1) (u8v (appN x n y)) rfl rfl HO21.out (Rd.of_row (n := 1 * 32) HR23b.out (Nat.le_refl _) HR23b.out.lt) (fun _ _ => rfl) rfl (TreeApp.cat_app n x y) ⟨by omega, by omega⟩ (by omega) ?_
              intro A24 c24 w24 ho hg ha
              have HO24 := Lib.hid ho
              have HS24 := Lib.hid (HS21.out.appO hg (B := wv.heap.size) (fun ad e => (HO21.out.base_le ad e).1) (by simp; omega))
              clear ho hg ha
              refine hK _ _ ?_
              clear hK
              simp only [Act.put, List.setIfInBounds_toArray, List.set_cons_succ, List.set_cons_zero]
              refine ord_take (i := 10) (.pointer (some ⟨p, 0, none⟩)) rfl (by kernel_rfl) (by kernel_rfl) (by kernel_rfl) rfl (fun _ _ _ h => h) (ex_nil rfl rfl) ?_
              simp only [Act.put, List.setIfInBounds_toArray, List.set_cons_succ, List.set_cons_zero]
              refine ord_take (i := 11) (.pointer (some ⟨p, 1, none⟩)) rfl (by kernel_rfl) (by kernel_rfl) (by kernel_rfl) rfl (fun _ _ _ h => h) (ex_fld rfl rfl (fun w => by simp [go_sem])) ?_
              simp only [Act.put, List.setIfInBounds_toArray, List.set_cons_succ, List.set_cons_zero]
              refine ord_step (i := 12) rfl (by kernel_rfl) rfl (fun K hK => ?_)
              refine TreeNew.wp_st1G 22 (.tmp 26) (.tmp 24) rfl HS24.out 1 rfl 1 (.slice A24 (n + 1) c24) (StCopy.stSlR _ _ _) rfl rfl (show 1 < 2 by omega) (rfF l A24 (n + 1) c24) (rf_step _ _ _ _ _ _ _) ?_
              intro w9 hs hg
              have HS9 := Lib.hid hs
              have HO9 := Lib.hid (HO24.out.kept hg (fun ad e => by have := (HO24.out.base_le ad e).1; intro e2; injection e2 with e2; omega))
              clear hs hg
              refine hK _ _ ?_
              clear hK
              simp only [Act.put]
              refine wpAny_done (by kernel_rfl) ?_ _
              go_wp2_with fail
              go_meet
              case rel => exact ⟨A24, c24, HS9.out, HO9.out.mono hzv⟩
          · refine wp_bs1L Tryd.underlying22 (z := 32) (by kernel_rfl) (by omega) (by omega) (v0 := .agg (Array.replicate 32 (.int .u8 0))) (by kernel_rfl) _ rfl (u8v y) rfl (HS.nil _) ?_
            intro b23 w23 hb23 hc23 hs
            have HB23 := Lib.hid (hs.out (by simp; omega))
            have HR23 := Lib.hid (hs.row 0 rfl)
            have hl23 : b23 < w23.heap.size := hs.lt 0 rfl
            clear hs
            have HS7 := Lib.hid (HS1.out.below HB23.out)
            have HO167 := Lib.hid (HO16.out.all HB23.out)
            have hz7 := HB23.out.size
            refine hK _ _ ?_
            clear hK
            simp only [Act.put, List.setIfInBounds_toArray, List.set_cons_succ, List.set_cons_zero]
            refine ord_step (i := 5) rfl (by kernel_rfl) rfl (fun K hK => ?_)
            refine wp_as (.slice A n c) (ex_ldSl rfl rfl Tryd.underlying22 ((HS7.out.row 1 rfl).cell (show 1 < 2 by omega)) rfl) ?_
            refine hK _ _ ?_
            clear hK
            simp only [Act.put, List.setIfInBounds_toArray, List.set_cons_succ, List.set_cons_zero]
            refine ord_step (i := 6) rfl (by kernel_rfl) rfl (fun K hK => ?_)
            refine wp_appZ _ (.tmp 16) (.tmp 20) 22 wv.heap.size (e := 30) (z := .agg (Array.replicate 32 (.int .u8 0))) (k := 32) (bytes := 32) (by kernel_rfl) Tryd.underlying22 (by rfl) (by omega) rfl n (u8v x) rfl rfl (HO167.out.mono (by omega)) (HX.out _ _ hb5 HS7.out) (fun _ _ => rfl) (by omega) (cat_none x _) ⟨by omega, by omega⟩ (by omega) ?_
            intro A21 c21 w21 ho hg ha
            have hs21 := hg.size
            have HO21 := Lib.hid ho
            have HS21 := Lib.hid (HS7.out.appO (A := some ⟨b16, 0, none⟩) hg (B := b16) (fun ad e => by injection e with e; rw [← e]; exact Nat.le_refl _) (by simp; omega))
            have HR23b := Lib.hid (HR23.out.of_block (hg.block b23 (by omega) (fun e => by injection e with e; have e2 : b23 = b16 := e; omega)))
            clear ho hg ha
            refine hK _ _ ?_
            clear hK
            simp only [Act.put, List.setIfInBounds_toArray, List.set_cons_succ, List.set_cons_zero]
            refine ord_step (i := 9) rfl (by kernel_rfl) rfl (fun K hK => ?_)
            refine wp_appZ _ (.tmp 21) (.tmp 23) 22 wv.heap.size (e := 30) (z := .agg (Array.replicate 32 (.int .u8 0))) (k := 32) (bytes := 32) (by kernel_rfl) Tryd.underlying22 (by rfl) (by omega) rfl (n + 1) (u8v (appN x n y)) rfl rfl HO21.out (Rd.of_row (n := 1 * 32) HR23b.out (Nat.le_refl _) HR23b.out.lt) (fun _ _ => rfl) rfl (TreeApp.cat_app n x y) ⟨by omega, by omega⟩ (by omega) ?_
            intro A24 c24 w24 ho hg ha
            have HO24 := Lib.hid ho
            have HS24 := Lib.hid (HS21.out.appO hg (B := wv.heap.size) (fun ad e => (HO21.out.base_le ad e).1) (by simp; omega))
            clear ho hg ha
            refine hK _ _ ?_
            clear hK
            simp only [Act.put, List.setIfInBounds_toArray, List.set_cons_succ, List.set_cons_zero]
            refine ord_take (i := 10) (.pointer (some ⟨p, 0, none⟩)) rfl (by kernel_rfl) (by kernel_rfl) (by kernel_rfl) rfl (fun _ _ _ h => h) (ex_nil rfl rfl) ?_
            simp only [Act.put, List.setIfInBounds_toArray, List.set_cons_succ, List.set_cons_zero]
            refine ord_take (i := 11) (.pointer (some ⟨p, 1, none⟩)) rfl (by kernel_rfl) (by kernel_rfl) (by kernel_rfl) rfl (fun _ _ _ h => h) (ex_fld rfl rfl (fun w => by simp [go_sem])) ?_
            simp only [Act.put, List.setIfInBounds_toArray, List.set_cons_succ, List.set_cons_zero]
            refine ord_step (i := 12) rfl (by kernel_rfl) rfl (fun K hK => ?_)
            refine TreeNew.wp_st1G 22 (.tmp 26) (.tmp 24) rfl HS24.out 1 rfl 1 (.slice A24 (n + 1) c24) (StCopy.stSlR _ _ _) rfl rfl (show 1 < 2 by omega) (rfF l A24 (n + 1) c24) (rf_step _ _ _ _ _ _ _) ?_
            intro w9 hs hg
            have HS9 := Lib.hid hs
            have HO9 := Lib.hid (HO24.out.kept hg (fun ad e => by have := (HO24.out.base_le ad e).1; intro e2; injection e2 with e2; omega))
            clear hs hg
            refine hK _ _ ?_
            clear hK
            simp only [Act.put]
            refine wpAny_done (by kernel_rfl) ?_ _
            go_wp2_with fail
            go_meet
            case rel => exact ⟨A24, c24, HS9.out, HO9.out.mono hzv⟩
      · refine wp_as (.slice A n c) (ex_ldSl rfl rfl Tryd.underlying22 ((HSv.out.row 1 rfl).cell (show 1 < 2 by omega)) rfl) ?_
        refine hK _ _ ?_
        clear hK
        simp only [Act.put, List.setIfInBounds_toArray, List.set_cons_succ, List.set_cons_zero]
        refine ord_two (i := 1) (j := 7) rfl rfl (by kernel_rfl) rfl rfl (fun K hK => ?_) (fun K hK => ?_)
        · refine wp_bs0L (z := 32) rfl run_bs0_R ?_
          intro b16 w16 hb16 ho hb
          have hl16 := (ho.base_le _ rfl).2
          have HB16 := Lib.hid hb
          have HO16 := Lib.hid ho
          clear ho hb
          simp only at hl16
          have HS8 := Lib.hid (HSv.out.below HB16.out)
          have hz8 := HB16.out.size
          refine hK _ _ ?_
          clear hK
          simp only [Act.put, List.setIfInBounds_toArray, List.set_cons_succ, List.set_cons_zero]
          refine ord_two (i := 6) (j := 7) rfl rfl (by kernel_rfl) rfl rfl (fun K hK => ?_) (fun K hK => ?_)
          · refine wp_appZ _ (.tmp 16) (.tmp 20) 22 wv.heap.size (e := 30) (z := .agg (Array.replicate 32 (.int .u8 0))) (k := 32) (bytes := 32) (by kernel_rfl) Tryd.underlying22 (by rfl) (by omega) rfl n (u8v x) rfl rfl (HO16.out.mono (by omega)) (HX.out _ _ hb5 HS8.out) (fun _ _ => rfl) (by omega) (cat_none x _) ⟨by omega, by omega⟩ (by omega) ?_
            intro A21 c21 w21 ho hg ha
            have hs21 := hg.size
            have HO21 := Lib.hid ho
            have HS21 := Lib.hid (HS8.out.appO (A := some ⟨b16, 0, none⟩) hg (B := b16) (fun ad e => by injection e with e; rw [← e]; exact Nat.le_refl _) (by simp; omega))
            clear ho hg ha
            refine hK _ _ ?_
            clear hK
            simp only [Act.put, List.setIfInBounds_toArray, List.set_cons_succ, List.set_cons_zero]
            refine ord_step (i := 7) rfl (by kernel_rfl) rfl (fun K hK => ?_)
            refine wp_as (rootV y) (ex_ldR 32 (u8v y) rfl rfl (fun q hq => by rw [add_lit0]; exact (HS21.out.row 0 rfl).cell hq) Tryd.underlying30 rfl (by kernel_rfl)) ?_
            refine hK _ _ ?_
            clear hK
            simp only [Act.put, List.setIfInBounds_toArray, List.set_cons_succ, List.set_cons_zero]
            refine ord_step (i := 8) rfl (by kernel_rfl) rfl (fun K hK => ?_)
            refine wp_bs1L Tryd.underlying22 (z := 32) (by kernel_rfl) (by omega) (by omega) (v0 := .agg (Array.replicate 32 (.int .u8 0))) (by kernel_rfl) _ rfl (u8v y) rfl (HS.nil _) ?_
            intro b23 w23 hb23 hc23 hs
            have HB23 := Lib.hid (hs.out (by simp; omega))
            have HR23 := Lib.hid (hs.row 0 rfl)
            have hl23 : b23 < w23.heap.size := hs.lt 0 rfl
            clear hs
            have HS9 := Lib.hid (HS21.out.below HB23.out)
            have HO219 := Lib.hid (HO21.out.all HB23.out)
            have hz9 := HB23.out.size
            refine hK _ _ ?_
            clear hK
            simp only [Act.put, List.setIfInBounds_toArray, List.set_cons_succ, List.set_cons_zero]
            refine ord_step (i := 9) rfl (by kernel_rfl) rfl (fun K hK => ?_)
            refine wp_appZ _ (.tmp 21) (.tmp 23) 22 wv.heap.size (e := 30) (z := .agg (Array.replicate 32 (.int .u8 0))) (k := 32) (bytes := 32) (by kernel_rfl) Tryd.underlying22 (by rfl) (by omega) rfl (n + 1) (u8v (appN x n y)) rfl rfl HO219.out (Rd.of_row (n := 1 * 32) HR23.out (Nat.le_refl _) HR23.out.lt) (fun _ _ => rfl) rfl (TreeApp.cat_app n x y) ⟨by omega, by omega⟩ (by omega) ?_
            intro A24 c24 w24 ho hg ha
            have HO24 := Lib.hid ho
            have HS24 := Lib.hid (HS9.out.appO hg (B := wv.heap.size) (fun ad e => (HO219.out.base_le ad e).1) (by simp; omega))
            clear ho hg ha
            refine hK _ _ ?_
            clear hK
            simp only [Act.put, List.setIfInBounds_toArray, List.set_cons_succ, List.set_cons_zero]
            refine ord_take (i := 10) (.pointer (some ⟨p, 0, none⟩)) rfl (by kernel_rfl) (by kernel_rfl) (by kernel_rfl) rfl (fun _ _ _ h => h) (ex_nil rfl rfl) ?_
            simp only [Act.put, List.setIfInBounds_toArray, List.set_cons_succ, List.set_cons_zero]
            refine ord_take (i := 11) (.pointer (some ⟨p, 1, none⟩)) rfl (by kernel_rfl) (by kernel_rfl) (by kernel_rfl) rfl (fun _ _ _ h => h) (ex_fld rfl rfl (fun w => by simp [go_sem])) ?_
            simp only [Act.put, List.setIfInBounds_toArray, List.set_cons_succ, List.set_cons_zero]
            refine ord_step (i := 12) rfl (by kernel_rfl) rfl (fun K hK => ?_)
            refine TreeNew.wp_st1G 22 (.tmp 26) (.tmp 24) rfl HS24.out 1 rfl 1 (.slice A24 (n + 1) c24) (StCopy.stSlR _ _ _) rfl rfl (show 1 < 2 by omega) (rfF l A24 (n + 1) c24) (rf_step _ _ _ _ _ _ _) ?_
            intro w9 hs hg
            have HS9 := Lib.hid hs
            have HO9 := Lib.hid (HO24.out.kept hg (fun ad e => by have := (HO24.out.base_le ad e).1; intro e2; injection e2 with e2; omega))
            clear hs hg
            refine hK _ _ ?_
            clear hK
            simp only [Act.put]
            refine wpAny_done (by kernel_rfl) ?_ _
            go_wp2_with fail
            go_meet
            case rel => exact ⟨A24, c24, HS9.out, HO9.out.mono hzv⟩
          · refine wp_as (rootV y) (ex_ldR 32 (u8v y) rfl rfl (fun q hq => by rw [add_lit0]; exact (HS8.out.row 0 rfl).cell hq) Tryd.underlying30 rfl (by kernel_rfl)) ?_
            refine hK _ _ ?_
            clear hK
            simp only [Act.put, List.setIfInBounds_toArray, List.set_cons_succ, List.set_cons_zero]
            refine ord_two (i := 6) (j := 8) rfl rfl (by kernel_rfl) rfl rfl (fun K hK => ?_) (fun K hK => ?_)
            · refine wp_appZ _ (.tmp 16) (.tmp 20) 22 wv.heap.size (e := 30) (z := .agg (Array.replicate 32 (.int .u8 0))) (k := 32) (bytes := 32) (by kernel_rfl) Tryd.underlying22 (by rfl) (by omega) rfl n (u8v x) rfl rfl (HO16.out.mono (by omega)) (HX.out _ _ hb5 HS8.out) (fun _ _ => rfl) (by omega) (cat_none x _) ⟨by omega, by omega⟩ (by omega) ?_
              intro A21 c21 w21 ho hg ha
              have hs21 := hg.size
              have HO21 := Lib.hid ho
              have HS21 := Lib.hid (HS8.out.appO (A := some ⟨b16, 0, none⟩) hg (B := b16) (fun ad e => by injection e with e; rw [← e]; exact Nat.le_refl _) (by simp; omega))
              clear ho hg ha
              refine hK _ _ ?_
              clear hK
              simp only [Act.put, List.setIfInBounds_toArray, List.set_cons_succ, List.set_cons_zero]
              refine ord_step (i := 8) rfl (by kernel_rfl) rfl (fun K hK => ?_)
              refine wp_bs1L Tryd.underlying22 (z := 32) (by kernel_rfl) (by omega) (by omega) (v0 := .agg (Array.replicate 32 (.int .u8 0))) (by kernel_rfl) _ rfl (u8v y) rfl (HS.nil _) ?_
              intro b23 w23 hb23 hc23 hs
              have HB23 := Lib.hid (hs.out (by simp; omega))
              have HR23 := Lib.hid (hs.row 0 rfl)
              have hl23 : b23 < w23.heap.size := hs.lt 0 rfl
              clear hs
              have HS10 := Lib.hid (HS21.out.below HB23.out)
              have HO2110 := Lib.hid (HO21.out.all HB23.out)
              have hz10 := HB23.out.size
              refine hK _ _ ?_
              clear hK
              simp only [Act.put, List.setIfInBounds_toArray, List.set_cons_succ, List.set_cons_zero]
              refine ord_step (i := 9) rfl (by kernel_rfl) rfl (fun K hK => ?_)
              refine wp_appZ _ (.tmp 21) (.tmp 23) 22 wv.heap.size (e := 30) (z := .agg (Array.replicate 32 (.int .u8 0))) (k := 32) (bytes := 32) (by kernel_rfl) Tryd.underlying22 (by rfl) (by omega) rfl (n + 1) (u8v (appN x n y)) rfl rfl HO2110.out (Rd.of_row (n := 1 * 32) HR23.out (Nat.le_refl _) HR23.out.lt) (fun _ _ => rfl) rfl (TreeApp.cat_app n x y) ⟨by omega, by omega⟩ (by omega) ?_
              intro A24 c24 w24 ho hg ha
              have HO24 := Lib.hid ho
              have HS24 := Lib.hid (HS10.out.appO hg (B := wv.heap.size) (fun ad e => (HO2110.out.base_le ad e).1) (by simp; omega))
              clear ho hg ha
              refine hK _ _ ?_
              clear hK
              simp only [Act.put, List.setIfInBounds_toArray, List.set_cons_succ, List.set_cons_zero]
              refine ord_take (i := 10) (.pointer (some ⟨p, 0, none⟩)) rfl (by kernel_rfl) (by kernel_rfl) (by kernel_rfl) rfl (fun _ _ _ h => h) (ex_nil rfl rfl) ?_
              simp only [Act.put, List.setIfInBounds_toArray, List.set_cons_succ, List.set_cons_zero]
              refine ord_take (i := 11) (.pointer (some ⟨p, 1, none⟩)) rfl (by kernel_rfl) (by kernel_rfl) (by kernel_rfl) rfl (fun _ _ _ h => h) (ex_fld rfl rfl (fun w => by simp [go_sem])) ?_
              simp only [Act.put, List.setIfInBounds_toArray, List.set_cons_succ, List.set_cons_zero]
              refine ord_step (i := 12) rfl (by kernel_rfl) rfl (fun K hK => ?_)
              refine TreeNew.wp_st1G 22 (.tmp 26) (.tmp 24) rfl HS24.out 1 rfl 1 (.slice A24 (n + 1) c24) (StCopy.stSlR _ _ _) rfl rfl (show 1 < 2 by omega) (rfF l A24 (n + 1) c24) (rf_step _ _ _ _ _ _ _) ?_
              intro w9 hs hg
              have HS9 := Lib.hid hs
              have HO9 := Lib.hid (HO24.out.kept hg (fun ad e => by have := (HO24.out.base_le ad e).1; intro e2; injection e2 with e2; omega))
              clear hs hg
              refine hK _ _ ?_
              clear hK
              simp only [Act.put]
              refine wpAny_done (by kernel_rfl) ?_ _
              go_wp2_with fail
              go_meet
              case rel => exact ⟨A24, c24, HS9.out, HO9.out.mono hzv⟩
            · refine wp_bs1L Tryd.underlying22 (z := 32) (by kernel_rfl) (by omega) (by omega) (v0 := .agg (Array.replicate 32 (.int .u8 0))) (by kernel_rfl) _ rfl (u8v y) rfl (HS.nil _) ?_
              intro b23 w23 hb23 hc23 hs
              have HB23 := Lib.hid (hs.out (by simp; omega))
              have HR23 := Lib.hid (hs.row 0 rfl)
              have hl23 : b23 < w23.heap.size := hs.lt 0 rfl
              clear hs
              have HS11 := Lib.hid (HS8.out.below HB23.out)
              have HO1611 := Lib.hid (HO16.out.all HB23.out)
              have hz11 := HB23.out.size
              refine hK _ _ ?_
              clear hK
              simp only [Act.put, List.setIfInBounds_toArray, List.set_cons_succ, List.set_cons_zero]
              refine ord_step (i := 6) rfl (by kernel_rfl) rfl (fun K hK => ?_)
              refine wp_appZ _ (.tmp 16) (.tmp 20) 22 wv.heap.size (e := 30) (z := .agg (Array.replicate 32 (.int .u8 0))) (k := 32) (bytes := 32) (by kernel_rfl) Tryd.underlying22 (by rfl) (by omega) rfl n (u8v x) rfl rfl (HO1611.out.mono (by omega)) (HX.out _ _ hb5 HS11.out) (fun _ _ => rfl) (by omega) (cat_none x _) ⟨by omega, by omega⟩ (by omega) ?_
              intro A21 c21 w21 ho hg ha
              have hs21 := hg.size
              have HO21 := Lib.hid ho
              have HS21 := Lib.hid (HS11.out.appO (A := some ⟨b16, 0, none⟩) hg (B := b16) (fun ad e => by injection e with e; rw [← e]; exact Nat.le_refl _) (by simp; omega))
              have HR23b := Lib.hid (HR23.out.of_block (hg.block b23 (by omega) (fun e => by injection e with e; have e2 : b23 = b16 := e; omega)))
              clear ho hg ha
              refine hK _ _ ?_
              clear hK
              simp only [Act.put, List.setIfInBounds_toArray, List.set_cons_succ, List.set_cons_zero]
              refine ord_step (i := 9) rfl (by kernel_rfl) rfl (fun K hK => ?_)
              refine wp_appZ _ (.tmp 21) (.tmp 23) 22 wv.heap.size (e := 30) (z := .agg (Array.replicate 32 (.int .u8 0))) (k := 32) (bytes := 32) (by kernel_rfl) Tryd.underlying22 (by rfl) (by omega) rfl (n + 1) (u8v (appN x n y)) rfl rfl HO21.out (Rd.of_row (n := 1 * 32) HR23b.out (Nat.le_refl _) HR23b.out.lt) (fun _ _ => rfl) rfl (TreeApp.cat_app n x y) ⟨by omega, by omega⟩ (by omega) ?_
              intro A24 c24 w24 ho hg ha
              have HO24 := Lib.hid ho
              have HS24 := Lib.hid (HS21.out.appO hg (B := wv.heap.size) (fun ad e => (HO21.out.base_le ad e).1) (by simp; omega))
              clear ho hg ha
              refine hK _ _ ?_
              clear hK
              simp only [Act.put, List.setIfInBounds_toArray, List.set_cons_succ, List.set_cons_zero]
              refine ord_take (i := 10) (.pointer (some ⟨p, 0, none⟩)) rfl (by kernel_rfl) (by kernel_rfl) (by kernel_rfl) rfl (fun _ _ _ h => h) (ex_nil rfl rfl) ?_
              simp only [Act.put, List.setIfInBounds_toArray, List.set_cons_succ, List.set_cons_zero]
              refine ord_take (i := 11) (.pointer (some ⟨p, 1, none⟩)) rfl (by kernel_rfl) (by kernel_rfl) (by kernel_rfl) rfl (fun _ _ _ h => h) (ex_fld rfl rfl (fun w => by simp [go_sem])) ?_
              simp only [Act.put, List.setIfInBounds_toArray, List.set_cons_succ, List.set_cons_zero]
              refine ord_step (i := 12) rfl (by kernel_rfl) rfl (fun K hK => ?_)
              refine TreeNew.wp_st1G 22 (.tmp 26) (.tmp 24) rfl HS24.out 1 rfl 1 (.slice A24 (n + 1) c24) (StCopy.stSlR _ _ _) rfl rfl (show 1 < 2 by omega) (rfF l A24 (n + 1) c24) (rf_step _ _ _ _ _ _ _) ?_
              intro w9 hs hg
              have HS9 := Lib.hid hs
              have HO9 := Lib.hid (HO24.out.kept hg (fun ad e => by have := (HO24.out.base_le ad e).1; intro e2; injection e2 with e2; omega))
              clear hs hg
              refine hK _ _ ?_
              clear hK
              simp only [Act.put]
              refine wpAny_done (by kernel_rfl) ?_ _
              go_wp2_with fail
              go_meet
              case rel => exact ⟨A24, c24, HS9.out, HO9.out.mono hzv⟩
        · refine wp_as (rootV y) (ex_ldR 32 (u8v y) rfl rfl (fun q hq => by rw [add_lit0]; exact (HSv.out.row 0 rfl).cell hq) Tryd.underlying30 rfl (by kernel_rfl)) ?_
          refine hK _ _ ?_
          clear hK
          simp only [Act.put, List.setIfInBounds_toArray, List.set_cons_succ, List.set_cons_zero]
          refine ord_two (i := 1) (j := 8) rfl rfl (by kernel_rfl) rfl rfl (fun K hK => ?_) (fun K hK => ?_)
          · refine wp_bs0L (z := 32) rfl run_bs0_R ?_
            intro b16 w16 hb16 ho hb
            have hl16 := (ho.base_le _ rfl).2
            have HB16 := Lib.hid hb
            have HO16 := Lib.hid ho
            clear ho hb
            simp only at hl16
            have HS12 := Lib.hid (HSv.out.below HB16.out)
            have hz12 := HB16.out.size
            refine hK _ _ ?_
            clear hK
            simp only [Act.put, List.setIfInBounds_toArray, List.set_cons_succ, List.set_cons_zero]
            refine ord_two (i := 6) (j := 8) rfl rfl (by kernel_rfl) rfl rfl (fun K hK => ?_) (fun K hK => ?_)
            · refine wp_appZ _ (.tmp 16) (.tmp 20) 22 wv.heap.size (e := 30) (z := .agg (Array.replicate 32 (.int .u8 0))) (k := 32) (bytes := 32) (by kernel_rfl) Tryd.underlying22 (by rfl) (by omega) rfl n (u8v x) rfl rfl (HO16.out.mono (by omega)) (HX.out _ _ hb5 HS12.out) (fun _ _ => rfl) (by omega) (cat_none x _) ⟨by omega, by omega⟩ (by omega) ?_
              intro A21 c21 w21 ho hg ha
              have hs21 := hg.size
              have HO21 := Lib.hid ho
              have HS21 := Lib.hid (HS12.out.appO (A := some ⟨b16, 0, none⟩) hg (B := b16) (fun ad e => by injection e with e; rw [← e]; exact Nat.le_refl _) (by simp; omega))
              clear ho hg ha
              refine hK _ _ ?_
              clear hK
              simp only [Act.put, List.setIfInBounds_toArray, List.set_cons_succ, List.set_cons_zero]
              refine ord_step (i := 8) rfl (by kernel_rfl) rfl (fun K hK => ?_)
              refine wp_bs1L Tryd.underlying22 (z := 32) (by kernel_rfl) (by omega) (by omega) (v0 := .agg (Array.replicate 32 (.int .u8 0))) (by kernel_rfl) _ rfl (u8v y) rfl (HS.nil _) ?_
              intro b23 w23 hb23 hc23 hs
              have HB23 := Lib.hid (hs.out (by simp; omega))
              have HR23 := Lib.hid (hs.row 0 rfl)
              have hl23 : b23 < w23.heap.size := hs.lt 0 rfl
              clear hs
              have HS13 := Lib.hid (HS21.out.below HB23.out)
              have HO2113 := Lib.hid (HO21.out.all HB23.out)
              have hz13 := HB23.out.size
              refine hK _ _ ?_
              clear hK
              simp only [Act.put, List.setIfInBounds_toArray, List.set_cons_succ, List.set_cons_zero]
              refine ord_step (i := 9) rfl (by kernel_rfl) rfl (fun K hK => ?_)
              refine wp_appZ _ (.tmp 21) (.tmp 23) 22 wv.heap.size (e := 30) (z := .agg (Array.replicate 32 (.int .u8 0))) (k := 32) (bytes := 32) (by kernel_rfl) Tryd.underlying22 (by rfl) (by omega) rfl (n + 1) (u8v (appN x n y)) rfl rfl HO2113.out (Rd.of_row (n := 1 * 32) HR23.out (Nat.le_refl _) HR23.out.lt) (fun _ _ => rfl) rfl (TreeApp.cat_app n x y) ⟨by omega, by omega⟩ (by omega) ?_
              intro A24 c24 w24 ho hg ha
              have HO24 := Lib.hid ho
              have HS24 := Lib.hid (HS13.out.appO hg (B := wv.heap.size) (fun ad e => (HO2113.out.base_le ad e).1) (by simp; omega))
              clear ho hg ha
              refine hK _ _ ?_
              clear hK
              simp only [Act.put, List.setIfInBounds_toArray, List.set_cons_succ, List.set_cons_zero]
              refine ord_take (i := 10) (.pointer (some ⟨p, 0, none⟩)) rfl (by kernel_rfl) (by kernel_rfl) (by kernel_rfl) rfl (fun _ _ _ h => h) (ex_nil rfl rfl) ?_
              simp only [Act.put, List.setIfInBounds_toArray, List.set_cons_succ, List.set_cons_zero]
              refine ord_take (i := 11) (.pointer (some ⟨p, 1, none⟩)) rfl (by kernel_rfl) (by kernel_rfl) (by kernel_rfl) rfl (fun _ _ _ h => h) (ex_fld rfl rfl (fun w => by simp [go_sem])) ?_
              simp only [Act.put, List.setIfInBounds_toArray, List.set_cons_succ, List.set_cons_zero]
              refine ord_step (i := 12) rfl (by kernel_rfl) rfl (fun K hK => ?_)
              refine TreeNew.wp_st1G 22 (.tmp 26) (.tmp 24) rfl HS24.out 1 rfl 1 (.slice A24 (n + 1) c24) (StCopy.stSlR _ _ _) rfl rfl (show 1 < 2 by omega) (rfF l A24 (n + 1) c24) (rf_step _ _ _ _ _ _ _) ?_
              intro w9 hs hg
              have HS9 := Lib.hid hs
              have HO9 := Lib.hid (HO24.out.kept hg (fun ad e => by have := (HO24.out.base_le ad e).1; intro e2; injection e2 with e2; omega))
              clear hs hg
              refine hK _ _ ?_
              clear hK
              simp only [Act.put]
              refine wpAny_done (by kernel_rfl) ?_ _
              go_wp2_with fail
              go_meet
              case rel => exact ⟨A24, c24, HS9.out, HO9.out.mono hzv⟩
            · refine wp_bs1L Tryd.underlying22 (z := 32) (by kernel_rfl) (by omega) (by omega) (v0 := .agg (Array.replicate 32 (.int .u8 0))) (by kernel_rfl) _ rfl (u8v y) rfl (HS.nil _) ?_
              intro b23 w23 hb23 hc23 hs
              have HB23 := Lib.hid (hs.out (by simp; omega))
              have HR23 := Lib.hid (hs.row 0 rfl)
              have hl23 : b23 < w23.heap.size := hs.lt 0 rfl
              clear hs
              have HS14 := Lib.hid (HS12.out.below HB23.out)
              have HO1614 := Lib.hid (HO16.out.all HB23.out)
              have hz14 := HB23.out.size
              refine hK _ _ ?_
              clear hK
              simp only [Act.put, List.setIfInBounds_toArray, List.set_cons_succ, List.set_cons_zero]
              refine ord_step (i := 6) rfl (by kernel_rfl) rfl (fun K hK => ?_)
              refine wp_appZ _ (.tmp 16) (.tmp 20) 22 wv.heap.size (e := 30) (z := .agg (Array.replicate 32 (.int .u8 0))) (k := 32) (bytes := 32) (by kernel_rfl) Tryd.underlying22 (by rfl) (by omega) rfl n (u8v x) rfl rfl (HO1614.out.mono (by omega)) (HX.out _ _ hb5 HS14.out) (fun _ _ => rfl) (by omega) (cat_none x _) ⟨by omega, by omega⟩ (by omega) ?_
              intro A21 c21 w21 ho hg ha
              have hs21 := hg.size
              have HO21 := Lib.hid ho
              have HS21 := Lib.hid (HS14.out.appO (A := some ⟨b16, 0, none⟩) hg (B := b16) (fun ad e => by injection e with e; rw [← e]; exact Nat.le_refl _) (by simp; omega))
              have HR23b := Lib.hid (HR23.out.of_block (hg.block b23 (by omega) (fun e => by injection e with e; have e2 : b23 = b16 := e; omega)))
              clear ho hg ha
              refine hK _ _ ?_
              clear hK
              simp only [Act.put, List.setIfInBounds_toArray, List.set_cons_succ, List.set_cons_zero]
              refine ord_step (i := 9) rfl (by kernel_rfl) rfl (fun K hK => ?_)
              refine wp_appZ _ (.tmp 21) (.tmp 23) 22 wv.heap.size (e := 30) (z := .agg (Array.replicate 32 (.int .u8 0))) (k := 32) (bytes := 32) (by kernel_rfl) Tryd.underlying22 (by rfl) (by omega) rfl (n + 1) (u8v (appN x n y)) rfl rfl HO21.out (Rd.of_row (n := 1 * 32) HR23b.out (Nat.le_refl _) HR23b.out.lt) (fun _ _ => rfl) rfl (TreeApp.cat_app n x y) ⟨by omega, by omega⟩ (by omega) ?_
              intro A24 c24 w24 ho hg ha
              have HO24 := Lib.hid ho
              have HS24 := Lib.hid (HS21.out.appO hg (B := wv.heap.size) (fun ad e => (HO21.out.base_le ad e).1) (by simp; omega))
              clear ho hg ha
              refine hK _ _ ?_
              clear hK
              simp only [Act.put, List.setIfInBounds_toArray, List.set_cons_succ, List.set_cons_zero]
              refine ord_take (i := 10) (.pointer (some ⟨p, 0, none⟩)) rfl (by kernel_rfl) (by kernel_rfl) (by kernel_rfl) rfl (fun _ _ _ h => h) (ex_nil rfl rfl) ?_
              simp only [Act.put, List.setIfInBounds_toArray, List.set_cons_succ, List.set_cons_zero]
              refine ord_take (i := 11) (.pointer (some ⟨p, 1, none⟩)) rfl (by kernel_rfl) (by kernel_rfl) (by kernel_rfl) rfl (fun _ _ _ h => h) (ex_fld rfl rfl (fun w => by simp [go_sem])) ?_
              simp only [Act.put, List.setIfInBounds_toArray, List.set_cons_succ, List.set_cons_zero]
              refine ord_step (i := 12) rfl (by kernel_rfl) rfl (fun K hK => ?_)
              refine TreeNew.wp_st1G 22 (.tmp 26) (.tmp 24) rfl HS24.out 1 rfl 1 (.slice A24 (n + 1) c24) (StCopy.stSlR _ _ _) rfl rfl (show 1 < 2 by omega) (rfF l A24 (n + 1) c24) (rf_step _ _ _ _ _ _ _) ?_
              intro w9 hs hg
              have HS9 := Lib.hid hs
              have HO9 := Lib.hid (HO24.out.kept hg (fun ad e => by have := (HO24.out.base_le ad e).1; intro e2; injection e2 with e2; omega))
              clear hs hg
              refine hK _ _ ?_
              clear hK
              simp only [Act.put]
              refine wpAny_done (by kernel_rfl) ?_ _
              go_wp2_with fail
              go_meet
              case rel => exact ⟨A24, c24, HS9.out, HO9.out.mono hzv⟩
          · refine wp_bs1L Tryd.underlying22 (z := 32) (by kernel_rfl) (by omega) (by omega) (v0 := .agg (Array.replicate 32 (.int .u8 0))) (by kernel_rfl) _ rfl (u8v y) rfl (HS.nil _) ?_
            intro b23 w23 hb23 hc23 hs
            have HB23 := Lib.hid (hs.out (by simp; omega))
            have HR23 := Lib.hid (hs.row 0 rfl)
            have hl23 : b23 < w23.heap.size := hs.lt 0 rfl
            clear hs
            have HS15 := Lib.hid (HSv.out.below HB23.out)
            have hz15 := HB23.out.size
            refine hK _ _ ?_
            clear hK
            simp only [Act.put, List.setIfInBounds_toArray, List.set_cons_succ, List.set_cons_zero]
            refine ord_step (i := 1) rfl (by kernel_rfl) rfl (fun K hK => ?_)
            refine wp_bs0L (z := 32) rfl run_bs0_R ?_
            intro b16 w16 hb16 ho hb
            have hl16 := (ho.base_le _ rfl).2
            have HB16 := Lib.hid hb
            have HO16 := Lib.hid ho
            clear ho hb
            simp only at hl16
            have HS16 := Lib.hid (HS15.out.below HB16.out)
            have HR2316 := Lib.hid (row_below HR23.out HB16.out HR23.out.lt)
            have hz16 := HB16.out.size
            refine hK _ _ ?_
            clear hK
            simp only [Act.put, List.setIfInBounds_toArray, List.set_cons_succ, List.set_cons_zero]
            refine ord_step (i := 6) rfl (by kernel_rfl) rfl (fun K hK => ?_)
            refine wp_appZ _ (.tmp 16) (.tmp 20) 22 wv.heap.size (e := 30) (z := .agg (Array.replicate 32 (.int .u8 0))) (k := 32) (bytes := 32) (by kernel_rfl) Tryd.underlying22 (by rfl) (by omega) rfl n (u8v x) rfl rfl (HO16.out.mono (by omega)) (HX.out _ _ hb5 HS16.out) (fun _ _ => rfl) (by omega) (cat_none x _) ⟨by omega, by omega⟩ (by omega) ?_
            intro A21 c21 w21 ho hg ha
            have hs21 := hg.size
            have HO21 := Lib.hid ho
            have HS21 := Lib.hid (HS16.out.appO (A := some ⟨b16, 0, none⟩) hg (B := b16) (fun ad e => by injection e with e; rw [← e]; exact Nat.le_refl _) (by simp; omega))
            have HR23b := Lib.hid (HR2316.out.of_block (hg.block b23 (by omega) (fun e => by injection e with e; have e2 : b23 = b16 := e; omega)))
            clear ho hg ha
            refine hK _ _ ?_
            clear hK
            simp only [Act.put, List.setIfInBounds_toArray, List.set_cons_succ, List.set_cons_zero]
            refine ord_step (i := 9) rfl (by kernel_rfl) rfl (fun K hK => ?_)
            refine wp_appZ _ (.tmp 21) (.tmp 23) 22 wv.heap.size (e := 30) (z := .agg (Array.replicate 32 (.int .u8 0))) (k := 32) (bytes := 32) (by kernel_rfl) Tryd.underlying22 (by rfl) (by omega) rfl (n + 1) (u8v (appN x n y)) rfl rfl HO21.out (Rd.of_row (n := 1 * 32) HR23b.out (Nat.le_refl _) HR23b.out.lt) (fun _ _ => rfl) rfl (TreeApp.cat_app n x y) ⟨by omega, by omega⟩ (by omega) ?_
            intro A24 c24 w24 ho hg ha
            have HO24 := Lib.hid ho
            have HS24 := Lib.hid (HS21.out.appO hg (B := wv.heap.size) (fun ad e => (HO21.out.base_le ad e).1) (by simp; omega))
            clear ho hg ha
            refine hK _ _ ?_
            clear hK
            simp only [Act.put, List.setIfInBounds_toArray, List.set_cons_succ, List.set_cons_zero]
            refine ord_take (i := 10) (.pointer (some ⟨p, 0, none⟩)) rfl (by kernel_rfl) (by kernel_rfl) (by kernel_rfl) rfl (fun _ _ _ h => h) (ex_nil rfl rfl) ?_
            simp only [Act.put, List.setIfInBounds_toArray, List.set_cons_succ, List.set_cons_zero]
            refine ord_take (i := 11) (.pointer (some ⟨p, 1, none⟩)) rfl (by kernel_rfl) (by kernel_rfl) (by kernel_rfl) rfl (fun _ _ _ h => h) (ex_fld rfl rfl (fun w => by simp [go_sem])) ?_
            simp only [Act.put, List.setIfInBounds_toArray, List.set_cons_succ, List.set_cons_zero]
            refine ord_step (i := 12) rfl (by kernel_rfl) rfl (fun K hK => ?_)
            refine TreeNew.wp_st1G 22 (.tmp 26) (.tmp 24) rfl HS24.out 1 rfl 1 (.slice A24 (n + 1) c24) (StCopy.stSlR _ _ _) rfl rfl (show 1 < 2 by omega) (rfF l A24 (n + 1) c24) (rf_step _ _ _ _ _ _ _) ?_
            intro w9 hs hg
            have HS9 := Lib.hid hs
            have HO9 := Lib.hid (HO24.out.kept hg (fun ad e => by have := (HO24.out.base_le ad e).1; intro e2; injection e2 with e2; omega))
            clear hs hg
            refine hK _ _ ?_
            clear hK
            simp only [Act.put]
            refine wpAny_done (by kernel_rfl) ?_ _
            go_wp2_with fail
            go_meet
            case rel => exact ⟨A24, c24, HS9.out, HO9.out.mono hzv⟩
      · refine wp_as (rootV y) (ex_ldR 32 (u8v y) rfl rfl (fun q hq => by rw [add_lit0]; exact (HSv.out.row 0 rfl).cell hq) Tryd.underlying30 rfl (by kernel_rfl)) ?_
        refine hK _ _ ?_
        clear hK
        simp only [Act.put, List.setIfInBounds_toArray, List.set_cons_succ, List.set_cons_zero]
        refine ord_three (i := 1) (j := 5) (k := 8) rfl rfl rfl (by kernel_rfl) rfl rfl rfl (fun K hK => ?_) (fun K hK => ?_) (fun K hK => ?_)
        · refine wp_bs0L (z := 32) rfl run_bs0_R ?_
          intro b16 w16 hb16 ho hb
          have hl16 := (ho.base_le _ rfl).2
          have HB16 := Lib.hid hb
          have HO16 := Lib.hid ho
          clear ho hb
          simp only at hl16
          have HS17 := Lib.hid (HSv.out.below HB16.out)
          have hz17 := HB16.out.size
          refine hK _ _ ?_
          clear hK
          simp only [Act.put, List.setIfInBounds_toArray, List.set_cons_succ, List.set_cons_zero]
          refine ord_two (i := 5) (j := 8) rfl rfl (by kernel_rfl) rfl rfl (fun K hK => ?_) (fun K hK => ?_)
          · refine wp_as (.slice A n c) (ex_ldSl rfl rfl Tryd.underlying22 ((HS17.out.row 1 rfl).cell (show 1 < 2 by omega)) rfl) ?_
            refine hK _ _ ?_
            clear hK
            simp only [Act.put, List.setIfInBounds_toArray, List.set_cons_succ, List.set_cons_zero]
            refine ord_two (i := 6) (j := 8) rfl rfl (by kernel_rfl) rfl rfl (fun K hK => ?_) (fun K hK => ?_)
            · refine wp_appZ _ (.tmp 16) (.tmp 20) 22 wv.heap.size (e := 30) (z := .agg (Array.replicate 32 (.int .u8 0))) (k := 32) (bytes := 32) (by kernel_rfl) Tryd.underlying22 (by rfl) (by omega) rfl n (u8v x) rfl rfl (HO16.out.mono (by omega)) (HX.out _ _ hb5 HS17.out) (fun _ _ => rfl) (by omega) (cat_none x _) ⟨by omega, by omega⟩ (by omega) ?_
              intro A21 c21 w21 ho hg ha
              have hs21 := hg.size
              have HO21 := Lib.hid ho
              have HS21 := Lib.hid (HS17.out.appO (A := some ⟨b16, 0, none⟩) hg (B := b16) (fun ad e => by injection e with e; rw [← e]; exact Nat.le_refl _) (by simp; omega))
              clear ho hg ha
              refine hK _ _ ?_
              clear hK
              simp only [Act.put, List.setIfInBounds_toArray, List.set_cons_succ, List.set_cons_zero]
              refine ord_step (i := 8) rfl (by kernel_rfl) rfl (fun K hK => ?_)
              refine wp_bs1L Tryd.underlying22 (z := 32) (by kernel_rfl) (by omega) (by omega) (v0 := .agg (Array.replicate 32 (.int .u8 0))) (by kernel_rfl) _ rfl (u8v y) rfl (HS.nil _) ?_
              intro b23 w23 hb23 hc23 hs
              have HB23 := Lib.hid (hs.out (by simp; omega))
              have HR23 := Lib.hid (hs.row 0 rfl)
              have hl23 : b23 < w23.heap.size := hs.lt 0 rfl
              clear hs
              have HS18 := Lib.hid (HS21.out.below HB23.out)
              have HO2118 := Lib.hid (HO21.out.all HB23.out)
              have hz18 := HB23.out.size
              refine hK _ _ ?_
              clear hK
              simp only [Act.put, List.setIfInBounds_toArray, List.set_cons_succ, List.set_cons_zero]
              refine ord_step (i := 9) rfl (by kernel_rfl) rfl (fun K hK => ?_)
              refine wp_appZ _ (.tmp 21) (.tmp 23) 22 wv.heap.size (e := 30) (z := .agg (Array.replicate 32 (.int .u8 0))) (k := 32) (bytes := 32) (by kernel_rfl) Tryd.underlying22 (by rfl) (by omega) rfl (n + 1) (u8v (appN x n y)) rfl rfl HO2118.out (Rd.of_row (n := 1 * 32) HR23.out (Nat.le_refl _) HR23.out.lt) (fun _ _ => rfl) rfl (TreeApp.cat_app n x y) ⟨by omega, by omega⟩ (by omega) ?_
              intro A24 c24 w24 ho hg ha
              have HO24 := Lib.hid ho
              have HS24 := Lib.hid (HS18.out.appO hg (B := wv.heap.size) (fun ad e => (HO2118.out.base_le ad e).1) (by simp; omega))
              clear ho hg ha
              refine hK _ _ ?_
              clear hK
              simp only [Act.put, List.setIfInBounds_toArray, List.set_cons_succ, List.set_cons_zero]
              refine ord_take (i := 10) (.pointer (some ⟨p, 0, none⟩)) rfl (by kernel_rfl) (by kernel_rfl) (by kernel_rfl) rfl (fun _ _ _ h => h) (ex_nil rfl rfl) ?_
              simp only [Act.put, List.setIfInBounds_toArray, List.set_cons_succ, List.set_cons_zero]
              refine ord_take (i := 11) (.pointer (some ⟨p, 1, none⟩)) rfl (by kernel_rfl) (by kernel_rfl) (by kernel_rfl) rfl (fun _ _ _ h => h) (ex_fld rfl rfl (fun w => by simp [go_sem])) ?_
              simp only [Act.put, List.setIfInBounds_toArray, List.set_cons_succ, List.set_cons_zero]
              refine ord_step (i := 12) rfl (by kernel_rfl) rfl (fun K hK => ?_)
              refine TreeNew.wp_st1G 22 (.tmp 26) (.tmp 24) rfl HS24.out 1 rfl 1 (.slice A24 (n + 1) c24) (StCopy.stSlR _ _ _) rfl rfl (show 1 < 2 by omega) (rfF l A24 (n + 1) c24) (rf_step _ _ _ _ _ _ _) ?_
              intro w9 hs hg
              have HS9 := Lib.hid hs
              have HO9 := Lib.hid (HO24.out.kept hg (fun ad e => by have := (HO24.out.base_le ad e).1; intro e2; injection e2 with e2; omega))
              clear hs hg
              refine hK _ _ ?_
              clear hK
              simp only [Act.put]
              refine wpAny_done (by kernel_rfl) ?_ _
              go_wp2_with fail
              go_meet
              case rel => exact ⟨A24, c24, HS9.out, HO9.out.mono hzv⟩
            · refine wp_bs1L Tryd.underlying22 (z := 32) (by kernel_rfl) (by omega) (by omega) (v0 := .agg (Array.replicate 32 (.int .u8 0))) (by kernel_rfl) _ rfl (u8v y) rfl (HS.nil _) ?_
              intro b23 w23 hb23 hc23 hs
              have HB23 := Lib.hid (hs.out (by simp; omega))
              have HR23 := Lib.hid (hs.row 0 rfl)
              have hl23 : b23 < w23.heap.size := hs.lt 0 rfl
              clear hs
              have HS19 := Lib.hid (HS17.out.below HB23.out)
              have HO1619 := Lib.hid (HO16.out.all HB23.out)
              have hz19 := HB23.out.size
              refine hK _ _ ?_
              clear hK
              simp only [Act.put, List.setIfInBounds_toArray, List.set_cons_succ, List.set_cons_zero]
              refine ord_step (i := 6) rfl (by kernel_rfl) rfl (fun K hK => ?_)
              refine wp_appZ _ (.tmp 16) (.tmp 20) 22 wv.heap.size (e := 30) (z := .agg (Array.replicate 32 (.int .u8 0))) (k := 32) (bytes := 32) (by kernel_rfl) Tryd.underlying22 (by rfl) (by omega) rfl n (u8v x) rfl rfl (HO1619.out.mono (by omega)) (HX.out _ _ hb5 HS19.out) (fun _ _ => rfl) (by omega) (cat_none x _) ⟨by omega, by omega⟩ (by omega) ?_
              intro A21 c21 w21 ho hg ha
              have hs21 := hg.size
              have HO21 := Lib.hid ho
              have HS21 := Lib.hid (HS19.out.appO (A := some ⟨b16, 0, none⟩) hg (B := b16) (fun ad e => by injection e with e; rw [← e]; exact Nat.le_refl _) (by simp; omega))
              have HR23b := Lib.hid (HR23.out.of_block (hg.block b23 (by omega) (fun e => by injection e with e; have e2 : b23 = b16 := e; omega)))
              clear ho hg ha
              refine hK _ _ ?_
              clear hK
              simp only [Act.put, List.setIfInBounds_toArray, List.set_cons_succ, List.set_cons_zero]
              refine ord_step (i := 9) rfl (by kernel_rfl) rfl (fun K hK => ?_)
              refine wp_appZ _ (.tmp 21) (.tmp 23) 22 wv.heap.size (e := 30) (z := .agg (Array.replicate 32 (.int .u8 0))) (k := 32) (bytes := 32) (by kernel_rfl) Tryd.underlying22 (by rfl) (by omega) rfl (n + 1) (u8v (appN x n y)) rfl rfl HO21.out (Rd.of_row (n := 1 * 32) HR23b.out (Nat.le_refl _) HR23b.out.lt) (fun _ _ => rfl) rfl (TreeApp.cat_app n x y) ⟨by omega, by omega⟩ (by omega) ?_
              intro A24 c24 w24 ho hg ha
              have HO24 := Lib.hid ho
              have HS24 := Lib.hid (HS21.out.appO hg (B := wv.heap.size) (fun ad e => (HO21.out.base_le ad e).1) (by simp; omega))
              clear ho hg ha
              refine hK _ _ ?_
              clear hK
              simp only [Act.put, List.setIfInBounds_toArray, List.set_cons_succ, List.set_cons_zero]
              refine ord_take (i := 10) (.pointer (some ⟨p, 0, none⟩)) rfl (by kernel_rfl) (by kernel_rfl) (by kernel_rfl) rfl (fun _ _ _ h => h) (ex_nil rfl rfl) ?_
              simp only [Act.put, List.setIfInBounds_toArray, List.set_cons_succ, List.set_cons_zero]
              refine ord_take (i := 11) (.pointer (some ⟨p, 1, none⟩)) rfl (by kernel_rfl) (by kernel_rfl) (by kernel_rfl) rfl (fun _ _ _ h => h) (ex_fld rfl rfl (fun w => by simp [go_sem])) ?_
              simp only [Act.put, List.setIfInBounds_toArray, List.set_cons_succ, List.set_cons_zero]
              refine ord_step (i := 12) rfl (by kernel_rfl) rfl (fun K hK => ?_)
              refine TreeNew.wp_st1G 22 (.tmp 26) (.tmp 24) rfl HS24.out 1 rfl 1 (.slice A24 (n + 1) c24) (StCopy.stSlR _ _ _) rfl rfl (show 1 < 2 by omega) (rfF l A24 (n + 1) c24) (rf_step _ _ _ _ _ _ _) ?_
              intro w9 hs hg
              have HS9 := Lib.hid hs
              have HO9 := Lib.hid (HO24.out.kept hg (fun ad e => by have := (HO24.out.base_le ad e).1; intro e2; injection e2 with e2; omega))
              clear hs hg
              refine hK _ _ ?_
              clear hK
              simp only [Act.put]
              refine wpAny_done (by kernel_rfl) ?_ _
              go_wp2_with fail
              go_meet
              case rel => exact ⟨A24, c24, HS9.out, HO9.out.mono hzv⟩
          · refine wp_bs1L Tryd.underlying22 (z := 32) (by kernel_rfl) (by omega) (by omega) (v0 := .agg (Array.replicate 32 (.int .u8 0))) (by kernel_rfl) _ rfl (u8v y) rfl (HS.nil _) ?_
            intro b23 w23 hb23 hc23 hs
            have HB23 := Lib.hid (hs.out (by simp; omega))
            have HR23 := Lib.hid (hs.row 0 rfl)
            have hl23 : b23 < w23.heap.size := hs.lt 0 rfl
            clear hs
            have HS20 := Lib.hid (HS17.out.below HB23.out)
            have HO1620 := Lib.hid (HO16.out.all HB23.out)
            have hz20 := HB23.out.size
            refine hK _ _ ?_
            clear hK
            simp only [Act.put, List.setIfInBounds_toArray, List.set_cons_succ, List.set_cons_zero]
            refine ord_step (i := 5) rfl (by kernel_rfl) rfl (fun K hK => ?_)
            refine wp_as (.slice A n c) (ex_ldSl rfl rfl Tryd.underlying22 ((HS20.out.row 1 rfl).cell (show 1 < 2 by omega)) rfl) ?_
            refine hK _ _ ?_
            clear hK
            simp only [Act.put, List.setIfInBounds_toArray, List.set_cons_succ, List.set_cons_zero]
            refine ord_step (i := 6) rfl (by kernel_rfl) rfl (fun K hK => ?_)
            refine wp_appZ _ (.tmp 16) (.tmp 20) 22 wv.heap.size (e := 30) (z := .agg (Array.replicate 32 (.int .u8 0))) (k := 32) (bytes := 32) (by kernel_rfl) Tryd.underlying22 (by rfl) (by omega) rfl n (u8v x) rfl rfl (HO1620.out.mono (by omega)) (HX.out _ _ hb5 HS20.out) (fun _ _ => rfl) (by omega) (cat_none x _) ⟨by omega, by omega⟩ (by omega) ?_
            intro A21 c21 w21 ho hg ha
            have hs21 := hg.size
            have HO21 := Lib.hid ho
            have HS21 := Lib.hid (HS20.out.appO (A := some ⟨b16, 0, none⟩) hg (B := b16) (fun ad e => by injection e with e; rw [← e]; exact Nat.le_refl _) (by simp; omega))
            have HR23b := Lib.hid (HR23.out.of_block (hg.block b23 (by omega) (fun e => by injection e with e; have e2 : b23 = b16 := e; omega)))
            clear ho hg ha
            refine hK _ _ ?_
            clear hK
            simp only [Act.put, List.setIfInBounds_toArray, List.set_cons_succ, List.set_cons_zero]
            refine ord_step (i := 9) rfl (by kernel_rfl) rfl (fun K hK => ?_)
            refine wp_appZ _ (.tmp 21) (.tmp 23) 22 wv.heap.size (e := 30) (z := .agg (Array.replicate 32 (.int .u8 0))) (k := 32) (bytes := 32) (by kernel_rfl) Tryd.underlying22 (by rfl) (by omega) rfl (n + 1) (u8v (appN x n y)) rfl rfl HO21.out (Rd.of_row (n := 1 * 32) HR23b.out (Nat.le_refl _) HR23b.out.lt) (fun _ _ => rfl) rfl (TreeApp.cat_app n x y) ⟨by omega, by omega⟩ (by omega) ?_
            intro A24 c24 w24 ho hg ha
            have HO24 := Lib.hid ho
            have HS24 := Lib.hid (HS21.out.appO hg (B := wv.heap.size) (fun ad e => (HO21.out.base_le ad e).1) (by simp; omega))
            clear ho hg ha
            refine hK _ _ ?_
            clear hK
            simp only [Act.put, List.setIfInBounds_toArray, List.set_cons_succ, List.set_cons_zero]
            refine ord_take (i := 10) (.pointer (some ⟨p, 0, none⟩)) rfl (by kernel_rfl) (by kernel_rfl) (by kernel_rfl) rfl (fun _ _ _ h => h) (ex_nil rfl rfl) ?_
            simp only [Act.put, List.setIfInBounds_toArray, List.set_cons_succ, List.set_cons_zero]
            refine ord_take (i := 11) (.pointer (some ⟨p, 1, none⟩)) rfl (by kernel_rfl) (by kernel_rfl) (by kernel_rfl) rfl (fun _ _ _ h => h) (ex_fld rfl rfl (fun w => by simp [go_sem])) ?_
            simp only [Act.put, List.setIfInBounds_toArray, List.set_cons_succ, List.set_cons_zero]
            refine ord_step (i := 12) rfl (by kernel_rfl) rfl (fun K hK => ?_)
            refine TreeNew.wp_st1G 22 (.tmp 26) (.tmp 24) rfl HS24.out 1 rfl 1 (.slice A24 (n + 1) c24) (StCopy.stSlR _ _ _) rfl rfl (show 1 < 2 by omega) (rfF l A24 (n + 1) c24) (rf_step _ _ _ _ _ _ _) ?_
            intro w9 hs hg
            have HS9 := Lib.hid hs
            have HO9 := Lib.hid (HO24.out.kept hg (fun ad e => by have := (HO24.out.base_le ad e).1; intro e2; injection e2 with e2; omega))
            clear hs hg
            refine hK _ _ ?_
            clear hK
            simp only [Act.put]
            refine wpAny_done (by kernel_rfl) ?_ _
            go_wp2_with fail
            go_meet
            case rel => exact ⟨A24, c24, HS9.out, HO9.out.mono hzv⟩
        · refine wp_as (.slice A n c) (ex_ldSl rfl rfl Tryd.underlying22 ((HSv.out.row 1 rfl).cell (show 1 < 2 by omega)) rfl) ?_
          refine hK _ _ ?_
          clear hK
          simp only [Act.put, List.setIfInBounds_toArray, List.set_cons_succ, List.set_cons_zero]
          refine ord_two (i := 1) (j := 8) rfl rfl (by kernel_rfl) rfl rfl (fun K hK => ?_) (fun K hK => ?_)
          · refine wp_bs0L (z := 32) rfl run_bs0_R ?_
            intro b16 w16 hb16 ho hb
            have hl16 := (ho.base_le _ rfl).2
            have HB16 := Lib.hid hb
            have HO16 := Lib.hid ho
            clear ho hb
            simp only at hl16
            have HS21 := Lib.hid (HSv.out.below HB16.out)
            have hz21 := HB16.out.size
            refine hK _ _ ?_
            clear hK
            simp only [Act.put, List.setIfInBounds_toArray, List.set_cons_succ, List.set_cons_zero]
            refine ord_two (i := 6) (j := 8) rfl rfl (by kernel_rfl) rfl rfl (fun K hK => ?_) (fun K hK => ?_)
            · refine wp_appZ _ (.tmp 16) (.tmp 20) 22 wv.heap.size (e := 30) (z := .agg (Array.replicate 32 (.int .u8 0))) (k := 32) (bytes := 32) (by kernel_rfl) Tryd.underlying22 (by rfl) (by omega) rfl n (u8v x) rfl rfl (HO16.out.mono (by omega)) (HX.out _ _ hb5 HS21.out) (fun _ _ => rfl) (by omega) (cat_none x _) ⟨by omega, by omega⟩ (by omega) ?_
              intro A21 c21 w21 ho hg ha
              have hs21 := hg.size
              have HO21 := Lib.hid ho
              have HS21 := Lib.hid (HS21.out.appO (A := some ⟨b16, 0, none⟩) hg (B := b16) (fun ad e => by injection e with e; rw [← e]; exact Nat.le_refl _) (by simp; omega))
              clear ho hg ha
              refine hK _ _ ?_
              clear hK
              simp only [Act.put, List.setIfInBounds_toArray, List.set_cons_succ, List.set_cons_zero]
              refine ord_step (i := 8) rfl (by kernel_rfl) rfl (fun K hK => ?_)
              refine wp_bs1L Tryd.underlying22 (z := 32) (by kernel_rfl) (by omega) (by omega) (v0 := .agg (Array.replicate 32 (.int .u8 0))) (by kernel_rfl) _ rfl (u8v y) rfl (HS.nil _) ?_
              intro b23 w23 hb23 hc23 hs
              have HB23 := Lib.hid (hs.out (by simp; omega))
              have HR23 := Lib.hid (hs.row 0 rfl)
              have hl23 : b23 < w23.heap.size := hs.lt 0 rfl
              clear hs
              have HS22 := Lib.hid (HS21.out.below HB23.out)
              have HO2122 := Lib.hid (HO21.out.all HB23.out)
              have hz22 := HB23.out.size
              refine hK _ _ ?_
              clear hK
              simp only [Act.put, List.setIfInBounds_toArray, List.set_cons_succ, List.set_cons_zero]
              refine ord_step (i := 9) rfl (by kernel_rfl) rfl (fun K hK => ?_)
              refine wp_appZ _ (.tmp 21) (.tmp 23) 22 wv.heap.size (e := 30) (z := .agg (Array.replicate 32 (.int .u8 0))) (k := 32) (bytes := 32) (by kernel_rfl) Tryd.underlying22 (by rfl) (by omega) rfl (n + 1) (u8v (appN x n y)) rfl rfl HO2122.out (Rd.of_row (n := 1 * 32) HR23.out (Nat.le_refl _) HR23.out.lt) (fun _ _ => rfl) rfl (TreeApp.cat_app n x y) ⟨by omega, by omega⟩ (by omega) ?_
              intro A24 c24 w24 ho hg ha
              have HO24 := Lib.hid ho
              have HS24 := Lib.hid (HS22.out.appO hg (B := wv.heap.size) (fun ad e => (HO2122.out.base_le ad e).1) (by simp; omega))
              clear ho hg ha
              refine hK _ _ ?_
              clear hK
              simp only [Act.put, List.setIfInBounds_toArray, List.set_cons_succ, List.set_cons_zero]
              refine ord_take (i := 10) (.pointer (some ⟨p, 0, none⟩)) rfl (by kernel_rfl) (by kernel_rfl) (by kernel_rfl) rfl (fun _ _ _ h => h) (ex_nil rfl rfl) ?_
              simp only [Act.put, List.setIfInBounds_toArray, List.set_cons_succ, List.set_cons_zero]
              refine ord_take (i := 11) (.pointer (some ⟨p, 1, none⟩)) rfl (by kernel_rfl) (by kernel_rfl) (by kernel_rfl) rfl (fun _ _ _ h => h) (ex_fld rfl rfl (fun w => by simp [go_sem])) ?_
              simp only [Act.put, List.setIfInBounds_toArray, List.set_cons_succ, List.set_cons_zero]
              refine ord_step (i := 12) rfl (by kernel_rfl) rfl (fun K hK => ?_)
              refine TreeNew.wp_st1G 22 (.tmp 26) (.tmp 24) rfl HS24.out 1 rfl 1 (.slice A24 (n + 1) c24) (StCopy.stSlR _ _ _) rfl rfl (show 1 < 2 by omega) (rfF l A24 (n + 1) c24) (rf_step _ _ _ _ _ _ _) ?_
              intro w9 hs hg
              have HS9 := Lib.hid hs
              have HO9 := Lib.hid (HO24.out.kept hg (fun ad e => by have := (HO24.out.base_le ad e).1; intro e2; injection e2 with e2; omega))
              clear hs hg
              refine hK _ _ ?_
              clear hK
              simp only [Act.put]
              refine wpAny_done (by kernel_rfl) ?_ _
              go_wp2_with fail
              go_meet
              case rel => exact ⟨A24, c24, HS9.out, HO9.out.mono hzv⟩
            · refine wp_bs1L Tryd.underlying22 (z := 32) (by kernel_rfl) (by omega) (by omega) (v0 := .agg (Array.replicate 32 (.int .u8 0))) (by kernel_rfl) _ rfl (u8v y) rfl (HS.nil _) ?_
              intro b23 w23 hb23 hc23 hs
              have HB23 := Lib.hid (hs.out (by simp; omega))
              have HR23 := Lib.hid (hs.row 0 rfl)
              have hl23 : b23 < w23.heap.size := hs.lt 0 rfl
              clear hs
              have HS23 := Lib.hid (HS21.out.below HB23.out)
              have HO1623 := Lib.hid (HO16.out.all HB23.out)
              have hz23 := HB23.out.size
              refine hK _ _ ?_
              clear hK
              simp only [Act.put, List.setIfInBounds_toArray, List.set_cons_succ, List.set_cons_zero]
              refine ord_step (i := 6) rfl (by kernel_rfl) rfl (fun K hK => ?_)
              refine wp_appZ _ (.tmp 16) (.tmp 20) 22 wv.heap.size (e := 30) (z := .agg (Array.replicate 32 (.int .u8 0))) (k := 32) (bytes := 32) (by kernel_rfl) Tryd.underlying22 (by rfl) (by omega) rfl n (u8v x) rfl rfl (HO1623.out.mono (by omega)) (HX.out _ _ hb5 HS23.out) (fun _ _ => rfl) (by omega) (cat_none x _) ⟨by omega, by omega⟩ (by omega) ?_
              intro A21 c21 w21 ho hg ha
              have hs21 := hg.size
              have HO21 := Lib.hid ho
              have HS21 := Lib.hid (HS23.out.appO (A := some ⟨b16, 0, none⟩) hg (B := b16) (fun ad e => by injection e with e; rw [← e]; exact Nat.le_refl _) (by simp; omega))
              have HR23b := Lib.hid (HR23.out.of_block (hg.block b23 (by omega) (fun e => by injection e with e; have e2 : b23 = b16 := e; omega)))
              clear ho hg ha
              refine hK _ _ ?_
              clear hK
              simp only [Act.put, List.setIfInBounds_toArray, List.set_cons_succ, List.set_cons_zero]
              refine ord_step (i := 9) rfl (by kernel_rfl) rfl (fun K hK => ?_)
              refine wp_appZ _ (.tmp 21) (.tmp 23) 22 wv.heap.size (e := 30) (z := .agg (Array.replicate 32 (.int .u8 0))) (k := 32) (bytes := 32) (by kernel_rfl) Tryd.underlying22 (by rfl) (by omega) rfl (n + 1) (u8v (appN x n y)) rfl rfl HO21.out (Rd.of_row (n := 1 * 32) HR23b.out (Nat.le_refl _) HR23b.out.lt) (fun _ _ => rfl) rfl (TreeApp.cat_app n x y) ⟨by omega, by omega⟩ (by omega) ?_
              intro A24 c24 w24 ho hg ha
              have HO24 := Lib.hid ho
              have HS24 := Lib.hid (HS21.out.appO hg (B := wv.heap.size) (fun ad e => (HO21.out.base_le ad e).1) (by simp; omega))
              clear ho hg ha
              refine hK _ _ ?_
              clear hK
              simp only [Act.put, List.setIfInBounds_toArray, List.set_cons_succ, List.set_cons_zero]
              refine ord_take (i := 10) (.pointer (some ⟨p, 0, none⟩)) rfl (by kernel_rfl) (by kernel_rfl) (by kernel_rfl) rfl (fun _ _ _ h => h) (ex_nil rfl rfl) ?_
              simp only [Act.put, List.setIfInBounds_toArray, List.set_cons_succ, List.set_cons_zero]
              refine ord_take (i := 11) (.pointer (some ⟨p, 1, none⟩)) rfl (by kernel_rfl) (by kernel_rfl) (by kernel_rfl) rfl (fun _ _ _ h => h) (ex_fld rfl rfl (fun w => by simp [go_sem])) ?_
              simp only [Act.put, List.setIfInBounds_toArray, List.set_cons_succ, List.set_cons_zero]
              refine ord_step (i := 12) rfl (by kernel_rfl) rfl (fun K hK => ?_)
              refine TreeNew.wp_st1G 22 (.tmp 26) (.tmp 24) rfl HS24.out 1 rfl 1 (.slice A24 (n + 1) c24) (StCopy.stSlR _ _ _) rfl rfl (show 1 < 2 by omega) (rfF l A24 (n + 1) c24) (rf_step _ _ _ _ _ _ _) ?_
              intro w9 hs hg
              have HS9 := Lib.hid hs
              have HO9 := Lib.hid (HO24.out.kept hg (fun ad e => by have := (HO24.out.base_le ad e).1; intro e2; injection e2 with e2; omega))
              clear hs hg
              refine hK _ _ ?_
              clear hK
              simp only [Act.put]
              refine wpAny_done (by kernel_rfl) ?_ _
              go_wp2_with fail
              go_meet
              case rel => exact ⟨A24, c24, HS9.out, HO9.out.mono hzv⟩
          · refine wp_bs1L Tryd.underlying22 (z := 32) (by kernel_rfl) (by omega) (by omega) (v0 := .agg (Array.replicate 32 (.int .u8 0))) (by kernel_rfl) _ rfl (u8v y) rfl (HS.nil _) ?_
            intro b23 w23 hb23 hc23 hs
            have HB23 := Lib.hid (hs.out (by simp; omega))
            have HR23 := Lib.hid (hs.row 0 rfl)
            have hl23 : b23 < w23.heap.size := hs.lt 0 rfl
            clear hs
            have HS24 := Lib.hid (HSv.out.below HB23.out)
            have hz24 := HB23.out.size
            refine hK _ _ ?_
            clear hK
            simp only [Act.put, List.setIfInBounds_toArray, List.set_cons_succ, List.set_cons_zero]
            refine ord_step (i := 1) rfl (by kernel_rfl) rfl (fun K hK => ?_)
            refine wp_bs0L (z := 32) rfl run_bs0_R ?_
            intro b16 w16 hb16 ho hb
            have hl16 := (ho.base_le _ rfl).2
            have HB16 := Lib.hid hb
            have HO16 := Lib.hid ho
            clear ho hb
            simp only at hl16
            have HS25 := Lib.hid (HS24.out.below HB16.out)
            have HR2325 := Lib.hid (row_below HR23.out HB16.out HR23.out.lt)
            have hz25 := HB16.out.size
            refine hK _ _ ?_
            clear hK
            simp only [Act.put, List.setIfInBounds_toArray, List.set_cons_succ, List.set_cons_zero]
            refine ord_step (i := 6) rfl (by kernel_rfl) rfl (fun K hK => ?_)
            refine wp_appZ _ (.tmp 16) (.tmp 20) 22 wv.heap.size (e := 30) (z := .agg (Array.replicate 32 (.int .u8 0))) (k := 32) (bytes := 32) (by kernel_rfl) Tryd.underlying22 (by rfl) (by omega) rfl n (u8v x) rfl rfl (HO16.out.mono (by omega)) (HX.out _ _ hb5 HS25.out) (fun _ _ => rfl) (by omega) (cat_none x _) ⟨by omega, by omega⟩ (by omega) ?_
            intro A21 c21 w21 ho hg ha
            have hs21 := hg.size
            have HO21 := Lib.hid ho
            have HS21 := Lib.hid (HS25.out.appO (A := some ⟨b16, 0, none⟩) hg (B := b16) (fun ad e => by injection e with e; rw [← e]; exact Nat.le_refl _) (by simp; omega))
            have HR23b := Lib.hid (HR2325.out.of_block (hg.block b23 (by omega) (fun e => by injection e with e; have e2 : b23 = b16 := e; omega)))
            clear ho hg ha
            refine hK _ _ ?_
            clear hK
            simp only [Act.put, List.setIfInBounds_toArray, List.set_cons_succ, List.set_cons_zero]
            refine ord_step (i := 9) rfl (by kernel_rfl) rfl (fun K hK => ?_)
            refine wp_appZ _ (.tmp 21) (.tmp 23) 22 wv.heap.size (e := 30) (z := .agg (Array.replicate 32 (.int .u8 0))) (k := 32) (bytes := 32) (by kernel_rfl) Tryd.underlying22 (by rfl) (by omega) rfl (n + 1) (u8v (appN x n y)) rfl rfl HO21.out (Rd.of_row (n := 1 * 32) HR23b.out (Nat.le_refl _) HR23b.out.lt) (fun _ _ => rfl) rfl (TreeApp.cat_app n x y) ⟨by omega, by omega⟩ (by omega) ?_
            intro A24 c24 w24 ho hg ha
            have HO24 := Lib.hid ho
            have HS24 := Lib.hid (HS21.out.appO hg (B := wv.heap.size) (fun ad e => (HO21.out.base_le ad e).1) (by simp; omega))
            clear ho hg ha
            refine hK _ _ ?_
            clear hK
            simp only [Act.put, List.setIfInBounds_toArray, List.set_cons_succ, List.set_cons_zero]
            refine ord_take (i := 10) (.pointer (some ⟨p, 0, none⟩)) rfl (by kernel_rfl) (by kernel_rfl) (by kernel_rfl) rfl (fun _ _ _ h => h) (ex_nil rfl rfl) ?_
            simp only [Act.put, List.setIfInBounds_toArray, List.set_cons_succ, List.set_cons_zero]
            refine ord_take (i := 11) (.pointer (some ⟨p, 1, none⟩)) rfl (by kernel_rfl) (by kernel_rfl) (by kernel_rfl) rfl (fun _ _ _ h => h) (ex_fld rfl rfl (fun w => by simp [go_sem])) ?_
            simp only [Act.put, List.setIfInBounds_toArray, List.set_cons_succ, List.set_cons_zero]
            refine ord_step (i := 12) rfl (by kernel_rfl) rfl (fun K hK => ?_)
            refine TreeNew.wp_st1G 22 (.tmp 26) (.tmp 24) rfl HS24.out 1 rfl 1 (.slice A24 (n + 1) c24) (StCopy.stSlR _ _ _) rfl rfl (show 1 < 2 by omega) (rfF l A24 (n + 1) c24) (rf_step _ _ _ _ _ _ _) ?_
            intro w9 hs hg
            have HS9 := Lib.hid hs
            have HO9 := Lib.hid (HO24.out.kept hg (fun ad e => by have := (HO24.out.base_le ad e).1; intro e2; injection e2 with e2; omega))
            clear hs hg
            refine hK _ _ ?_
            clear hK
            simp only [Act.put]
            refine wpAny_done (by kernel_rfl) ?_ _
            go_wp2_with fail
            go_meet
            case rel => exact ⟨A24, c24, HS9.out, HO9.out.mono hzv⟩
        · refine wp_bs1L Tryd.underlying22 (z := 32) (by kernel_rfl) (by omega) (by omega) (v0 := .agg (Array.replicate 32 (.int .u8 0))) (by kernel_rfl) _ rfl (u8v y) rfl (HS.nil _) ?_
          intro b23 w23 hb23 hc23 hs
          have HB23 := Lib.hid (hs.out (by simp; omega))
          have HR23 := Lib.hid (hs.row 0 rfl)
          have hl23 : b23 < w23.heap.size := hs.lt 0 rfl
          clear hs
          have HS26 := Lib.hid (HSv.out.below HB23.out)
          have hz26 := HB23.out.size
          refine hK _ _ ?_
          clear hK
          simp only [Act.put, List.setIfInBounds_toArray, List.set_cons_succ, List.set_cons_zero]
          refine ord_two (i := 1) (j := 5) rfl rfl (by kernel_rfl) rfl rfl (fun K hK => ?_) (fun K hK => ?_)
          · refine wp_bs0L (z := 32) rfl run_bs0_R ?_
            intro b16 w16 hb16 ho hb
            have hl16 := (ho.base_le _ rfl).2
            have HB16 := Lib.hid hb
            have HO16 := Lib.hid ho
            clear ho hb
            simp only at hl16
            have HS27 := Lib.hid (HS26.out.below HB16.out)
            have HR2327 := Lib.hid (row_below HR23.out HB16.out HR23.out.lt)
            have hz27 := HB16.out.size
            refine hK _ _ ?_
            clear hK
            simp only [Act.put, List.setIfInBounds_toArray, List.set_cons_succ, List.set_cons_zero]
            refine ord_step (i := 5) rfl (by kernel_rfl) rfl (fun K hK => ?_)
            refine wp_as (.slice A n c) (ex_ldSl rfl rfl Tryd.underlying22 ((HS27.out.row 1 rfl).cell (show 1 < 2 by omega)) rfl) ?_
            refine hK _ _ ?_
            clear hK
            simp only [Act.put, List.setIfInBounds_toArray, List.set_cons_succ, List.set_cons_zero]
            refine ord_step (i := 6) rfl (by kernel_rfl) rfl (fun K hK => ?_)
            refine wp_appZ _ (.tmp 16) (.tmp 20) 22 wv.heap.size (e := 30) (z := .agg (Array.replicate 32 (.int .u8 0))) (k := 32) (bytes := 32) (by kernel_rfl) Tryd.underlying22 (by rfl) (by omega) rfl n (u8v x) rfl rfl (HO16.out.mono (by omega)) (HX.out _ _ hb5 HS27.out) (fun _ _ => rfl) (by omega) (cat_none x _) ⟨by omega, by omega⟩ (by omega) ?_
            intro A21 c21 w21 ho hg ha
            have hs21 := hg.size
            have HO21 := Lib.hid ho
            have HS21 := Lib.hid (HS27.out.appO (A := some ⟨b16, 0, none⟩) hg (B := b16) (fun ad e => by injection e with e; rw [← e]; exact Nat.le_refl _) (by simp; omega))
            have HR23b := Lib.hid (HR2327.out.of_block (hg.block b23 (by omega) (fun e => by injection e with e; have e2 : b23 = b16 := e; omega)))
            clear ho hg ha
            refine hK _ _ ?_
            clear hK
            simp only [Act.put, List.setIfInBounds_toArray, List.set_cons_succ, List.set_cons_zero]
            refine ord_step (i := 9) rfl (by kernel_rfl) rfl (fun K hK => ?_)
            refine wp_appZ _ (.tmp 21) (.tmp 23) 22 wv.heap.size (e := 30) (z := .agg (Array.replicate 32 (.int .u8 0))) (k := 32) (bytes := 32) (by kernel_rfl) Tryd.underlying22 (by rfl) (by omega) rfl (n + 1) (u8v (appN x n y)) rfl rfl HO21.out (Rd.of_row (n := 1 * 32) HR23b.out (Nat.le_refl _) HR23b.out.lt) (fun _ _ => rfl) rfl (TreeApp.cat_app n x y) ⟨by omega, by omega⟩ (by omega) ?_
            intro A24 c24 w24 ho hg ha
            have HO24 := Lib.hid ho
            have HS24 := Lib.hid (HS21.out.appO hg (B := wv.heap.size) (fun ad e => (HO21.out.base_le ad e).1) (by simp; omega))
            clear ho hg ha
            refine hK _ _ ?_
            clear hK
            simp only [Act.put, List.setIfInBounds_toArray, List.set_cons_succ, List.set_cons_zero]
            refine ord_take (i := 10) (.pointer (some ⟨p, 0, none⟩)) rfl (by kernel_rfl) (by kernel_rfl) (by kernel_rfl) rfl (fun _ _ _ h => h) (ex_nil rfl rfl) ?_
            simp only [Act.put, List.setIfInBounds_toArray, List.set_cons_succ, List.set_cons_zero]
            refine ord_take (i := 11) (.pointer (some ⟨p, 1, none⟩)) rfl (by kernel_rfl) (by kernel_rfl) (by kernel_rfl) rfl (fun _ _ _ h => h) (ex_fld rfl rfl (fun w => by simp [go_sem])) ?_
            simp only [Act.put, List.setIfInBounds_toArray, List.set_cons_succ, List.set_cons_zero]
            refine ord_step (i := 12) rfl (by kernel_rfl) rfl (fun K hK => ?_)
            refine TreeNew.wp_st1G 22 (.tmp 26) (.tmp 24) rfl HS24.out 1 rfl 1 (.slice A24 (n + 1) c24) (StCopy.stSlR _ _ _) rfl rfl (show 1 < 2 by omega) (rfF l A24 (n + 1) c24) (rf_step _ _ _ _ _ _ _) ?_
            intro w9 hs hg
            have HS9 := Lib.hid hs
            have HO9 := Lib.hid (HO24.out.kept hg (fun ad e => by have := (HO24.out.base_le ad e).1; intro e2; injection e2 with e2; omega))
            clear hs hg
            refine hK _ _ ?_
            clear hK
            simp only [Act.put]
            refine wpAny_done (by kernel_rfl) ?_ _
            go_wp2_with fail
            go_meet
            case rel => exact ⟨A24, c24, HS9.out, HO9.out.mono hzv⟩
          · refine wp_as (.slice A n c) (ex_ldSl rfl rfl Tryd.underlying22 ((HS26.out.row 1 rfl).cell (show 1 < 2 by omega)) rfl) ?_
            refine hK _ _ ?_
            clear hK
            simp only [Act.put, List.setIfInBounds_toArray, List.set_cons_succ, List.set_cons_zero]
            refine ord_step (i := 1) rfl (by kernel_rfl) rfl (fun K hK => ?_)
            refine wp_bs0L (z := 32) rfl run_bs0_R ?_
            intro b16 w16 hb16 ho hb
            have hl16 := (ho.base_le _ rfl).2
            have HB16 := Lib.hid hb
            have HO16 := Lib.hid ho
            clear ho hb
            simp only at hl16
            have HS28 := Lib.hid (HS26.out.below HB16.out)
            have HR2328 := Lib.hid (row_below HR23.out HB16.out HR23.out.lt)
            have hz28 := HB16.out.size
            refine hK _ _ ?_
            clear hK
            simp only [Act.put, List.setIfInBounds_toArray, List.set_cons_succ, List.set_cons_zero]
            refine ord_step (i := 6) rfl (by kernel_rfl) rfl (fun K hK => ?_)
            refine wp_appZ _ (.tmp 16) (.tmp 20) 22 wv.heap.size (e := 30) (z := .agg (Array.replicate 32 (.int .u8 0))) (k := 32) (bytes := 32) (by kernel_rfl) Tryd.underlying22 (by rfl) (by omega) rfl n (u8v x) rfl rfl (HO16.out.mono (by omega)) (HX.out _ _ hb5 HS28.out) (fun _ _ => rfl) (by omega) (cat_none x _) ⟨by omega, by omega⟩ (by omega) ?_
            intro A21 c21 w21 ho hg ha
            have hs21 := hg.size
            have HO21 := Lib.hid ho
            have HS21 := Lib.hid (HS28.out.appO (A := some ⟨b16, 0, none⟩) hg (B := b16) (fun ad e => by injection e with e; rw [← e]; exact Nat.le_refl _) (by simp; omega))
            have HR23b := Lib.hid (HR2328.out.of_block (hg.block b23 (by omega) (fun e => by injection e with e; have e2 : b23 = b16 := e; omega)))
            clear ho hg ha
            refine hK _ _ ?_
            clear hK
            simp only [Act.put, List.setIfInBounds_toArray, List.set_cons_succ, List.set_cons_zero]
            refine ord_step (i := 9) rfl (by kernel_rfl) rfl (fun K hK => ?_)
            refine wp_appZ _ (.tmp 21) (.tmp 23) 22 wv.heap.size (e := 30) (z := .agg (Array.replicate 32 (.int .u8 0))) (k := 32) (bytes := 32) (by kernel_rfl) Tryd.underlying22 (by rfl) (by omega) rfl (n + 1) (u8v (appN x n y)) rfl rfl HO21.out (Rd.of_row (n := 1 * 32) HR23b.out (Nat.le_refl _) HR23b.out.lt) (fun _ _ => rfl) rfl (TreeApp.cat_app n x y) ⟨by omega, by omega⟩ (by omega) ?_
            intro A24 c24 w24 ho hg ha
            have HO24 := Lib.hid ho
            have HS24 := Lib.hid (HS21.out.appO hg (B := wv.heap.size) (fun ad e => (HO21.out.base_le ad e).1) (by simp; omega))
            clear ho hg ha
            refine hK _ _ ?_
            clear hK
            simp only [Act.put, List.setIfInBounds_toArray, List.set_cons_succ, List.set_cons_zero]
            refine ord_take (i := 10) (.pointer (some ⟨p, 0, none⟩)) rfl (by kernel_rfl) (by kernel_rfl) (by kernel_rfl) rfl (fun _ _ _ h => h) (ex_nil rfl rfl) ?_
            simp only [Act.put, List.setIfInBounds_toArray, List.set_cons_succ, List.set_cons_zero]
            refine ord_take (i := 11) (.pointer (some ⟨p, 1, none⟩)) rfl (by kernel_rfl) (by kernel_rfl) (by kernel_rfl) rfl (fun _ _ _ h => h) (ex_fld rfl rfl (fun w => by simp [go_sem])) ?_
            simp only [Act.put, List.setIfInBounds_toArray, List.set_cons_succ, List.set_cons_zero]
            refine ord_step (i := 12) rfl (by kernel_rfl) rfl (fun K hK => ?_)
            refine TreeNew.wp_st1G 22 (.tmp 26) (.tmp 24) rfl HS24.out 1 rfl 1 (.slice A24 (n + 1) c24) (StCopy.stSlR _ _ _) rfl rfl (show 1 < 2 by omega) (rfF l A24 (n + 1) c24) (rf_step _ _ _ _ _ _ _) ?_
            intro w9 hs hg
            have HS9 := Lib.hid hs
            have HO9 := Lib.hid (HO24.out.kept hg (fun ad e => by have := (HO24.out.base_le ad e).1; intro e2; injection e2 with e2; omega))
            clear hs hg
            refine hK _ _ ?_
            clear hK
            simp only [Act.put]
            refine wpAny_done (by kernel_rfl) ?_ _
            go_wp2_with fail
            go_meet
            case rel => exact ⟨A24, c24, HS9.out, HO9.out.mono hzv⟩
    case rest =>
      obtain ⟨A24, c24, hs, ho⟩ := hcut
      have HS9 := Lib.hid hs
      have HO9 := Lib.hid ho
      clear hs ho
      go_wp2_with fail
      go_ret
      exact ⟨A24, c24, rfl, ⟨HS9.out.row 1 rfl, HO9.out.rd, HO9.out.cap, fun b hb => by have := (HO9.out.on hb).1; omega⟩, HS9.out.grown p (by simp; omega), fun b hb => by have := (HO9.out.on hb).1; omega⟩
end Go.Proofs.YtlcpflaofggmeaaDoor
