/- A part of what the proofs stand on: HashU64, Pow2, HashDone. -/
import Derived.Test.YtomilckcgmhfcaaDoorGLiv1
import Derived.Test.YtomilckcgmhfcaaDoorGLiv9
import Derived.Test.YtomilckcgmhfcaaDoorGLiv7
import Derived.Test.YtomilckcgmhfcaaDoorGLiv8
import Derived.Test.YtomilckcgmhfcaaDoorGLiv6
import Derived.ScopeJumps
/- wire.Hash: a number as a chunk. (Printed by a program of mine.) -/
namespace Go.Proofs.YtomilckcgmhfcaaDoor
set_option maxRecDepth 40000
open Go.RowKit
namespace HashU64
theorem lay8 (v : Nat) : ∀ j, j < 32 → (if 0 ≤ j ∧ j < 0 + 8 then u8v (leB v) (j - 0) else u8v (fun _ => 0) j) = u8v (padN 8 (leB v)) j := fun j _ => by
 unfold padN
 by_cases h : j < 8
 ·rw [if_pos (by omega)]; simp only [u8v]; rw [if_pos h]; rfl
 ·rw [if_neg (by omega)]; simp only [u8v]; rw [if_neg h]
end HashU64
open HashU64 in
set_option maxHeartbeats 4000000 in
theorem u64_look (B base g n v : Nat) (x : Nat → Nat) (w : World) (hH : HashIs w base g n x) (hBb : B ≤ base) (hBg : B ≤ g) (hbw : base ≤ w.heap.size) (hn : n ≤ 1099511627776) :
  Calls Tryd.prog 54 #[.pointer (some ⟨g, 0, none⟩), .int .u64 (v : Int)] w fun e w' => e = .returned (.tuple #[]) ∧ HashIs w' base g (n + 1) (catN (n * 32) x (padN 8 (leB v))) ∧ Below B w w' := by
 obtain ⟨A, c, hr, ho, hne⟩ := hH
 have HO := Lib.hid ho
 have HNe := Lib.hid hne
 have hgl := hr.lt
 have hBw : B ≤ w.heap.size := Nat.le_trans hBb hbw
 have HS0 := Lib.hid ((HS.nil w).take hr (fun r hr => by cases hr))
 clear hr ho hne
 go_enter Tryd.func54, Tryd.ntmps54
 go_wp2_with (first
  | (refine wpList_allocL rfl 24 4 rfl rfl HS0.out (Array.replicate 32 (.int .u8 0)) (by kernel_rfl) 32 (u8v fun _ => 0) (by rfl) (zero_at 32 (.int .u8 0)) ?_; intro b4 w4 hb4 hc4 hs; have HS4 := Lib.hid hs; clear hs)
  | (go_at_call 55; refine (bytes_look v _).mono ?_; rintro e w5 ⟨rfl, hb⟩; have HS5 := Lib.hid (HS4.out.below hb); clear hb)
  | (refine wpList_allocL rfl 108 5 rfl rfl HS5.out (Array.replicate 8 (.int .u8 0)) (by kernel_rfl) 8 (u8v fun _ => 0) (by rfl) (zero_at 8 (.int .u8 0)) ?_; intro b5 w5b hb5 hc5 hs; have HS5b := Lib.hid hs; clear hs)
  | (refine wpList_storeH rfl 108 (.tmp 5) (.tmp 7) rfl HS5b.out 0 rfl (u8v (leB v)) rfl rfl (by kernel_rfl) (fun _ _ => rfl) ?_; intro w6 hs; have HS6 := Lib.hid hs; clear hs))
 refine wp_region_factsS (l := [_, _]) (tl := []) (B := w6.heap.size) (w0 := w6) [SF.is (.slice (some ⟨b4, 0, none⟩) (32) (32)), SF.is (.slice (some ⟨b5, 0, none⟩) (8) (8))] (by kernel_rfl) (by kernel_rfl) rfl (Nat.le_refl _) (Below.refl _ _) ⟨?_, ?_, trivial⟩ ?_
 ·exact opOb_slc rfl rfl (OpK.tmp rfl) (OpKo.no) (OpKo.no) (fun w => cut_arr Tryd.underlying24 1 (by kernel_rfl) none none (0) (32) (.inl ⟨rfl, rfl⟩) (.inl ⟨rfl, rfl⟩) (by omega) (by omega) (by omega) (by omega) (by omega) (by omega))
 ·exact opOb_slc rfl rfl (OpK.tmp rfl) (OpKo.no) (OpKo.no) (fun w => cut_arr Tryd.underlying108 1 (by kernel_rfl) none none (0) (8) (.inl ⟨rfl, rfl⟩) (.inl ⟨rfl, rfl⟩) (by omega) (by omega) (by omega) (by omega) (by omega) (by omega))
 ·intro w' hb
  simp only [fin, SF.is, forall_eq]
  simp only [pcX]
  have hs := HS6.out.below hb
  refine wp_copyL rfl Tryd.underlying39 (by kernel_rfl) hs 1 rfl 0 32 32 (Rd.of_row (hs.row 0 rfl) (Nat.le_refl _) (hs.lt 0 rfl)) (fun _ _ => rfl) 8 rfl (by omega) rfl rfl _ (lay8 v) ?_
  clear hs hb
  intro wa hs
  have hA : HS w wa [⟨b5, 108, 8, u8v (leB v)⟩, ⟨b4, 24, 32, u8v (padN 8 (leB v))⟩, ⟨g, 90, 2, hashF A n c⟩] := hs
  have HA := Lib.hid hA
  have hsz := hA.size
  have HOa := Lib.hid (HO.out.hs hA (fun ad e => by have := HNe.out ad e; have h2 := (HO.out.base_le ad e).2; simp; omega))
  have HWa := Lib.hid (hA.old hBw (by simp; omega))
  clear hs hA HS0 HS4 HS5 HS5b HS6
  simp only [seqWp]
  go_wp2_with fail
  refine ord_enter (n := 11) (by kernel_rfl) (by kernel_rfl) ?_
  have HA2 := Lib.hid HA.out.drew
  have HOa2 : Hid (OwnZ wa.drew base 24 32 A n c (u8v x)) := Lib.hid HOa.out
  have HWa2 : Hid (Below B w wa.drew) := Lib.hid ⟨HWa.out.os, HWa.out.tape, HWa.out.output, HWa.out.size, HWa.out.block⟩
  have hsz2 : w.heap.size ≤ wa.drew.heap.size := hsz
  clear HA HOa HWa hsz
  have HA := HA2
  have HOa := HOa2
  have HWa := HWa2
  have hsz := hsz2
  clear HA2 HOa2 HWa2 hsz2
  generalize wa.drew = wv at HA HOa HWa hsz ⊢
  refine ord_take (i := 0) (.pointer (some ⟨g, 0, none⟩)) rfl (by kernel_rfl) (by kernel_rfl) (by kernel_rfl) rfl (fun _ _ _ h => h) (ex_move (.inl rfl) rfl) ?_
  refine ord_take (i := 1) (.pointer (some ⟨g, 0, none⟩)) rfl (by kernel_rfl) (by kernel_rfl) (by kernel_rfl) rfl (fun _ _ _ h => h) (ex_move (.inl rfl) rfl) ?_
  refine ord_take (i := 2) (.pointer (some ⟨g, 0, none⟩)) rfl (by kernel_rfl) (by kernel_rfl) (by kernel_rfl) rfl (fun _ _ _ h => h) (ex_nil rfl rfl) ?_
  refine ord_take (i := 3) (.pointer (some ⟨g, 0, none⟩)) rfl (by kernel_rfl) (by kernel_rfl) (by kernel_rfl) rfl (fun _ _ _ h => h) (ex_fld rfl rfl (fun w => by simp [go_sem])) ?_
  simp only [pcX]
  refine ord_two (i := 4) (j := 5) rfl rfl (by kernel_rfl) rfl rfl (fun K hK => ?_) (fun K hK => ?_)
  ·refine wp_ex (.slice A n c) (ex_ldsl rfl rfl (ld_sl _ _ wv ((HA.out.row 2 rfl).cell (i := 0) (by show 0 < 2; omega)))) ?_
   refine hK _ _ ?_
   clear hK
   simp only [pcX]
   refine ord_step (i := 5) rfl (by kernel_rfl) rfl (fun K hK => ?_)
   refine wp_ex (rootV (padN 8 (leB v))) (ex_ldroot (r := (padN 8 (leB v))) rfl rfl wv (HA.out.row 1 rfl)) ?_
   refine hK _ _ ?_
   clear hK
   simp only [pcX]
   refine ord_step (i := 6) rfl (by kernel_rfl) rfl (fun K hK => ?_)
   refine wp_bs1L Tryd.underlying32 (z := 32) (by kernel_rfl) (by omega) (by omega) (v0 := .agg (Array.replicate 32 (.int .u8 0))) (by kernel_rfl) _ rfl (u8v (padN 8 (leB v))) rfl (HS.nil wv) ?_
   intro b21 wl hb21 _ hl
   have HL := Lib.hid hl
   clear hl
   refine hK _ _ ?_
   clear hK
   simp only [pcX]
   have hwl := HL.out
   have hb := hwl.out (by simp; omega)
   have ho' := HOa.out.all hb
   have hr21 := Rd.of_row (hwl.row 0 rfl) (Nat.le_refl _) (hwl.lt 0 rfl)
   have hbw' : base ≤ wl.heap.size := Nat.le_trans hbw (Nat.le_trans hsz hb.size)
   have hwb := HWa.out.trans (hb.mono (Nat.le_trans hBw hsz))
   have hrg : wl.rowIs g 90 2 (hashF A n c) := row_below (HA.out.row 2 rfl) hb (HA.out.row 2 rfl).lt
   refine ord_step (i := 7) rfl (by kernel_rfl) rfl (fun K hK => ?_)
   refine wp_appZ wl (.tmp 15) (.tmp 17) 32 base (z := .agg (Array.replicate 32 (.int .u8 0))) (k := 32) (bytes := 32) (by kernel_rfl) Tryd.underlying32 (by rfl) (by omega) rfl (n + 1) (u8v (catN (n * 32) x (padN 8 (leB v)))) rfl rfl ho' hr21 (fun _ _ => rfl) rfl cat_h ⟨by omega, by omega⟩ hbw' ?_
   intro A22 c22 w22 ho22 hg22 ha22
   have hrg2 := hrg.of_block (hg22.block g hrg.lt (fun e => by
    cases A with
    | none => cases e
    | some ad => injection e with e; exact HNe.out ad rfl e.symm))
   have hw22 := below_app hwb hg22 (Nat.le_trans hBb hbw') (fun ad e => Nat.le_trans hBb (HO.out.base_le ad e).1)
   have hne22 : ∀ ad, A22 = some ad → ad.block ≠ g := fun ad e => by
    rcases ha22 ad e with h | h
    ·cases A with
     | none => cases h
     | some ad' => injection h with h; rw [h]; exact HNe.out ad' rfl
    ·have := hrg.lt; omega
   have HO22 := Lib.hid ho22
   clear ho' hbw' hwb hrg hg22 ha22 ho22 hb hr21 hwl
   refine hK _ _ ?_
   clear hK
   simp only [pcX]
   refine ord_step (i := 8) rfl (by kernel_rfl) rfl (fun K hK => ?_)
   refine wp_ex (.pointer (some ⟨g, 0, none⟩)) (ex_nil rfl rfl _) ?_
   refine hK _ _ ?_
   clear hK
   simp only [pcX]
   refine ord_step (i := 9) rfl (by kernel_rfl) rfl (fun K hK => ?_)
   refine wp_ex (.pointer (some ⟨g, 0, none⟩)) (ex_fld rfl rfl (fun w => by simp [go_sem]) _) ?_
   refine hK _ _ ?_
   clear hK
   simp only [pcX]
   refine ord_step (i := 10) rfl (by kernel_rfl) rfl (fun K hK => ?_)
   refine wp_store rfl rfl (v := .slice A22 (n + 1) c22) rfl rfl (st_sl ⟨g, 0, none⟩ A22 (n + 1) c22 _ w22 (hrg2.cell (i := 0) (by show 0 < 2; omega)) (hrg2.frozen 0)) ?_
   refine hK _ _ (wpAny_done (by kernel_rfl) ?_ _)
   clear hK
   have hg := grown_setCell (World.grownBy.refl w22 (some g)) (.inl rfl) (.slice A22 (n + 1) c22) (p := ⟨g, 0, none⟩)
   have hr3 := (hrg2.set 0 (.slice A22 (n + 1) c22)).congr (g := hashF A22 (n + 1) c22) (fun i hi => by
    by_cases e : i = 0
    ·subst e; rfl
    ·show (if i = 0 then _ else hashF A n c i) = hashF A22 (n + 1) c22 i
     rw [if_neg e]; unfold hashF; rw [if_neg e, if_neg e])
   have ho3 := HO22.out.kept hg (fun ad e h => by injection h with h; exact hne22 ad e h)
   have hw3 := hw22.grown hg (Nat.le_trans hBw hw22.size) (fun k hk => by injection hk with hk; omega)
   go_wp2_with fail
   go_end0
   exact ⟨rfl, ⟨A22, c22, hr3, ho3, hne22⟩, hw3⟩
  ·refine wp_ex (rootV (padN 8 (leB v))) (ex_ldroot (r := (padN 8 (leB v))) rfl rfl wv (HA.out.row 1 rfl)) ?_
   refine hK _ _ ?_
   clear hK
   simp only [pcX]
   refine ord_two (i := 4) (j := 6) rfl rfl (by kernel_rfl) rfl rfl (fun K hK => ?_) (fun K hK => ?_)
   ·refine wp_ex (.slice A n c) (ex_ldsl rfl rfl (ld_sl _ _ wv ((HA.out.row 2 rfl).cell (i := 0) (by show 0 < 2; omega)))) ?_
    refine hK _ _ ?_
    clear hK
    simp only [pcX]
    refine ord_step (i := 6) rfl (by kernel_rfl) rfl (fun K hK => ?_)
    refine wp_bs1L Tryd.underlying32 (z := 32) (by kernel_rfl) (by omega) (by omega) (v0 := .agg (Array.replicate 32 (.int .u8 0))) (by kernel_rfl) _ rfl (u8v (padN 8 (leB v))) rfl (HS.nil wv) ?_
    intro b21 wl hb21 _ hl
    have HL := Lib.hid hl
    clear hl
    refine hK _ _ ?_
    clear hK
    simp only [pcX]
    have hwl := HL.out
    have hb := hwl.out (by simp; omega)
    have ho' := HOa.out.all hb
    have hr21 := Rd.of_row (hwl.row 0 rfl) (Nat.le_refl _) (hwl.lt 0 rfl)
    have hbw' : base ≤ wl.heap.size := Nat.le_trans hbw (Nat.le_trans hsz hb.size)
    have hwb := HWa.out.trans (hb.mono (Nat.le_trans hBw hsz))
    have hrg : wl.rowIs g 90 2 (hashF A n c) := row_below (HA.out.row 2 rfl) hb (HA.out.row 2 rfl).lt
    refine ord_step (i := 7) rfl (by kernel_rfl) rfl (fun K hK => ?_)
    refine wp_appZ wl (.tmp 15) (.tmp 17) 32 base (z := .agg (Array.replicate 32 (.int .u8 0))) (k := 32) (bytes := 32) (by kernel_rfl) Tryd.underlying32 (by rfl) (by omega) rfl (n + 1) (u8v (catN (n * 32) x (padN 8 (leB v)))) rfl rfl ho' hr21 (fun _ _ => rfl) rfl cat_h ⟨by omega, by omega⟩ hbw' ?_
    intro A22 c22 w22 ho22 hg22 ha22
    have hrg2 := hrg.of_block (hg22.block g hrg.lt (fun e => by
     cases A with
     | none => cases e
     | some ad => injection e with e; exact HNe.out ad rfl e.symm))
    have hw22 := below_app hwb hg22 (Nat.le_trans hBb hbw') (fun ad e => Nat.le_trans hBb (HO.out.base_le ad e).1)
    have hne22 : ∀ ad, A22 = some ad → ad.block ≠ g := fun ad e => by
     rcases ha22 ad e with h | h
     ·cases A with
      | none => cases h
      | some ad' => injection h with h; rw [h]; exact HNe.out ad' rfl
     ·have := hrg.lt; omega
    have HO22 := Lib.hid ho22
    clear ho' hbw' hwb hrg hg22 ha22 ho22 hb hr21 hwl
    refine hK _ _ ?_
    clear hK
    simp only [pcX]
    refine ord_step (i := 8) rfl (by kernel_rfl) rfl (fun K hK => ?_)
    refine wp_ex (.pointer (some ⟨g, 0, none⟩)) (ex_nil rfl rfl _) ?_
    refine hK _ _ ?_
    clear hK
    simp only [pcX]
    refine ord_step (i := 9) rfl (by kernel_rfl) rfl (fun K hK => ?_)
    refine wp_ex (.pointer (some ⟨g, 0, none⟩)) (ex_fld rfl rfl (fun w => by simp [go_sem]) _) ?_
    refine hK _ _ ?_
    clear hK
    simp only [pcX]
    refine ord_step (i := 10) rfl (by kernel_rfl) rfl (fun K hK => ?_)
    refine wp_store rfl rfl (v := .slice A22 (n + 1) c22) rfl rfl (st_sl ⟨g, 0, none⟩ A22 (n + 1) c22 _ w22 (hrg2.cell (i := 0) (by show 0 < 2; omega)) (hrg2.frozen 0)) ?_
    refine hK _ _ (wpAny_done (by kernel_rfl) ?_ _)
    clear hK
    have hg := grown_setCell (World.grownBy.refl w22 (some g)) (.inl rfl) (.slice A22 (n + 1) c22) (p := ⟨g, 0, none⟩)
    have hr3 := (hrg2.set 0 (.slice A22 (n + 1) c22)).congr (g := hashF A22 (n + 1) c22) (fun i hi => by
     by_cases e : i = 0
     ·subst e; rfl
     ·show (if i = 0 then _ else hashF A n c i) = hashF A22 (n + 1) c22 i
      rw [if_neg e]; unfold hashF; rw [if_neg e, if_neg e])
    have ho3 := HO22.out.kept hg (fun ad e h => by injection h with h; exact hne22 ad e h)
    have hw3 := hw22.grown hg (Nat.le_trans hBw hw22.size) (fun k hk => by injection hk with hk; omega)
    go_wp2_with fail
    go_end0
    exact ⟨rfl, ⟨A22, c22, hr3, ho3, hne22⟩, hw3⟩
   ·refine wp_bs1L Tryd.underlying32 (z := 32) (by kernel_rfl) (by omega) (by omega) (v0 := .agg (Array.replicate 32 (.int .u8 0))) (by kernel_rfl) _ rfl (u8v (padN 8 (leB v))) rfl (HS.nil wv) ?_
    intro b21 wl hb21 _ hl
    have HL := Lib.hid hl
    clear hl
    refine hK _ _ ?_
    clear hK
    simp only [pcX]
    refine ord_step (i := 4) rfl (by kernel_rfl) rfl (fun K hK => ?_)
    refine wp_ex (.slice A n c) (ex_ldsl rfl rfl (ld_sl _ _ wl ((row_below (HA.out.row 2 rfl) (HL.out.out (by simp; omega)) (HA.out.row 2 rfl).lt).cell (i := 0) (by show 0 < 2; omega)))) ?_
    refine hK _ _ ?_
    clear hK
    simp only [pcX]
    have hwl := HL.out
    have hb := hwl.out (by simp; omega)
    have ho' := HOa.out.all hb
    have hr21 := Rd.of_row (hwl.row 0 rfl) (Nat.le_refl _) (hwl.lt 0 rfl)
    have hbw' : base ≤ wl.heap.size := Nat.le_trans hbw (Nat.le_trans hsz hb.size)
    have hwb := HWa.out.trans (hb.mono (Nat.le_trans hBw hsz))
    have hrg : wl.rowIs g 90 2 (hashF A n c) := row_below (HA.out.row 2 rfl) hb (HA.out.row 2 rfl).lt
    refine ord_step (i := 7) rfl (by kernel_rfl) rfl (fun K hK => ?_)
    refine wp_appZ wl (.tmp 15) (.tmp 17) 32 base (z := .agg (Array.replicate 32 (.int .u8 0))) (k := 32) (bytes := 32) (by kernel_rfl) Tryd.underlying32 (by rfl) (by omega) rfl (n + 1) (u8v (catN (n * 32) x (padN 8 (leB v)))) rfl rfl ho' hr21 (fun _ _ => rfl) rfl cat_h ⟨by omega, by omega⟩ hbw' ?_
    intro A22 c22 w22 ho22 hg22 ha22
    have hrg2 := hrg.of_block (hg22.block g hrg.lt (fun e => by
     cases A with
     | none => cases e
     | some ad => injection e with e; exact HNe.out ad rfl e.symm))
    have hw22 := below_app hwb hg22 (Nat.le_trans hBb hbw') (fun ad e => Nat.le_trans hBb (HO.out.base_le ad e).1)
    have hne22 : ∀ ad, A22 = some ad → ad.block ≠ g := fun ad e => by
     rcases ha22 ad e with h | h
     ·cases A with
      | none => cases h
      | some ad' => injection h with h; rw [h]; exact HNe.out ad' rfl
     ·have := hrg.lt; omega
    have HO22 := Lib.hid ho22
    clear ho' hbw' hwb hrg hg22 ha22 ho22 hb hr21 hwl
    refine hK _ _ ?_
    clear hK
    simp only [pcX]
    refine ord_step (i := 8) rfl (by kernel_rfl) rfl (fun K hK => ?_)
    refine wp_ex (.pointer (some ⟨g, 0, none⟩)) (ex_nil rfl rfl _) ?_
    refine hK _ _ ?_
    clear hK
    simp only [pcX]
    refine ord_step (i := 9) rfl (by kernel_rfl) rfl (fun K hK => ?_)
    refine wp_ex (.pointer (some ⟨g, 0, none⟩)) (ex_fld rfl rfl (fun w => by simp [go_sem]) _) ?_
    refine hK _ _ ?_
    clear hK
    simp only [pcX]
    refine ord_step (i := 10) rfl (by kernel_rfl) rfl (fun K hK => ?_)
    refine wp_store rfl rfl (v := .slice A22 (n + 1) c22) rfl rfl (st_sl ⟨g, 0, none⟩ A22 (n + 1) c22 _ w22 (hrg2.cell (i := 0) (by show 0 < 2; omega)) (hrg2.frozen 0)) ?_
    refine hK _ _ (wpAny_done (by kernel_rfl) ?_ _)
    clear hK
    have hg := grown_setCell (World.grownBy.refl w22 (some g)) (.inl rfl) (.slice A22 (n + 1) c22) (p := ⟨g, 0, none⟩)
    have hr3 := (hrg2.set 0 (.slice A22 (n + 1) c22)).congr (g := hashF A22 (n + 1) c22) (fun i hi => by
     by_cases e : i = 0
     ·subst e; rfl
     ·show (if i = 0 then _ else hashF A n c i) = hashF A22 (n + 1) c22 i
      rw [if_neg e]; unfold hashF; rw [if_neg e, if_neg e])
    have ho3 := HO22.out.kept hg (fun ad e h => by injection h with h; exact hne22 ad e h)
    have hw3 := hw22.grown hg (Nat.le_trans hBw hw22.size) (fun k hk => by injection hk with hk; omega)
    go_wp2_with fail
    go_end0
    exact ⟨rfl, ⟨A22, c22, hr3, ho3, hne22⟩, hw3⟩
end Go.Proofs.YtomilckcgmhfcaaDoor
/- Powers of two, by 'm & (m-1)'. -/
namespace Go.Proofs.YtomilckcgmhfcaaDoor
set_option maxRecDepth 40000
theorem i64_and (a b : Nat) (ha : a < 9223372036854775808) (hb : b < 9223372036854775808) : bits .and .i64 (a : Int) (b : Int) = ((a &&& b : Nat) : Int) := by
 have h1 : (BitVec.ofInt 64 (a : Int)).toNat = a := by
  rw [BitVec.ofInt_natCast, BitVec.toNat_ofNat]; exact Nat.mod_eq_of_lt (by omega)
 have h2 : (BitVec.ofInt 64 (b : Int)).toNat = b := by
  rw [BitVec.ofInt_natCast, BitVec.toNat_ofNat]; exact Nat.mod_eq_of_lt (by omega)
 show IntKind.i64.wrap ((BitVec.ofInt 64 (a : Int) &&& BitVec.ofInt 64 (b : Int)).toNat : Int) = _
 rw [BitVec.toNat_and, h1, h2]
 have h3 : a &&& b ≤ a := Nat.and_le_left
 rw [IntKind.wrap_i64]
 omega
theorem land_pow (k : Nat) : 2 ^ k &&& (2 ^ k - 1) = 0 := by
 rw [Nat.and_two_pow_sub_one_eq_mod]; exact Nat.mod_self _
theorem land_ne (k m : Nat) (h1 : 2 ^ k < m) (h2 : m < 2 ^ (k + 1)) : m &&& (m - 1) ≠ 0 := by
 intro h
 have t : ∀ x, 2 ^ k ≤ x → x < 2 ^ (k + 1) → x.testBit k = true := fun x ha hb => by
  have hx : x / 2 ^ k = 1 := by
   have hp : 2 ^ (k + 1) = 2 * 2 ^ k := by rw [Nat.pow_succ]; omega
   have h0 : 0 < 2 ^ k := Nat.pow_pos (by omega)
   exact Nat.div_eq_of_lt_le (by omega) (by omega)
  rw [Nat.testBit_eq_decide_div_mod_eq, hx]; rfl
 have h3 := congrArg (fun y => y.testBit k) h
 simp only [Nat.testBit_and, Nat.zero_testBit] at h3
 rw [t m (by omega) h2, t (m - 1) (by omega) (by omega)] at h3
 cases h3
/-- Of the numbers from n to the power of two above it, that one alone is a power of two. -/
theorem land_dep {n m : Nat} (hn : 1 ≤ n) (h1 : n ≤ m) (h2 : m ≤ 2 ^ dep n) : m &&& (m - 1) = 0 ↔ m = 2 ^ dep n := by
 constructor
 ·intro h
  by_cases e : m = 2 ^ dep n
  ·exact e
  ·exfalso
   obtain ⟨d, hd⟩ : ∃ d, dep n = d := ⟨_, rfl⟩
   rw [hd] at h2 e
   cases d with
   | zero => simp at h2 e; omega
   | succ d =>
    have h3 := dep_lt (l := n) (e := d) (by omega)
    exact land_ne d m (by omega) (by omega) h
 ·rintro rfl
  exact land_pow _
end Go.Proofs.YtomilckcgmhfcaaDoor
/- (*wire.Hash).Done: the root of all chunks that were gathered. (Printed by a program of mine.) -/
namespace Go.Proofs.YtomilckcgmhfcaaDoor
set_option maxRecDepth 40000
open Go.RowKit
theorem wp_scope_two' {P : Program} {a : Act} {w : World} {Q : Exit → Act → World → Prop} {c R : Code} (l : Nat) (J : Act → World → Prop) (μ : Act → World → Nat) (hf : findLabel c l = some (.seq .skip R))
  (pass : ∀ a w, J a w → R.wp P (Exit.jump l (fun a' w' => J a' w' ∧ μ a' w' < μ a w) Q) a w)
  (first : (∀ a w, J a w → R.wp P (Exit.jump l J Q) a w) → c.wp P (Exit.jump l J Q) a w) : (Code.scope c).wp P Q a w := by
 refine wp_scope_jumps l J μ hf (first fun a w h => wp_mono (pass a w h) ?_) fun a w h => wp_seq (wp_skip (pass a w h))
 intro e a' w' he
 cases e with
 | goto l' => exact ⟨he.1, he.2.1⟩
 | _ => exact he
theorem ShaPkg.belowB {w w' : World} {B : Nat} (h : ShaPkg w) (hB : 0 < B ∧ 1 < B) (hb : Below B w w') : ShaPkg w' := h.keep fun b _ he => hb.block b (by rcases he with rfl | rfl; exact hB.1; exact hB.2)
theorem OwnZ.atSome {w : World} {base z n c : Nat} {e : TypeId} {A : Option Addr} {f : Nat → Value} (h : OwnZ w base e z A n c f) (hn : 0 < n) : ∃ bl, A = some ⟨bl, 0, none⟩ := by
 obtain ⟨g, cap, hv, hb, hlt⟩ := World.ownsRow.form h hn
 exact ⟨g, by injection hv⟩
namespace HashDone
theorem ent_two (vs : Array Value) (w : World) : (callFunc 33 vs).run Tryd.prog w = .ok (.enter 33 vs) w := by kernel_rfl
/-- The first j chunks are those of the level above already. -/
def part (j : Nat) (X : Nat → Nat) : Nat → Nat := fun i => if i < j * 32 then lvl X i else X i
theorem lvl_at (X : Nat → Nat) (j q : Nat) (hq : q < 32) : lvl X (j * 32 + q) = shaB (catN 32 (fun q => X (2 * j * 32 + q)) (fun q => X ((2 * j + 1) * 32 + q))) 64 q := by
 unfold lvl
 rw [show (j * 32 + q) / 32 = j by omega, show (j * 32 + q) % 32 = q by omega]
theorem part_step (X : Nat → Nat) (j q : Nat) : (if j * 32 ≤ q ∧ q < j * 32 + 32 then shaB (catN 32 (fun q => X (2 * j * 32 + q)) (fun q => X ((2 * j + 1) * 32 + q))) 64 (q - j * 32) else part j X q) = part (j + 1) X q := by
 unfold part
 by_cases h : j * 32 ≤ q ∧ q < j * 32 + 32
 ·rw [if_pos h, if_pos (by omega), ← lvl_at X j (q - j * 32) (by omega), show j * 32 + (q - j * 32) = q by omega]
 ·rw [if_neg h]
  by_cases h1 : q < j * 32
  ·rw [if_pos h1, if_pos (by omega)]
  ·rw [if_neg h1, if_neg (by omega)]
theorem lvl_lt (X : Nat → Nat) (i : Nat) : lvl X i < 256 := shaB_lt _ _ _
/-- The list's row where j chunks are done. -/
def G (m : Nat) (X : Nat → Nat) (F : Nat → Value) (j : Nat) : Nat → Value := fun i => if i < 2 * m * 32 then u8v (part j X) i else F i
theorem g_at {m j k i : Nat} {X : Nat → Nat} {F : Nat → Value} (h : j ≤ k) (hk : k < 2 * m) (hi : i < 32) : G m X F j (k * 32 + i) = u8v (fun q => X (k * 32 + q)) i := by
 unfold G part
 rw [if_pos (by omega)]
 simp only [u8v]
 rw [if_neg (by omega)]
theorem g_step {m j N : Nat} {X : Nat → Nat} {F : Nat → Value} (hj : j < m) : ∀ q, q < N → (if j * 32 ≤ q ∧ q < j * 32 + 32 then u8v (shaB (catN 32 (fun q => X (2 * j * 32 + q)) (fun q => X ((2 * j + 1) * 32 + q))) 64) (q - j * 32) else G m X F j q) = G m X F (j + 1) q := fun q _ => by
 have h := part_step X j q
 unfold G
 by_cases h1 : q < 2 * m * 32
 ·rw [if_pos h1, if_pos h1]
  simp only [u8v]
  rw [← h]
  split <;> rfl
 ·rw [if_neg h1, if_neg h1, if_neg (by omega)]
theorem g_zero {m N : Nat} {X : Nat → Nat} {F : Nat → Value} (hF : ∀ i, i < 2 * m * 32 → F i = u8v X i) : ∀ i, i < N → F i = G m X F 0 i := fun i _ => by
 unfold G part
 by_cases h1 : i < 2 * m * 32
 ·rw [if_pos h1, hF i h1]; simp only [u8v]; rw [if_neg (by omega)]
 ·rw [if_neg h1]
theorem g_end {m : Nat} {X : Nat → Nat} {F : Nat → Value} : ∀ i, i < m * 32 → G m X F m i = u8v (lvl X) i := fun i h => by
 unfold G part
 rw [if_pos (by omega)]
 simp only [u8v]
 rw [if_pos h]
theorem quo2 (m : Nat) (h2 : m ≤ 4611686018427387903) (w : World) : (binOp .quo 3 (.int .i64 ((2 * m : Nat) : Int)) (.int .i64 2)).run Tryd.prog w = .ok (.int .i64 (m : Int)) w := by
 simp [go_sem, IntKind.wrap, IntKind.bits, IntKind.signed]
 omega
theorem and1 (m : Nat) (h1 : 1 ≤ m) (h2 : m ≤ 1099511627776) (w : World) : (binOp .and 3 (.int .i64 (m : Int)) (.int .i64 ((m : Int) - 1))).run Tryd.prog w = .ok (.int .i64 ((m &&& (m - 1) : Nat) : Int)) w := by
 have e : ((m : Int) - 1) = ((m - 1 : Nat) : Int) := by omega
 rw [e, ← i64_and m (m - 1) (by omega) (by omega)]
 simp [go_sem]
theorem and0 (m : Nat) (h1 : 1 ≤ m) (h2 : m ≤ 1099511627776) (h : m &&& (m - 1) = 0) (w : World) : (binOp .and 3 (.int .i64 (m : Int)) (.int .i64 ((m : Int) - 1))).run Tryd.prog w = .ok (.int .i64 0) w := by
 have := and1 m h1 h2 w
 rw [h] at this
 exact this
theorem built0 : Tryd.prog.built 24 [] = some (arr 32 (u8v fun _ => 0)) := by kernel_rfl
theorem pad_step {n m : Nat} {x : Nat → Nat} (h : n ≤ m) : ∀ i, i < (m + 1) * 32 → catF (m * 32) (u8v (padN (n * 32) x)) (u8v fun _ => 0) i = u8v (padN (n * 32) x) i := fun i _ => by
 unfold catF
 by_cases h1 : i < m * 32
 ·rw [if_pos h1]
 ·rw [if_neg h1]; simp only [u8v, padN]; rw [if_neg (by omega)]
/-- At the label: a full tree's chunks, whose root is R. -/
def J (w : World) (B base g : Nat) (R : Nat → Nat) (a : Act) (wr : World) : Prop := ∃ (d p c b2 bl : Nat) (X : Nat → Nat) (F : Nat → Value) (u1 u5 u6 u7 u8 u9 u10 u11 u12 u13 u14 u15 u16 u17 u18 u19 u20 u21 u22 u23 u24 u25 u26 u27 u28 u29 u30 u31 u32 u33 u34 u35 u36 u37 u38 u39 u40 u41 u42 u43 u44 u45 u46 u47 u48 u49 u50 u51 u52 u53 u54 u55 u56 u57 u58 u59 u60 u61 u62 u63 : Value),
 a = ⟨#[.pointer (some ⟨g, 0, none⟩), u1, .pointer (some ⟨b2, 0, none⟩), .int .i64 0, .slice (some ⟨bl, 0, none⟩) p c, u5, u6, u7, u8, u9, u10, u11, u12, u13, u14, u15, u16, u17, u18, u19, u20, u21, u22, u23, u24, u25, u26, u27, u28, u29, u30, u31, u32, u33, u34, u35, u36, u37, u38, u39, u40, u41, u42, u43, u44, u45, u46, u47, u48, u49, u50, u51, u52, u53, u54, u55, u56, u57, u58, u59, u60, u61, u62, u63], []⟩ ∧ p = 2 ^ d ∧ p ≤ c ∧ c ≤ 9223372036854775807 ∧ (∀ i, X i < 256) ∧ (∀ i, i < 32 → fullN d X i = R i) ∧ (∀ i, i < p * 32 → F i = u8v X i) ∧
 wr.rowIs b2 24 32 (u8v fun _ => 0) ∧ wr.rowIs bl 24 (c * 32) F ∧ b2 ≠ bl ∧ w.heap.size ≤ b2 ∧ base ≤ bl ∧ Below B w wr
/-- How many chunks there are. -/
def mu (a : Act) : Nat := match a.tmps.getD 4 undef with | .slice _ n _ => n | _ => 0
end HashDone
open HashDone in
set_option maxRecDepth 100000 in
set_option maxHeartbeats 8000000 in
theorem done_look (B base g n : Nat) (x : Nat → Nat) (w : World) (hH : HashIs w base g n x) (hx : ∀ i, x i < 256) (hBb : B ≤ base) (hBg : B ≤ g) (hbw : base ≤ w.heap.size) (h1 : 1 ≤ n) (hn : n ≤ 1099511627776) (hp : ShaPkg w) (hpB : 0 < B ∧ 1 < B) :
  Calls Tryd.prog 40 #[.pointer (some ⟨g, 0, none⟩)] w fun e w' => e = .returned (.tuple #[rootV (treeN (dep n) n x), .int .i64 0]) ∧ Below B w w' := by
 obtain ⟨R, hRR⟩ : ∃ R, R = treeN (dep n) n x := ⟨_, rfl⟩
 rw [← hRR]
 obtain ⟨N, hN⟩ : ∃ N, N = 2 ^ dep n := ⟨_, rfl⟩
 have hRf : ∀ i, i < 32 → fullN (dep n) (padN (n * 32) x) i = R i := fun i hi => by rw [hRR]; exact (tree_full (dep n) n x (dep_ge n) i hi).symm
 obtain ⟨A, c, hr, ho, hne⟩ := hH
 have HO := Lib.hid ho
 have HNe := Lib.hid hne
 have HP := Lib.hid hp
 have HPB := Lib.hid hpB
 have HX := Lib.hid hx
 have HR := Lib.hid hRf
 have HS0 := Lib.hid ((HS.nil w).take hr (fun r hr => by cases hr))
 have hd40 : dep n ≤ 40 := dep_le (k := 40) (by omega)
 have hN1 : n ≤ N := by rw [hN]; exact dep_ge n
 have hN2 : N ≤ 1099511627776 := by rw [hN]; exact Nat.pow_le_pow_right (n := 2) (by omega) hd40
 have HN := Lib.hid hN
 have HL := Lib.hid (fun m (ha : n ≤ m) (hb : m ≤ N) => land_dep (n := n) (m := m) h1 ha (by rw [← hN]; exact hb))
 have hBw : B ≤ w.heap.size := Nat.le_trans hBb hbw
 have hgl := hr.lt
 clear hr ho hne hp hpB hx hRR hRf hN
 go_enter Tryd.func40, Tryd.ntmps40
 go_wp2_with (first
  | (refine wpList_allocL rfl 24 2 rfl rfl HS0.out (Array.replicate 32 (.int .u8 0)) (by kernel_rfl) 32 (u8v fun _ => 0) (by rfl) (zero_at 32 (.int .u8 0)) ?_; intro b2 w2 hb2 hc2 hs2; have c1 : w2.cell? ⟨g, 1, none⟩ = some (.int .i64 0) := hs2.cell 1 1 rfl (by show 1 < 2; omega); have c0 : w2.cell? ⟨g, 0, none⟩ = some (.slice A n c) := hs2.cell 1 0 rfl (by show 0 < 2; omega); have HS2 := Lib.hid hs2; clear hs2))
 refine wp_scope_two' 0 (J w B base g R) (fun a _ => mu a) rfl ?_ ?_
 ·rintro a wp0 ⟨d, p, c, b2, bl, X, F, u1, u5, u6, u7, u8, u9, u10, u11, u12, u13, u14, u15, u16, u17, u18, u19, u20, u21, u22, u23, u24, u25, u26, u27, u28, u29, u30, u31, u32, u33, u34, u35, u36, u37, u38, u39, u40, u41, u42, u43, u44, u45, u46, u47, u48, u49, u50, u51, u52, u53, u54, u55, u56, u57, u58, u59, u60, u61, u62, u63, rfl, hd, hdc, hc, hXl, hfull, hF, hr2, hrl, hne, hb2, hbl, hW⟩
  have HXl := Lib.hid hXl
  have HFl := Lib.hid hfull
  have HF := Lib.hid hF
  have HRl := Lib.hid hrl
  have HW0 := Lib.hid hW
  have hsz0 := hW.size
  have HT := Lib.hid (((HS.nil wp0).take hrl (fun r hr => by cases hr)).take hr2 (fun r hr => by simp at hr; rw [hr]; exact fun e => hne e.symm))
  clear hXl hfull hF hr2 hrl hW HS2 HS0 c0 c1 HO HNe HX HR HL HN
  cases d with
  | zero =>
   obtain rfl : p = 1 := hd
   go_wp2_with (first
    | (refine wpList_load_rd rfl 24 _ rfl 32 _ Tryd.underlying24 rfl (by kernel_rfl) ⟨bl, 0, none⟩ rfl (u8v X) (fun q hq => by rw [add_lit0]; exact (HRl.out.cell (by omega)).trans (congrArg some (HF.out q (by omega)))) ?_)
    | (refine wpList_storeH rfl 24 (.tmp 2) (.tmp 63) rfl HT.out 0 rfl (u8v X) rfl rfl (by kernel_rfl) (fun _ _ => rfl) ?_; intro wy hs; have HY := Lib.hid hs; clear hs))
   simp only [Exit.jump]
   exact ret_rowTmp rfl (HY.out.row 0 rfl) _ (.int .i64 0) rfl rfl Tryd.underlying24 rfl (by kernel_rfl) rfl ⟨by rw [show arr 32 (u8v X) = arr 32 (u8v R) from arr_congr fun i hi => congrArg (fun k : Nat => Value.int .u8 (k : Int)) (HFl.out i hi)], HW0.out.trans (HY.out.old (by omega) (by simp; omega))⟩
  | succ d =>
   obtain ⟨m, hm⟩ : ∃ m, m = 2 ^ d := ⟨_, rfl⟩
   obtain rfl : p = 2 * m := by rw [hd, hm, Nat.pow_succ]; omega
   have hm0 : 1 ≤ m := by rw [hm]; exact Nat.pow_pos (by omega)
   have HM := Lib.hid hm
   have hmc : 2 * m ≤ c := hdc
   have HT0 := Lib.hid (HT.out.congr 1 rfl (g := G m X F 0) (g_zero HF.out))
   clear hm hd HT HF
   go_wp2_with (first
    | (refine wpList_as rfl 36 rfl (.int .i64 (m : Int)) ?_ ?_; (· exact ex_bin rfl rfl rfl rfl (fun w => quo2 m (by omega) w) _)))
   go_loopw [37] (fun t wr => ∃ j : Nat, t = .int .i64 (j : Int) ∧ j ≤ m ∧ HS wp0 wr [⟨b2, 24, 32, u8v fun _ => 0⟩, ⟨bl, 24, c * 32, G m X F j⟩]) (fun t _ => m - (intOf t).toNat)
   case atStart => exact ⟨0, rfl, by omega, HT0.out⟩
   case round =>
    clear HT0 HRl
    obtain ⟨j, rfl, hj, hs⟩ := hrel
    have HSq := Lib.hid hs
    have HWr := Lib.hid (HW0.out.trans (hs.old (B := B) (by omega) (by simp; omega)))
    have HSz := Lib.hid (show B ≤ wr.heap.size by have := hs.size; omega)
    clear hs
    by_cases hjm : j < m
    ·go_wp2_with fail
     refine wp_region_factsS (l := [_, _, _, _, _, _, _, _, _, _, _, _, _, _, _]) (tl := []) (B := wr.heap.size) (w0 := wr) [SF.is (.slice (some ⟨bl, 0, none⟩) (2 * m) (c)), SF.is (.int .i64 ((j : Nat) : Int)), SF.is (.slice (some ⟨bl, 0, none⟩) (2 * m) (c)), SF.is (.int .i64 ((j : Nat) : Int)), SF.is (.int .i64 ((2 * j : Nat) : Int)), SF.is (.pointer (some ⟨bl, 2 * j * 32, none⟩)), SF.is (rootV (fun q => X (2 * j * 32 + q))), SF.is (.slice (some ⟨bl, 0, none⟩) (2 * m) (c)), SF.is (.int .i64 ((j : Nat) : Int)), SF.is (.int .i64 ((2 * j : Nat) : Int)), SF.is (.int .i64 ((2 * j + 1 : Nat) : Int)), SF.is (.pointer (some ⟨bl, (2 * j + 1) * 32, none⟩)), SF.is (rootV (fun q => X ((2 * j + 1) * 32 + q))), SF.is (rootV (shaB (catN 32 (fun q => X (2 * j * 32 + q)) (fun q => X ((2 * j + 1) * 32 + q))) 64)), SF.is (.pointer (some ⟨bl, j * 32, none⟩))] (by kernel_rfl) (by kernel_rfl) rfl (Nat.le_refl _) (Below.refl _ _) ⟨?_, ?_, ?_, ?_, ?_, ?_, ?_, ?_, ?_, ?_, ?_, ?_, ?_, ?_, ?_, trivial⟩ ?_
     ·exact (opOb_move _ rfl (.inl rfl) rfl)
     ·exact (opOb_move _ rfl (.inl rfl) rfl)
     ·exact (opOb_move _ rfl (.inl rfl) rfl)
     ·exact (opOb_move _ rfl (.inl rfl) rfl)
     ·exact opOb_nmul 2 j (by omega) rfl rfl OpK.const (OpK.tmp rfl)
     ·exact opOb_idx rfl rfl (OpK.tmp rfl) (OpK.tmp rfl) (fun w => (run_idxZ (z := 32) w Tryd.underlying32 (by kernel_rfl) ⟨bl, 0, none⟩ (by omega)).trans (by rw [add_lit0]))
     ·exact opOb_ld rfl rfl (OpK.tmp rfl) (fun w' hb => run_loadAt_part w' bl (2 * j * 32) 32 24 _ (u8v (fun q => X (2 * j * 32 + q))) (fun i hi => ((row_below (HSq.out.row 1 rfl) hb (HSq.out.row 1 rfl).lt).cell (i := 2 * j * 32 + i) (show 2 * j * 32 + i < c * 32 by omega)).trans (congrArg some (g_at (by omega) (by omega) hi))) Tryd.underlying24 rfl (by kernel_rfl))
     ·exact (opOb_move _ rfl (.inl rfl) rfl)
     ·exact (opOb_move _ rfl (.inl rfl) rfl)
     ·exact opOb_nmul 2 j (by omega) rfl rfl OpK.const (OpK.tmp rfl)
     ·exact opOb_nadd (2 * j) 1 (by omega) rfl rfl (OpK.tmp rfl) OpK.const
     ·exact opOb_idx rfl rfl (OpK.tmp rfl) (OpK.tmp rfl) (fun w => (run_idxZ (z := 32) w Tryd.underlying32 (by kernel_rfl) ⟨bl, 0, none⟩ (by omega)).trans (by rw [add_lit0]))
     ·exact opOb_ld rfl rfl (OpK.tmp rfl) (fun w' hb => run_loadAt_part w' bl ((2 * j + 1) * 32) 32 24 _ (u8v (fun q => X ((2 * j + 1) * 32 + q))) (fun i hi => ((row_below (HSq.out.row 1 rfl) hb (HSq.out.row 1 rfl).lt).cell (i := (2 * j + 1) * 32 + i) (show (2 * j + 1) * 32 + i < c * 32 by omega)).trans (congrArg some (g_at (by omega) (by omega) hi))) Tryd.underlying24 rfl (by kernel_rfl))
     ·exact opOb_fn2 ent_two rfl rfl (OpK.tmp rfl) (OpK.tmp rfl) (fun w' hb => (two_any (fun q => X (2 * j * 32 + q)) (fun q => X ((2 * j + 1) * 32 + q)) (fun _ => HXl.out _) (fun _ => HXl.out _) w' (HP.out.belowB HPB.out (HWr.out.trans (hb.mono HSz.out)))).mono fun e w'' ⟨he, hb2⟩ => ⟨_, he, rfl, hb2⟩)
     ·exact opOb_idx rfl rfl (OpK.tmp rfl) (OpK.tmp rfl) (fun w => (run_idxZ (z := 32) w Tryd.underlying32 (by kernel_rfl) ⟨bl, 0, none⟩ (by omega)).trans (by rw [add_lit0]))
     ·intro w' hb
      simp only [fin, SF.is, forall_eq]
      simp only [pcX]
      have hs := HSq.out.below hb
      refine wp_storeP 24 (.tmp 54) (.tmp 53) rfl hs 1 rfl (j * 32) 32 (u8v (shaB (catN 32 (fun q => X (2 * j * 32 + q)) (fun q => X ((2 * j + 1) * 32 + q))) 64)) rfl rfl (by kernel_rfl) (by omega) (fun _ _ => rfl) (G m X F (j + 1)) (g_step hjm) ?_
      clear hs hb
      intro wy hs
      have HY := Lib.hid hs
      clear hs
      simp only [seqWp, Act.put]
      go_wp2_with fail
      go_roundw
      case rel => exact ⟨j + 1, by go_num, by omega, HY.out⟩
      case measure => simp [intOf]; omega
    ·obtain rfl : j = m := by omega
     go_wp2_with (first
      | (refine wpList_as rfl 59 rfl (.int .i64 (j : Int)) ?_ ?_; (· exact ex_bin rfl rfl rfl rfl (fun w => quo2 j (by omega) w) _))
      | (refine wpList_as rfl 60 rfl (.slice (some ⟨bl, 0, none⟩) j c) ?_ ?_; (· exact ex_slice rfl rfl rfl rfl (fun w => cut_toZ (z := 32) Tryd.underlying32 (by kernel_rfl) (some ⟨bl, 0, none⟩) (2 * j) c j (by omega) w) _)))
     apply wp_goto
     exact ⟨rfl, ⟨d, j, c, b2, bl, lvl X, G j X F j, _, _, _, _, _, _, _, _, _, _, _, _, _, _, _, _, _, _, _, _, _, _, _, _, _, _, _, _, _, _, _, _, _, _, _, _, _, _, _, _, _, _, _, _, _, _, _, _, _, _, _, _, _, _, _, _, _, _, _, _, rfl, HM.out, by omega, hc, lvl_lt X, fun i hi => (fullN_lvl d X i hi).symm.trans (HFl.out i hi), g_end, HSq.out.row 0 rfl, HSq.out.row 1 rfl, hne, hb2, hbl, HWr.out⟩, by simp [mu]; omega⟩
 ·intro hpass
  go_wp2_with fail
  have HO2 := Lib.hid (HO.out.hs HS2.out (fun ad e => by have := HNe.out ad e; have h2 := (HO.out.base_le ad e).2; simp; omega))
  go_loopw [4] (fun t wr => ∃ (m : Nat) (A' : Option Addr) (c' : Nat), t = .slice A' m c' ∧ n ≤ m ∧ m ≤ N ∧ OwnZ wr base 24 32 A' m c' (u8v (padN (n * 32) x)) ∧ wr.rowIs b2 24 32 (u8v fun _ => 0) ∧ Below B w wr ∧ (∀ ad, A' = some ad → ad.block ≠ b2)) (fun t _ => match t with | .slice _ m _ => N - m | _ => 0)
  case atStart => exact ⟨n, A, c, rfl, Nat.le_refl _, hN1, HO2.out.congr (fun i hi => by simp only [u8v, padN]; rw [if_pos hi]), HS2.out.row 0 rfl, HS2.out.old hBw (by simp; omega), fun ad e => by have := (HO.out.base_le ad e).2; omega⟩
  case round =>
   clear HS2 HS0 HO2 c0 c1
   obtain ⟨m, A', c', rfl, hm1, hm2, hoq, hr2, hW, hne⟩ := hrel
   have HOq := Lib.hid hoq
   have HR2 := Lib.hid hr2
   have HWq := Lib.hid hW
   have HNq := Lib.hid hne
   have hsz := hW.size
   have hl := HL.out m hm1 hm2
   clear hoq hr2 hW hne
   by_cases hmN : m = N
   ·subst hmN
    have h0 := hl.2 HN.out
    obtain ⟨bl, rfl⟩ := HOq.out.atSome (by omega)
    obtain ⟨F, hrl, hF, hbl⟩ := HOq.out.row
    have HRl := Lib.hid hrl
    have HF := Lib.hid hF
    have hcap := HOq.out.cap
    have hcapM : c' ≤ 9223372036854775807 := HOq.out.capM
    have hb2l : b2 ≠ bl := fun e => HNq.out _ rfl e.symm
    have hlt2 := HR2.out.lt
    clear hrl hF hl
    go_wp2_with (first
     | (refine wpList_as rfl 25 rfl (.int .i64 0) ?_ ?_; (· exact ex_bin rfl rfl rfl rfl (fun w => and0 m (by omega) (by omega) h0 w) _)))
    apply wp_label
    rename_i hk
    exact hk _ _ <| hpass _ _ ⟨dep n, m, c', b2, bl, padN (n * 32) x, F, _, _, _, _, _, _, _, _, _, _, _, _, _, _, _, _, _, _, _, _, _, _, _, _, _, _, _, _, _, _, _, _, _, _, _, _, _, _, _, _, _, _, _, _, _, _, _, _, _, _, _, _, _, _, _, _, _, _, _, _, rfl, HN.out, hcap, hcapM, padN_lt HX.out, HR.out, HF.out, HR2.out, HRl.out, hb2l, hb2, hbl, HWq.out⟩
   ·have h0 := fun e => hmN (hl.1 e |>.trans HN.out.symm)
    obtain ⟨q, hq⟩ : ∃ q, q = m &&& (m - 1) := ⟨_, rfl⟩
    have HQ := Lib.hid hq
    have hq0 : ((q : Int) != 0) = true := by rw [bne_iff_ne]; intro e; exact h0 (by omega)
    clear hl h0 hq
    go_wp2_with (first
     | (refine wpList_as rfl 25 rfl (.int .i64 (q : Int)) ?_ ?_; (· rw [HQ.out]; exact ex_bin rfl rfl rfl rfl (fun w => and1 m (by omega) (by omega) w) _))
     | (refine wpList_build_as rfl 24 #[] rfl [] rfl _ built0 ?_)
     | (refine wpList_bs1 rfl Tryd.underlying32 (z := 32) (by kernel_rfl) (by omega) (by omega) (v0 := .agg (Array.replicate 32 (.int .u8 0))) (by kernel_rfl) _ rfl (u8v fun _ => 0) rfl (HS.nil _) ?_; intro b29 w29 hb29 hc29 hs29; have HS29 := Lib.hid hs29; clear hs29)
     | (at_builtin; refine wpList_appZ _ (.tmp 27) (.tmp 29) 32 base (e := 24) (z := .agg (Array.replicate 32 (.int .u8 0))) (k := 32) (bytes := 32) (by kernel_rfl) Tryd.underlying32 (by rfl) (by omega) rfl rfl (m + 1) (u8v (padN (n * 32) x)) rfl rfl (HOq.out.all (HS29.out.out (by simp; omega))) (Rd.of_row (HS29.out.row 0 rfl) (Nat.le_refl _) (HS29.out.lt 0 rfl)) (fun _ _ => rfl) rfl (pad_step hm1) ⟨by omega, by omega⟩ (by have := HS29.out.size; omega) ?_; intro A30 c30 w30 ho30 hg30 ha30; have HO30 := Lib.hid ho30; have HG30 := Lib.hid hg30; have HA30 := Lib.hid ha30; clear ho30 hg30 ha30))
    have hb29 := HS29.out.out (by simp; omega)
    have hr2a := row_below HR2.out hb29 HR2.out.lt
    have hr2b := hr2a.of_block (HG30.out.block b2 hr2a.lt (fun e => by
     cases A' with
     | none => cases e
     | some ad => injection e with e; exact HNq.out ad rfl e.symm))
    go_roundw
    case rel => exact ⟨m + 1, A30, c30, rfl, by omega, by omega, HO30.out, hr2b, below_app (HWq.out.trans (hb29.mono (by omega))) HG30.out (by have := hb29.size; omega) (fun ad e => Nat.le_trans hBb (HOq.out.base_le ad e).1), fun ad e => by
     rcases HA30.out ad e with h | h
     ·cases A' with
      | none => cases h
      | some ad' => injection h with h; rw [h]; exact HNq.out ad' rfl
     ·have := hr2a.lt; omega⟩
    case measure => simp; omega
end Go.Proofs.YtomilckcgmhfcaaDoor
