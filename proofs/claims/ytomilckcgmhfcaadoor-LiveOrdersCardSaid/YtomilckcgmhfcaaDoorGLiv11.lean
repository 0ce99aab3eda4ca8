/- A part of what the proofs stand on: HashBytes, SignDomain, SignMsgRef, HashFlag. -/
import Derived.Test.YtomilckcgmhfcaaDoorGLiv1
import Derived.Test.YtomilckcgmhfcaaDoorGLiv10
import Derived.Test.YtomilckcgmhfcaaDoorGLiv7
import Derived.Test.YtomilckcgmhfcaaDoorGLiv6
import Derived.Test.YtomilckcgmhfcaaDoorGLiv4
import Derived.Test.YtomilckcgmhfcaaDoorGLiv3
import Derived.Test.YtomilckcgmhfcaaDoorGLiv9
/- wire.Hash: bytes as the root of their chunks; the message of a deposit. (Printed by a program of mine.) -/
namespace Go.Proofs.YtomilckcgmhfcaaDoor
set_option maxRecDepth 40000
open Go.RowKit
theorem HS.behind {w0 w1 w : World} {rows : List RowSpec} (hb : Below w0.heap.size w0 w1) (h : HS w1 w rows) : HS w0 w rows :=
 ⟨h.os.trans hb.os, h.tape.trans hb.tape, h.output.trans hb.output, Nat.le_trans hb.size h.size, fun k hk hr => (h.block k (Nat.lt_of_lt_of_le hk hb.size) hr).trans (hb.block k hk), h.has, h.apart⟩
/-- Rows that lay there at the start stay where all below it stays. -/
theorem HS.lowB {w0 w w' : World} {rows : List RowSpec} (h : HS w0 w rows) (hb : Below w0.heap.size w w') (hr : ∀ r ∈ rows, r.b < w0.heap.size) : HS w0 w' rows :=
 ⟨hb.os.trans h.os, hb.tape.trans h.tape, hb.output.trans h.output, Nat.le_trans h.size hb.size, fun k hk hr' => (hb.block k hk).trans (h.block k hk hr'),
  fun r hr' => row_below (h.has r hr') hb (hr r hr'), h.apart⟩
theorem hash_one {A : Option Addr} {n c : Nat} : ∀ i, i < 2 → (hashF A n c i).oneCell' = true := fun i _ => by
 unfold hashF; split <;> rfl
theorem built_hash (A : Option Addr) (n c : Nat) : Tryd.prog.built 90 [(0, .slice A n c)] = some (arr 2 (hashF A n c)) := by kernel_rfl
theorem zero_hash : (Tryd.prog.info? 90).bind (·.zero) = some (.agg (arr 2 (hashF none 0 0))) := by kernel_rfl
set_option maxHeartbeats 8000000 in
theorem hbytes_look (B base g n : Nat) (x : Nat → Nat) (w : World) (hH : HashIs w base g n x) (hBb : B ≤ base) (hBg : B ≤ g) (hbw : base ≤ w.heap.size) (hn : n ≤ 1099511627776) (m cb : Nat) (Ab : Option Addr) (y : Nat → Nat) (hy : Rd w w.heap.size Ab m (u8v y)) (hyl : ∀ i, y i < 256) (hmc : m ≤ cb) (hm1 : 1 ≤ m) (hm : m ≤ 1099511627776) (hp : ShaPkg w) (hpB : 0 < B ∧ 1 < B) :
  Calls Tryd.prog 56 #[.pointer (some ⟨g, 0, none⟩), .slice Ab m cb] w fun e w' => e = .returned (.tuple #[]) ∧ HashIs w' base g (n + 1) (catN (n * 32) x (treeN (dep (nch m)) (nch m) (padN m y))) ∧ Below B w w' := by
 obtain ⟨R, hR⟩ : ∃ R, R = treeN (dep (nch m)) (nch m) (padN m y) := ⟨_, rfl⟩
 rw [← hR]
 obtain ⟨N, hN⟩ : ∃ N, N = nch m := ⟨_, rfl⟩
 have hN1 : 1 ≤ N ∧ N ≤ 1099511627776 := by rw [hN]; unfold nch; omega
 have HRe := Lib.hid (show rootV (treeN (dep N) N (padN m y)) = rootV R by rw [hR, hN])
 have HNe := Lib.hid hN
 obtain ⟨A, c, hr, ho, hne⟩ := hH
 have HO := Lib.hid ho
 have HNe := Lib.hid hne
 have HP := Lib.hid hp
 have HY := Lib.hid hy
 have HYl := Lib.hid hyl
 have hgl := hr.lt
 have hBw : B ≤ w.heap.size := Nat.le_trans hBb hbw
 have HG := Lib.hid hr
 have hpl := hp.lt
 have HPk := Lib.hid (pack_look m cb Ab y w hy hmc (by omega))
 rw [← hN] at HPk
 clear hr ho hne hp hy hyl hR hN
 go_enter Tryd.func56, Tryd.ntmps56
 go_wp2_with (first
  | (go_at_call 62; refine HPk.out.mono ?_; rintro e w1 ⟨A8, c8, rfl, ho8, hb⟩; have HO8 := Lib.hid ho8; have HB1 := Lib.hid hb; have HG1 := Lib.hid ((HS.nil w1).take (row_below HG.out hb hgl) (fun r hr => by cases hr)); have hsz1 := hb.size; clear ho8 hb HPk)
  | (refine wpList_build_as rfl 90 #[(0, .tmp 8)] rfl [(0, .slice A8 N c8)] rfl _ (built_hash A8 N c8) ?_)
  | (refine wpList_allocL rfl 90 4 rfl rfl HG1.out _ zero_hash 2 (hashF none 0 0) (size_arr _ _) (fun i hi => arr_at _ _ i hi) ?_; intro b4 w2 hb4 hc4 hs; have HS2 := Lib.hid hs; clear hs)
  | (refine wpList_storeH rfl 90 (.tmp 4) (.tmp 9) rfl HS2.out 0 rfl (hashF A8 N c8) rfl rfl (by kernel_rfl) hash_one ?_; intro w3 hs; have HS3 := Lib.hid hs; have hsz3 := hs.size; clear hs)
  | (go_at_call 40; refine (done_look w.heap.size w.heap.size b4 N (padN m y) _ ⟨A8, c8, HS3.out.row 0 rfl, HO8.out.hs HS3.out (fun ad e => by have h2 := HO8.out.base_le ad e; simp; omega), fun ad e => by have h2 := HO8.out.base_le ad e; omega⟩ (padN_lt HYl.out) (Nat.le_refl _) (by omega) (by omega) hN1.1 hN1.2 ((HP.out.below HB1.out).belowB hpB (HS3.out.old (by omega) (by simp; omega))) hpl).mono ?_; rintro e w4 ⟨rfl, hb⟩; rw [HRe.out]; have HS4 := Lib.hid (((HS3.out.behind HB1.out).drop (show w.heap.size ≤ b4 by omega)).lowB hb (by simp; omega)); clear hb)
  | (refine wpList_allocL rfl 24 5 rfl rfl HS4.out (Array.replicate 32 (.int .u8 0)) (by kernel_rfl) 32 (u8v fun _ => 0) (by rfl) (zero_at 32 (.int .u8 0)) ?_; intro b5 w5 hb5 hc5 hs; have HS5 := Lib.hid hs; clear hs)
  | (refine wpList_storeH rfl 24 (.tmp 5) (.tmp 12) rfl HS5.out 0 rfl (u8v R) rfl rfl (by kernel_rfl) (fun _ _ => rfl) ?_; intro wa hs; have HSa := Lib.hid hs; clear hs))
 have hA : HS w wa [⟨b5, 24, 32, u8v R⟩, ⟨g, 90, 2, hashF A n c⟩] := HSa.out
 have HA := Lib.hid hA
 have hsz := hA.size
 have HOa := Lib.hid (HO.out.hs hA (fun ad e => by have := HNe.out ad e; have h2 := (HO.out.base_le ad e).2; simp; omega))
 have HWa := Lib.hid (hA.old hBw (by simp; omega))
 clear hA HS2 HS3 HS4 HS5 HSa HB1 HG1 HO8 HRe
 have hA : True := trivial
 refine ord_enter (n := 11) (by kernel_rfl) (by kernel_rfl) ?_
 have HA2 := Lib.hid HA.out.drew
 have HOa2 : Hid (OwnZ wa.drew base 24 32 A n c (u8v x)) := Lib.hid HOa.out
 have HWa2 : Hid (Below B w wa.drew) := Lib.hid ⟨HWa.out.os, HWa.out.tape, HWa.out.output, HWa.out.size, HWa.out.block⟩
 have hsz2 : w.heap.size ≤ wa.drew.heap.size := hsz
 clear HA HOa HWa hsz
 have HA := HA2
 have HOa := HOa2
 have HWa := HWa2
 have hsz := hsz2
 clear HA2 HOa2 HWa2 hsz2
 generalize wa.drew = wv at HA HOa HWa hsz ⊢
 refine ord_take (i := 0) (.pointer (some ⟨g, 0, none⟩)) rfl (by kernel_rfl) (by kernel_rfl) (by kernel_rfl) rfl (fun _ _ _ h => h) (ex_move (.inl rfl) rfl) ?_
 refine ord_take (i := 1) (.pointer (some ⟨g, 0, none⟩)) rfl (by kernel_rfl) (by kernel_rfl) (by kernel_rfl) rfl (fun _ _ _ h => h) (ex_move (.inl rfl) rfl) ?_
 refine ord_take (i := 2) (.pointer (some ⟨g, 0, none⟩)) rfl (by kernel_rfl) (by kernel_rfl) (by kernel_rfl) rfl (fun _ _ _ h => h) (ex_nil rfl rfl) ?_
 refine ord_take (i := 3) (.pointer (some ⟨g, 0, none⟩)) rfl (by kernel_rfl) (by kernel_rfl) (by kernel_rfl) rfl (fun _ _ _ h => h) (ex_fld rfl rfl (fun w => by simp [go_sem])) ?_
 simp only [pcX]
 refine ord_two (i := 4) (j := 5) rfl rfl (by kernel_rfl) rfl rfl (fun K hK => ?_) (fun K hK => ?_)
 ·refine wp_ex (.slice A n c) (ex_ldsl rfl rfl (ld_sl _ _ wv ((HA.out.row 1 rfl).cell (i := 0) (by show 0 < 2; omega)))) ?_
  refine hK _ _ ?_
  clear hK
  simp only [pcX]
  refine ord_step (i := 5) rfl (by kernel_rfl) rfl (fun K hK => ?_)
  refine wp_ex (rootV R) (ex_ldroot (r := R) rfl rfl wv (HA.out.row 0 rfl)) ?_
  refine hK _ _ ?_
  clear hK
  simp only [pcX]
  refine ord_step (i := 6) rfl (by kernel_rfl) rfl (fun K hK => ?_)
  refine wp_bs1L Tryd.underlying32 (z := 32) (by kernel_rfl) (by omega) (by omega) (v0 := .agg (Array.replicate 32 (.int .u8 0))) (by kernel_rfl) _ rfl (u8v R) rfl (HS.nil wv) ?_
  intro b21 wl hb21 _ hl
  have HL := Lib.hid hl
  clear hl
  refine hK _ _ ?_
  clear hK
  simp only [pcX]
  have hwl := HL.out
  have hb := hwl.out (by simp; omega)
  have ho' := HOa.out.all hb
  have hr21 := Rd.of_row (hwl.row 0 rfl) (Nat.le_refl _) (hwl.lt 0 rfl)
  have hbw' : base ≤ wl.heap.size := Nat.le_trans hbw (Nat.le_trans hsz hb.size)
  have hwb := HWa.out.trans (hb.mono (Nat.le_trans hBw hsz))
  have hrg : wl.rowIs g 90 2 (hashF A n c) := row_below (HA.out.row 1 rfl) hb (HA.out.row 1 rfl).lt
  refine ord_step (i := 7) rfl (by kernel_rfl) rfl (fun K hK => ?_)
  refine wp_appZ wl (.tmp 18) (.tmp 20) 32 base (z := .agg (Array.replicate 32 (.int .u8 0))) (k := 32) (bytes := 32) (by kernel_rfl) Tryd.underlying32 (by rfl) (by omega) rfl (n + 1) (u8v (catN (n * 32) x R)) rfl rfl ho' hr21 (fun _ _ => rfl) rfl cat_h ⟨by omega, by omega⟩ hbw' ?_
  intro A22 c22 w22 ho22 hg22 ha22
  have hrg2 := hrg.of_block (hg22.block g hrg.lt (fun e => by
   cases A with
   | none => cases e
   | some ad => injection e with e; exact HNe.out ad rfl e.symm))
  have hw22 := below_app hwb hg22 (Nat.le_trans hBb hbw') (fun ad e => Nat.le_trans hBb (HO.out.base_le ad e).1)
  have hne22 : ∀ ad, A22 = some ad → ad.block ≠ g := fun ad e => by
   rcases ha22 ad e with h | h
   ·cases A with
    | none => cases h
    | some ad' => injection h with h; rw [h]; exact HNe.out ad' rfl
   ·have := hrg.lt; omega
  have HO22 := Lib.hid ho22
  clear ho' hbw' hwb hrg hg22 ha22 ho22 hb hr21 hwl
  refine hK _ _ ?_
  clear hK
  simp only [pcX]
  refine ord_step (i := 8) rfl (by kernel_rfl) rfl (fun K hK => ?_)
  refine wp_ex (.pointer (some ⟨g, 0, none⟩)) (ex_nil rfl rfl _) ?_
  refine hK _ _ ?_
  clear hK
  simp only [pcX]
  refine ord_step (i := 9) rfl (by kernel_rfl) rfl (fun K hK => ?_)
  refine wp_ex (.pointer (some ⟨g, 0, none⟩)) (ex_fld rfl rfl (fun w => by simp [go_sem]) _) ?_
  refine hK _ _ ?_
  clear hK
  simp only [pcX]
  refine ord_step (i := 10) rfl (by kernel_rfl) rfl (fun K hK => ?_)
  refine wp_store rfl rfl (v := .slice A22 (n + 1) c22) rfl rfl (st_sl ⟨g, 0, none⟩ A22 (n + 1) c22 _ w22 (hrg2.cell (i := 0) (by show 0 < 2; omega)) (hrg2.frozen 0)) ?_
  refine hK _ _ (wpAny_done (by kernel_rfl) ?_ _)
  clear hK
  have hg := grown_setCell (World.grownBy.refl w22 (some g)) (.inl rfl) (.slice A22 (n + 1) c22) (p := ⟨g, 0, none⟩)
  have hr3 := (hrg2.set 0 (.slice A22 (n + 1) c22)).congr (g := hashF A22 (n + 1) c22) (fun i hi => by
   by_cases e : i = 0
   ·subst e; rfl
   ·show (if i = 0 then _ else hashF A n c i) = hashF A22 (n + 1) c22 i
    rw [if_neg e]; unfold hashF; rw [if_neg e, if_neg e])
  have ho3 := HO22.out.kept hg (fun ad e h => by injection h with h; exact hne22 ad e h)
  have hw3 := hw22.grown hg (Nat.le_trans hBw hw22.size) (fun k hk => by injection hk with hk; omega)
  go_wp2_with fail
  go_end0
  exact ⟨rfl, ⟨A22, c22, hr3, ho3, hne22⟩, hw3⟩
 ·refine wp_ex (rootV R) (ex_ldroot (r := R) rfl rfl wv (HA.out.row 0 rfl)) ?_
  refine hK _ _ ?_
  clear hK
  simp only [pcX]
  refine ord_two (i := 4) (j := 6) rfl rfl (by kernel_rfl) rfl rfl (fun K hK => ?_) (fun K hK => ?_)
  ·refine wp_ex (.slice A n c) (ex_ldsl rfl rfl (ld_sl _ _ wv ((HA.out.row 1 rfl).cell (i := 0) (by show 0 < 2; omega)))) ?_
   refine hK _ _ ?_
   clear hK
   simp only [pcX]
   refine ord_step (i := 6) rfl (by kernel_rfl) rfl (fun K hK => ?_)
   refine wp_bs1L Tryd.underlying32 (z := 32) (by kernel_rfl) (by omega) (by omega) (v0 := .agg (Array.replicate 32 (.int .u8 0))) (by kernel_rfl) _ rfl (u8v R) rfl (HS.nil wv) ?_
   intro b21 wl hb21 _ hl
   have HL := Lib.hid hl
   clear hl
   refine hK _ _ ?_
   clear hK
   simp only [pcX]
   have hwl := HL.out
   have hb := hwl.out (by simp; omega)
   have ho' := HOa.out.all hb
   have hr21 := Rd.of_row (hwl.row 0 rfl) (Nat.le_refl _) (hwl.lt 0 rfl)
   have hbw' : base ≤ wl.heap.size := Nat.le_trans hbw (Nat.le_trans hsz hb.size)
   have hwb := HWa.out.trans (hb.mono (Nat.le_trans hBw hsz))
   have hrg : wl.rowIs g 90 2 (hashF A n c) := row_below (HA.out.row 1 rfl) hb (HA.out.row 1 rfl).lt
   refine ord_step (i := 7) rfl (by kernel_rfl) rfl (fun K hK => ?_)
   refine wp_appZ wl (.tmp 18) (.tmp 20) 32 base (z := .agg (Array.replicate 32 (.int .u8 0))) (k := 32) (bytes := 32) (by kernel_rfl) Tryd.underlying32 (by rfl) (by omega) rfl (n + 1) (u8v (catN (n * 32) x R)) rfl rfl ho' hr21 (fun _ _ => rfl) rfl cat_h ⟨by omega, by omega⟩ hbw' ?_
   intro A22 c22 w22 ho22 hg22 ha22
   have hrg2 := hrg.of_block (hg22.block g hrg.lt (fun e => by
    cases A with
    | none => cases e
    | some ad => injection e with e; exact HNe.out ad rfl e.symm))
   have hw22 := below_app hwb hg22 (Nat.le_trans hBb hbw') (fun ad e => Nat.le_trans hBb (HO.out.base_le ad e).1)
   have hne22 : ∀ ad, A22 = some ad → ad.block ≠ g := fun ad e => by
    rcases ha22 ad e with h | h
    ·cases A with
     | none => cases h
     | some ad' => injection h with h; rw [h]; exact HNe.out ad' rfl
    ·have := hrg.lt; omega
   have HO22 := Lib.hid ho22
   clear ho' hbw' hwb hrg hg22 ha22 ho22 hb hr21 hwl
   refine hK _ _ ?_
   clear hK
   simp only [pcX]
   refine ord_step (i := 8) rfl (by kernel_rfl) rfl (fun K hK => ?_)
   refine wp_ex (.pointer (some ⟨g, 0, none⟩)) (ex_nil rfl rfl _) ?_
   refine hK _ _ ?_
   clear hK
   simp only [pcX]
   refine ord_step (i := 9) rfl (by kernel_rfl) rfl (fun K hK => ?_)
   refine wp_ex (.pointer (some ⟨g, 0, none⟩)) (ex_fld rfl rfl (fun w => by simp [go_sem]) _) ?_
   refine hK _ _ ?_
   clear hK
   simp only [pcX]
   refine ord_step (i := 10) rfl (by kernel_rfl) rfl (fun K hK => ?_)
   refine wp_store rfl rfl (v := .slice A22 (n + 1) c22) rfl rfl (st_sl ⟨g, 0, none⟩ A22 (n + 1) c22 _ w22 (hrg2.cell (i := 0) (by show 0 < 2; omega)) (hrg2.frozen 0)) ?_
   refine hK _ _ (wpAny_done (by kernel_rfl) ?_ _)
   clear hK
   have hg := grown_setCell (World.grownBy.refl w22 (some g)) (.inl rfl) (.slice A22 (n + 1) c22) (p := ⟨g, 0, none⟩)
   have hr3 := (hrg2.set 0 (.slice A22 (n + 1) c22)).congr (g := hashF A22 (n + 1) c22) (fun i hi => by
    by_cases e : i = 0
    ·subst e; rfl
    ·show (if i = 0 then _ else hashF A n c i) = hashF A22 (n + 1) c22 i
     rw [if_neg e]; unfold hashF; rw [if_neg e, if_neg e])
   have ho3 := HO22.out.kept hg (fun ad e h => by injection h with h; exact hne22 ad e h)
   have hw3 := hw22.grown hg (Nat.le_trans hBw hw22.size) (fun k hk => by injection hk with hk; omega)
   go_wp2_with fail
   go_end0
   exact ⟨rfl, ⟨A22, c22, hr3, ho3, hne22⟩, hw3⟩
  ·refine wp_bs1L Tryd.underlying32 (z := 32) (by kernel_rfl) (by omega) (by omega) (v0 := .agg (Array.replicate 32 (.int .u8 0))) (by kernel_rfl) _ rfl (u8v R) rfl (HS.nil wv) ?_
   intro b21 wl hb21 _ hl
   have HL := Lib.hid hl
   clear hl
   refine hK _ _ ?_
   clear hK
   simp only [pcX]
   refine ord_step (i := 4) rfl (by kernel_rfl) rfl (fun K hK => ?_)
   refine wp_ex (.slice A n c) (ex_ldsl rfl rfl (ld_sl _ _ wl ((row_below (HA.out.row 1 rfl) (HL.out.out (by simp; omega)) (HA.out.row 1 rfl).lt).cell (i := 0) (by show 0 < 2; omega)))) ?_
   refine hK _ _ ?_
   clear hK
   simp only [pcX]
   have hwl := HL.out
   have hb := hwl.out (by simp; omega)
   have ho' := HOa.out.all hb
   have hr21 := Rd.of_row (hwl.row 0 rfl) (Nat.le_refl _) (hwl.lt 0 rfl)
   have hbw' : base ≤ wl.heap.size := Nat.le_trans hbw (Nat.le_trans hsz hb.size)
   have hwb := HWa.out.trans (hb.mono (Nat.le_trans hBw hsz))
   have hrg : wl.rowIs g 90 2 (hashF A n c) := row_below (HA.out.row 1 rfl) hb (HA.out.row 1 rfl).lt
   refine ord_step (i := 7) rfl (by kernel_rfl) rfl (fun K hK => ?_)
   refine wp_appZ wl (.tmp 18) (.tmp 20) 32 base (z := .agg (Array.replicate 32 (.int .u8 0))) (k := 32) (bytes := 32) (by kernel_rfl) Tryd.underlying32 (by rfl) (by omega) rfl (n + 1) (u8v (catN (n * 32) x R)) rfl rfl ho' hr21 (fun _ _ => rfl) rfl cat_h ⟨by omega, by omega⟩ hbw' ?_
   intro A22 c22 w22 ho22 hg22 ha22
   have hrg2 := hrg.of_block (hg22.block g hrg.lt (fun e => by
    cases A with
    | none => cases e
    | some ad => injection e with e; exact HNe.out ad rfl e.symm))
   have hw22 := below_app hwb hg22 (Nat.le_trans hBb hbw') (fun ad e => Nat.le_trans hBb (HO.out.base_le ad e).1)
   have hne22 : ∀ ad, A22 = some ad → ad.block ≠ g := fun ad e => by
    rcases ha22 ad e with h | h
    ·cases A with
     | none => cases h
     | some ad' => injection h with h; rw [h]; exact HNe.out ad' rfl
    ·have := hrg.lt; omega
   have HO22 := Lib.hid ho22
   clear ho' hbw' hwb hrg hg22 ha22 ho22 hb hr21 hwl
   refine hK _ _ ?_
   clear hK
   simp only [pcX]
   refine ord_step (i := 8) rfl (by kernel_rfl) rfl (fun K hK => ?_)
   refine wp_ex (.pointer (some ⟨g, 0, none⟩)) (ex_nil rfl rfl _) ?_
   refine hK _ _ ?_
   clear hK
   simp only [pcX]
   refine ord_step (i := 9) rfl (by kernel_rfl) rfl (fun K hK => ?_)
   refine wp_ex (.pointer (some ⟨g, 0, none⟩)) (ex_fld rfl rfl (fun w => by simp [go_sem]) _) ?_
   refine hK _ _ ?_
   clear hK
   simp only [pcX]
   refine ord_step (i := 10) rfl (by kernel_rfl) rfl (fun K hK => ?_)
   refine wp_store rfl rfl (v := .slice A22 (n + 1) c22) rfl rfl (st_sl ⟨g, 0, none⟩ A22 (n + 1) c22 _ w22 (hrg2.cell (i := 0) (by show 0 < 2; omega)) (hrg2.frozen 0)) ?_
   refine hK _ _ (wpAny_done (by kernel_rfl) ?_ _)
   clear hK
   have hg := grown_setCell (World.grownBy.refl w22 (some g)) (.inl rfl) (.slice A22 (n + 1) c22) (p := ⟨g, 0, none⟩)
   have hr3 := (hrg2.set 0 (.slice A22 (n + 1) c22)).congr (g := hashF A22 (n + 1) c22) (fun i hi => by
    by_cases e : i = 0
    ·subst e; rfl
    ·show (if i = 0 then _ else hashF A n c i) = hashF A22 (n + 1) c22 i
     rw [if_neg e]; unfold hashF; rw [if_neg e, if_neg e])
   have ho3 := HO22.out.kept hg (fun ad e h => by injection h with h; exact hne22 ad e h)
   have hw3 := hw22.grown hg (Nat.le_trans hBw hw22.size) (fun k hk => by injection hk with hk; omega)
   go_wp2_with fail
   go_end0
   exact ⟨rfl, ⟨A22, c22, hr3, ho3, hne22⟩, hw3⟩
end Go.Proofs.YtomilckcgmhfcaaDoor
/- The domain of a state, and of deposits. (Printed by a program of mine.) -/
namespace Go.Proofs.YtomilckcgmhfcaaDoor
set_option maxRecDepth 40000
open Go.RowKit
/-- The bytes that lie from cell o on. -/
def byF (F : Nat → Value) (o : Nat) : Nat → Nat := fun q => nat (F (o + q)) % 256
theorem byF_lt (F : Nat → Value) (o : Nat) : ∀ i, byF F o i < 256 := fun _ => Nat.mod_lt _ (by omega)
theorem byF_eq {F : Nat → Value} (hF : Sc F 49) (o q : Nat) (hl : leafAt Tryd.prog 8 49 (o + q) = some 5) : F (o + q) = u8v (byF F o) q := by
 have h2 := hF.u8 _ hl
 show _ = Value.int .u8 ((nat (F (o + q)) % 256 : Nat) : Int)
 rw [Nat.mod_eq_of_lt h2.2]
 exact h2.1
end Go.Proofs.YtomilckcgmhfcaaDoor
/- Messages of deposits, by the reference. (Printed by a program of mine.) -/
namespace Go.Proofs.YtomilckcgmhfcaaDoor
set_option maxRecDepth 40000
open Go.RowKit
theorem byT_eq {F : Nat → Value} {T : TypeId} (hF : Sc F T) (o q : Nat) (hl : leafAt Tryd.prog 8 T (o + q) = some 5) : F (o + q) = u8v (byF F o) q := by
 have h2 := hF.u8 _ hl
 show _ = Value.int .u8 ((nat (F (o + q)) % 256 : Nat) : Int)
 rw [Nat.mod_eq_of_lt h2.2]
 exact h2.1
namespace SignMsgRef
end SignMsgRef
end Go.Proofs.YtomilckcgmhfcaaDoor
/- wire.Hash: a bool as a chunk. (Printed by a program of mine.) -/
namespace Go.Proofs.YtomilckcgmhfcaaDoor
set_option maxRecDepth 40000
open Go.RowKit
/-- At the head of a list of operations, and nowhere else. -/
theorem at_l {P : Program} {ops : Array Oper} {Q : Exit → Act → World → Prop} {l : List Oper} {a : Act} {w : World} (h : wpList P ops Q l a w) : wpList P ops Q l a w := h
/-- The chunk of a bool. -/
def flagN (b : Bool) : Nat → Nat := fun q => if q = 0 then (if b then 1 else 0) else 0
theorem flagN_lt (b : Bool) : ∀ i, flagN b i < 256 := fun i => by unfold flagN; split <;> (try split) <;> omega
theorem run_ldBool {P : Program} (w : World) (ad : Addr) (ty : TypeId) (v : Value) (h : w.cell? ad = some v) (hu : P.underlying ty = some .bool) : (Instr.loadAt ty (.pointer (some ad))).run P w = .ok v w := by
 simp only [Instr.loadAt, Instr.sureAddr, Sem.run_bind, Sem.run_pure, Result.andThen]
 have hagg : (isAgg ty).run P w = .ok false w := by
  unfold isAgg
  simp [run_underlying hu, Sem.run_bind]
 simp [hagg, go_sem, h]
theorem ex_ldBool {P : Program} {w : World} {o : Oper} {a : Act} {ty : TypeId} {x : Operand} {ad : Addr} {v : Value} (ho : o.op = .load ty x) (hx : a.eval x = .pointer (some ad)) (hu : P.underlying ty = some .bool) (h : w.cell? ad = some v) : (execOp a.eval o).run P w = .ok (.value v) w := by
 unfold execOp
 rw [ho]
 simp only [hx]
 simp [run_ldBool w ad ty v h hu]
set_option maxHeartbeats 4000000 in
theorem flag_look (B base g n : Nat) (b : Bool) (x : Nat → Nat) (w : World) (hH : HashIs w base g n x) (hBb : B ≤ base) (hBg : B ≤ g) (hbw : base ≤ w.heap.size) (hn : n ≤ 1099511627776) :
  Calls Tryd.prog 83 #[.pointer (some ⟨g, 0, none⟩), .bool b] w fun e w' => e = .returned (.tuple #[]) ∧ HashIs w' base g (n + 1) (catN (n * 32) x (flagN b)) ∧ Below B w w' := by
 obtain ⟨A, c, hr, ho, hne⟩ := hH
 have HO := Lib.hid ho
 have HNe := Lib.hid hne
 have hgl := hr.lt
 have hBw : B ≤ w.heap.size := Nat.le_trans hBb hbw
 have HS0 := Lib.hid ((HS.nil w).take hr (fun r hr => by cases hr))
 clear hr ho hne
 cases b <;> go_enter Tryd.func83, Tryd.ntmps83
 ·go_upto_region 3 with (first
   | (refine wpList_allocL rfl 24 4 rfl rfl HS0.out (Array.replicate 32 (.int .u8 0)) (by kernel_rfl) 32 (u8v fun _ => 0) (by rfl) (zero_at 32 (.int .u8 0)) ?_; intro b4 w4 hb4 hc4 hs; have HS4 := Lib.hid hs; clear hs))
  have hs := HS4.out.congr 0 rfl (g := u8v (flagN false)) (fun i _ => by simp only [u8v, flagN]; split <;> rfl)
  refine HS.go hs (fun wa hs => ?_)
  have hA : HS w wa [⟨b4, 24, 32, u8v (flagN false)⟩, ⟨g, 90, 2, hashF A n c⟩] := hs
  have HA := Lib.hid hA
  have hsz := hA.size
  have HOa := Lib.hid (HO.out.hs hA (fun ad e => by have := HNe.out ad e; have h2 := (HO.out.base_le ad e).2; simp; omega))
  have HWa := Lib.hid (hA.old hBw (by simp; omega))
  clear hs hA HS0 HS4
  refine ord_enter (n := 11) (by kernel_rfl) (by kernel_rfl) ?_
  have HA2 := Lib.hid HA.out.drew
  have HOa2 : Hid (OwnZ wa.drew base 24 32 A n c (u8v x)) := Lib.hid HOa.out
  have HWa2 : Hid (Below B w wa.drew) := Lib.hid ⟨HWa.out.os, HWa.out.tape, HWa.out.output, HWa.out.size, HWa.out.block⟩
  have hsz2 : w.heap.size ≤ wa.drew.heap.size := hsz
  clear HA HOa HWa hsz
  have HA := HA2
  have HOa := HOa2
  have HWa := HWa2
  have hsz := hsz2
  clear HA2 HOa2 HWa2 hsz2
  generalize wa.drew = wv at HA HOa HWa hsz ⊢
  refine ord_take (i := 0) (.pointer (some ⟨g, 0, none⟩)) rfl (by kernel_rfl) (by kernel_rfl) (by kernel_rfl) rfl (fun _ _ _ h => h) (ex_move (.inl rfl) rfl) ?_
  refine ord_take (i := 1) (.pointer (some ⟨g, 0, none⟩)) rfl (by kernel_rfl) (by kernel_rfl) (by kernel_rfl) rfl (fun _ _ _ h => h) (ex_move (.inl rfl) rfl) ?_
  refine ord_take (i := 2) (.pointer (some ⟨g, 0, none⟩)) rfl (by kernel_rfl) (by kernel_rfl) (by kernel_rfl) rfl (fun _ _ _ h => h) (ex_nil rfl rfl) ?_
  refine ord_take (i := 3) (.pointer (some ⟨g, 0, none⟩)) rfl (by kernel_rfl) (by kernel_rfl) (by kernel_rfl) rfl (fun _ _ _ h => h) (ex_fld rfl rfl (fun w => by simp [go_sem])) ?_
  simp only [pcX]
  refine ord_two (i := 4) (j := 5) rfl rfl (by kernel_rfl) rfl rfl (fun K hK => ?_) (fun K hK => ?_)
  ·refine wp_ex (.slice A n c) (ex_ldsl rfl rfl (ld_sl _ _ wv ((HA.out.row 1 rfl).cell (i := 0) (by show 0 < 2; omega)))) ?_
   refine hK _ _ ?_
   clear hK
   simp only [pcX]
   refine ord_step (i := 5) rfl (by kernel_rfl) rfl (fun K hK => ?_)
   refine wp_ex (rootV (flagN false)) (ex_ldroot (r := (flagN false)) rfl rfl wv (HA.out.row 0 rfl)) ?_
   refine hK _ _ ?_
   clear hK
   simp only [pcX]
   refine ord_step (i := 6) rfl (by kernel_rfl) rfl (fun K hK => ?_)
   refine wp_bs1L Tryd.underlying32 (z := 32) (by kernel_rfl) (by omega) (by omega) (v0 := .agg (Array.replicate 32 (.int .u8 0))) (by kernel_rfl) _ rfl (u8v (flagN false)) rfl (HS.nil wv) ?_
   intro b21 wl hb21 _ hl
   have HL := Lib.hid hl
   clear hl
   refine hK _ _ ?_
   clear hK
   simp only [pcX]
   have hwl := HL.out
   have hb := hwl.out (by simp; omega)
   have ho' := HOa.out.all hb
   have hr21 := Rd.of_row (hwl.row 0 rfl) (Nat.le_refl _) (hwl.lt 0 rfl)
   have hbw' : base ≤ wl.heap.size := Nat.le_trans hbw (Nat.le_trans hsz hb.size)
   have hwb := HWa.out.trans (hb.mono (Nat.le_trans hBw hsz))
   have hrg : wl.rowIs g 90 2 (hashF A n c) := row_below (HA.out.row 1 rfl) hb (HA.out.row 1 rfl).lt
   refine ord_step (i := 7) rfl (by kernel_rfl) rfl (fun K hK => ?_)
   refine wp_appZ wl (.tmp 11) (.tmp 13) 32 base (z := .agg (Array.replicate 32 (.int .u8 0))) (k := 32) (bytes := 32) (by kernel_rfl) Tryd.underlying32 (by rfl) (by omega) rfl (n + 1) (u8v (catN (n * 32) x (flagN false))) rfl rfl ho' hr21 (fun _ _ => rfl) rfl cat_h ⟨by omega, by omega⟩ hbw' ?_
   intro A22 c22 w22 ho22 hg22 ha22
   have hrg2 := hrg.of_block (hg22.block g hrg.lt (fun e => by
    cases A with
    | none => cases e
    | some ad => injection e with e; exact HNe.out ad rfl e.symm))
   have hw22 := below_app hwb hg22 (Nat.le_trans hBb hbw') (fun ad e => Nat.le_trans hBb (HO.out.base_le ad e).1)
   have hne22 : ∀ ad, A22 = some ad → ad.block ≠ g := fun ad e => by
    rcases ha22 ad e with h | h
    ·cases A with
     | none => cases h
     | some ad' => injection h with h; rw [h]; exact HNe.out ad' rfl
    ·have := hrg.lt; omega
   have HO22 := Lib.hid ho22
   clear ho' hbw' hwb hrg hg22 ha22 ho22 hb hr21 hwl
   refine hK _ _ ?_
   clear hK
   simp only [pcX]
   refine ord_step (i := 8) rfl (by kernel_rfl) rfl (fun K hK => ?_)
   refine wp_ex (.pointer (some ⟨g, 0, none⟩)) (ex_nil rfl rfl _) ?_
   refine hK _ _ ?_
   clear hK
   simp only [pcX]
   refine ord_step (i := 9) rfl (by kernel_rfl) rfl (fun K hK => ?_)
   refine wp_ex (.pointer (some ⟨g, 0, none⟩)) (ex_fld rfl rfl (fun w => by simp [go_sem]) _) ?_
   refine hK _ _ ?_
   clear hK
   simp only [pcX]
   refine ord_step (i := 10) rfl (by kernel_rfl) rfl (fun K hK => ?_)
   refine wp_store rfl rfl (v := .slice A22 (n + 1) c22) rfl rfl (st_sl ⟨g, 0, none⟩ A22 (n + 1) c22 _ w22 (hrg2.cell (i := 0) (by show 0 < 2; omega)) (hrg2.frozen 0)) ?_
   refine hK _ _ (wpAny_done (by kernel_rfl) ?_ _)
   clear hK
   have hg := grown_setCell (World.grownBy.refl w22 (some g)) (.inl rfl) (.slice A22 (n + 1) c22) (p := ⟨g, 0, none⟩)
   have hr3 := (hrg2.set 0 (.slice A22 (n + 1) c22)).congr (g := hashF A22 (n + 1) c22) (fun i hi => by
    by_cases e : i = 0
    ·subst e; rfl
    ·show (if i = 0 then _ else hashF A n c i) = hashF A22 (n + 1) c22 i
     rw [if_neg e]; unfold hashF; rw [if_neg e, if_neg e])
   have ho3 := HO22.out.kept hg (fun ad e h => by injection h with h; exact hne22 ad e h)
   have hw3 := hw22.grown hg (Nat.le_trans hBw hw22.size) (fun k hk => by injection hk with hk; omega)
   go_wp2_with fail
   go_end0
   exact ⟨rfl, ⟨A22, c22, hr3, ho3, hne22⟩, hw3⟩
  ·refine wp_ex (rootV (flagN false)) (ex_ldroot (r := (flagN false)) rfl rfl wv (HA.out.row 0 rfl)) ?_
   refine hK _ _ ?_
   clear hK
   simp only [pcX]
   refine ord_two (i := 4) (j := 6) rfl rfl (by kernel_rfl) rfl rfl (fun K hK => ?_) (fun K hK => ?_)
   ·refine wp_ex (.slice A n c) (ex_ldsl rfl rfl (ld_sl _ _ wv ((HA.out.row 1 rfl).cell (i := 0) (by show 0 < 2; omega)))) ?_
    refine hK _ _ ?_
    clear hK
    simp only [pcX]
    refine ord_step (i := 6) rfl (by kernel_rfl) rfl (fun K hK => ?_)
    refine wp_bs1L Tryd.underlying32 (z := 32) (by kernel_rfl) (by omega) (by omega) (v0 := .agg (Array.replicate 32 (.int .u8 0))) (by kernel_rfl) _ rfl (u8v (flagN false)) rfl (HS.nil wv) ?_
    intro b21 wl hb21 _ hl
    have HL := Lib.hid hl
    clear hl
    refine hK _ _ ?_
    clear hK
    simp only [pcX]
    have hwl := HL.out
    have hb := hwl.out (by simp; omega)
    have ho' := HOa.out.all hb
    have hr21 := Rd.of_row (hwl.row 0 rfl) (Nat.le_refl _) (hwl.lt 0 rfl)
    have hbw' : base ≤ wl.heap.size := Nat.le_trans hbw (Nat.le_trans hsz hb.size)
    have hwb := HWa.out.trans (hb.mono (Nat.le_trans hBw hsz))
    have hrg : wl.rowIs g 90 2 (hashF A n c) := row_below (HA.out.row 1 rfl) hb (HA.out.row 1 rfl).lt
    refine ord_step (i := 7) rfl (by kernel_rfl) rfl (fun K hK => ?_)
    refine wp_appZ wl (.tmp 11) (.tmp 13) 32 base (z := .agg (Array.replicate 32 (.int .u8 0))) (k := 32) (bytes := 32) (by kernel_rfl) Tryd.underlying32 (by rfl) (by omega) rfl (n + 1) (u8v (catN (n * 32) x (flagN false))) rfl rfl ho' hr21 (fun _ _ => rfl) rfl cat_h ⟨by omega, by omega⟩ hbw' ?_
    intro A22 c22 w22 ho22 hg22 ha22
    have hrg2 := hrg.of_block (hg22.block g hrg.lt (fun e => by
     cases A with
     | none => cases e
     | some ad => injection e with e; exact HNe.out ad rfl e.symm))
    have hw22 := below_app hwb hg22 (Nat.le_trans hBb hbw') (fun ad e => Nat.le_trans hBb (HO.out.base_le ad e).1)
    have hne22 : ∀ ad, A22 = some ad → ad.block ≠ g := fun ad e => by
     rcases ha22 ad e with h | h
     ·cases A with
      | none => cases h
      | some ad' => injection h with h; rw [h]; exact HNe.out ad' rfl
     ·have := hrg.lt; omega
    have HO22 := Lib.hid ho22
    clear ho' hbw' hwb hrg hg22 ha22 ho22 hb hr21 hwl
    refine hK _ _ ?_
    clear hK
    simp only [pcX]
    refine ord_step (i := 8) rfl (by kernel_rfl) rfl (fun K hK => ?_)
    refine wp_ex (.pointer (some ⟨g, 0, none⟩)) (ex_nil rfl rfl _) ?_
    refine hK _ _ ?_
    clear hK
    simp only [pcX]
    refine ord_step (i := 9) rfl (by kernel_rfl) rfl (fun K hK => ?_)
    refine wp_ex (.pointer (some ⟨g, 0, none⟩)) (ex_fld rfl rfl (fun w => by simp [go_sem]) _) ?_
    refine hK _ _ ?_
    clear hK
    simp only [pcX]
    refine ord_step (i := 10) rfl (by kernel_rfl) rfl (fun K hK => ?_)
    refine wp_store rfl rfl (v := .slice A22 (n + 1) c22) rfl rfl (st_sl ⟨g, 0, none⟩ A22 (n + 1) c22 _ w22 (hrg2.cell (i := 0) (by show 0 < 2; omega)) (hrg2.frozen 0)) ?_
    refine hK _ _ (wpAny_done (by kernel_rfl) ?_ _)
    clear hK
    have hg := grown_setCell (World.grownBy.refl w22 (some g)) (.inl rfl) (.slice A22 (n + 1) c22) (p := ⟨g, 0, none⟩)
    have hr3 := (hrg2.set 0 (.slice A22 (n + 1) c22)).congr (g := hashF A22 (n + 1) c22) (fun i hi => by
     by_cases e : i = 0
     ·subst e; rfl
     ·show (if i = 0 then _ else hashF A n c i) = hashF A22 (n + 1) c22 i
      rw [if_neg e]; unfold hashF; rw [if_neg e, if_neg e])
    have ho3 := HO22.out.kept hg (fun ad e h => by injection h with h; exact hne22 ad e h)
    have hw3 := hw22.grown hg (Nat.le_trans hBw hw22.size) (fun k hk => by injection hk with hk; omega)
    go_wp2_with fail
    go_end0
    exact ⟨rfl, ⟨A22, c22, hr3, ho3, hne22⟩, hw3⟩
   ·refine wp_bs1L Tryd.underlying32 (z := 32) (by kernel_rfl) (by omega) (by omega) (v0 := .agg (Array.replicate 32 (.int .u8 0))) (by kernel_rfl) _ rfl (u8v (flagN false)) rfl (HS.nil wv) ?_
    intro b21 wl hb21 _ hl
    have HL := Lib.hid hl
    clear hl
    refine hK _ _ ?_
    clear hK
    simp only [pcX]
    refine ord_step (i := 4) rfl (by kernel_rfl) rfl (fun K hK => ?_)
    refine wp_ex (.slice A n c) (ex_ldsl rfl rfl (ld_sl _ _ wl ((row_below (HA.out.row 1 rfl) (HL.out.out (by simp; omega)) (HA.out.row 1 rfl).lt).cell (i := 0) (by show 0 < 2; omega)))) ?_
    refine hK _ _ ?_
    clear hK
    simp only [pcX]
    have hwl := HL.out
    have hb := hwl.out (by simp; omega)
    have ho' := HOa.out.all hb
    have hr21 := Rd.of_row (hwl.row 0 rfl) (Nat.le_refl _) (hwl.lt 0 rfl)
    have hbw' : base ≤ wl.heap.size := Nat.le_trans hbw (Nat.le_trans hsz hb.size)
    have hwb := HWa.out.trans (hb.mono (Nat.le_trans hBw hsz))
    have hrg : wl.rowIs g 90 2 (hashF A n c) := row_below (HA.out.row 1 rfl) hb (HA.out.row 1 rfl).lt
    refine ord_step (i := 7) rfl (by kernel_rfl) rfl (fun K hK => ?_)
    refine wp_appZ wl (.tmp 11) (.tmp 13) 32 base (z := .agg (Array.replicate 32 (.int .u8 0))) (k := 32) (bytes := 32) (by kernel_rfl) Tryd.underlying32 (by rfl) (by omega) rfl (n + 1) (u8v (catN (n * 32) x (flagN false))) rfl rfl ho' hr21 (fun _ _ => rfl) rfl cat_h ⟨by omega, by omega⟩ hbw' ?_
    intro A22 c22 w22 ho22 hg22 ha22
    have hrg2 := hrg.of_block (hg22.block g hrg.lt (fun e => by
     cases A with
     | none => cases e
     | some ad => injection e with e; exact HNe.out ad rfl e.symm))
    have hw22 := below_app hwb hg22 (Nat.le_trans hBb hbw') (fun ad e => Nat.le_trans hBb (HO.out.base_le ad e).1)
    have hne22 : ∀ ad, A22 = some ad → ad.block ≠ g := fun ad e => by
     rcases ha22 ad e with h | h
     ·cases A with
      | none => cases h
      | some ad' => injection h with h; rw [h]; exact HNe.out ad' rfl
     ·have := hrg.lt; omega
    have HO22 := Lib.hid ho22
    clear ho' hbw' hwb hrg hg22 ha22 ho22 hb hr21 hwl
    refine hK _ _ ?_
    clear hK
    simp only [pcX]
    refine ord_step (i := 8) rfl (by kernel_rfl) rfl (fun K hK => ?_)
    refine wp_ex (.pointer (some ⟨g, 0, none⟩)) (ex_nil rfl rfl _) ?_
    refine hK _ _ ?_
    clear hK
    simp only [pcX]
    refine ord_step (i := 9) rfl (by kernel_rfl) rfl (fun K hK => ?_)
    refine wp_ex (.pointer (some ⟨g, 0, none⟩)) (ex_fld rfl rfl (fun w => by simp [go_sem]) _) ?_
    refine hK _ _ ?_
    clear hK
    simp only [pcX]
    refine ord_step (i := 10) rfl (by kernel_rfl) rfl (fun K hK => ?_)
    refine wp_store rfl rfl (v := .slice A22 (n + 1) c22) rfl rfl (st_sl ⟨g, 0, none⟩ A22 (n + 1) c22 _ w22 (hrg2.cell (i := 0) (by show 0 < 2; omega)) (hrg2.frozen 0)) ?_
    refine hK _ _ (wpAny_done (by kernel_rfl) ?_ _)
    clear hK
    have hg := grown_setCell (World.grownBy.refl w22 (some g)) (.inl rfl) (.slice A22 (n + 1) c22) (p := ⟨g, 0, none⟩)
    have hr3 := (hrg2.set 0 (.slice A22 (n + 1) c22)).congr (g := hashF A22 (n + 1) c22) (fun i hi => by
     by_cases e : i = 0
     ·subst e; rfl
     ·show (if i = 0 then _ else hashF A n c i) = hashF A22 (n + 1) c22 i
      rw [if_neg e]; unfold hashF; rw [if_neg e, if_neg e])
    have ho3 := HO22.out.kept hg (fun ad e h => by injection h with h; exact hne22 ad e h)
    have hw3 := hw22.grown hg (Nat.le_trans hBw hw22.size) (fun k hk => by injection hk with hk; omega)
    go_wp2_with fail
    go_end0
    exact ⟨rfl, ⟨A22, c22, hr3, ho3, hne22⟩, hw3⟩
 ·go_upto_region 3 with (first
   | (refine wpList_allocL rfl 24 4 rfl rfl HS0.out (Array.replicate 32 (.int .u8 0)) (by kernel_rfl) 32 (u8v fun _ => 0) (by rfl) (zero_at 32 (.int .u8 0)) ?_; intro b4 w4 hb4 hc4 hs; have HS4 := Lib.hid hs; clear hs)
   | (refine ShufLawOps.wpList_st1 rfl 5 (.tmp 6) (.const (.int .u8 1)) rfl HS4.out 0 rfl 0 (.int .u8 1) (fun w ad u h hf => by simp [go_sem, h, hf]) rfl rfl (by omega) (u8v (flagN true)) (fun i _ => by simp only [u8v, flagN]; split <;> rfl) ?_; intro w5 hs _; have HS5 := Lib.hid hs; clear hs))
  have hs := HS5.out
  refine HS.go hs (fun wa hs => ?_)
  have hA : HS w wa [⟨b4, 24, 32, u8v (flagN true)⟩, ⟨g, 90, 2, hashF A n c⟩] := hs
  have HA := Lib.hid hA
  have hsz := hA.size
  have HOa := Lib.hid (HO.out.hs hA (fun ad e => by have := HNe.out ad e; have h2 := (HO.out.base_le ad e).2; simp; omega))
  have HWa := Lib.hid (hA.old hBw (by simp; omega))
  clear hs hA HS0 HS4
  refine ord_enter (n := 11) (by kernel_rfl) (by kernel_rfl) ?_
  have HA2 := Lib.hid HA.out.drew
  have HOa2 : Hid (OwnZ wa.drew base 24 32 A n c (u8v x)) := Lib.hid HOa.out
  have HWa2 : Hid (Below B w wa.drew) := Lib.hid ⟨HWa.out.os, HWa.out.tape, HWa.out.output, HWa.out.size, HWa.out.block⟩
  have hsz2 : w.heap.size ≤ wa.drew.heap.size := hsz
  clear HA HOa HWa hsz
  have HA := HA2
  have HOa := HOa2
  have HWa := HWa2
  have hsz := hsz2
  clear HA2 HOa2 HWa2 hsz2
  generalize wa.drew = wv at HA HOa HWa hsz ⊢
  refine ord_take (i := 0) (.pointer (some ⟨g, 0, none⟩)) rfl (by kernel_rfl) (by kernel_rfl) (by kernel_rfl) rfl (fun _ _ _ h => h) (ex_move (.inl rfl) rfl) ?_
  refine ord_take (i := 1) (.pointer (some ⟨g, 0, none⟩)) rfl (by kernel_rfl) (by kernel_rfl) (by kernel_rfl) rfl (fun _ _ _ h => h) (ex_move (.inl rfl) rfl) ?_
  refine ord_take (i := 2) (.pointer (some ⟨g, 0, none⟩)) rfl (by kernel_rfl) (by kernel_rfl) (by kernel_rfl) rfl (fun _ _ _ h => h) (ex_nil rfl rfl) ?_
  refine ord_take (i := 3) (.pointer (some ⟨g, 0, none⟩)) rfl (by kernel_rfl) (by kernel_rfl) (by kernel_rfl) rfl (fun _ _ _ h => h) (ex_fld rfl rfl (fun w => by simp [go_sem])) ?_
  simp only [pcX]
  refine ord_two (i := 4) (j := 5) rfl rfl (by kernel_rfl) rfl rfl (fun K hK => ?_) (fun K hK => ?_)
  ·refine wp_ex (.slice A n c) (ex_ldsl rfl rfl (ld_sl _ _ wv ((HA.out.row 1 rfl).cell (i := 0) (by show 0 < 2; omega)))) ?_
   refine hK _ _ ?_
   clear hK
   simp only [pcX]
   refine ord_step (i := 5) rfl (by kernel_rfl) rfl (fun K hK => ?_)
   refine wp_ex (rootV (flagN true)) (ex_ldroot (r := (flagN true)) rfl rfl wv (HA.out.row 0 rfl)) ?_
   refine hK _ _ ?_
   clear hK
   simp only [pcX]
   refine ord_step (i := 6) rfl (by kernel_rfl) rfl (fun K hK => ?_)
   refine wp_bs1L Tryd.underlying32 (z := 32) (by kernel_rfl) (by omega) (by omega) (v0 := .agg (Array.replicate 32 (.int .u8 0))) (by kernel_rfl) _ rfl (u8v (flagN true)) rfl (HS.nil wv) ?_
   intro b21 wl hb21 _ hl
   have HL := Lib.hid hl
   clear hl
   refine hK _ _ ?_
   clear hK
   simp only [pcX]
   have hwl := HL.out
   have hb := hwl.out (by simp; omega)
   have ho' := HOa.out.all hb
   have hr21 := Rd.of_row (hwl.row 0 rfl) (Nat.le_refl _) (hwl.lt 0 rfl)
   have hbw' : base ≤ wl.heap.size := Nat.le_trans hbw (Nat.le_trans hsz hb.size)
   have hwb := HWa.out.trans (hb.mono (Nat.le_trans hBw hsz))
   have hrg : wl.rowIs g 90 2 (hashF A n c) := row_below (HA.out.row 1 rfl) hb (HA.out.row 1 rfl).lt
   refine ord_step (i := 7) rfl (by kernel_rfl) rfl (fun K hK => ?_)
   refine wp_appZ wl (.tmp 11) (.tmp 13) 32 base (z := .agg (Array.replicate 32 (.int .u8 0))) (k := 32) (bytes := 32) (by kernel_rfl) Tryd.underlying32 (by rfl) (by omega) rfl (n + 1) (u8v (catN (n * 32) x (flagN true))) rfl rfl ho' hr21 (fun _ _ => rfl) rfl cat_h ⟨by omega, by omega⟩ hbw' ?_
   intro A22 c22 w22 ho22 hg22 ha22
   have hrg2 := hrg.of_block (hg22.block g hrg.lt (fun e => by
    cases A with
    | none => cases e
    | some ad => injection e with e; exact HNe.out ad rfl e.symm))
   have hw22 := below_app hwb hg22 (Nat.le_trans hBb hbw') (fun ad e => Nat.le_trans hBb (HO.out.base_le ad e).1)
   have hne22 : ∀ ad, A22 = some ad → ad.block ≠ g := fun ad e => by
    rcases ha22 ad e with h | h
    ·cases A with
     | none => cases h
     | some ad' => injection h with h; rw [h]; exact HNe.out ad' rfl
    ·have := hrg.lt; omega
   have HO22 := Lib.hid ho22
   clear ho' hbw' hwb hrg hg22 ha22 ho22 hb hr21 hwl
   refine hK _ _ ?_
   clear hK
   simp only [pcX]
   refine ord_step (i := 8) rfl (by kernel_rfl) rfl (fun K hK => ?_)
   refine wp_ex (.pointer (some ⟨g, 0, none⟩)) (ex_nil rfl rfl _) ?_
   refine hK _ _ ?_
   clear hK
   simp only [pcX]
   refine ord_step (i := 9) rfl (by kernel_rfl) rfl (fun K hK => ?_)
   refine wp_ex (.pointer (some ⟨g, 0, none⟩)) (ex_fld rfl rfl (fun w => by simp [go_sem]) _) ?_
   refine hK _ _ ?_
   clear hK
   simp only [pcX]
   refine ord_step (i := 10) rfl (by kernel_rfl) rfl (fun K hK => ?_)
   refine wp_store rfl rfl (v := .slice A22 (n + 1) c22) rfl rfl (st_sl ⟨g, 0, none⟩ A22 (n + 1) c22 _ w22 (hrg2.cell (i := 0) (by show 0 < 2; omega)) (hrg2.frozen 0)) ?_
   refine hK _ _ (wpAny_done (by kernel_rfl) ?_ _)
   clear hK
   have hg := grown_setCell (World.grownBy.refl w22 (some g)) (.inl rfl) (.slice A22 (n + 1) c22) (p := ⟨g, 0, none⟩)
   have hr3 := (hrg2.set 0 (.slice A22 (n + 1) c22)).congr (g := hashF A22 (n + 1) c22) (fun i hi => by
    by_cases e : i = 0
    ·subst e; rfl
    ·show (if i = 0 then _ else hashF A n c i) = hashF A22 (n + 1) c22 i
     rw [if_neg e]; unfold hashF; rw [if_neg e, if_neg e])
   have ho3 := HO22.out.kept hg (fun ad e h => by injection h with h; exact hne22 ad e h)
   have hw3 := hw22.grown hg (Nat.le_trans hBw hw22.size) (fun k hk => by injection hk with hk; omega)
   go_wp2_with fail
   go_end0
   exact ⟨rfl, ⟨A22, c22, hr3, ho3, hne22⟩, hw3⟩
  ·refine wp_ex (rootV (flagN true)) (ex_ldroot (r := (flagN true)) rfl rfl wv (HA.out.row 0 rfl)) ?_
   refine hK _ _ ?_
   clear hK
   simp only [pcX]
   refine ord_two (i := 4) (j := 6) rfl rfl (by kernel_rfl) rfl rfl (fun K hK => ?_) (fun K hK => ?_)
   ·refine wp_ex (.slice A n c) (ex_ldsl rfl rfl (ld_sl _ _ wv ((HA.out.row 1 rfl).cell (i := 0) (by show 0 < 2; omega)))) ?_
    refine hK _ _ ?_
    clear hK
    simp only [pcX]
    refine ord_step (i := 6) rfl (by kernel_rfl) rfl (fun K hK => ?_)
    refine wp_bs1L Tryd.underlying32 (z := 32) (by kernel_rfl) (by omega) (by omega) (v0 := .agg (Array.replicate 32 (.int .u8 0))) (by kernel_rfl) _ rfl (u8v (flagN true)) rfl (HS.nil wv) ?_
    intro b21 wl hb21 _ hl
    have HL := Lib.hid hl
    clear hl
    refine hK _ _ ?_
    clear hK
    simp only [pcX]
    have hwl := HL.out
    have hb := hwl.out (by simp; omega)
    have ho' := HOa.out.all hb
    have hr21 := Rd.of_row (hwl.row 0 rfl) (Nat.le_refl _) (hwl.lt 0 rfl)
    have hbw' : base ≤ wl.heap.size := Nat.le_trans hbw (Nat.le_trans hsz hb.size)
    have hwb := HWa.out.trans (hb.mono (Nat.le_trans hBw hsz))
    have hrg : wl.rowIs g 90 2 (hashF A n c) := row_below (HA.out.row 1 rfl) hb (HA.out.row 1 rfl).lt
    refine ord_step (i := 7) rfl (by kernel_rfl) rfl (fun K hK => ?_)
    refine wp_appZ wl (.tmp 11) (.tmp 13) 32 base (z := .agg (Array.replicate 32 (.int .u8 0))) (k := 32) (bytes := 32) (by kernel_rfl) Tryd.underlying32 (by rfl) (by omega) rfl (n + 1) (u8v (catN (n * 32) x (flagN true))) rfl rfl ho' hr21 (fun _ _ => rfl) rfl cat_h ⟨by omega, by omega⟩ hbw' ?_
    intro A22 c22 w22 ho22 hg22 ha22
    have hrg2 := hrg.of_block (hg22.block g hrg.lt (fun e => by
     cases A with
     | none => cases e
     | some ad => injection e with e; exact HNe.out ad rfl e.symm))
    have hw22 := below_app hwb hg22 (Nat.le_trans hBb hbw') (fun ad e => Nat.le_trans hBb (HO.out.base_le ad e).1)
    have hne22 : ∀ ad, A22 = some ad → ad.block ≠ g := fun ad e => by
     rcases ha22 ad e with h | h
     ·cases A with
      | none => cases h
      | some ad' => injection h with h; rw [h]; exact HNe.out ad' rfl
     ·have := hrg.lt; omega
    have HO22 := Lib.hid ho22
    clear ho' hbw' hwb hrg hg22 ha22 ho22 hb hr21 hwl
    refine hK _ _ ?_
    clear hK
    simp only [pcX]
    refine ord_step (i := 8) rfl (by kernel_rfl) rfl (fun K hK => ?_)
    refine wp_ex (.pointer (some ⟨g, 0, none⟩)) (ex_nil rfl rfl _) ?_
    refine hK _ _ ?_
    clear hK
    simp only [pcX]
    refine ord_step (i := 9) rfl (by kernel_rfl) rfl (fun K hK => ?_)
    refine wp_ex (.pointer (some ⟨g, 0, none⟩)) (ex_fld rfl rfl (fun w => by simp [go_sem]) _) ?_
    refine hK _ _ ?_
    clear hK
    simp only [pcX]
    refine ord_step (i := 10) rfl (by kernel_rfl) rfl (fun K hK => ?_)
    refine wp_store rfl rfl (v := .slice A22 (n + 1) c22) rfl rfl (st_sl ⟨g, 0, none⟩ A22 (n + 1) c22 _ w22 (hrg2.cell (i := 0) (by show 0 < 2; omega)) (hrg2.frozen 0)) ?_
    refine hK _ _ (wpAny_done (by kernel_rfl) ?_ _)
    clear hK
    have hg := grown_setCell (World.grownBy.refl w22 (some g)) (.inl rfl) (.slice A22 (n + 1) c22) (p := ⟨g, 0, none⟩)
    have hr3 := (hrg2.set 0 (.slice A22 (n + 1) c22)).congr (g := hashF A22 (n + 1) c22) (fun i hi => by
     by_cases e : i = 0
     ·subst e; rfl
     ·show (if i = 0 then _ else hashF A n c i) = hashF A22 (n + 1) c22 i
      rw [if_neg e]; unfold hashF; rw [if_neg e, if_neg e])
    have ho3 := HO22.out.kept hg (fun ad e h => by injection h with h; exact hne22 ad e h)
    have hw3 := hw22.grown hg (Nat.le_trans hBw hw22.size) (fun k hk => by injection hk with hk; omega)
    go_wp2_with fail
    go_end0
    exact ⟨rfl, ⟨A22, c22, hr3, ho3, hne22⟩, hw3⟩
   ·refine wp_bs1L Tryd.underlying32 (z := 32) (by kernel_rfl) (by omega) (by omega) (v0 := .agg (Array.replicate 32 (.int .u8 0))) (by kernel_rfl) _ rfl (u8v (flagN true)) rfl (HS.nil wv) ?_
    intro b21 wl hb21 _ hl
    have HL := Lib.hid hl
    clear hl
    refine hK _ _ ?_
    clear hK
    simp only [pcX]
    refine ord_step (i := 4) rfl (by kernel_rfl) rfl (fun K hK => ?_)
    refine wp_ex (.slice A n c) (ex_ldsl rfl rfl (ld_sl _ _ wl ((row_below (HA.out.row 1 rfl) (HL.out.out (by simp; omega)) (HA.out.row 1 rfl).lt).cell (i := 0) (by show 0 < 2; omega)))) ?_
    refine hK _ _ ?_
    clear hK
    simp only [pcX]
    have hwl := HL.out
    have hb := hwl.out (by simp; omega)
    have ho' := HOa.out.all hb
    have hr21 := Rd.of_row (hwl.row 0 rfl) (Nat.le_refl _) (hwl.lt 0 rfl)
    have hbw' : base ≤ wl.heap.size := Nat.le_trans hbw (Nat.le_trans hsz hb.size)
    have hwb := HWa.out.trans (hb.mono (Nat.le_trans hBw hsz))
    have hrg : wl.rowIs g 90 2 (hashF A n c) := row_below (HA.out.row 1 rfl) hb (HA.out.row 1 rfl).lt
    refine ord_step (i := 7) rfl (by kernel_rfl) rfl (fun K hK => ?_)
    refine wp_appZ wl (.tmp 11) (.tmp 13) 32 base (z := .agg (Array.replicate 32 (.int .u8 0))) (k := 32) (bytes := 32) (by kernel_rfl) Tryd.underlying32 (by rfl) (by omega) rfl (n + 1) (u8v (catN (n * 32) x (flagN true))) rfl rfl ho' hr21 (fun _ _ => rfl) rfl cat_h ⟨by omega, by omega⟩ hbw' ?_
    intro A22 c22 w22 ho22 hg22 ha22
    have hrg2 := hrg.of_block (hg22.block g hrg.lt (fun e => by
     cases A with
     | none => cases e
     | some ad => injection e with e; exact HNe.out ad rfl e.symm))
    have hw22 := below_app hwb hg22 (Nat.le_trans hBb hbw') (fun ad e => Nat.le_trans hBb (HO.out.base_le ad e).1)
    have hne22 : ∀ ad, A22 = some ad → ad.block ≠ g := fun ad e => by
     rcases ha22 ad e with h | h
     ·cases A with
      | none => cases h
      | some ad' => injection h with h; rw [h]; exact HNe.out ad' rfl
     ·have := hrg.lt; omega
    have HO22 := Lib.hid ho22
    clear ho' hbw' hwb hrg hg22 ha22 ho22 hb hr21 hwl
    refine hK _ _ ?_
    clear hK
    simp only [pcX]
    refine ord_step (i := 8) rfl (by kernel_rfl) rfl (fun K hK => ?_)
    refine wp_ex (.pointer (some ⟨g, 0, none⟩)) (ex_nil rfl rfl _) ?_
    refine hK _ _ ?_
    clear hK
    simp only [pcX]
    refine ord_step (i := 9) rfl (by kernel_rfl) rfl (fun K hK => ?_)
    refine wp_ex (.pointer (some ⟨g, 0, none⟩)) (ex_fld rfl rfl (fun w => by simp [go_sem]) _) ?_
    refine hK _ _ ?_
    clear hK
    simp only [pcX]
    refine ord_step (i := 10) rfl (by kernel_rfl) rfl (fun K hK => ?_)
    refine wp_store rfl rfl (v := .slice A22 (n + 1) c22) rfl rfl (st_sl ⟨g, 0, none⟩ A22 (n + 1) c22 _ w22 (hrg2.cell (i := 0) (by show 0 < 2; omega)) (hrg2.frozen 0)) ?_
    refine hK _ _ (wpAny_done (by kernel_rfl) ?_ _)
    clear hK
    have hg := grown_setCell (World.grownBy.refl w22 (some g)) (.inl rfl) (.slice A22 (n + 1) c22) (p := ⟨g, 0, none⟩)
    have hr3 := (hrg2.set 0 (.slice A22 (n + 1) c22)).congr (g := hashF A22 (n + 1) c22) (fun i hi => by
     by_cases e : i = 0
     ·subst e; rfl
     ·show (if i = 0 then _ else hashF A n c i) = hashF A22 (n + 1) c22 i
      rw [if_neg e]; unfold hashF; rw [if_neg e, if_neg e])
    have ho3 := HO22.out.kept hg (fun ad e h => by injection h with h; exact hne22 ad e h)
    have hw3 := hw22.grown hg (Nat.le_trans hBw hw22.size) (fun k hk => by injection hk with hk; omega)
    go_wp2_with fail
    go_end0
    exact ⟨rfl, ⟨A22, c22, hr3, ho3, hne22⟩, hw3⟩
end Go.Proofs.YtomilckcgmhfcaaDoor
