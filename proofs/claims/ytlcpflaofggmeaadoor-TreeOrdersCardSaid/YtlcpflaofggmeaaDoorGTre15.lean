/- A part of what the proofs stand on: TreeApp. -/
import Derived.Test.YtlcpflaofggmeaaDoorGTre14
/- A leaf is appended. (Printed by a program of mine.) -/
namespace Go.Proofs.YtlcpflaofggmeaaDoor
set_option maxRecDepth 40000
open Go.RowKit
namespace TreeApp
theorem ent_len (vs : Array Value) (w : World) : (callFunc 14 vs).run Tryd.prog w = .ok (.enter 14 vs) w := by kernel_rfl
theorem cat_app (n : Nat) (g y : Nat → Nat) : ∀ i, i < (n + 1) * 32 → catF (n * 32) (u8v g) (u8v y) i = u8v (appN g n y) i := fun i _ => by
  simp only [catF, u8v, appN, catN]
  split <;> rfl
theorem lev0 {w : World} {base T n : Nat} {A : Option Addr} {v : TV} (h : TM w base T v) (hA : v.lA 0 = A) (hn : v.lm 0 = n) {c0 : Nat} (hc : v.lk 0 = c0) : OwnZ w base 30 32 A n c0 (u8v (v.g 0)) := by
  have h1 := h.lv 0 (Nat.zero_le _)
  rw [hA, hn, hc] at h1
  exact h1
theorem sub1 (n : Nat) (hn : n < 4611686018427387904) (w : World) : (binOp .sub 3 (.int .i64 ((n + 1 : Nat) : Int)) (.int .i64 1)).run Tryd.prog w = .ok (.int .i64 (n : Int)) w := by
  simp [go_sem, IntKind.wrap, IntKind.bits, IntKind.signed]
  omega
end TreeApp
set_option maxHeartbeats 4000000 in
theorem tapp_nil (y : Nat → Nat) (w : World) : Calls Tryd.prog 10 #[.pointer none, rootV y] w fun r w' => r = .returned (.int .i64 1) ∧ Below w.heap.size w w' := by
  have HS0 := Lib.hid (HS.nil w)
  go_enter Tryd.func10, Tryd.ntmps10
  go_wp2_with (refine wpList_boxL rfl 30 _ 3 rfl rfl HS0.out 32 (u8v y) rfl ?_; intro b5 w4 hb5 hc5 hs; have HB4 := Lib.hid (hs.out (by simp; omega)); clear hs)
  go_ret
  exact ⟨rfl, HB4.out⟩
open TreeFn TreeMark TreeGet TreeApp in
set_option maxHeartbeats 8000000 in
theorem tapp_full (v : TV) (base T n : Nat) (y : Nat → Nat) (w : World) (h : TM w base T v) (hn : v.lm 0 = n) (hf : v.lim ≤ n) :
    Calls Tryd.prog 10 #[tpV T, rootV y] w fun r w' => r = .returned (.int .i64 6) ∧ Below w.heap.size w w' := by
  have H0 := Lib.hid h
  have HN := Lib.hid hn
  have HS0 := Lib.hid (HS.nil w)
  obtain ⟨lim, hlim⟩ : ∃ lim, v.lim = lim := ⟨_, rfl⟩
  have HLim := Lib.hid hlim
  have hfull : lim ≤ n := by omega
  clear h hn hlim hf
  go_enter Tryd.func10, Tryd.ntmps10
  go_upto_region 3 with (refine wpList_boxL rfl 30 _ 3 rfl rfl HS0.out 32 (u8v y) rfl ?_; intro b5 w4 hb5 hc5 hs; have HR4 := Lib.hid (hs.row 0 rfl); have HB4 := Lib.hid (hs.out (by simp; omega)); have hl5 : b5 < w4.heap.size := hs.lt 0 rfl; have HM4 := Lib.hid (H0.out.below HB4.out); clear hs)
  refine wp_region_facts (B := w4.heap.size) (w0 := w4) [SF.is (.pointer (some ⟨T, 0, none⟩)), SF.is (.int .i64 ((n : Nat) : Int)), SF.is (.pointer (some ⟨T, 0, none⟩)), SF.is (.pointer (some ⟨T, 0, none⟩)), SF.is (.pointer (some ⟨T, 0, none⟩)), SF.is (.int .i64 ((lim : Nat) : Int)), SF.is (.bool true), SF.is (.bool true)] (by kernel_rfl) (by kernel_rfl) rfl (Nat.le_refl _) (Below.refl _ _) ⟨?_, ?_, ?_, ?_, ?_, ?_, ?_, ?_, trivial⟩ ?_
  · exact (opOb_move _ rfl (.inl rfl) rfl)
  · exact opOb_fn1 ent_len rfl rfl (OpK.tmp rfl) (fun w' hb => (tlen_look v base T w' (HM4.out.below hb)).mono fun r w'' ⟨he, hw⟩ => ⟨_, by rw [he, HN.out], rfl, by subst hw; exact Below.refl _ _⟩)
  · exact (opOb_move _ rfl (.inl rfl) rfl)
  · exact opOb_nil _ rfl rfl (OpK.tmp rfl)
  · exact opOb_fld rfl rfl (OpK.tmp rfl) (fun w => by simp [go_sem])
  · exact opOb_ld rfl rfl (OpK.tmp rfl) (fun w' hb => run_ld1 w' _ _ .i64 _ (by rw [← HLim.out]; exact (HM4.out.below hb).c0) Tryd.underlying3)
  · exact opOb_bin rfl rfl rfl (OpK.tmp rfl) (OpK.tmp rfl) (fun w => geI n lim hfull w)
  · exact (opOb_move _ rfl (.inr rfl) rfl)
  · intro w' hb
    simp only [fin, SF.is, forall_eq]
    simp only [Act.put, List.setIfInBounds_toArray, List.set_cons_succ, List.set_cons_zero]
    have HB6 := Lib.hid (HB4.out.trans (hb.mono HB4.out.size))
    clear hb
    go_wp2_with fail
    go_ret
    exact ⟨rfl, HB6.out⟩
open TreeFn TreeMark TreeGet TreeApp in
set_option maxHeartbeats 16000000 in
theorem tapp_look (v : TV) (base T n : Nat) (x y : Nat → Nat) (w : World) (h : TM w base T v) (hst : TSt v n x) (hlt0 : n < v.lim) (hy : ∀ q, y q < 256) :
    Calls Tryd.prog 10 #[tpV T, rootV y] w fun r w' => ∃ v', r = .returned (.int .i64 0) ∧ TM w' base T v' ∧ TStep w w' T v v' ∧ TSt v' (n + 1) (appN x n y) ∧ DirLe v v' n ∧ v'.H = v.H := by
  have H0 := Lib.hid h
  have HT0 := Lib.hid hst
  have HN := Lib.hid hst.n0
  have HS0 := Lib.hid (HS.nil w)
  have HLt0 := Lib.hid hlt0
  have hn30 : n < 1073741824 := Nat.lt_of_lt_of_le hlt0 hst.lim
  have HY := Lib.hid hy
  obtain ⟨lim, hlim⟩ : ∃ lim, v.lim = lim := ⟨_, rfl⟩
  have HLim := Lib.hid hlim
  have hlt : n < lim := by omega
  obtain ⟨A0, hA⟩ : ∃ A0, v.lA 0 = A0 := ⟨_, rfl⟩
  have HA := Lib.hid hA
  obtain ⟨c0, hc⟩ : ∃ c0, v.lk 0 = c0 := ⟨_, rfl⟩
  have HC := Lib.hid hc
  obtain ⟨D, hD⟩ : ∃ D, v.D = D := ⟨_, rfl⟩
  have HD := Lib.hid hD
  clear h hst hlim hlt0 hA hc hD hy
  go_enter Tryd.func10, Tryd.ntmps10
  go_upto_region 3 with (refine wpList_boxL rfl 30 _ 3 rfl rfl HS0.out 32 (u8v y) rfl ?_; intro b5 w4 hb5 hc5 hs; have HR4 := Lib.hid (hs.row 0 rfl); have HB4 := Lib.hid (hs.out (by simp; omega)); have hl5 : b5 < w4.heap.size := hs.lt 0 rfl; have HM4 := Lib.hid (H0.out.below HB4.out); clear hs)
  refine wp_region_facts (B := w4.heap.size) (w0 := w4) [SF.is (.pointer (some ⟨T, 0, none⟩)), SF.is (.int .i64 ((n : Nat) : Int)), SF.is (.pointer (some ⟨T, 0, none⟩)), SF.is (.pointer (some ⟨T, 0, none⟩)), SF.is (.pointer (some ⟨T, 0, none⟩)), SF.is (.int .i64 ((lim : Nat) : Int)), SF.is (.bool false), SF.is (.bool false)] (by kernel_rfl) (by kernel_rfl) rfl (Nat.le_refl _) (Below.refl _ _) ⟨?_, ?_, ?_, ?_, ?_, ?_, ?_, ?_, trivial⟩ ?_
  · exact (opOb_move _ rfl (.inl rfl) rfl)
  · exact opOb_fn1 ent_len rfl rfl (OpK.tmp rfl) (fun w' hb => (tlen_look v base T w' (HM4.out.below hb)).mono fun r w'' ⟨he, hw⟩ => ⟨_, by rw [he, HN.out], rfl, by subst hw; exact Below.refl _ _⟩)
  · exact (opOb_move _ rfl (.inl rfl) rfl)
  · exact opOb_nil _ rfl rfl (OpK.tmp rfl)
  · exact opOb_fld rfl rfl (OpK.tmp rfl) (fun w => by simp [go_sem])
  · exact opOb_ld rfl rfl (OpK.tmp rfl) (fun w' hb => run_ld1 w' _ _ .i64 _ (by rw [← HLim.out]; exact (HM4.out.below hb).c0) Tryd.underlying3)
  · exact opOb_bin rfl rfl rfl (OpK.tmp rfl) (OpK.tmp rfl) (fun w => geI' n lim hlt w)
  · exact (opOb_move _ rfl (.inr rfl) rfl)
  · intro w' hb
    simp only [fin, SF.is, forall_eq]
    simp only [Act.put, List.setIfInBounds_toArray, List.set_cons_succ, List.set_cons_zero]
    have HB6 := Lib.hid (HB4.out.trans (hb.mono HB4.out.size))
    have HM6 := Lib.hid (HM4.out.below hb)
    have HR6 := Lib.hid (row_below HR4.out hb hl5)
    obtain ⟨w6, hw6⟩ : ∃ w6 : World, w6 = w' := ⟨_, rfl⟩
    subst hw6
    clear hb HM4 HR4 HB4
    go_upto_region 5 with fail
    go_cut [] from 16 to 29 (fun wx => ∃ (A8 : Option Addr) (c8 : Nat), TM wx base T { v with lA := fun j => if j = 0 then A8 else v.lA j, lm := fun j => if j = 0 then n + 1 else v.lm j, lk := fun j => if j = 0 then c8 else v.lk j, g := fun j => if j = 0 then appN (v.g 0) n y else v.g j } ∧ TStep w wx T v { v with lA := fun j => if j = 0 then A8 else v.lA j, lm := fun j => if j = 0 then n + 1 else v.lm j, lk := fun j => if j = 0 then c8 else v.lk j, g := fun j => if j = 0 then appN (v.g 0) n y else v.g j })
    case first =>
      refine ord_enter (n := 15) (by kernel_rfl) (by kernel_rfl) ?_
      have HMv0 : Hid (TM w6.drew base T v) := Lib.hid (HM6.out.below ⟨rfl, rfl, rfl, Nat.le_refl _, fun _ _ => rfl⟩)
      have HRv0 : Hid (w6.drew.rowIs b5 30 32 (u8v y)) := Lib.hid HR6.out
      have HBv0 : Hid (Below w.heap.size w w6.drew) := Lib.hid ⟨HB6.out.os, HB6.out.tape, HB6.out.output, HB6.out.size, HB6.out.block⟩
      generalize w6.drew = wv at HMv0 HRv0 HBv0 ⊢
      have HMv := Lib.hid HMv0.out
      have HRv := Lib.hid HRv0.out
      clear HB6
      have HB6 := Lib.hid HBv0.out
      clear HMv0 HRv0 HBv0 HM6 HR6
      refine ord_take (i := 0) (tpV T) rfl (by kernel_rfl) (by kernel_rfl) (by kernel_rfl) rfl (fun _ _ _ h => h) (ex_move (.inl rfl) rfl) ?_
      refine ord_take (i := 4) (tpV T) rfl (by kernel_rfl) (by kernel_rfl) (by kernel_rfl) rfl (fun _ _ _ h => h) (ex_move (.inl rfl) rfl) ?_
      simp only [Act.put, List.setIfInBounds_toArray, List.set_cons_succ, List.set_cons_zero]
      refine ord_take (i := 1) (tpV T) rfl (by kernel_rfl) (by kernel_rfl) (by kernel_rfl) rfl (fun _ _ _ h => h) (ex_nil rfl rfl) ?_
      refine ord_take (i := 5) (tpV T) rfl (by kernel_rfl) (by kernel_rfl) (by kernel_rfl) rfl (fun _ _ _ h => h) (ex_nil rfl rfl) ?_
      simp only [Act.put, List.setIfInBounds_toArray, List.set_cons_succ, List.set_cons_zero]
      refine ord_take (i := 2) (.pointer (some ⟨T, 2, none⟩)) rfl (by kernel_rfl) (by kernel_rfl) (by kernel_rfl) rfl (fun _ _ _ h => h) (ex_fld rfl rfl (fun w => by simp [go_sem])) ?_
      refine ord_take (i := 6) (.pointer (some ⟨T, 2, none⟩)) rfl (by kernel_rfl) (by kernel_rfl) (by kernel_rfl) rfl (fun _ _ _ h => h) (ex_fld rfl rfl (fun w => by simp [go_sem])) ?_
      simp only [Act.put, List.setIfInBounds_toArray, List.set_cons_succ, List.set_cons_zero]
      refine ord_three (i := 3) (j := 7) (k := 10) rfl rfl rfl (by kernel_rfl) rfl rfl rfl (fun K hK => ?_) (fun K hK => ?_) (fun K hK => ?_)
      · refine wp_as (.slice (some ⟨v.lb, 0, none⟩) (D + 1) v.lc) (ex_ldSl rfl rfl Tryd.underlying55 (HMv.out.c2) (by first | (rw [← HD.out]; done) | (rw [← HD.out]; rfl))) ?_
        refine hK _ _ ?_
        clear hK
        simp only [Act.put, List.setIfInBounds_toArray, List.set_cons_succ, List.set_cons_zero]
        refine ord_two (i := 7) (j := 10) rfl rfl (by kernel_rfl) rfl rfl (fun K hK => ?_) (fun K hK => ?_)
        · refine wp_as (.slice (some ⟨v.lb, 0, none⟩) (D + 1) v.lc) (ex_ldSl rfl rfl Tryd.underlying55 (HMv.out.c2) (by first | (rw [← HD.out]; done) | (rw [← HD.out]; rfl))) ?_
          refine hK _ _ ?_
          clear hK
          simp only [Act.put, List.setIfInBounds_toArray, List.set_cons_succ, List.set_cons_zero]
          refine ord_take (i := 8) (.pointer (some ⟨v.lb, 0, none⟩)) rfl (by kernel_rfl) (by kernel_rfl) (by kernel_rfl) rfl (fun _ _ _ h => h) (ex_idx rfl rfl rfl (fun w => idx0 w _ _ _ (by omega))) ?_
          simp only [Act.put, List.setIfInBounds_toArray, List.set_cons_succ, List.set_cons_zero]
          refine ord_two (i := 9) (j := 10) rfl rfl (by kernel_rfl) rfl rfl (fun K hK => ?_) (fun K hK => ?_)
          · refine wp_as (.slice A0 n c0) (ex_ldSl rfl rfl Tryd.underlying22 (HMv.out.level (k := 0) (Nat.zero_le _)) (by rw [HA.out, HN.out, HC.out])) ?_
            refine hK _ _ ?_
            clear hK
            simp only [Act.put, List.setIfInBounds_toArray, List.set_cons_succ, List.set_cons_zero]
            refine ord_step (i := 10) rfl (by kernel_rfl) rfl (fun K hK => ?_)
            refine wp_as (rootV y) (ex_ldR 32 (u8v y) rfl rfl (fun q hq => by rw [add_lit0]; exact HRv.out.cell hq) Tryd.underlying30 rfl (by kernel_rfl)) ?_
            refine hK _ _ ?_
            clear hK
            simp only [Act.put, List.setIfInBounds_toArray, List.set_cons_succ, List.set_cons_zero]
            refine ord_step (i := 11) rfl (by kernel_rfl) rfl (fun K hK => ?_)
            refine wp_bs1L Tryd.underlying22 (z := 32) (by kernel_rfl) (by omega) (by omega) (v0 := .agg (Array.replicate 32 (.int .u8 0))) (by kernel_rfl) _ rfl (u8v y) rfl (HS.nil _) ?_
            intro b7 w7 hb7 hc7 hs
            have HR7 := Lib.hid (hs.row 0 rfl)
            have HB7 := Lib.hid (hs.out (by simp; omega))
            have HM7 := Lib.hid (HMv.out.below HB7.out)
            have HR5 := Lib.hid (row_below HRv.out HB7.out HRv.out.lt)
            clear hs
            refine hK _ _ ?_
            clear hK
            simp only [Act.put, List.setIfInBounds_toArray, List.set_cons_succ, List.set_cons_zero]
            refine ord_step (i := 12) rfl (by kernel_rfl) rfl (fun K hK => ?_)
            refine wp_appZ _ (.tmp 25) (.tmp 27) 22 base (e := 30) (z := .agg (Array.replicate 32 (.int .u8 0))) (k := 32) (bytes := 32) (by kernel_rfl) Tryd.underlying22 (by rfl) (by omega) rfl (n + 1) (u8v (appN (v.g 0) n y)) rfl rfl (lev0 HM7.out HA.out HN.out HC.out) (Rd.of_row (n := 1 * 32) HR7.out (Nat.le_refl _) HR7.out.lt) (fun _ _ => rfl) rfl (cat_app n (v.g 0) y) ⟨by omega, by omega⟩ HM7.out.base_le ?_
            intro A8 c8 w8 ho hg ha
            have hg0 : w7.grownBy w8 ((v.lA 0).map (·.block)) := by rw [HA.out]; exact hg
            have HG8 := Lib.hid hg0
            have HO8 := Lib.hid ho
            have HA8 := Lib.hid (show ∀ b, OnA A8 b → OnA (v.lA 0) b ∨ w7.heap.size ≤ b by rw [HA.out]; exact app_on ha)
            clear ho hg ha hg0
            refine hK _ _ ?_
            clear hK
            simp only [Act.put, List.setIfInBounds_toArray, List.set_cons_succ, List.set_cons_zero]
            refine ord_take (i := 13) (.pointer (some ⟨v.lb, 0, none⟩)) rfl (by kernel_rfl) (by kernel_rfl) (by kernel_rfl) rfl (fun _ _ _ h => h) (ex_idx rfl rfl rfl (fun w => idx0 w _ _ _ (by omega))) ?_
            simp only [Act.put, List.setIfInBounds_toArray, List.set_cons_succ, List.set_cons_zero]
            refine ord_step (i := 14) rfl (by kernel_rfl) rfl (fun K hK => ?_)
            obtain ⟨F, hF, _⟩ := HM7.out.lrow
            have hrow := hF.of_block ((HM7.out.other2 (r0 := 3) (A := v.lA 0) (fun b hb => ⟨Nat.zero_le _, hb⟩) HG8.out).1 1 v.lb rfl (by omega))
            have hcap := HM7.out.lcap
            refine wp_stC 22 (.tmp 29) (.tmp 28) rfl hrow 0 (by omega) (.slice A8 (n + 1) c8) (StCopy.stSlR _ _ _) rfl rfl ?_
            have HM9 := Lib.hid (HM7.out.setL (Nat.zero_le _) HG8.out HO8.out HA8.out)
            have HS9 := Lib.hid ((TStep.refl (T := T) (v := v) (HB6.out.trans (HB7.out.mono HB6.out.size))).trans (TStep.ofL (T := T) (v := v) (Nat.zero_le _) (n' := n + 1) (c' := c8) (g' := appN (v.g 0) n y) HG8.out HA8.out))
            clear hrow hF HM7 HG8 HO8 HA8 HB7
            refine hK _ _ ?_
            clear hK
            simp only [Act.put]
            refine wpAny_done (by kernel_rfl) ?_ _
            go_wp2_with fail
            go_meet
            case rel => exact ⟨A8, c8, HM9.out, HS9.out⟩
          · refine wp_as (rootV y) (ex_ldR 32 (u8v y) rfl rfl (fun q hq => by rw [add_lit0]; exact HRv.out.cell hq) Tryd.underlying30 rfl (by kernel_rfl)) ?_
            refine hK _ _ ?_
            clear hK
            simp only [Act.put, List.setIfInBounds_toArray, List.set_cons_succ, List.set_cons_zero]
            refine ord_two (i := 9) (j := 11) rfl rfl (by kernel_rfl) rfl rfl (fun K hK => ?_) (fun K hK => ?_)
            · refine wp_as (.slice A0 n c0) (ex_ldSl rfl rfl Tryd.underlying22 (HMv.out.level (k := 0) (Nat.zero_le _)) (by rw [HA.out, HN.out, HC.out])) ?_
              refine hK _ _ ?_
              clear hK
              simp only [Act.put, List.setIfInBounds_toArray, List.set_cons_succ, List.set_cons_zero]
              refine ord_step (i := 11) rfl (by kernel_rfl) rfl (fun K hK => ?_)
              refine wp_bs1L Tryd.underlying22 (z := 32) (by kernel_rfl) (by omega) (by omega) (v0 := .agg (Array.replicate 32 (.int .u8 0))) (by kernel_rfl) _ rfl (u8v y) rfl (HS.nil _) ?_
              intro b7 w7 hb7 hc7 hs
              have HR7 := Lib.hid (hs.row 0 rfl)
              have HB7 := Lib.hid (hs.out (by simp; omega))
              have HM7 := Lib.hid (HMv.out.below HB7.out)
              have HR5 := Lib.hid (row_below HRv.out HB7.out HRv.out.lt)
              clear hs
              refine hK _ _ ?_
              clear hK
              simp only [Act.put, List.setIfInBounds_toArray, List.set_cons_succ, List.set_cons_zero]
              refine ord_step (i := 12) rfl (by kernel_rfl) rfl (fun K hK => ?_)
              refine wp_appZ _ (.tmp 25) (.tmp 27) 22 base (e := 30) (z := .agg (Array.replicate 32 (.int .u8 0))) (k := 32) (bytes := 32) (by kernel_rfl) Tryd.underlying22 (by rfl) (by omega) rfl (n + 1) (u8v (appN (v.g 0) n y)) rfl rfl (lev0 HM7.out HA.out HN.out HC.out) (Rd.of_row (n := 1 * 32) HR7.out (Nat.le_refl _) HR7.out.lt) (fun _ _ => rfl) rfl (cat_app n (v.g 0) y) ⟨by omega, by omega⟩ HM7.out.base_le ?_
              intro A8 c8 w8 ho hg ha
              have hg0 : w7.grownBy w8 ((v.lA 0).map (·.block)) := by rw [HA.out]; exact hg
              have HG8 := Lib.hid hg0
              have HO8 := Lib.hid ho
              have HA8 := Lib.hid (show ∀ b, OnA A8 b → OnA (v.lA 0) b ∨ w7.heap.size ≤ b by rw [HA.out]; exact app_on ha)
              clear ho hg ha hg0
              refine hK _ _ ?_
              clear hK
              simp only [Act.put, List.setIfInBounds_toArray, List.set_cons_succ, List.set_cons_zero]
              refine ord_take (i := 13) (.pointer (some ⟨v.lb, 0, none⟩)) rfl (by kernel_rfl) (by kernel_rfl) (by kernel_rfl) rfl (fun _ _ _ h => h) (ex_idx rfl rfl rfl (fun w => idx0 w _ _ _ (by omega))) ?_
              simp only [Act.put, List.setIfInBounds_toArray, List.set_cons_succ, List.set_cons_zero]
              refine ord_step (i := 14) rfl (by kernel_rfl) rfl (fun K hK => ?_)
              obtain ⟨F, hF, _⟩ := HM7.out.lrow
              have hrow := hF.of_block ((HM7.out.other2 (r0 := 3) (A := v.lA 0) (fun b hb => ⟨Nat.zero_le _, hb⟩) HG8.out).1 1 v.lb rfl (by omega))
              have hcap := HM7.out.lcap
              refine wp_stC 22 (.tmp 29) (.tmp 28) rfl hrow 0 (by omega) (.slice A8 (n + 1) c8) (StCopy.stSlR _ _ _) rfl rfl ?_
              have HM9 := Lib.hid (HM7.out.setL (Nat.zero_le _) HG8.out HO8.out HA8.out)
              have HS9 := Lib.hid ((TStep.refl (T := T) (v := v) (HB6.out.trans (HB7.out.mono HB6.out.size))).trans (TStep.ofL (T := T) (v := v) (Nat.zero_le _) (n' := n + 1) (c' := c8) (g' := appN (v.g 0) n y) HG8.out HA8.out))
              clear hrow hF HM7 HG8 HO8 HA8 HB7
              refine hK _ _ ?_
              clear hK
              simp only [Act.put]
              refine wpAny_done (by kernel_rfl) ?_ _
              go_wp2_with fail
              go_meet
              case rel => exact ⟨A8, c8, HM9.out, HS9.out⟩
            · refine wp_bs1L Tryd.underlying22 (z := 32) (by kernel_rfl) (by omega) (by omega) (v0 := .agg (Array.replicate 32 (.int .u8 0))) (by kernel_rfl) _ rfl (u8v y) rfl (HS.nil _) ?_
              intro b7 w7 hb7 hc7 hs
              have HR7 := Lib.hid (hs.row 0 rfl)
              have HB7 := Lib.hid (hs.out (by simp; omega))
              have HM7 := Lib.hid (HMv.out.below HB7.out)
              have HR5 := Lib.hid (row_below HRv.out HB7.out HRv.out.lt)
              clear hs
              refine hK _ _ ?_
              clear hK
              simp only [Act.put, List.setIfInBounds_toArray, List.set_cons_succ, List.set_cons_zero]
              refine ord_step (i := 9) rfl (by kernel_rfl) rfl (fun K hK => ?_)
              refine wp_as (.slice A0 n c0) (ex_ldSl rfl rfl Tryd.underlying22 (HM7.out.level (k := 0) (Nat.zero_le _)) (by rw [HA.out, HN.out, HC.out])) ?_
              refine hK _ _ ?_
              clear hK
              simp only [Act.put, List.setIfInBounds_toArray, List.set_cons_succ, List.set_cons_zero]
              refine ord_step (i := 12) rfl (by kernel_rfl) rfl (fun K hK => ?_)
              refine wp_appZ _ (.tmp 25) (.tmp 27) 22 base (e := 30) (z := .agg (Array.replicate 32 (.int .u8 0))) (k := 32) (bytes := 32) (by kernel_rfl) Tryd.underlying22 (by rfl) (by omega) rfl (n + 1) (u8v (appN (v.g 0) n y)) rfl rfl (lev0 HM7.out HA.out HN.out HC.out) (Rd.of_row (n := 1 * 32) HR7.out (Nat.le_refl _) HR7.out.lt) (fun _ _ => rfl) rfl (cat_app n (v.g 0) y) ⟨by omega, by omega⟩ HM7.out.base_le ?_
              intro A8 c8 w8 ho hg ha
              have hg0 : w7.grownBy w8 ((v.lA 0).map (·.block)) := by rw [HA.out]; exact hg
              have HG8 := Lib.hid hg0
              have HO8 := Lib.hid ho
              have HA8 := Lib.hid (show ∀ b, OnA A8 b → OnA (v.lA 0) b ∨ w7.heap.size ≤ b by rw [HA.out]; exact app_on ha)
              clear ho hg ha hg0
              refine hK _ _ ?_
              clear hK
              simp only [Act.put, List.setIfInBounds_toArray, List.set_cons_succ, List.set_cons_zero]
              refine ord_take (i := 13) (.pointer (some ⟨v.lb, 0, none⟩)) rfl (by kernel_rfl) (by kernel_rfl) (by kernel_rfl) rfl (fun _ _ _ h => h) (ex_idx rfl rfl rfl (fun w => idx0 w _ _ _ (by omega))) ?_
              simp only [Act.put, List.setIfInBounds_toArray, List.set_cons_succ, List.set_cons_zero]
              refine ord_step (i := 14) rfl (by kernel_rfl) rfl (fun K hK => ?_)
              obtain ⟨F, hF, _⟩ := HM7.out.lrow
              have hrow := hF.of_block ((HM7.out.other2 (r0 := 3) (A := v.lA 0) (fun b hb => ⟨Nat.zero_le _, hb⟩) HG8.out).1 1 v.lb rfl (by omega))
              have hcap := HM7.out.lcap
              refine wp_stC 22 (.tmp 29) (.tmp 28) rfl hrow 0 (by omega) (.slice A8 (n + 1) c8) (StCopy.stSlR _ _ _) rfl rfl ?_
              have HM9 := Lib.hid (HM7.out.setL (Nat.zero_le _) HG8.out HO8.out HA8.out)
              have HS9 := Lib.hid ((TStep.refl (T := T) (v := v) (HB6.out.trans (HB7.out.mono HB6.out.size))).trans (TStep.ofL (T := T) (v := v) (Nat.zero_le _) (n' := n + 1) (c' := c8) (g' := appN (v.g 0) n y) HG8.out HA8.out))
              clear hrow hF HM7 HG8 HO8 HA8 HB7
              refine hK _ _ ?_
              clear hK
              simp only [Act.put]
              refine wpAny_done (by kernel_rfl) ?_ _
              go_wp2_with fail
              go_meet
              case rel => exact ⟨A8, c8, HM9.out, HS9.out⟩
        · refine wp_as (rootV y) (ex_ldR 32 (u8v y) rfl rfl (fun q hq => by rw [add_lit0]; exact HRv.out.cell hq) Tryd.underlying30 rfl (by kernel_rfl)) ?_
          refine hK _ _ ?_
          clear hK
          simp only [Act.put, List.setIfInBounds_toArray, List.set_cons_succ, List.set_cons_zero]
          refine ord_two (i := 7) (j := 11) rfl rfl (by kernel_rfl) rfl rfl (fun K hK => ?_) (fun K hK => ?_)
          · refine wp_as (.slice (some ⟨v.lb, 0, none⟩) (D + 1) v.lc) (ex_ldSl rfl rfl Tryd.underlying55 (HMv.out.c2) (by first | (rw [← HD.out]; done) | (rw [← HD.out]; rfl))) ?_
            refine hK _ _ ?_
            clear hK
            simp only [Act.put, List.setIfInBounds_toArray, List.set_cons_succ, List.set_cons_zero]
            refine ord_take (i := 8) (.pointer (some ⟨v.lb, 0, none⟩)) rfl (by kernel_rfl) (by kernel_rfl) (by kernel_rfl) rfl (fun _ _ _ h => h) (ex_idx rfl rfl rfl (fun w => idx0 w _ _ _ (by omega))) ?_
            simp only [Act.put, List.setIfInBounds_toArray, List.set_cons_succ, List.set_cons_zero]
            refine ord_two (i := 9) (j := 11) rfl rfl (by kernel_rfl) rfl rfl (fun K hK => ?_) (fun K hK => ?_)
            · refine wp_as (.slice A0 n c0) (ex_ldSl rfl rfl Tryd.underlying22 (HMv.out.level (k := 0) (Nat.zero_le _)) (by rw [HA.out, HN.out, HC.out])) ?_
              refine hK _ _ ?_
              clear hK
              simp only [Act.put, List.setIfInBounds_toArray, List.set_cons_succ, List.set_cons_zero]
              refine ord_step (i := 11) rfl (by kernel_rfl) rfl (fun K hK => ?_)
              refine wp_bs1L Tryd.underlying22 (z := 32) (by kernel_rfl) (by omega) (by omega) (v0 := .agg (Array.replicate 32 (.int .u8 0))) (by kernel_rfl) _ rfl (u8v y) rfl (HS.nil _) ?_
              intro b7 w7 hb7 hc7 hs
              have HR7 := Lib.hid (hs.row 0 rfl)
              have HB7 := Lib.hid (hs.out (by simp; omega))
              have HM7 := Lib.hid (HMv.out.below HB7.out)
              have HR5 := Lib.hid (row_below HRv.out HB7.out HRv.out.lt)
              clear hs
              refine hK _ _ ?_
              clear hK
              simp only [Act.put, List.setIfInBounds_toArray, List.set_cons_succ, List.set_cons_zero]
              refine ord_step (i := 12) rfl (by kernel_rfl) rfl (fun K hK => ?_)
              refine wp_appZ _ (.tmp 25) (.tmp 27) 22 base (e := 30) (z := .agg (Array.replicate 32 (.int .u8 0))) (k := 32) (bytes := 32) (by kernel_rfl) Tryd.underlying22 (by rfl) (by omega) rfl (n + 1) (u8v (appN (v.g 0) n y)) rfl rfl (lev0 HM7.out HA.out HN.out HC.out) (Rd.of_row (n := 1 * 32) HR7.out (Nat.le_refl _) HR7.out.lt) (fun _ _ => rfl) rfl (cat_app n (v.g 0) y) ⟨by omega, by omega⟩ HM7.out.base_le ?_
              intro A8 c8 w8 ho hg ha
              have hg0 : w7.grownBy w8 ((v.lA 0).map (·.block)) := by rw [HA.out]; exact hg
              have HG8 := Lib.hid hg0
              have HO8 := Lib.hid ho
              have HA8 := Lib.hid (show ∀ b, OnA A8 b → OnA (v.lA 0) b ∨ w7.heap.size ≤ b by rw [HA.out]; exact app_on ha)
              clear ho hg ha hg0
              refine hK _ _ ?_
              clear hK
              simp only [Act.put, List.setIfInBounds_toArray, List.set_cons_succ, List.set_cons_zero]
              refine ord_take (i := 13) (.pointer (some ⟨v.lb, 0, none⟩)) rfl (by kernel_rfl) (by kernel_rfl) (by kernel_rfl) rfl (fun _ _ _ h => h) (ex_idx rfl rfl rfl (fun w => idx0 w _ _ _ (by omega))) ?_
              simp only [Act.put, List.setIfInBounds_toArray, List.set_cons_succ, List.set_cons_zero]
              refine ord_step (i := 14) rfl (by kernel_rfl) rfl (fun K hK => ?_)
              obtain ⟨F, hF, _⟩ := HM7.out.lrow
              have hrow := hF.of_block ((HM7.out.other2 (r0 := 3) (A := v.lA 0) (fun b hb => ⟨Nat.zero_le _, hb⟩) HG8.out).1 1 v.lb rfl (by omega))
              have hcap := HM7.out.lcap
              refine wp_stC 22 (.tmp 29) (.tmp 28) rfl hrow 0 (by omega) (.slice A8 (n + 1) c8) (StCopy.stSlR _ _ _) rfl rfl ?_
              have HM9 := Lib.hid (HM7.out.setL (Nat.zero_le _) HG8.out HO8.out HA8.out)
              have HS9 := Lib.hid ((TStep.refl (T := T) (v := v) (HB6.out.trans (HB7.out.mono HB6.out.size))).trans (TStep.ofL (T := T) (v := v) (Nat.zero_le _) (n' := n + 1) (c' := c8) (g' := appN (v.g 0) n y) HG8.out HA8.out))
              clear hrow hF HM7 HG8 HO8 HA8 HB7
              refine hK _ _ ?_
              clear hK
              simp only [Act.put]
              refine wpAny_done (by kernel_rfl) ?_ _
              go_wp2_with fail
              go_meet
              case rel => exact ⟨A8, c8, HM9.out, HS9.out⟩
            · refine wp_bs1L Tryd.underlying22 (z := 32) (by kernel_rfl) (by omega) (by omega) (v0 := .agg (Array.replicate 32 (.int .u8 0))) (by kernel_rfl) _ rfl (u8v y) rfl (HS.nil _) ?_
              intro b7 w7 hb7 hc7 hs
              have HR7 := Lib.hid (hs.row 0 rfl)
              have HB7 := Lib.hid (hs.out (by simp; omega))
              have HM7 := Lib.hid (HMv.out.below HB7.out)
              have HR5 := Lib.hid (row_below HRv.out HB7.out HRv.out.lt)
              clear hs
              refine hK _ _ ?_
              clear hK
              simp only [Act.put, List.setIfInBounds_toArray, List.set_cons_succ, List.set_cons_zero]
              refine ord_step (i := 9) rfl (by kernel_rfl) rfl (fun K hK => ?_)
              refine wp_as (.slice A0 n c0) (ex_ldSl rfl rfl Tryd.underlying22 (HM7.out.level (k := 0) (Nat.zero_le _)) (by rw [HA.out, HN.out, HC.out])) ?_
              refine hK _ _ ?_
              clear hK
              simp only [Act.put, List.setIfInBounds_toArray, List.set_cons_succ, List.set_cons_zero]
              refine ord_step (i := 12) rfl (by kernel_rfl) rfl (fun K hK => ?_)
              refine wp_appZ _ (.tmp 25) (.tmp 27) 22 base (e := 30) (z := .agg (Array.replicate 32 (.int .u8 0))) (k := 32) (bytes := 32) (by kernel_rfl) Tryd.underlying22 (by rfl) (by omega) rfl (n + 1) (u8v (appN (v.g 0) n y)) rfl rfl (lev0 HM7.out HA.out HN.out HC.out) (Rd.of_row (n := 1 * 32) HR7.out (Nat.le_refl _) HR7.out.lt) (fun _ _ => rfl) rfl (cat_app n (v.g 0) y) ⟨by omega, by omega⟩ HM7.out.base_le ?_
              intro A8 c8 w8 ho hg ha
              have hg0 : w7.grownBy w8 ((v.lA 0).map (·.block)) := by rw [HA.out]; exact hg
              have HG8 := Lib.hid hg0
              have HO8 := Lib.hid ho
              have HA8 := Lib.hid (show ∀ b, OnA A8 b → OnA (v.lA 0) b ∨ w7.heap.size ≤ b by rw [HA.out]; exact app_on ha)
              clear ho hg ha hg0
              refine hK _ _ ?_
              clear hK
              simp only [Act.put, List.setIfInBounds_toArray, List.set_cons_succ, List.set_cons_zero]
              refine ord_take (i := 13) (.pointer (some ⟨v.lb, 0, none⟩)) rfl (by kernel_rfl) (by kernel_rfl) (by kernel_rfl) rfl (fun _ _ _ h => h) (ex_idx rfl rfl rfl (fun w => idx0 w _ _ _ (by omega))) ?_
              simp only [Act.put, List.setIfInBounds_toArray, List.set_cons_succ, List.set_cons_zero]
              refine ord_step (i := 14) rfl (by kernel_rfl) rfl (fun K hK => ?_)
              obtain ⟨F, hF, _⟩ := HM7.out.lrow
              have hrow := hF.of_block ((HM7.out.other2 (r0 := 3) (A := v.lA 0) (fun b hb => ⟨Nat.zero_le _, hb⟩) HG8.out).1 1 v.lb rfl (by omega))
              have hcap := HM7.out.lcap
              refine wp_stC 22 (.tmp 29) (.tmp 28) rfl hrow 0 (by omega) (.slice A8 (n + 1) c8) (StCopy.stSlR _ _ _) rfl rfl ?_
              have HM9 := Lib.hid (HM7.out.setL (Nat.zero_le _) HG8.out HO8.out HA8.out)
              have HS9 := Lib.hid ((TStep.refl (T := T) (v := v) (HB6.out.trans (HB7.out.mono HB6.out.size))).trans (TStep.ofL (T := T) (v := v) (Nat.zero_le _) (n' := n + 1) (c' := c8) (g' := appN (v.g 0) n y) HG8.out HA8.out))
              clear hrow hF HM7 HG8 HO8 HA8 HB7
              refine hK _ _ ?_
              clear hK
              simp only [Act.put]
              refine wpAny_done (by kernel_rfl) ?_ _
              go_wp2_with fail
              go_meet
              case rel => exact ⟨A8, c8, HM9.out, HS9.out⟩
          · refine wp_bs1L Tryd.underlying22 (z := 32) (by kernel_rfl) (by omega) (by omega) (v0 := .agg (Array.replicate 32 (.int .u8 0))) (by kernel_rfl) _ rfl (u8v y) rfl (HS.nil _) ?_
            intro b7 w7 hb7 hc7 hs
            have HR7 := Lib.hid (hs.row 0 rfl)
            have HB7 := Lib.hid (hs.out (by simp; omega))
            have HM7 := Lib.hid (HMv.out.below HB7.out)
            have HR5 := Lib.hid (row_below HRv.out HB7.out HRv.out.lt)
            clear hs
            refine hK _ _ ?_
            clear hK
            simp only [Act.put, List.setIfInBounds_toArray, List.set_cons_succ, List.set_cons_zero]
            refine ord_step (i := 7) rfl (by kernel_rfl) rfl (fun K hK => ?_)
            refine wp_as (.slice (some ⟨v.lb, 0, none⟩) (D + 1) v.lc) (ex_ldSl rfl rfl Tryd.underlying55 (HM7.out.c2) (by first | (rw [← HD.out]; done) | (rw [← HD.out]; rfl))) ?_
            refine hK _ _ ?_
            clear hK
            simp only [Act.put, List.setIfInBounds_toArray, List.set_cons_succ, List.set_cons_zero]
            refine ord_take (i := 8) (.pointer (some ⟨v.lb, 0, none⟩)) rfl (by kernel_rfl) (by kernel_rfl) (by kernel_rfl) rfl (fun _ _ _ h => h) (ex_idx rfl rfl rfl (fun w => idx0 w _ _ _ (by omega))) ?_
            simp only [Act.put, List.setIfInBounds_toArray, List.set_cons_succ, List.set_cons_zero]
            refine ord_step (i := 9) rfl (by kernel_rfl) rfl (fun K hK => ?_)
            refine wp_as (.slice A0 n c0) (ex_ldSl rfl rfl Tryd.underlying22 (HM7.out.level (k := 0) (Nat.zero_le _)) (by rw [HA.out, HN.out, HC.out])) ?_
            refine hK _ _ ?_
            clear hK
            simp only [Act.put, List.setIfInBounds_toArray, List.set_cons_succ, List.set_cons_zero]
            refine ord_step (i := 12) rfl (by kernel_rfl) rfl (fun K hK => ?_)
            refine wp_appZ _ (.tmp 25) (.tmp 27) 22 base (e := 30) (z := .agg (Array.replicate 32 (.int .u8 0))) (k := 32) (bytes := 32) (by kernel_rfl) Tryd.underlying22 (by rfl) (by omega) rfl (n + 1) (u8v (appN (v.g 0) n y)) rfl rfl (lev0 HM7.out HA.out HN.out HC.out) (Rd.of_row (n := 1 * 32) HR7.out (Nat.le_refl _) HR7.out.lt) (fun _ _ => rfl) rfl (cat_app n (v.g 0) y) ⟨by omega, by omega⟩ HM7.out.base_le ?_
            intro A8 c8 w8 ho hg ha
            have hg0 : w7.grownBy w8 ((v.lA 0).map (·.block)) := by rw [HA.out]; exact hg
            have HG8 := Lib.hid hg0
            have HO8 := Lib.hid ho
            have HA8 := Lib.hid (show ∀ b, OnA A8 b → OnA (v.lA 0) b ∨ w7.heap.size ≤ b by rw [HA.out]; exact app_on ha)
            clear ho hg ha hg0
            refine hK _ _ ?_
            clear hK
            simp only [Act.put, List.setIfInBounds_toArray, List.set_cons_succ, List.set_cons_zero]
            refine ord_take (i := 13) (.pointer (some ⟨v.lb, 0, none⟩)) rfl (by kernel_rfl) (by kernel_rfl) (by kernel_rfl) rfl (fun _ _ _ h => h) (ex_idx rfl rfl rfl (fun w => idx0 w _ _ _ (by omega))) ?_
            simp only [Act.put, List.setIfInBounds_toArray, List.set_cons_succ, List.set_cons_zero]
            refine ord_step (i := 14) rfl (by kernel_rfl) rfl (fun K hK => ?_)
            obtain ⟨F, hF, _⟩ := HM7.out.lrow
            have hrow := hF.of_block ((HM7.out.other2 (r0 := 3) (A := v.lA 0) (fun b hb => ⟨Nat.zero_le _, hb⟩) HG8.out).1 1 v.lb rfl (by omega))
            have hcap := HM7.out.lcap
            refine wp_stC 22 (.tmp 29) (.tmp 28) rfl hrow 0 (by omega) (.slice A8 (n + 1) c8) (StCopy.stSlR _ _ _) rfl rfl ?_
            have HM9 := Lib.hid (HM7.out.setL (Nat.zero_le _) HG8.out HO8.out HA8.out)
            have HS9 := Lib.hid ((TStep.refl (T := T) (v := v) (HB6.out.trans (HB7.out.mono HB6.out.size))).trans (TStep.ofL (T := T) (v := v) (Nat.zero_le _) (n' := n + 1) (c' := c8) (g' := appN (v.g 0) n y) HG8.out HA8.out))
            clear hrow hF HM7 HG8 HO8 HA8 HB7
            refine hK _ _ ?_
            clear hK
            simp only [Act.put]
            refine wpAny_done (by kernel_rfl) ?_ _
            go_wp2_with fail
            go_meet
            case rel => exact ⟨A8, c8, HM9.out, HS9.out⟩
      · refine wp_as (.slice (some ⟨v.lb, 0, none⟩) (D + 1) v.lc) (ex_ldSl rfl rfl Tryd.underlying55 (HMv.out.c2) (by first | (rw [← HD.out]; done) | (rw [← HD.out]; rfl))) ?_
        refine hK _ _ ?_
        clear hK
        simp only [Act.put, List.setIfInBounds_toArray, List.set_cons_succ, List.set_cons_zero]
        refine ord_take (i := 8) (.pointer (some ⟨v.lb, 0, none⟩)) rfl (by kernel_rfl) (by kernel_rfl) (by kernel_rfl) rfl (fun _ _ _ h => h) (ex_idx rfl rfl rfl (fun w => idx0 w _ _ _ (by omega))) ?_
        simp only [Act.put, List.setIfInBounds_toArray, List.set_cons_succ, List.set_cons_zero]
        refine ord_three (i := 3) (j := 9) (k := 10) rfl rfl rfl (by kernel_rfl) rfl rfl rfl (fun K hK => ?_) (fun K hK => ?_) (fun K hK => ?_)
        · refine wp_as (.slice (some ⟨v.lb, 0, none⟩) (D + 1) v.lc) (ex_ldSl rfl rfl Tryd.underlying55 (HMv.out.c2) (by first | (rw [← HD.out]; done) | (rw [← HD.out]; rfl))) ?_
          refine hK _ _ ?_
          clear hK
          simp only [Act.put, List.setIfInBounds_toArray, List.set_cons_succ, List.set_cons_zero]
          refine ord_two (i := 9) (j := 10) rfl rfl (by kernel_rfl) rfl rfl (fun K hK => ?_) (fun K hK => ?_)
          · refine wp_as (.slice A0 n c0) (ex_ldSl rfl rfl Tryd.underlying22 (HMv.out.level (k := 0) (Nat.zero_le _)) (by rw [HA.out, HN.out, HC.out])) ?_
            refine hK _ _ ?_
            clear hK
            simp only [Act.put, List.setIfInBounds_toArray, List.set_cons_succ, List.set_cons_zero]
            refine ord_step (i := 10) rfl (by kernel_rfl) rfl (fun K hK => ?_)
            refine wp_as (rootV y) (ex_ldR 32 (u8v y) rfl rfl (fun q hq => by rw [add_lit0]; exact HRv.out.cell hq) Tryd.underlying30 rfl (by kernel_rfl)) ?_
            refine hK _ _ ?_
            clear hK
            simp only [Act.put, List.setIfInBounds_toArray, List.set_cons_succ, List.set_cons_zero]
            refine ord_step (i := 11) rfl (by kernel_rfl) rfl (fun K hK => ?_)
            refine wp_bs1L Tryd.underlying22 (z := 32) (by kernel_rfl) (by omega) (by omega) (v0 := .agg (Array.replicate 32 (.int .u8 0))) (by kernel_rfl) _ rfl (u8v y) rfl (HS.nil _) ?_
            intro b7 w7 hb7 hc7 hs
            have HR7 := Lib.hid (hs.row 0 rfl)
            have HB7 := Lib.hid (hs.out (by simp; omega))
            have HM7 := Lib.hid (HMv.out.below HB7.out)
            have HR5 := Lib.hid (row_below HRv.out HB7.out HRv.out.lt)
            clear hs
            refine hK _ _ ?_
            clear hK
            simp only [Act.put, List.setIfInBounds_toArray, List.set_cons_succ, List.set_cons_zero]
            refine ord_step (i := 12) rfl (by kernel_rfl) rfl (fun K hK => ?_)
            refine wp_appZ _ (.tmp 25) (.tmp 27) 22 base (e := 30) (z := .agg (Array.replicate 32 (.int .u8 0))) (k := 32) (bytes := 32) (by kernel_rfl) Tryd.underlying22 (by rfl) (by omega) rfl (n + 1) (u8v (appN (v.g 0) n y)) rfl rfl (lev0 HM7.out HA.out HN.out HC.out) (Rd.of_row (n := 1 * 32) HR7.out (Nat.le_refl _) HR7.out.lt) (fun _ _ => rfl) rfl (cat_app n (v.g 0) y) ⟨by omega, by omega⟩ HM7.out.base_le ?_
            intro A8 c8 w8 ho hg ha
            have hg0 : w7.grownBy w8 ((v.lA 0).map (·.block)) := by rw [HA.out]; exact hg
            have HG8 := Lib.hid hg0
            have HO8 := Lib.hid ho
            have HA8 := Lib.hid (show ∀ b, OnA A8 b → OnA (v.lA 0) b ∨ w7.heap.size ≤ b by rw [HA.out]; exact app_on ha)
            clear ho hg ha hg0
            refine hK _ _ ?_
            clear hK
            simp only [Act.put, List.setIfInBounds_toArray, List.set_cons_succ, List.set_cons_zero]
            refine ord_take (i := 13) (.pointer (some ⟨v.lb, 0, none⟩)) rfl (by kernel_rfl) (by kernel_rfl) (by kernel_rfl) rfl (fun _ _ _ h => h) (ex_idx rfl rfl rfl (fun w => idx0 w _ _ _ (by omega))) ?_
            simp only [Act.put, List.setIfInBounds_toArray, List.set_cons_succ, List.set_cons_zero]
            refine ord_step (i := 14) rfl (by kernel_rfl) rfl (fun K hK => ?_)
            obtain ⟨F, hF, _⟩ := HM7.out.lrow
            have hrow := hF.of_block ((HM7.out.other2 (r0 := 3) (A := v.lA 0) (fun b hb => ⟨Nat.zero_le _, hb⟩) HG8.out).1 1 v.lb rfl (by omega))
            have hcap := HM7.out.lcap
            refine wp_stC 22 (.tmp 29) (.tmp 28) rfl hrow 0 (by omega) (.slice A8 (n + 1) c8) (StCopy.stSlR _ _ _) rfl rfl ?_
            have HM9 := Lib.hid (HM7.out.setL (Nat.zero_le _) HG8.out HO8.out HA8.out)
            have HS9 := Lib.hid ((TStep.refl (T := T) (v := v) (HB6.out.trans (HB7.out.mono HB6.out.size))).trans (TStep.ofL (T := T) (v := v) (Nat.zero_le _) (n' := n + 1) (c' := c8) (g' := appN (v.g 0) n y) HG8.out HA8.out))
            clear hrow hF HM7 HG8 HO8 HA8 HB7
            refine hK _ _ ?_
            clear hK
            simp only [Act.put]
            refine wpAny_done (by kernel_rfl) ?_ _
            go_wp2_with fail
            go_meet
            case rel => exact ⟨A8, c8, HM9.out, HS9.out⟩
          · refine wp_as (rootV y) (ex_ldR 32 (u8v y) rfl rfl (fun q hq => by rw [add_lit0]; exact HRv.out.cell hq) Tryd.underlying30 rfl (by kernel_rfl)) ?_
            refine hK _ _ ?_
            clear hK
            simp only [Act.put, List.setIfInBounds_toArray, List.set_cons_succ, List.set_cons_zero]
            refine ord_two (i := 9) (j := 11) rfl rfl (by kernel_rfl) rfl rfl (fun K hK => ?_) (fun K hK => ?_)
            · refine wp_as (.slice A0 n c0) (ex_ldSl rfl rfl Tryd.underlying22 (HMv.out.level (k := 0) (Nat.zero_le _)) (by rw [HA.out, HN.out, HC.out])) ?_
              refine hK _ _ ?_
              clear hK
              simp only [Act.put, List.setIfInBounds_toArray, List.set_cons_succ, List.set_cons_zero]
              refine ord_step (i := 11) rfl (by kernel_rfl) rfl (fun K hK => ?_)
              refine wp_bs1L Tryd.underlying22 (z := 32) (by kernel_rfl) (by omega) (by omega) (v0 := .agg (Array.replicate 32 (.int .u8 0))) (by kernel_rfl) _ rfl (u8v y) rfl (HS.nil _) ?_
              intro b7 w7 hb7 hc7 hs
              have HR7 := Lib.hid (hs.row 0 rfl)
              have HB7 := Lib.hid (hs.out (by simp; omega))
              have HM7 := Lib.hid (HMv.out.below HB7.out)
              have HR5 := Lib.hid (row_below HRv.out HB7.out HRv.out.lt)
              clear hs
              refine hK _ _ ?_
              clear hK
              simp only [Act.put, List.setIfInBounds_toArray, List.set_cons_succ, List.set_cons_zero]
              refine ord_step (i := 12) rfl (by kernel_rfl) rfl (fun K hK => ?_)
              refine wp_appZ _ (.tmp 25) (.tmp 27) 22 base (e := 30) (z := .agg (Array.replicate 32 (.int .u8 0))) (k := 32) (bytes := 32) (by kernel_rfl) Tryd.underlying22 (by rfl) (by omega) rfl (n + 1) (u8v (appN (v.g 0) n y)) rfl rfl (lev0 HM7.out HA.out HN.out HC.out) (Rd.of_row (n := 1 * 32) HR7.out (Nat.le_refl _) HR7.out.lt) (fun _ _ => rfl) rfl (cat_app n (v.g 0) y) ⟨by omega, by omega⟩ HM7.out.base_le ?_
              intro A8 c8 w8 ho hg ha
              have hg0 : w7.grownBy w8 ((v.lA 0).map (·.block)) := by rw [HA.out]; exact hg
              have HG8 := Lib.hid hg0
              have HO8 := Lib.hid ho
              have HA8 := Lib.hid (show ∀ b, OnA A8 b → OnA (v.lA 0) b ∨ w7.heap.size ≤ b by rw [HA.out]; exact app_on ha)
              clear ho hg ha hg0
              refine hK _ _ ?_
              clear hK
              simp only [Act.put, List.setIfInBounds_toArray, List.set_cons_succ, List.set_cons_zero]
              refine ord_take (i := 13) (.pointer (some ⟨v.lb, 0, none⟩)) rfl (by kernel_rfl) (by kernel_rfl) (by kernel_rfl) rfl (fun _ _ _ h => h) (ex_idx rfl rfl rfl (fun w => idx0 w _ _ _ (by omega))) ?_
              simp only [Act.put, List.setIfInBounds_toArray, List.set_cons_succ, List.set_cons_zero]
              refine ord_step (i := 14) rfl (by kernel_rfl) rfl (fun K hK => ?_)
              obtain ⟨F, hF, _⟩ := HM7.out.lrow
              have hrow := hF.of_block ((HM7.out.other2 (r0 := 3) (A := v.lA 0) (fun b hb => ⟨Nat.zero_le _, hb⟩) HG8.out).1 1 v.lb rfl (by omega))
              have hcap := HM7.out.lcap
              refine wp_stC 22 (.tmp 29) (.tmp 28) rfl hrow 0 (by omega) (.slice A8 (n + 1) c8) (StCopy.stSlR _ _ _) rfl rfl ?_
              have HM9 := Lib.hid (HM7.out.setL (Nat.zero_le _) HG8.out HO8.out HA8.out)
              have HS9 := Lib.hid ((TStep.refl (T := T) (v := v) (HB6.out.trans (HB7.out.mono HB6.out.size))).trans (TStep.ofL (T := T) (v := v) (Nat.zero_le _) (n' := n + 1) (c' := c8) (g' := appN (v.g 0) n y) HG8.out HA8.out))
              clear hrow hF HM7 HG8 HO8 HA8 HB7
              refine hK _ _ ?_
              clear hK
              simp only [Act.put]
              refine wpAny_done (by kernel_rfl) ?_ _
              go_wp2_with fail
              go_meet
              case rel => exact ⟨A8, c8, HM9.out, HS9.out⟩
            · refine wp_bs1L Tryd.underlying22 (z := 32) (by kernel_rfl) (by omega) (by omega) (v0 := .agg (Array.replicate 32 (.int .u8 0))) (by kernel_rfl) _ rfl (u8v y) rfl (HS.nil _) ?_
              intro b7 w7 hb7 hc7 hs
              have HR7 := Lib.hid (hs.row 0 rfl)
              have HB7 := Lib.hid (hs.out (by simp; omega))
              have HM7 := Lib.hid (HMv.out.below HB7.out)
              have HR5 := Lib.hid (row_below HRv.out HB7.out HRv.out.lt)
              clear hs
              refine hK _ _ ?_
              clear hK
              simp only [Act.put, List.setIfInBounds_toArray, List.set_cons_succ, List.set_cons_zero]
              refine ord_step (i := 9) rfl (by kernel_rfl) rfl (fun K hK => ?_)
              refine wp_as (.slice A0 n c0) (ex_ldSl rfl rfl Tryd.underlying22 (HM7.out.level (k := 0) (Nat.zero_le _)) (by rw [HA.out, HN.out, HC.out])) ?_
              refine hK _ _ ?_
              clear hK
              simp only [Act.put, List.setIfInBounds_toArray, List.set_cons_succ, List.set_cons_zero]
              refine ord_step (i := 12) rfl (by kernel_rfl) rfl (fun K hK => ?_)
              refine wp_appZ _ (.tmp 25) (.tmp 27) 22 base (e := 30) (z := .agg (Array.replicate 32 (.int .u8 0))) (k := 32) (bytes := 32) (by kernel_rfl) Tryd.underlying22 (by rfl) (by omega) rfl (n + 1) (u8v (appN (v.g 0) n y)) rfl rfl (lev0 HM7.out HA.out HN.out HC.out) (Rd.of_row (n := 1 * 32) HR7.out (Nat.le_refl _) HR7.out.lt) (fun _ _ => rfl) rfl (cat_app n (v.g 0) y) ⟨by omega, by omega⟩ HM7.out.base_le ?_
              intro A8 c8 w8 ho hg ha
              have hg0 : w7.grownBy w8 ((v.lA 0).map (·.block)) := by rw [HA.out]; exact hg
              have HG8 := Lib.hid hg0
              have HO8 := Lib.hid ho
              have HA8 := Lib.hid (show ∀ b, OnA A8 b → OnA (v.lA 0) b ∨ w7.heap.size ≤ b by rw [HA.out]; exact app_on ha)
              clear ho hg ha hg0
              refine hK _ _ ?_
              clear hK
              simp only [Act.put, List.setIfInBounds_toArray, List.set_cons_succ, List.set_cons_zero]
              refine ord_take (i := 13) (.pointer (some ⟨v.lb, 0, none⟩)) rfl (by kernel_rfl) (by kernel_rfl) (by kernel_rfl) rfl (fun _ _ _ h => h) (ex_idx rfl rfl rfl (fun w => idx0 w _ _ _ (by omega))) ?_
              simp only [Act.put, List.setIfInBounds_toArray, List.set_cons_succ, List.set_cons_zero]
              refine ord_step (i := 14) rfl (by kernel_rfl) rfl (fun K hK => ?_)
              obtain ⟨F, hF, _⟩ := HM7.out.lrow
              have hrow := hF.of_block ((HM7.out.other2 (r0 := 3) (A := v.lA 0) (fun b hb => ⟨Nat.zero_le _, hb⟩) HG8.out).1 1 v.lb rfl (by omega))
              have hcap := HM7.out.lcap
              refine wp_stC 22 (.tmp 29) (.tmp 28) rfl hrow 0 (by omega) (.slice A8 (n + 1) c8) (StCopy.stSlR _ _ _) rfl rfl ?_
              have HM9 := Lib.hid (HM7.out.setL (Nat.zero_le _) HG8.out HO8.out HA8.out)
              have HS9 := Lib.hid ((TStep.refl (T := T) (v := v) (HB6.out.trans (HB7.out.mono HB6.out.size))).trans (TStep.ofL (T := T) (v := v) (Nat.zero_le _) (n' := n + 1) (c' := c8) (g' := appN (v.g 0) n y) HG8.out HA8.out))
              clear hrow hF HM7 HG8 HO8 HA8 HB7
              refine hK _ _ ?_
              clear hK
              simp only [Act.put]
              refine wpAny_done (by kernel_rfl) ?_ _
              go_wp2_with fail
              go_meet
              case rel => exact ⟨A8, c8, HM9.out, HS9.out⟩
        · refine wp_as (.slice A0 n c0) (ex_ldSl rfl rfl Tryd.underlying22 (HMv.out.level (k := 0) (Nat.zero_le _)) (by rw [HA.out, HN.out, HC.out])) ?_
          refine hK _ _ ?_
          clear hK
          simp only [Act.put, List.setIfInBounds_toArray, List.set_cons_succ, List.set_cons_zero]
          refine ord_two (i := 3) (j := 10) rfl rfl (by kernel_rfl) rfl rfl (fun K hK => ?_) (fun K hK => ?_)
          · refine wp_as (.slice (some ⟨v.lb, 0, none⟩) (D + 1) v.lc) (ex_ldSl rfl rfl Tryd.underlying55 (HMv.out.c2) (by first | (rw [← HD.out]; done) | (rw [← HD.out]; rfl))) ?_
            refine hK _ _ ?_
            clear hK
            simp only [Act.put, List.setIfInBounds_toArray, List.set_cons_succ, List.set_cons_zero]
            refine ord_step (i := 10) rfl (by kernel_rfl) rfl (fun K hK => ?_)
            refine wp_as (rootV y) (ex_ldR 32 (u8v y) rfl rfl (fun q hq => by rw [add_lit0]; exact HRv.out.cell hq) Tryd.underlying30 rfl (by kernel_rfl)) ?_
            refine hK _ _ ?_
            clear hK
            simp only [Act.put, List.setIfInBounds_toArray, List.set_cons_succ, List.set_cons_zero]
            refine ord_step (i := 11) rfl (by kernel_rfl) rfl (fun K hK => ?_)
            refine wp_bs1L Tryd.underlying22 (z := 32) (by kernel_rfl) (by omega) (by omega) (v0 := .agg (Array.replicate 32 (.int .u8 0))) (by kernel_rfl) _ rfl (u8v y) rfl (HS.nil _) ?_
            intro b7 w7 hb7 hc7 hs
            have HR7 := Lib.hid (hs.row 0 rfl)
            have HB7 := Lib.hid (hs.out (by simp; omega))
            have HM7 := Lib.hid (HMv.out.below HB7.out)
            have HR5 := Lib.hid (row_below HRv.out HB7.out HRv.out.lt)
            clear hs
            refine hK _ _ ?_
            clear hK
            simp only [Act.put, List.setIfInBounds_toArray, List.set_cons_succ, List.set_cons_zero]
            refine ord_step (i := 12) rfl (by kernel_rfl) rfl (fun K hK => ?_)
            refine wp_appZ _ (.tmp 25) (.tmp 27) 22 base (e := 30) (z := .agg (Array.replicate 32 (.int .u8 0))) (k := 32) (bytes := 32) (by kernel_rfl) Tryd.underlying22 (by rfl) (by omega) rfl (n + 1) (u8v (appN (v.g 0) n y)) rfl rfl (lev0 HM7.out HA.out HN.out HC.out) (Rd.of_row (n := 1 * 32) HR7.out (Nat.le_refl _) HR7.out.lt) (fun _ _ => rfl) rfl (cat_app n (v.g 0) y) ⟨by omega, by omega⟩ HM7.out.base_le ?_
            intro A8 c8 w8 ho hg ha
            have hg0 : w7.grownBy w8 ((v.lA 0).map (·.block)) := by rw [HA.out]; exact hg
            have HG8 := Lib.hid hg0
            have HO8 := Lib.hid ho
            have HA8 := Lib.hid (show ∀ b, OnA A8 b → OnA (v.lA 0) b ∨ w7.heap.size ≤ b by rw [HA.out]; exact app_on ha)
            clear ho hg ha hg0
            refine hK _ _ ?_
            clear hK
            simp only [Act.put, List.setIfInBounds_toArray, List.set_cons_succ, List.set_cons_zero]
            refine ord_take (i := 13) (.pointer (some ⟨v.lb, 0, none⟩)) rfl (by kernel_rfl) (by kernel_rfl) (by kernel_rfl) rfl (fun _ _ _ h => h) (ex_idx rfl rfl rfl (fun w => idx0 w _ _ _ (by omega))) ?_
            simp only [Act.put, List.setIfInBounds_toArray, List.set_cons_succ, List.set_cons_zero]
            refine ord_step (i := 14) rfl (by kernel_rfl) rfl (fun K hK => ?_)
            obtain ⟨F, hF, _⟩ := HM7.out.lrow
            have hrow := hF.of_block ((HM7.out.other2 (r0 := 3) (A := v.lA 0) (fun b hb => ⟨Nat.zero_le _, hb⟩) HG8.out).1 1 v.lb rfl (by omega))
            have hcap := HM7.out.lcap
            refine wp_stC 22 (.tmp 29) (.tmp 28) rfl hrow 0 (by omega) (.slice A8 (n + 1) c8) (StCopy.stSlR _ _ _) rfl rfl ?_
            have HM9 := Lib.hid (HM7.out.setL (Nat.zero_le _) HG8.out HO8.out HA8.out)
            have HS9 := Lib.hid ((TStep.refl (T := T) (v := v) (HB6.out.trans (HB7.out.mono HB6.out.size))).trans (TStep.ofL (T := T) (v := v) (Nat.zero_le _) (n' := n + 1) (c' := c8) (g' := appN (v.g 0) n y) HG8.out HA8.out))
            clear hrow hF HM7 HG8 HO8 HA8 HB7
            refine hK _ _ ?_
            clear hK
            simp only [Act.put]
            refine wpAny_done (by kernel_rfl) ?_ _
            go_wp2_with fail
            go_meet
            case rel => exact ⟨A8, c8, HM9.out, HS9.out⟩
          · refine wp_as (rootV y) (ex_ldR 32 (u8v y) rfl rfl (fun q hq => by rw [add_lit0]; exact HRv.out.cell hq) Tryd.underlying30 rfl (by kernel_rfl)) ?_
            refine hK _ _ ?_
            clear hK
            simp only [Act.put, List.setIfInBounds_toArray, List.set_cons_succ, List.set_cons_zero]
            refine ord_two (i := 3) (j := 11) rfl rfl (by kernel_rfl) rfl rfl (fun K hK => ?_) (fun K hK => ?_)
            · refine wp_as (.slice (some ⟨v.lb, 0, none⟩) (D + 1) v.lc) (ex_ldSl rfl rfl Tryd.underlying55 (HMv.out.c2) (by first | (rw [← HD.out]; done) | (rw [← HD.out]; rfl))) ?_
              refine hK _ _ ?_
              clear hK
              simp only [Act.put, List.setIfInBounds_toArray, List.set_cons_succ, List.set_cons_zero]
              refine ord_step (i := 11) rfl (by kernel_rfl) rfl (fun K hK => ?_)
              refine wp_bs1L Tryd.underlying22 (z := 32) (by kernel_rfl) (by omega) (by omega) (v0 := .agg (Array.replicate 32 (.int .u8 0))) (by kernel_rfl) _ rfl (u8v y) rfl (HS.nil _) ?_
              intro b7 w7 hb7 hc7 hs
              have HR7 := Lib.hid (hs.row 0 rfl)
              have HB7 := Lib.hid (hs.out (by simp; omega))
              have HM7 := Lib.hid (HMv.out.below HB7.out)
              have HR5 := Lib.hid (row_below HRv.out HB7.out HRv.out.lt)
              clear hs
              refine hK _ _ ?_
              clear hK
              simp only [Act.put, List.setIfInBounds_toArray, List.set_cons_succ, List.set_cons_zero]
              refine ord_step (i := 12) rfl (by kernel_rfl) rfl (fun K hK => ?_)
              refine wp_appZ _ (.tmp 25) (.tmp 27) 22 base (e := 30) (z := .agg (Array.replicate 32 (.int .u8 0))) (k := 32) (bytes := 32) (by kernel_rfl) Tryd.underlying22 (by rfl) (by omega) rfl (n + 1) (u8v (appN (v.g 0) n y)) rfl rfl (lev0 HM7.out HA.out HN.out HC.out) (Rd.of_row (n := 1 * 32) HR7.out (Nat.le_refl _) HR7.out.lt) (fun _ _ => rfl) rfl (cat_app n (v.g 0) y) ⟨by omega, by omega⟩ HM7.out.base_le ?_
              intro A8 c8 w8 ho hg ha
              have hg0 : w7.grownBy w8 ((v.lA 0).map (·.block)) := by rw [HA.out]; exact hg
              have HG8 := Lib.hid hg0
              have HO8 := Lib.hid ho
              have HA8 := Lib.hid (show ∀ b, OnA A8 b → OnA (v.lA 0) b ∨ w7.heap.size ≤ b by rw [HA.out]; exact app_on ha)
              clear ho hg ha hg0
              refine hK _ _ ?_
              clear hK
              simp only [Act.put, List.setIfInBounds_toArray, List.set_cons_succ, List.set_cons_zero]
              refine ord_take (i := 13) (.pointer (some ⟨v.lb, 0, none⟩)) rfl (by kernel_rfl) (by kernel_rfl) (by kernel_rfl) rfl (fun _ _ _ h => h) (ex_idx rfl rfl rfl (fun w => idx0 w _ _ _ (by omega))) ?_
              simp only [Act.put, List.setIfInBounds_toArray, List.set_cons_succ, List.set_cons_zero]
              refine ord_step (i := 14) rfl (by kernel_rfl) rfl (fun K hK => ?_)
              obtain ⟨F, hF, _⟩ := HM7.out.lrow
              have hrow := hF.of_block ((HM7.out.other2 (r0 := 3) (A := v.lA 0) (fun b hb => ⟨Nat.zero_le _, hb⟩) HG8.out).1 1 v.lb rfl (by omega))
              have hcap := HM7.out.lcap
              refine wp_stC 22 (.tmp 29) (.tmp 28) rfl hrow 0 (by omega) (.slice A8 (n + 1) c8) (StCopy.stSlR _ _ _) rfl rfl ?_
              have HM9 := Lib.hid (HM7.out.setL (Nat.zero_le _) HG8.out HO8.out HA8.out)
              have HS9 := Lib.hid ((TStep.refl (T := T) (v := v) (HB6.out.trans (HB7.out.mono HB6.out.size))).trans (TStep.ofL (T := T) (v := v) (Nat.zero_le _) (n' := n + 1) (c' := c8) (g' := appN (v.g 0) n y) HG8.out HA8.out))
              clear hrow hF HM7 HG8 HO8 HA8 HB7
              refine hK _ _ ?_
              clear hK
              simp only [Act.put]
              refine wpAny_done (by kernel_rfl) ?_ _
              go_wp2_with fail
              go_meet
              case rel => exact ⟨A8, c8, HM9.out, HS9.out⟩
            · refine wp_bs1L Tryd.underlying22 (z := 32) (by kernel_rfl) (by omega) (by omega) (v0 := .agg (Array.replicate 32 (.int .u8 0))) (by kernel_rfl) _ rfl (u8v y) rfl (HS.nil _) ?_
              intro b7 w7 hb7 hc7 hs
              have HR7 := Lib.hid (hs.row 0 rfl)
              have HB7 := Lib.hid (hs.out (by simp; omega))
              have HM7 := Lib.hid (HMv.out.below HB7.out)
              have HR5 := Lib.hid (row_below HRv.out HB7.out HRv.out.lt)
              clear hs
              refine hK _ _ ?_
              clear hK
              simp only [Act.put, List.setIfInBounds_toArray, List.set_cons_succ, List.set_cons_zero]
              refine ord_two (i := 3) (j := 12) rfl rfl (by kernel_rfl) rfl rfl (fun K hK => ?_) (fun K hK => ?_)
              · refine wp_as (.slice (some ⟨v.lb, 0, none⟩) (D + 1) v.lc) (ex_ldSl rfl rfl Tryd.underlying55 (HM7.out.c2) (by first | (rw [← HD.out]; done) | (rw [← HD.out]; rfl))) ?_
                refine hK _ _ ?_
                clear hK
                simp only [Act.put, List.setIfInBounds_toArray, List.set_cons_succ, List.set_cons_zero]
                refine ord_step (i := 12) rfl (by kernel_rfl) rfl (fun K hK => ?_)
                refine wp_appZ _ (.tmp 25) (.tmp 27) 22 base (e := 30) (z := .agg (Array.replicate 32 (.int .u8 0))) (k := 32) (bytes := 32) (by kernel_rfl) Tryd.underlying22 (by rfl) (by omega) rfl (n + 1) (u8v (appN (v.g 0) n y)) rfl rfl (lev0 HM7.out HA.out HN.out HC.out) (Rd.of_row (n := 1 * 32) HR7.out (Nat.le_refl _) HR7.out.lt) (fun _ _ => rfl) rfl (cat_app n (v.g 0) y) ⟨by omega, by omega⟩ HM7.out.base_le ?_
                intro A8 c8 w8 ho hg ha
                have hg0 : w7.grownBy w8 ((v.lA 0).map (·.block)) := by rw [HA.out]; exact hg
                have HG8 := Lib.hid hg0
                have HO8 := Lib.hid ho
                have HA8 := Lib.hid (show ∀ b, OnA A8 b → OnA (v.lA 0) b ∨ w7.heap.size ≤ b by rw [HA.out]; exact app_on ha)
                clear ho hg ha hg0
                refine hK _ _ ?_
                clear hK
                simp only [Act.put, List.setIfInBounds_toArray, List.set_cons_succ, List.set_cons_zero]
                refine ord_take (i := 13) (.pointer (some ⟨v.lb, 0, none⟩)) rfl (by kernel_rfl) (by kernel_rfl) (by kernel_rfl) rfl (fun _ _ _ h => h) (ex_idx rfl rfl rfl (fun w => idx0 w _ _ _ (by omega))) ?_
                simp only [Act.put, List.setIfInBounds_toArray, List.set_cons_succ, List.set_cons_zero]
                refine ord_step (i := 14) rfl (by kernel_rfl) rfl (fun K hK => ?_)
                obtain ⟨F, hF, _⟩ := HM7.out.lrow
                have hrow := hF.of_block ((HM7.out.other2 (r0 := 3) (A := v.lA 0) (fun b hb => ⟨Nat.zero_le _, hb⟩) HG8.out).1 1 v.lb rfl (by omega))
                have hcap := HM7.out.lcap
                refine wp_stC 22 (.tmp 29) (.tmp 28) rfl hrow 0 (by omega) (.slice A8 (n + 1) c8) (StCopy.stSlR _ _ _) rfl rfl ?_
                have HM9 := Lib.hid (HM7.out.setL (Nat.zero_le _) HG8.out HO8.out HA8.out)
                have HS9 := Lib.hid ((TStep.refl (T := T) (v := v) (HB6.out.trans (HB7.out.mono HB6.out.size))).trans (TStep.ofL (T := T) (v := v) (Nat.zero_le _) (n' := n + 1) (c' := c8) (g' := appN (v.g 0) n y) HG8.out HA8.out))
                clear hrow hF HM7 HG8 HO8 HA8 HB7
                refine hK _ _ ?_
                clear hK
                simp only [Act.put]
                refine wpAny_done (by kernel_rfl) ?_ _
                go_wp2_with fail
                go_meet
                case rel => exact ⟨A8, c8, HM9.out, HS9.out⟩
              · refine wp_appZ _ (.tmp 25) (.tmp 27) 22 base (e := 30) (z := .agg (Array.replicate 32 (.int .u8 0))) (k := 32) (bytes := 32) (by kernel_rfl) Tryd.underlying22 (by rfl) (by omega) rfl (n + 1) (u8v (appN (v.g 0) n y)) rfl rfl (lev0 HM7.out HA.out HN.out HC.out) (Rd.of_row (n := 1 * 32) HR7.out (Nat.le_refl _) HR7.out.lt) (fun _ _ => rfl) rfl (cat_app n (v.g 0) y) ⟨by omega, by omega⟩ HM7.out.base_le ?_
                intro A8 c8 w8 ho hg ha
                have hg0 : w7.grownBy w8 ((v.lA 0).map (·.block)) := by rw [HA.out]; exact hg
                have HG8 := Lib.hid hg0
                have HO8 := Lib.hid ho
                have HA8 := Lib.hid (show ∀ b, OnA A8 b → OnA (v.lA 0) b ∨ w7.heap.size ≤ b by rw [HA.out]; exact app_on ha)
                clear ho hg ha hg0
                refine hK _ _ ?_
                clear hK
                simp only [Act.put, List.setIfInBounds_toArray, List.set_cons_succ, List.set_cons_zero]
                refine ord_step (i := 3) rfl (by kernel_rfl) rfl (fun K hK => ?_)
                refine wp_as (.slice (some ⟨v.lb, 0, none⟩) (D + 1) v.lc) (ex_ldSl rfl rfl Tryd.underlying55 ((HM7.out.rowD (r0 := 3) (by omega) (fun b hb => ⟨Nat.zero_le _, hb⟩) HG8.out).cell (show 2 < 5 by omega)) (by first | (rw [← HD.out]; done) | (rw [← HD.out]; rfl))) ?_
                refine hK _ _ ?_
                clear hK
                simp only [Act.put, List.setIfInBounds_toArray, List.set_cons_succ, List.set_cons_zero]
                refine ord_take (i := 13) (.pointer (some ⟨v.lb, 0, none⟩)) rfl (by kernel_rfl) (by kernel_rfl) (by kernel_rfl) rfl (fun _ _ _ h => h) (ex_idx rfl rfl rfl (fun w => idx0 w _ _ _ (by omega))) ?_
                simp only [Act.put, List.setIfInBounds_toArray, List.set_cons_succ, List.set_cons_zero]
                refine ord_step (i := 14) rfl (by kernel_rfl) rfl (fun K hK => ?_)
                obtain ⟨F, hF, _⟩ := HM7.out.lrow
                have hrow := hF.of_block ((HM7.out.other2 (r0 := 3) (A := v.lA 0) (fun b hb => ⟨Nat.zero_le _, hb⟩) HG8.out).1 1 v.lb rfl (by omega))
                have hcap := HM7.out.lcap
                refine wp_stC 22 (.tmp 29) (.tmp 28) rfl hrow 0 (by omega) (.slice A8 (n + 1) c8) (StCopy.stSlR _ _ _) rfl rfl ?_
                have HM9 := Lib.hid (HM7.out.setL (Nat.zero_le _) HG8.out HO8.out HA8.out)
                have HS9 := Lib.hid ((TStep.refl (T := T) (v := v) (HB6.out.trans (HB7.out.mono HB6.out.size))).trans (TStep.ofL (T := T) (v := v) (Nat.zero_le _) (n' := n + 1) (c' := c8) (g' := appN (v.g 0) n y) HG8.out HA8.out))
                clear hrow hF HM7 HG8 HO8 HA8 HB7
                refine hK _ _ ?_
                clear hK
                simp only [Act.put]
                refine wpAny_done (by kernel_rfl) ?_ _
                go_wp2_with fail
                go_meet
                case rel => exact ⟨A8, c8, HM9.out, HS9.out⟩
        · refine wp_as (rootV y) (ex_ldR 32 (u8v y) rfl rfl (fun q hq => by rw [add_lit0]; exact HRv.out.cell hq) Tryd.underlying30 rfl (by kernel_rfl)) ?_
          refine hK _ _ ?_
          clear hK
          simp only [Act.put, List.setIfInBounds_toArray, List.set_cons_succ, List.set_cons_zero]
          refine ord_three (i := 3) (j := 9) (k := 11) rfl rfl rfl (by kernel_rfl) rfl rfl rfl (fun K hK => ?_) (fun K hK => ?_) (fun K hK => ?_)
          · refine wp_as (.slice (some ⟨v.lb, 0, none⟩) (D + 1) v.lc) (ex_ldSl rfl rfl Tryd.underlying55 (HMv.out.c2) (by first | (rw [← HD.out]; done) | (rw [← HD.out]; rfl))) ?_
            refine hK _ _ ?_
            clear hK
            simp only [Act.put, List.setIfInBounds_toArray, List.set_cons_succ, List.set_cons_zero]
            refine ord_two (i := 9) (j := 11) rfl rfl (by kernel_rfl) rfl rfl (fun K hK => ?_) (fun K hK => ?_)
            · refine wp_as (.slice A0 n c0) (ex_ldSl rfl rfl Tryd.underlying22 (HMv.out.level (k := 0) (Nat.zero_le _)) (by rw [HA.out, HN.out, HC.out])) ?_
              refine hK _ _ ?_
              clear hK
              simp only [Act.put, List.setIfInBounds_toArray, List.set_cons_succ, List.set_cons_zero]
              refine ord_step (i := 11) rfl (by kernel_rfl) rfl (fun K hK => ?_)
              refine wp_bs1L Tryd.underlying22 (z := 32) (by kernel_rfl) (by omega) (by omega) (v0 := .agg (Array.replicate 32 (.int .u8 0))) (by kernel_rfl) _ rfl (u8v y) rfl (HS.nil _) ?_
              intro b7 w7 hb7 hc7 hs
              have HR7 := Lib.hid (hs.row 0 rfl)
              have HB7 := Lib.hid (hs.out (by simp; omega))
              have HM7 := Lib.hid (HMv.out.below HB7.out)
              have HR5 := Lib.hid (row_below HRv.out HB7.out HRv.out.lt)
              clear hs
              refine hK _ _ ?_
              clear hK
              simp only [Act.put, List.setIfInBounds_toArray, List.set_cons_succ, List.set_cons_zero]
              refine ord_step (i := 12) rfl (by kernel_rfl) rfl (fun K hK => ?_)
              refine wp_appZ _ (.tmp 25) (.tmp 27) 22 base (e := 30) (z := .agg (Array.replicate 32 (.int .u8 0))) (k := 32) (bytes := 32) (by kernel_rfl) Tryd.underlying22 (by rfl) (by omega) rfl (n + 1) (u8v (appN (v.g 0) n y)) rfl rfl (lev0 HM7.out HA.out HN.out HC.out) (Rd.of_row (n := 1 * 32) HR7.out (Nat.le_refl _) HR7.out.lt) (fun _ _ => rfl) rfl (cat_app n (v.g 0) y) ⟨by omega, by omega⟩ HM7.out.base_le ?_
              intro A8 c8 w8 ho hg ha
              have hg0 : w7.grownBy w8 ((v.lA 0).map (·.block)) := by rw [HA.out]; exact hg
              have HG8 := Lib.hid hg0
              have HO8 := Lib.hid ho
              have HA8 := Lib.hid (show ∀ b, OnA A8 b → OnA (v.lA 0) b ∨ w7.heap.size ≤ b by rw [HA.out]; exact app_on ha)
              clear ho hg ha hg0
              refine hK _ _ ?_
              clear hK
              simp only [Act.put, List.setIfInBounds_toArray, List.set_cons_succ, List.set_cons_zero]
              refine ord_take (i := 13) (.pointer (some ⟨v.lb, 0, none⟩)) rfl (by kernel_rfl) (by kernel_rfl) (by kernel_rfl) rfl (fun _ _ _ h => h) (ex_idx rfl rfl rfl (fun w => idx0 w _ _ _ (by omega))) ?_
              simp only [Act.put, List.setIfInBounds_toArray, List.set_cons_succ, List.set_cons_zero]
              refine ord_step (i := 14) rfl (by kernel_rfl) rfl (fun K hK => ?_)
              obtain ⟨F, hF, _⟩ := HM7.out.lrow
              have hrow := hF.of_block ((HM7.out.other2 (r0 := 3) (A := v.lA 0) (fun b hb => ⟨Nat.zero_le _, hb⟩) HG8.out).1 1 v.lb rfl (by omega))
              have hcap := HM7.out.lcap
              refine wp_stC 22 (.tmp 29) (.tmp 28) rfl hrow 0 (by omega) (.slice A8 (n + 1) c8) (StCopy.stSlR _ _ _) rfl rfl ?_
              have HM9 := Lib.hid (HM7.out.setL (Nat.zero_le _) HG8.out HO8.out HA8.out)
              have HS9 := Lib.hid ((TStep.refl (T := T) (v := v) (HB6.out.trans (HB7.out.mono HB6.out.size))).trans (TStep.ofL (T := T) (v := v) (Nat.zero_le _) (n' := n + 1) (c' := c8) (g' := appN (v.g 0) n y) HG8.out HA8.out))
              clear hrow hF HM7 HG8 HO8 HA8 HB7
              refine hK _ _ ?_
              clear hK
              simp only [Act.put]
              refine wpAny_done (by kernel_rfl) ?_ _
              go_wp2_with fail
              go_meet
              case rel => exact ⟨A8, c8, HM9.out, HS9.out⟩
            · refine wp_bs1L Tryd.underlying22 (z := 32) (by kernel_rfl) (by omega) (by omega) (v0 := .agg (Array.replicate 32 (.int .u8 0))) (by kernel_rfl) _ rfl (u8v y) rfl (HS.nil _) ?_
              intro b7 w7 hb7 hc7 hs
              have HR7 := Lib.hid (hs.row 0 rfl)
              have HB7 := Lib.hid (hs.out (by simp; omega))
              have HM7 := Lib.hid (HMv.out.below HB7.out)
              have HR5 := Lib.hid (row_below HRv.out HB7.out HRv.out.lt)
              clear hs
              refine hK _ _ ?_
              clear hK
              simp only [Act.put, List.setIfInBounds_toArray, List.set_cons_succ, List.set_cons_zero]
              refine ord_step (i := 9) rfl (by kernel_rfl) rfl (fun K hK => ?_)
              refine wp_as (.slice A0 n c0) (ex_ldSl rfl rfl Tryd.underlying22 (HM7.out.level (k := 0) (Nat.zero_le _)) (by rw [HA.out, HN.out, HC.out])) ?_
              refine hK _ _ ?_
              clear hK
              simp only [Act.put, List.setIfInBounds_toArray, List.set_cons_succ, List.set_cons_zero]
              refine ord_step (i := 12) rfl (by kernel_rfl) rfl (fun K hK => ?_)
              refine wp_appZ _ (.tmp 25) (.tmp 27) 22 base (e := 30) (z := .agg (Array.replicate 32 (.int .u8 0))) (k := 32) (bytes := 32) (by kernel_rfl) Tryd.underlying22 (by rfl) (by omega) rfl (n + 1) (u8v (appN (v.g 0) n y)) rfl rfl (lev0 HM7.out HA.out HN.out HC.out) (Rd.of_row (n := 1 * 32) HR7.out (Nat.le_refl _) HR7.out.lt) (fun _ _ => rfl) rfl (cat_app n (v.g 0) y) ⟨by omega, by omega⟩ HM7.out.base_le ?_
              intro A8 c8 w8 ho hg ha
              have hg0 : w7.grownBy w8 ((v.lA 0).map (·.block)) := by rw [HA.out]; exact hg
              have HG8 := Lib.hid hg0
              have HO8 := Lib.hid ho
              have HA8 := Lib.hid (show ∀ b, OnA A8 b → OnA (v.lA 0) b ∨ w7.heap.size ≤ b by rw [HA.out]; exact app_on ha)
              clear ho hg ha hg0
              refine hK _ _ ?_
              clear hK
              simp only [Act.put, List.setIfInBounds_toArray, List.set_cons_succ, List.set_cons_zero]
              refine ord_take (i := 13) (.pointer (some ⟨v.lb, 0, none⟩)) rfl (by kernel_rfl) (by kernel_rfl) (by kernel_rfl) rfl (fun _ _ _ h => h) (ex_idx rfl rfl rfl (fun w => idx0 w _ _ _ (by omega))) ?_
              simp only [Act.put, List.setIfInBounds_toArray, List.set_cons_succ, List.set_cons_zero]
              refine ord_step (i := 14) rfl (by kernel_rfl) rfl (fun K hK => ?_)
              obtain ⟨F, hF, _⟩ := HM7.out.lrow
              have hrow := hF.of_block ((HM7.out.other2 (r0 := 3) (A := v.lA 0) (fun b hb => ⟨Nat.zero_le _, hb⟩) HG8.out).1 1 v.lb rfl (by omega))
              have hcap := HM7.out.lcap
              refine wp_stC 22 (.tmp 29) (.tmp 28) rfl hrow 0 (by omega) (.slice A8 (n + 1) c8) (StCopy.stSlR _ _ _) rfl rfl ?_
              have HM9 := Lib.hid (HM7.out.setL (Nat.zero_le _) HG8.out HO8.out HA8.out)
              have HS9 := Lib.hid ((TStep.refl (T := T) (v := v) (HB6.out.trans (HB7.out.mono HB6.out.size))).trans (TStep.ofL (T := T) (v := v) (Nat.zero_le _) (n' := n + 1) (c' := c8) (g' := appN (v.g 0) n y) HG8.out HA8.out))
              clear hrow hF HM7 HG8 HO8 HA8 HB7
              refine hK _ _ ?_
              clear hK
              simp only [Act.put]
              refine wpAny_done (by kernel_rfl) ?_ _
              go_wp2_with fail
              go_meet
              case rel => exact ⟨A8, c8, HM9.out, HS9.out⟩
          · refine wp_as (.slice A0 n c0) (ex_ldSl rfl rfl Tryd.underlying22 (HMv.out.level (k := 0) (Nat.zero_le _)) (by rw [HA.out, HN.out, HC.out])) ?_
            refine hK _ _ ?_
            clear hK
            simp only [Act.put, List.setIfInBounds_toArray, List.set_cons_succ, List.set_cons_zero]
            refine ord_two (i := 3) (j := 11) rfl rfl (by kernel_rfl) rfl rfl (fun K hK => ?_) (fun K hK => ?_)
            · refine wp_as (.slice (some ⟨v.lb, 0, none⟩) (D + 1) v.lc) (ex_ldSl rfl rfl Tryd.underlying55 (HMv.out.c2) (by first | (rw [← HD.out]; done) | (rw [← HD.out]; rfl))) ?_
              refine hK _ _ ?_
              clear hK
              simp only [Act.put, List.setIfInBounds_toArray, List.set_cons_succ, List.set_cons_zero]
              refine ord_step (i := 11) rfl (by kernel_rfl) rfl (fun K hK => ?_)
              refine wp_bs1L Tryd.underlying22 (z := 32) (by kernel_rfl) (by omega) (by omega) (v0 := .agg (Array.replicate 32 (.int .u8 0))) (by kernel_rfl) _ rfl (u8v y) rfl (HS.nil _) ?_
              intro b7 w7 hb7 hc7 hs
              have HR7 := Lib.hid (hs.row 0 rfl)
              have HB7 := Lib.hid (hs.out (by simp; omega))
              have HM7 := Lib.hid (HMv.out.below HB7.out)
              have HR5 := Lib.hid (row_below HRv.out HB7.out HRv.out.lt)
              clear hs
              refine hK _ _ ?_
              clear hK
              simp only [Act.put, List.setIfInBounds_toArray, List.set_cons_succ, List.set_cons_zero]
              refine ord_step (i := 12) rfl (by kernel_rfl) rfl (fun K hK => ?_)
              refine wp_appZ _ (.tmp 25) (.tmp 27) 22 base (e := 30) (z := .agg (Array.replicate 32 (.int .u8 0))) (k := 32) (bytes := 32) (by kernel_rfl) Tryd.underlying22 (by rfl) (by omega) rfl (n + 1) (u8v (appN (v.g 0) n y)) rfl rfl (lev0 HM7.out HA.out HN.out HC.out) (Rd.of_row (n := 1 * 32) HR7.out (Nat.le_refl _) HR7.out.lt) (fun _ _ => rfl) rfl (cat_app n (v.g 0) y) ⟨by omega, by omega⟩ HM7.out.base_le ?_
              intro A8 c8 w8 ho hg ha
              have hg0 : w7.grownBy w8 ((v.lA 0).map (·.block)) := by rw [HA.out]; exact hg
              have HG8 := Lib.hid hg0
              have HO8 := Lib.hid ho
              have HA8 := Lib.hid (show ∀ b, OnA A8 b → OnA (v.lA 0) b ∨ w7.heap.size ≤ b by rw [HA.out]; exact app_on ha)
              clear ho hg ha hg0
              refine hK _ _ ?_
              clear hK
              simp only [Act.put, List.setIfInBounds_toArray, List.set_cons_succ, List.set_cons_zero]
              refine ord_take (i := 13) (.pointer (some ⟨v.lb, 0, none⟩)) rfl (by kernel_rfl) (by kernel_rfl) (by kernel_rfl) rfl (fun _ _ _ h => h) (ex_idx rfl rfl rfl (fun w => idx0 w _ _ _ (by omega))) ?_
              simp only [Act.put, List.setIfInBounds_toArray, List.set_cons_succ, List.set_cons_zero]
              refine ord_step (i := 14) rfl (by kernel_rfl) rfl (fun K hK => ?_)
              obtain ⟨F, hF, _⟩ := HM7.out.lrow
              have hrow := hF.of_block ((HM7.out.other2 (r0 := 3) (A := v.lA 0) (fun b hb => ⟨Nat.zero_le _, hb⟩) HG8.out).1 1 v.lb rfl (by omega))
              have hcap := HM7.out.lcap
              refine wp_stC 22 (.tmp 29) (.tmp 28) rfl hrow 0 (by omega) (.slice A8 (n + 1) c8) (StCopy.stSlR _ _ _) rfl rfl ?_
              have HM9 := Lib.hid (HM7.out.setL (Nat.zero_le _) HG8.out HO8.out HA8.out)
              have HS9 := Lib.hid ((TStep.refl (T := T) (v := v) (HB6.out.trans (HB7.out.mono HB6.out.size))).trans (TStep.ofL (T := T) (v := v) (Nat.zero_le _) (n' := n + 1) (c' := c8) (g' := appN (v.g 0) n y) HG8.out HA8.out))
              clear hrow hF HM7 HG8 HO8 HA8 HB7
              refine hK _ _ ?_
              clear hK
              simp only [Act.put]
              refine wpAny_done (by kernel_rfl) ?_ _
              go_wp2_with fail
              go_meet
              case rel => exact ⟨A8, c8, HM9.out, HS9.out⟩
            · refine wp_bs1L Tryd.underlying22 (z := 32) (by kernel_rfl) (by omega) (by omega) (v0 := .agg (Array.replicate 32 (.int .u8 0))) (by kernel_rfl) _ rfl (u8v y) rfl (HS.nil _) ?_
              intro b7 w7 hb7 hc7 hs
              have HR7 := Lib.hid (hs.row 0 rfl)
              have HB7 := Lib.hid (hs.out (by simp; omega))
              have HM7 := Lib.hid (HMv.out.below HB7.out)
              have HR5 := Lib.hid (row_below HRv.out HB7.out HRv.out.lt)
              clear hs
              refine hK _ _ ?_
              clear hK
              simp only [Act.put, List.setIfInBounds_toArray, List.set_cons_succ, List.set_cons_zero]
              refine ord_two (i := 3) (j := 12) rfl rfl (by kernel_rfl) rfl rfl (fun K hK => ?_) (fun K hK => ?_)
              · refine wp_as (.slice (some ⟨v.lb, 0, none⟩) (D + 1) v.lc) (ex_ldSl rfl rfl Tryd.underlying55 (HM7.out.c2) (by first | (rw [← HD.out]; done) | (rw [← HD.out]; rfl))) ?_
                refine hK _ _ ?_
                clear hK
                simp only [Act.put, List.setIfInBounds_toArray, List.set_cons_succ, List.set_cons_zero]
                refine ord_step (i := 12) rfl (by kernel_rfl) rfl (fun K hK => ?_)
                refine wp_appZ _ (.tmp 25) (.tmp 27) 22 base (e := 30) (z := .agg (Array.replicate 32 (.int .u8 0))) (k := 32) (bytes := 32) (by kernel_rfl) Tryd.underlying22 (by rfl) (by omega) rfl (n + 1) (u8v (appN (v.g 0) n y)) rfl rfl (lev0 HM7.out HA.out HN.out HC.out) (Rd.of_row (n := 1 * 32) HR7.out (Nat.le_refl _) HR7.out.lt) (fun _ _ => rfl) rfl (cat_app n (v.g 0) y) ⟨by omega, by omega⟩ HM7.out.base_le ?_
                intro A8 c8 w8 ho hg ha
                have hg0 : w7.grownBy w8 ((v.lA 0).map (·.block)) := by rw [HA.out]; exact hg
                have HG8 := Lib.hid hg0
                have HO8 := Lib.hid ho
                have HA8 := Lib.hid (show ∀ b, OnA A8 b → OnA (v.lA 0) b ∨ w7.heap.size ≤ b by rw [HA.out]; exact app_on ha)
                clear ho hg ha hg0
                refine hK _ _ ?_
                clear hK
                simp only [Act.put, List.setIfInBounds_toArray, List.set_cons_succ, List.set_cons_zero]
                refine ord_take (i := 13) (.pointer (some ⟨v.lb, 0, none⟩)) rfl (by kernel_rfl) (by kernel_rfl) (by kernel_rfl) rfl (fun _ _ _ h => h) (ex_idx rfl rfl rfl (fun w => idx0 w _ _ _ (by omega))) ?_
                simp only [Act.put, List.setIfInBounds_toArray, List.set_cons_succ, List.set_cons_zero]
                refine ord_step (i := 14) rfl (by kernel_rfl) rfl (fun K hK => ?_)
                obtain ⟨F, hF, _⟩ := HM7.out.lrow
                have hrow := hF.of_block ((HM7.out.other2 (r0 := 3) (A := v.lA 0) (fun b hb => ⟨Nat.zero_le _, hb⟩) HG8.out).1 1 v.lb rfl (by omega))
                have hcap := HM7.out.lcap
                refine wp_stC 22 (.tmp 29) (.tmp 28) rfl hrow 0 (by omega) (.slice A8 (n + 1) c8) (StCopy.stSlR _ _ _) rfl rfl ?_
                have HM9 := Lib.hid (HM7.out.setL (Nat.zero_le _) HG8.out HO8.out HA8.out)
                have HS9 := Lib.hid ((TStep.refl (T := T) (v := v) (HB6.out.trans (HB7.out.mono HB6.out.size))).trans (TStep.ofL (T := T) (v := v) (Nat.zero_le _) (n' := n + 1) (c' := c8) (g' := appN (v.g 0) n y) HG8.out HA8.out))
                clear hrow hF HM7 HG8 HO8 HA8 HB7
                refine hK _ _ ?_
                clear hK
                simp only [Act.put]
                refine wpAny_done (by kernel_rfl) ?_ _
                go_wp2_with fail
                go_meet
                case rel => exact ⟨A8, c8, HM9.out, HS9.out⟩
              · refine wp_appZ _ (.tmp 25) (.tmp 27) 22 base (e := 30) (z := .agg (Array.replicate 32 (.int .u8 0))) (k := 32) (bytes := 32) (by kernel_rfl) Tryd.underlying22 (by rfl) (by omega) rfl (n + 1) (u8v (appN (v.g 0) n y)) rfl rfl (lev0 HM7.out HA.out HN.out HC.out) (Rd.of_row (n := 1 * 32) HR7.out (Nat.le_refl _) HR7.out.lt) (fun _ _ => rfl) rfl (cat_app n (v.g 0) y) ⟨by omega, by omega⟩ HM7.out.base_le ?_
                intro A8 c8 w8 ho hg ha
                have hg0 : w7.grownBy w8 ((v.lA 0).map (·.block)) := by rw [HA.out]; exact hg
                have HG8 := Lib.hid hg0
                have HO8 := Lib.hid ho
                have HA8 := Lib.hid (show ∀ b, OnA A8 b → OnA (v.lA 0) b ∨ w7.heap.size ≤ b by rw [HA.out]; exact app_on ha)
                clear ho hg ha hg0
                refine hK _ _ ?_
                clear hK
                simp only [Act.put, List.setIfInBounds_toArray, List.set_cons_succ, List.set_cons_zero]
                refine ord_step (i := 3) rfl (by kernel_rfl) rfl (fun K hK => ?_)
                refine wp_as (.slice (some ⟨v.lb, 0, none⟩) (D + 1) v.lc) (ex_ldSl rfl rfl Tryd.underlying55 ((HM7.out.rowD (r0 := 3) (by omega) (fun b hb => ⟨Nat.zero_le _, hb⟩) HG8.out).cell (show 2 < 5 by omega)) (by first | (rw [← HD.out]; done) | (rw [← HD.out]; rfl))) ?_
                refine hK _ _ ?_
                clear hK
                simp only [Act.put, List.setIfInBounds_toArray, List.set_cons_succ, List.set_cons_zero]
                refine ord_take (i := 13) (.pointer (some ⟨v.lb, 0, none⟩)) rfl (by kernel_rfl) (by kernel_rfl) (by kernel_rfl) rfl (fun _ _ _ h => h) (ex_idx rfl rfl rfl (fun w => idx0 w _ _ _ (by omega))) ?_
                simp only [Act.put, List.setIfInBounds_toArray, List.set_cons_succ, List.set_cons_zero]
                refine ord_step (i := 14) rfl (by kernel_rfl) rfl (fun K hK => ?_)
                obtain ⟨F, hF, _⟩ := HM7.out.lrow
                have hrow := hF.of_block ((HM7.out.other2 (r0 := 3) (A := v.lA 0) (fun b hb => ⟨Nat.zero_le _, hb⟩) HG8.out).1 1 v.lb rfl (by omega))
                have hcap := HM7.out.lcap
                refine wp_stC 22 (.tmp 29) (.tmp 28) rfl hrow 0 (by omega) (.slice A8 (n + 1) c8) (StCopy.stSlR _ _ _) rfl rfl ?_
                have HM9 := Lib.hid (HM7.out.setL (Nat.zero_le _) HG8.out HO8.out HA8.out)
                have HS9 := Lib.hid ((TStep.refl (T := T) (v := v) (HB6.out.trans (HB7.out.mono HB6.out.size))).trans (TStep.ofL (T := T) (v := v) (Nat.zero_le _) (n' := n + 1) (c' := c8) (g' := appN (v.g 0) n y) HG8.out HA8.out))
                clear hrow hF HM7 HG8 HO8 HA8 HB7
                refine hK _ _ ?_
                clear hK
                simp only [Act.put]
                refine wpAny_done (by kernel_rfl) ?_ _
                go_wp2_with fail
                go_meet
                case rel => exact ⟨A8, c8, HM9.out, HS9.out⟩
          · refine wp_bs1L Tryd.underlying22 (z := 32) (by kernel_rfl) (by omega) (by omega) (v0 := .agg (Array.replicate 32 (.int .u8 0))) (by kernel_rfl) _ rfl (u8v y) rfl (HS.nil _) ?_
            intro b7 w7 hb7 hc7 hs
            have HR7 := Lib.hid (hs.row 0 rfl)
            have HB7 := Lib.hid (hs.out (by simp; omega))
            have HM7 := Lib.hid (HMv.out.below HB7.out)
            have HR5 := Lib.hid (row_below HRv.out HB7.out HRv.out.lt)
            clear hs
            refine hK _ _ ?_
            clear hK
            simp only [Act.put, List.setIfInBounds_toArray, List.set_cons_succ, List.set_cons_zero]
            refine ord_two (i := 3) (j := 9) rfl rfl (by kernel_rfl) rfl rfl (fun K hK => ?_) (fun K hK => ?_)
            · refine wp_as (.slice (some ⟨v.lb, 0, none⟩) (D + 1) v.lc) (ex_ldSl rfl rfl Tryd.underlying55 (HM7.out.c2) (by first | (rw [← HD.out]; done) | (rw [← HD.out]; rfl))) ?_
              refine hK _ _ ?_
              clear hK
              simp only [Act.put, List.setIfInBounds_toArray, List.set_cons_succ, List.set_cons_zero]
              refine ord_step (i := 9) rfl (by kernel_rfl) rfl (fun K hK => ?_)
              refine wp_as (.slice A0 n c0) (ex_ldSl rfl rfl Tryd.underlying22 (HM7.out.level (k := 0) (Nat.zero_le _)) (by rw [HA.out, HN.out, HC.out])) ?_
              refine hK _ _ ?_
              clear hK
              simp only [Act.put, List.setIfInBounds_toArray, List.set_cons_succ, List.set_cons_zero]
              refine ord_step (i := 12) rfl (by kernel_rfl) rfl (fun K hK => ?_)
              refine wp_appZ _ (.tmp 25) (.tmp 27) 22 base (e := 30) (z := .agg (Array.replicate 32 (.int .u8 0))) (k := 32) (bytes := 32) (by kernel_rfl) Tryd.underlying22 (by rfl) (by omega) rfl (n + 1) (u8v (appN (v.g 0) n y)) rfl rfl (lev0 HM7.out HA.out HN.out HC.out) (Rd.of_row (n := 1 * 32) HR7.out (Nat.le_refl _) HR7.out.lt) (fun _ _ => rfl) rfl (cat_app n (v.g 0) y) ⟨by omega, by omega⟩ HM7.out.base_le ?_
              intro A8 c8 w8 ho hg ha
              have hg0 : w7.grownBy w8 ((v.lA 0).map (·.block)) := by rw [HA.out]; exact hg
              have HG8 := Lib.hid hg0
              have HO8 := Lib.hid ho
              have HA8 := Lib.hid (show ∀ b, OnA A8 b → OnA (v.lA 0) b ∨ w7.heap.size ≤ b by rw [HA.out]; exact app_on ha)
              clear ho hg ha hg0
              refine hK _ _ ?_
              clear hK
              simp only [Act.put, List.setIfInBounds_toArray, List.set_cons_succ, List.set_cons_zero]
              refine ord_take (i := 13) (.pointer (some ⟨v.lb, 0, none⟩)) rfl (by kernel_rfl) (by kernel_rfl) (by kernel_rfl) rfl (fun _ _ _ h => h) (ex_idx rfl rfl rfl (fun w => idx0 w _ _ _ (by omega))) ?_
              simp only [Act.put, List.setIfInBounds_toArray, List.set_cons_succ, List.set_cons_zero]
              refine ord_step (i := 14) rfl (by kernel_rfl) rfl (fun K hK => ?_)
              obtain ⟨F, hF, _⟩ := HM7.out.lrow
              have hrow := hF.of_block ((HM7.out.other2 (r0 := 3) (A := v.lA 0) (fun b hb => ⟨Nat.zero_le _, hb⟩) HG8.out).1 1 v.lb rfl (by omega))
              have hcap := HM7.out.lcap
              refine wp_stC 22 (.tmp 29) (.tmp 28) rfl hrow 0 (by omega) (.slice A8 (n + 1) c8) (StCopy.stSlR _ _ _) rfl rfl ?_
              have HM9 := Lib.hid (HM7.out.setL (Nat.zero_le _) HG8.out HO8.out HA8.out)
              have HS9 := Lib.hid ((TStep.refl (T := T) (v := v) (HB6.out.trans (HB7.out.mono HB6.out.size))).trans (TStep.ofL (T := T) (v := v) (Nat.zero_le _) (n' := n + 1) (c' := c8) (g' := appN (v.g 0) n y) HG8.out HA8.out))
              clear hrow hF HM7 HG8 HO8 HA8 HB7
              refine hK _ _ ?_
              clear hK
              simp only [Act.put]
              refine wpAny_done (by kernel_rfl) ?_ _
              go_wp2_with fail
              go_meet
              case rel => exact ⟨A8, c8, HM9.out, HS9.out⟩
            · refine wp_as (.slice A0 n c0) (ex_ldSl rfl rfl Tryd.underlying22 (HM7.out.level (k := 0) (Nat.zero_le _)) (by rw [HA.out, HN.out, HC.out])) ?_
              refine hK _ _ ?_
              clear hK
              simp only [Act.put, List.setIfInBounds_toArray, List.set_cons_succ, List.set_cons_zero]
              refine ord_two (i := 3) (j := 12) rfl rfl (by kernel_rfl) rfl rfl (fun K hK => ?_) (fun K hK => ?_)
              · refine wp_as (.slice (some ⟨v.lb, 0, none⟩) (D + 1) v.lc) (ex_ldSl rfl rfl Tryd.underlying55 (HM7.out.c2) (by first | (rw [← HD.out]; done) | (rw [← HD.out]; rfl))) ?_
                refine hK _ _ ?_
                clear hK
                simp only [Act.put, List.setIfInBounds_toArray, List.set_cons_succ, List.set_cons_zero]
                refine ord_step (i := 12) rfl (by kernel_rfl) rfl (fun K hK => ?_)
                refine wp_appZ _ (.tmp 25) (.tmp 27) 22 base (e := 30) (z := .agg (Array.replicate 32 (.int .u8 0))) (k := 32) (bytes := 32) (by kernel_rfl) Tryd.underlying22 (by rfl) (by omega) rfl (n + 1) (u8v (appN (v.g 0) n y)) rfl rfl (lev0 HM7.out HA.out HN.out HC.out) (Rd.of_row (n := 1 * 32) HR7.out (Nat.le_refl _) HR7.out.lt) (fun _ _ => rfl) rfl (cat_app n (v.g 0) y) ⟨by omega, by omega⟩ HM7.out.base_le ?_
                intro A8 c8 w8 ho hg ha
                have hg0 : w7.grownBy w8 ((v.lA 0).map (·.block)) := by rw [HA.out]; exact hg
                have HG8 := Lib.hid hg0
                have HO8 := Lib.hid ho
                have HA8 := Lib.hid (show ∀ b, OnA A8 b → OnA (v.lA 0) b ∨ w7.heap.size ≤ b by rw [HA.out]; exact app_on ha)
                clear ho hg ha hg0
                refine hK _ _ ?_
                clear hK
                simp only [Act.put, List.setIfInBounds_toArray, List.set_cons_succ, List.set_cons_zero]
                refine ord_take (i := 13) (.pointer (some ⟨v.lb, 0, none⟩)) rfl (by kernel_rfl) (by kernel_rfl) (by kernel_rfl) rfl (fun _ _ _ h => h) (ex_idx rfl rfl rfl (fun w => idx0 w _ _ _ (by omega))) ?_
                simp only [Act.put, List.setIfInBounds_toArray, List.set_cons_succ, List.set_cons_zero]
                refine ord_step (i := 14) rfl (by kernel_rfl) rfl (fun K hK => ?_)
                obtain ⟨F, hF, _⟩ := HM7.out.lrow
                have hrow := hF.of_block ((HM7.out.other2 (r0 := 3) (A := v.lA 0) (fun b hb => ⟨Nat.zero_le _, hb⟩) HG8.out).1 1 v.lb rfl (by omega))
                have hcap := HM7.out.lcap
                refine wp_stC 22 (.tmp 29) (.tmp 28) rfl hrow 0 (by omega) (.slice A8 (n + 1) c8) (StCopy.stSlR _ _ _) rfl rfl ?_
                have HM9 := Lib.hid (HM7.out.setL (Nat.zero_le _) HG8.out HO8.out HA8.out)
                have HS9 := Lib.hid ((TStep.refl (T := T) (v := v) (HB6.out.trans (HB7.out.mono HB6.out.size))).trans (TStep.ofL (T := T) (v := v) (Nat.zero_le _) (n' := n + 1) (c' := c8) (g' := appN (v.g 0) n y) HG8.out HA8.out))
                clear hrow hF HM7 HG8 HO8 HA8 HB7
                refine hK _ _ ?_
                clear hK
                simp only [Act.put]
                refine wpAny_done (by kernel_rfl) ?_ _
                go_wp2_with fail
                go_meet
                case rel => exact ⟨A8, c8, HM9.out, HS9.out⟩
              · refine wp_appZ _ (.tmp 25) (.tmp 27) 22 base (e := 30) (z := .agg (Array.replicate 32 (.int .u8 0))) (k := 32) (bytes := 32) (by kernel_rfl) Tryd.underlying22 (by rfl) (by omega) rfl (n + 1) (u8v (appN (v.g 0) n y)) rfl rfl (lev0 HM7.out HA.out HN.out HC.out) (Rd.of_row (n := 1 * 32) HR7.out (Nat.le_refl _) HR7.out.lt) (fun _ _ => rfl) rfl (cat_app n (v.g 0) y) ⟨by omega, by omega⟩ HM7.out.base_le ?_
                intro A8 c8 w8 ho hg ha
                have hg0 : w7.grownBy w8 ((v.lA 0).map (·.block)) := by rw [HA.out]; exact hg
                have HG8 := Lib.hid hg0
                have HO8 := Lib.hid ho
                have HA8 := Lib.hid (show ∀ b, OnA A8 b → OnA (v.lA 0) b ∨ w7.heap.size ≤ b by rw [HA.out]; exact app_on ha)
                clear ho hg ha hg0
                refine hK _ _ ?_
                clear hK
                simp only [Act.put, List.setIfInBounds_toArray, List.set_cons_succ, List.set_cons_zero]
                refine ord_step (i := 3) rfl (by kernel_rfl) rfl (fun K hK => ?_)
                refine wp_as (.slice (some ⟨v.lb, 0, none⟩) (D + 1) v.lc) (ex_ldSl rfl rfl Tryd.underlying55 ((HM7.out.rowD (r0 := 3) (by omega) (fun b hb => ⟨Nat.zero_le _, hb⟩) HG8.out).cell (show 2 < 5 by omega)) (by first | (rw [← HD.out]; done) | (rw [← HD.out]; rfl))) ?_
                refine hK _ _ ?_
                clear hK
                simp only [Act.put, List.setIfInBounds_toArray, List.set_cons_succ, List.set_cons_zero]
                refine ord_take (i := 13) (.pointer (some ⟨v.lb, 0, none⟩)) rfl (by kernel_rfl) (by kernel_rfl) (by kernel_rfl) rfl (fun _ _ _ h => h) (ex_idx rfl rfl rfl (fun w => idx0 w _ _ _ (by omega))) ?_
                simp only [Act.put, List.setIfInBounds_toArray, List.set_cons_succ, List.set_cons_zero]
                refine ord_step (i := 14) rfl (by kernel_rfl) rfl (fun K hK => ?_)
                obtain ⟨F, hF, _⟩ := HM7.out.lrow
                have hrow := hF.of_block ((HM7.out.other2 (r0 := 3) (A := v.lA 0) (fun b hb => ⟨Nat.zero_le _, hb⟩) HG8.out).1 1 v.lb rfl (by omega))
                have hcap := HM7.out.lcap
                refine wp_stC 22 (.tmp 29) (.tmp 28) rfl hrow 0 (by omega) (.slice A8 (n + 1) c8) (StCopy.stSlR _ _ _) rfl rfl ?_
                have HM9 := Lib.hid (HM7.out.setL (Nat.zero_le _) HG8.out HO8.out HA8.out)
                have HS9 := Lib.hid ((TStep.refl (T := T) (v := v) (HB6.out.trans (HB7.out.mono HB6.out.size))).trans (TStep.ofL (T := T) (v := v) (Nat.zero_le _) (n' := n + 1) (c' := c8) (g' := appN (v.g 0) n y) HG8.out HA8.out))
                clear hrow hF HM7 HG8 HO8 HA8 HB7
                refine hK _ _ ?_
                clear hK
                simp only [Act.put]
                refine wpAny_done (by kernel_rfl) ?_ _
                go_wp2_with fail
                go_meet
                case rel => exact ⟨A8, c8, HM9.out, HS9.out⟩
      · refine wp_as (rootV y) (ex_ldR 32 (u8v y) rfl rfl (fun q hq => by rw [add_lit0]; exact HRv.out.cell hq) Tryd.underlying30 rfl (by kernel_rfl)) ?_
        refine hK _ _ ?_
        clear hK
        simp only [Act.put, List.setIfInBounds_toArray, List.set_cons_succ, List.set_cons_zero]
        refine ord_three (i := 3) (j := 7) (k := 11) rfl rfl rfl (by kernel_rfl) rfl rfl rfl (fun K hK => ?_) (fun K hK => ?_) (fun K hK => ?_)
        · refine wp_as (.slice (some ⟨v.lb, 0, none⟩) (D + 1) v.lc) (ex_ldSl rfl rfl Tryd.underlying55 (HMv.out.c2) (by first | (rw [← HD.out]; done) | (rw [← HD.out]; rfl))) ?_
          refine hK _ _ ?_
          clear hK
          simp only [Act.put, List.setIfInBounds_toArray, List.set_cons_succ, List.set_cons_zero]
          refine ord_two (i := 7) (j := 11) rfl rfl (by kernel_rfl) rfl rfl (fun K hK => ?_) (fun K hK => ?_)
          · refine wp_as (.slice (some ⟨v.lb, 0, none⟩) (D + 1) v.lc) (ex_ldSl rfl rfl Tryd.underlying55 (HMv.out.c2) (by first | (rw [← HD.out]; done) | (rw [← HD.out]; rfl))) ?_
            refine hK _ _ ?_
            clear hK
            simp only [Act.put, List.setIfInBounds_toArray, List.set_cons_succ, List.set_cons_zero]
            refine ord_take (i := 8) (.pointer (some ⟨v.lb, 0, none⟩)) rfl (by kernel_rfl) (by kernel_rfl) (by kernel_rfl) rfl (fun _ _ _ h => h) (ex_idx rfl rfl rfl (fun w => idx0 w _ _ _ (by omega))) ?_
            simp only [Act.put, List.setIfInBounds_toArray, List.set_cons_succ, List.set_cons_zero]
            refine ord_two (i := 9) (j := 11) rfl rfl (by kernel_rfl) rfl rfl (fun K hK => ?_) (fun K hK => ?_)
            · refine wp_as (.slice A0 n c0) (ex_ldSl rfl rfl Tryd.underlying22 (HMv.out.level (k := 0) (Nat.zero_le _)) (by rw [HA.out, HN.out, HC.out])) ?_
              refine hK _ _ ?_
              clear hK
              simp only [Act.put, List.setIfInBounds_toArray, List.set_cons_succ, List.set_cons_zero]
              refine ord_step (i := 11) rfl (by kernel_rfl) rfl (fun K hK => ?_)
              refine wp_bs1L Tryd.underlying22 (z := 32) (by kernel_rfl) (by omega) (by omega) (v0 := .agg (Array.replicate 32 (.int .u8 0))) (by kernel_rfl) _ rfl (u8v y) rfl (HS.nil _) ?_
              intro b7 w7 hb7 hc7 hs
              have HR7 := Lib.hid (hs.row 0 rfl)
              have HB7 := Lib.hid (hs.out (by simp; omega))
              have HM7 := Lib.hid (HMv.out.below HB7.out)
              have HR5 := Lib.hid (row_below HRv.out HB7.out HRv.out.lt)
              clear hs
              refine hK _ _ ?_
              clear hK
              simp only [Act.put, List.setIfInBounds_toArray, List.set_cons_succ, List.set_cons_zero]
              refine ord_step (i := 12) rfl (by kernel_rfl) rfl (fun K hK => ?_)
              refine wp_appZ _ (.tmp 25) (.tmp 27) 22 base (e := 30) (z := .agg (Array.replicate 32 (.int .u8 0))) (k := 32) (bytes := 32) (by kernel_rfl) Tryd.underlying22 (by rfl) (by omega) rfl (n + 1) (u8v (appN (v.g 0) n y)) rfl rfl (lev0 HM7.out HA.out HN.out HC.out) (Rd.of_row (n := 1 * 32) HR7.out (Nat.le_refl _) HR7.out.lt) (fun _ _ => rfl) rfl (cat_app n (v.g 0) y) ⟨by omega, by omega⟩ HM7.out.base_le ?_
              intro A8 c8 w8 ho hg ha
              have hg0 : w7.grownBy w8 ((v.lA 0).map (·.block)) := by rw [HA.out]; exact hg
              have HG8 := Lib.hid hg0
              have HO8 := Lib.hid ho
              have HA8 := Lib.hid (show ∀ b, OnA A8 b → OnA (v.lA 0) b ∨ w7.heap.size ≤ b by rw [HA.out]; exact app_on ha)
              clear ho hg ha hg0
              refine hK _ _ ?_
              clear hK
              simp only [Act.put, List.setIfInBounds_toArray, List.set_cons_succ, List.set_cons_zero]
              refine ord_take (i := 13) (.pointer (some ⟨v.lb, 0, none⟩)) rfl (by kernel_rfl) (by kernel_rfl) (by kernel_rfl) rfl (fun _ _ _ h => h) (ex_idx rfl rfl rfl (fun w => idx0 w _ _ _ (by omega))) ?_
              simp only [Act.put, List.setIfInBounds_toArray, List.set_cons_succ, List.set_cons_zero]
              refine ord_step (i := 14) rfl (by kernel_rfl) rfl (fun K hK => ?_)
              obtain ⟨F, hF, _⟩ := HM7.out.lrow
              have hrow := hF.of_block ((HM7.out.other2 (r0 := 3) (A := v.lA 0) (fun b hb => ⟨Nat.zero_le _, hb⟩) HG8.out).1 1 v.lb rfl (by omega))
              have hcap := HM7.out.lcap
              refine wp_stC 22 (.tmp 29) (.tmp 28) rfl hrow 0 (by omega) (.slice A8 (n + 1) c8) (StCopy.stSlR _ _ _) rfl rfl ?_
              have HM9 := Lib.hid (HM7.out.setL (Nat.zero_le _) HG8.out HO8.out HA8.out)
              have HS9 := Lib.hid ((TStep.refl (T := T) (v := v) (HB6.out.trans (HB7.out.mono HB6.out.size))).trans (TStep.ofL (T := T) (v := v) (Nat.zero_le _) (n' := n + 1) (c' := c8) (g' := appN (v.g 0) n y) HG8.out HA8.out))
              clear hrow hF HM7 HG8 HO8 HA8 HB7
              refine hK _ _ ?_
              clear hK
              simp only [Act.put]
              refine wpAny_done (by kernel_rfl) ?_ _
              go_wp2_with fail
              go_meet
              case rel => exact ⟨A8, c8, HM9.out, HS9.out⟩
            · refine wp_bs1L Tryd.underlying22 (z := 32) (by kernel_rfl) (by omega) (by omega) (v0 := .agg (Array.replicate 32 (.int .u8 0))) (by kernel_rfl) _ rfl (u8v y) rfl (HS.nil _) ?_
              intro b7 w7 hb7 hc7 hs
              have HR7 := Lib.hid (hs.row 0 rfl)
              have HB7 := Lib.hid (hs.out (by simp; omega))
              have HM7 := Lib.hid (HMv.out.below HB7.out)
              have HR5 := Lib.hid (row_below HRv.out HB7.out HRv.out.lt)
              clear hs
              refine hK _ _ ?_
              clear hK
              simp only [Act.put, List.setIfInBounds_toArray, List.set_cons_succ, List.set_cons_zero]
              refine ord_step (i := 9) rfl (by kernel_rfl) rfl (fun K hK => ?_)
              refine wp_as (.slice A0 n c0) (ex_ldSl rfl rfl Tryd.underlying22 (HM7.out.level (k := 0) (Nat.zero_le _)) (by rw [HA.out, HN.out, HC.out])) ?_
              refine hK _ _ ?_
              clear hK
              simp only [Act.put, List.setIfInBounds_toArray, List.set_cons_succ, List.set_cons_zero]
              refine ord_step (i := 12) rfl (by kernel_rfl) rfl (fun K hK => ?_)
              refine wp_appZ _ (.tmp 25) (.tmp 27) 22 base (e := 30) (z := .agg (Array.replicate 32 (.int .u8 0))) (k := 32) (bytes := 32) (by kernel_rfl) Tryd.underlying22 (by rfl) (by omega) rfl (n + 1) (u8v (appN (v.g 0) n y)) rfl rfl (lev0 HM7.out HA.out HN.out HC.out) (Rd.of_row (n := 1 * 32) HR7.out (Nat.le_refl _) HR7.out.lt) (fun _ _ => rfl) rfl (cat_app n (v.g 0) y) ⟨by omega, by omega⟩ HM7.out.base_le ?_
              intro A8 c8 w8 ho hg ha
              have hg0 : w7.grownBy w8 ((v.lA 0).map (·.block)) := by rw [HA.out]; exact hg
              have HG8 := Lib.hid hg0
              have HO8 := Lib.hid ho
              have HA8 := Lib.hid (show ∀ b, OnA A8 b → OnA (v.lA 0) b ∨ w7.heap.size ≤ b by rw [HA.out]; exact app_on ha)
              clear ho hg ha hg0
              refine hK _ _ ?_
              clear hK
              simp only [Act.put, List.setIfInBounds_toArray, List.set_cons_succ, List.set_cons_zero]
              refine ord_take (i := 13) (.pointer (some ⟨v.lb, 0, none⟩)) rfl (by kernel_rfl) (by kernel_rfl) (by kernel_rfl) rfl (fun _ _ _ h => h) (ex_idx rfl rfl rfl (fun w => idx0 w _ _ _ (by omega))) ?_
              simp only [Act.put, List.setIfInBounds_toArray, List.set_cons_succ, List.set_cons_zero]
              refine ord_step (i := 14) rfl (by kernel_rfl) rfl (fun K hK => ?_)
              obtain ⟨F, hF, _⟩ := HM7.out.lrow
              have hrow := hF.of_block ((HM7.out.other2 (r0 := 3) (A := v.lA 0) (fun b hb => ⟨Nat.zero_le _, hb⟩) HG8.out).1 1 v.lb rfl (by omega))
              have hcap := HM7.out.lcap
              refine wp_stC 22 (.tmp 29) (.tmp 28) rfl hrow 0 (by omega) (.slice A8 (n + 1) c8) (StCopy.stSlR _ _ _) rfl rfl ?_
              have HM9 := Lib.hid (HM7.out.setL (Nat.zero_le _) HG8.out HO8.out HA8.out)
              have HS9 := Lib.hid ((TStep.refl (T := T) (v := v) (HB6.out.trans (HB7.out.mono HB6.out.size))).trans (TStep.ofL (T := T) (v := v) (Nat.zero_le _) (n' := n + 1) (c' := c8) (g' := appN (v.g 0) n y) HG8.out HA8.out))
              clear hrow hF HM7 HG8 HO8 HA8 HB7
              refine hK _ _ ?_
              clear hK
              simp only [Act.put]
              refine wpAny_done (by kernel_rfl) ?_ _
              go_wp2_with fail
              go_meet
              case rel => exact ⟨A8, c8, HM9.out, HS9.out⟩
          · refine wp_bs1L Tryd.underlying22 (z := 32) (by kernel_rfl) (by omega) (by omega) (v0 := .agg (Array.replicate 32 (.int .u8 0))) (by kernel_rfl) _ rfl (u8v y) rfl (HS.nil _) ?_
            intro b7 w7 hb7 hc7 hs
            have HR7 := Lib.hid (hs.row 0 rfl)
            have HB7 := Lib.hid (hs.out (by simp; omega))
            have HM7 := Lib.hid (HMv.out.below HB7.out)
            have HR5 := Lib.hid (row_below HRv.out HB7.out HRv.out.lt)
            clear hs
            refine hK _ _ ?_
            clear hK
            simp only [Act.put, List.setIfInBounds_toArray, List.set_cons_succ, List.set_cons_zero]
            refine ord_step (i := 7) rfl (by kernel_rfl) rfl (fun K hK => ?_)
            refine wp_as (.slice (some ⟨v.lb, 0, none⟩) (D + 1) v.lc) (ex_ldSl rfl rfl Tryd.underlying55 (HM7.out.c2) (by first | (rw [← HD.out]; done) | (rw [← HD.out]; rfl))) ?_
            refine hK _ _ ?_
            clear hK
            simp only [Act.put, List.setIfInBounds_toArray, List.set_cons_succ, List.set_cons_zero]
            refine ord_take (i := 8) (.pointer (some ⟨v.lb, 0, none⟩)) rfl (by kernel_rfl) (by kernel_rfl) (by kernel_rfl) rfl (fun _ _ _ h => h) (ex_idx rfl rfl rfl (fun w => idx0 w _ _ _ (by omega))) ?_
            simp only [Act.put, List.setIfInBounds_toArray, List.set_cons_succ, List.set_cons_zero]
            refine ord_step (i := 9) rfl (by kernel_rfl) rfl (fun K hK => ?_)
            refine wp_as (.slice A0 n c0) (ex_ldSl rfl rfl Tryd.underlying22 (HM7.out.level (k := 0) (Nat.zero_le _)) (by rw [HA.out, HN.out, HC.out])) ?_
            refine hK _ _ ?_
            clear hK
            simp only [Act.put, List.setIfInBounds_toArray, List.set_cons_succ, List.set_cons_zero]
            refine ord_step (i := 12) rfl (by kernel_rfl) rfl (fun K hK => ?_)
            refine wp_appZ _ (.tmp 25) (.tmp 27) 22 base (e := 30) (z := .agg (Array.replicate 32 (.int .u8 0))) (k := 32) (bytes := 32) (by kernel_rfl) Tryd.underlying22 (by rfl) (by omega) rfl (n + 1) (u8v (appN (v.g 0) n y)) rfl rfl (lev0 HM7.out HA.out HN.out HC.out) (Rd.of_row (n := 1 * 32) HR7.out (Nat.le_refl _) HR7.out.lt) (fun _ _ => rfl) rfl (cat_app n (v.g 0) y) ⟨by omega, by omega⟩ HM7.out.base_le ?_
            intro A8 c8 w8 ho hg ha
            have hg0 : w7.grownBy w8 ((v.lA 0).map (·.block)) := by rw [HA.out]; exact hg
            have HG8 := Lib.hid hg0
            have HO8 := Lib.hid ho
            have HA8 := Lib.hid (show ∀ b, OnA A8 b → OnA (v.lA 0) b ∨ w7.heap.size ≤ b by rw [HA.out]; exact app_on ha)
            clear ho hg ha hg0
            refine hK _ _ ?_
            clear hK
            simp only [Act.put, List.setIfInBounds_toArray, List.set_cons_succ, List.set_cons_zero]
            refine ord_take (i := 13) (.pointer (some ⟨v.lb, 0, none⟩)) rfl (by kernel_rfl) (by kernel_rfl) (by kernel_rfl) rfl (fun _ _ _ h => h) (ex_idx rfl rfl rfl (fun w => idx0 w _ _ _ (by omega))) ?_
            simp only [Act.put, List.setIfInBounds_toArray, List.set_cons_succ, List.set_cons_zero]
            refine ord_step (i := 14) rfl (by kernel_rfl) rfl (fun K hK => ?_)
            obtain ⟨F, hF, _⟩ := HM7.out.lrow
            have hrow := hF.of_block ((HM7.out.other2 (r0 := 3) (A := v.lA 0) (fun b hb => ⟨Nat.zero_le _, hb⟩) HG8.out).1 1 v.lb rfl (by omega))
            have hcap := HM7.out.lcap
            refine wp_stC 22 (.tmp 29) (.tmp 28) rfl hrow 0 (by omega) (.slice A8 (n + 1) c8) (StCopy.stSlR _ _ _) rfl rfl ?_
            have HM9 := Lib.hid (HM7.out.setL (Nat.zero_le _) HG8.out HO8.out HA8.out)
            have HS9 := Lib.hid ((TStep.refl (T := T) (v := v) (HB6.out.trans (HB7.out.mono HB6.out.size))).trans (TStep.ofL (T := T) (v := v) (Nat.zero_le _) (n' := n + 1) (c' := c8) (g' := appN (v.g 0) n y) HG8.out HA8.out))
            clear hrow hF HM7 HG8 HO8 HA8 HB7
            refine hK _ _ ?_
            clear hK
            simp only [Act.put]
            refine wpAny_done (by kernel_rfl) ?_ _
            go_wp2_with fail
            go_meet
            case rel => exact ⟨A8, c8, HM9.out, HS9.out⟩
        · refine wp_as (.slice (some ⟨v.lb, 0, none⟩) (D + 1) v.lc) (ex_ldSl rfl rfl Tryd.underlying55 (HMv.out.c2) (by first | (rw [← HD.out]; done) | (rw [← HD.out]; rfl))) ?_
          refine hK _ _ ?_
          clear hK
          simp only [Act.put, List.setIfInBounds_toArray, List.set_cons_succ, List.set_cons_zero]
          refine ord_take (i := 8) (.pointer (some ⟨v.lb, 0, none⟩)) rfl (by kernel_rfl) (by kernel_rfl) (by kernel_rfl) rfl (fun _ _ _ h => h) (ex_idx rfl rfl rfl (fun w => idx0 w _ _ _ (by omega))) ?_
          simp only [Act.put, List.setIfInBounds_toArray, List.set_cons_succ, List.set_cons_zero]
          refine ord_three (i := 3) (j := 9) (k := 11) rfl rfl rfl (by kernel_rfl) rfl rfl rfl (fun K hK => ?_) (fun K hK => ?_) (fun K hK => ?_)
          · refine wp_as (.slice (some ⟨v.lb, 0, none⟩) (D + 1) v.lc) (ex_ldSl rfl rfl Tryd.underlying55 (HMv.out.c2) (by first | (rw [← HD.out]; done) | (rw [← HD.out]; rfl))) ?_
            refine hK _ _ ?_
            clear hK
            simp only [Act.put, List.setIfInBounds_toArray, List.set_cons_succ, List.set_cons_zero]
            refine ord_two (i := 9) (j := 11) rfl rfl (by kernel_rfl) rfl rfl (fun K hK => ?_) (fun K hK => ?_)
            · refine wp_as (.slice A0 n c0) (ex_ldSl rfl rfl Tryd.underlying22 (HMv.out.level (k := 0) (Nat.zero_le _)) (by rw [HA.out, HN.out, HC.out])) ?_
              refine hK _ _ ?_
              clear hK
              simp only [Act.put, List.setIfInBounds_toArray, List.set_cons_succ, List.set_cons_zero]
              refine ord_step (i := 11) rfl (by kernel_rfl) rfl (fun K hK => ?_)
              refine wp_bs1L Tryd.underlying22 (z := 32) (by kernel_rfl) (by omega) (by omega) (v0 := .agg (Array.replicate 32 (.int .u8 0))) (by kernel_rfl) _ rfl (u8v y) rfl (HS.nil _) ?_
              intro b7 w7 hb7 hc7 hs
              have HR7 := Lib.hid (hs.row 0 rfl)
              have HB7 := Lib.hid (hs.out (by simp; omega))
              have HM7 := Lib.hid (HMv.out.below HB7.out)
              have HR5 := Lib.hid (row_below HRv.out HB7.out HRv.out.lt)
              clear hs
              refine hK _ _ ?_
              clear hK
              simp only [Act.put, List.setIfInBounds_toArray, List.set_cons_succ, List.set_cons_zero]
              refine ord_step (i := 12) rfl (by kernel_rfl) rfl (fun K hK => ?_)
              refine wp_appZ _ (.tmp 25) (.tmp 27) 22 base (e := 30) (z := .agg (Array.replicate 32 (.int .u8 0))) (k := 32) (bytes := 32) (by kernel_rfl) Tryd.underlying22 (by rfl) (by omega) rfl (n + 1) (u8v (appN (v.g 0) n y)) rfl rfl (lev0 HM7.out HA.out HN.out HC.out) (Rd.of_row (n := 1 * 32) HR7.out (Nat.le_refl _) HR7.out.lt) (fun _ _ => rfl) rfl (cat_app n (v.g 0) y) ⟨by omega, by omega⟩ HM7.out.base_le ?_
              intro A8 c8 w8 ho hg ha
              have hg0 : w7.grownBy w8 ((v.lA 0).map (·.block)) := by rw [HA.out]; exact hg
              have HG8 := Lib.hid hg0
              have HO8 := Lib.hid ho
              have HA8 := Lib.hid (show ∀ b, OnA A8 b → OnA (v.lA 0) b ∨ w7.heap.size ≤ b by rw [HA.out]; exact app_on ha)
              clear ho hg ha hg0
              refine hK _ _ ?_
              clear hK
              simp only [Act.put, List.setIfInBounds_toArray, List.set_cons_succ, List.set_cons_zero]
              refine ord_take (i := 13) (.pointer (some ⟨v.lb, 0, none⟩)) rfl (by kernel_rfl) (by kernel_rfl) (by kernel_rfl) rfl (fun _ _ _ h => h) (ex_idx rfl rfl rfl (fun w => idx0 w _ _ _ (by omega))) ?_
              simp only [Act.put, List.setIfInBounds_toArray, List.set_cons_succ, List.set_cons_zero]
              refine ord_step (i := 14) rfl (by kernel_rfl) rfl (fun K hK => ?_)
              obtain ⟨F, hF, _⟩ := HM7.out.lrow
              have hrow := hF.of_block ((HM7.out.other2 (r0 := 3) (A := v.lA 0) (fun b hb => ⟨Nat.zero_le _, hb⟩) HG8.out).1 1 v.lb rfl (by omega))
              have hcap := HM7.out.lcap
              refine wp_stC 22 (.tmp 29) (.tmp 28) rfl hrow 0 (by omega) (.slice A8 (n + 1) c8) (StCopy.stSlR _ _ _) rfl rfl ?_
              have HM9 := Lib.hid (HM7.out.setL (Nat.zero_le _) HG8.out HO8.out HA8.out)
              have HS9 := Lib.hid ((TStep.refl (T := T) (v := v) (HB6.out.trans (HB7.out.mono HB6.out.size))).trans (TStep.ofL (T := T) (v := v) (Nat.zero_le _) (n' := n + 1) (c' := c8) (g' := appN (v.g 0) n y) HG8.out HA8.out))
              clear hrow hF HM7 HG8 HO8 HA8 HB7
              refine hK _ _ ?_
              clear hK
              simp only [Act.put]
              refine wpAny_done (by kernel_rfl) ?_ _
              go_wp2_with fail
              go_meet
              case rel => exact ⟨A8, c8, HM9.out, HS9.out⟩
            · refine wp_bs1L Tryd.underlying22 (z := 32) (by kernel_rfl) (by omega) (by omega) (v0 := .agg (Array.replicate 32 (.int .u8 0))) (by kernel_rfl) _ rfl (u8v y) rfl (HS.nil _) ?_
              intro b7 w7 hb7 hc7 hs
              have HR7 := Lib.hid (hs.row 0 rfl)
              have HB7 := Lib.hid (hs.out (by simp; omega))
              have HM7 := Lib.hid (HMv.out.below HB7.out)
              have HR5 := Lib.hid (row_below HRv.out HB7.out HRv.out.lt)
              clear hs
              refine hK _ _ ?_
              clear hK
              simp only [Act.put, List.setIfInBounds_toArray, List.set_cons_succ, List.set_cons_zero]
              refine ord_step (i := 9) rfl (by kernel_rfl) rfl (fun K hK => ?_)
              refine wp_as (.slice A0 n c0) (ex_ldSl rfl rfl Tryd.underlying22 (HM7.out.level (k := 0) (Nat.zero_le _)) (by rw [HA.out, HN.out, HC.out])) ?_
              refine hK _ _ ?_
              clear hK
              simp only [Act.put, List.setIfInBounds_toArray, List.set_cons_succ, List.set_cons_zero]
              refine ord_step (i := 12) rfl (by kernel_rfl) rfl (fun K hK => ?_)
              refine wp_appZ _ (.tmp 25) (.tmp 27) 22 base (e := 30) (z := .agg (Array.replicate 32 (.int .u8 0))) (k := 32) (bytes := 32) (by kernel_rfl) Tryd.underlying22 (by rfl) (by omega) rfl (n + 1) (u8v (appN (v.g 0) n y)) rfl rfl (lev0 HM7.out HA.out HN.out HC.out) (Rd.of_row (n := 1 * 32) HR7.out (Nat.le_refl _) HR7.out.lt) (fun _ _ => rfl) rfl (cat_app n (v.g 0) y) ⟨by omega, by omega⟩ HM7.out.base_le ?_
              intro A8 c8 w8 ho hg ha
              have hg0 : w7.grownBy w8 ((v.lA 0).map (·.block)) := by rw [HA.out]; exact hg
              have HG8 := Lib.hid hg0
              have HO8 := Lib.hid ho
              have HA8 := Lib.hid (show ∀ b, OnA A8 b → OnA (v.lA 0) b ∨ w7.heap.size ≤ b by rw [HA.out]; exact app_on ha)
              clear ho hg ha hg0
              refine hK _ _ ?_
              clear hK
              simp only [Act.put, List.setIfInBounds_toArray, List.set_cons_succ, List.set_cons_zero]
              refine ord_take (i := 13) (.pointer (some ⟨v.lb, 0, none⟩)) rfl (by kernel_rfl) (by kernel_rfl) (by kernel_rfl) rfl (fun _ _ _ h => h) (ex_idx rfl rfl rfl (fun w => idx0 w _ _ _ (by omega))) ?_
              simp only [Act.put, List.setIfInBounds_toArray, List.set_cons_succ, List.set_cons_zero]
              refine ord_step (i := 14) rfl (by kernel_rfl) rfl (fun K hK => ?_)
              obtain ⟨F, hF, _⟩ := HM7.out.lrow
              have hrow := hF.of_block ((HM7.out.other2 (r0 := 3) (A := v.lA 0) (fun b hb => ⟨Nat.zero_le _, hb⟩) HG8.out).1 1 v.lb rfl (by omega))
              have hcap := HM7.out.lcap
              refine wp_stC 22 (.tmp 29) (.tmp 28) rfl hrow 0 (by omega) (.slice A8 (n + 1) c8) (StCopy.stSlR _ _ _) rfl rfl ?_
              have HM9 := Lib.hid (HM7.out.setL (Nat.zero_le _) HG8.out HO8.out HA8.out)
              have HS9 := Lib.hid ((TStep.refl (T := T) (v := v) (HB6.out.trans (HB7.out.mono HB6.out.size))).trans (TStep.ofL (T := T) (v := v) (Nat.zero_le _) (n' := n + 1) (c' := c8) (g' := appN (v.g 0) n y) HG8.out HA8.out))
              clear hrow hF HM7 HG8 HO8 HA8 HB7
              refine hK _ _ ?_
              clear hK
              simp only [Act.put]
              refine wpAny_done (by kernel_rfl) ?_ _
              go_wp2_with fail
              go_meet
              case rel => exact ⟨A8, c8, HM9.out, HS9.out⟩
          · refine wp_as (.slice A0 n c0) (ex_ldSl rfl rfl Tryd.underlying22 (HMv.out.level (k := 0) (Nat.zero_le _)) (by rw [HA.out, HN.out, HC.out])) ?_
            refine hK _ _ ?_
            clear hK
            simp only [Act.put, List.setIfInBounds_toArray, List.set_cons_succ, List.set_cons_zero]
            refine ord_two (i := 3) (j := 11) rfl rfl (by kernel_rfl) rfl rfl (fun K hK => ?_) (fun K hK => ?_)
            · refine wp_as (.slice (some ⟨v.lb, 0, none⟩) (D + 1) v.lc) (ex_ldSl rfl rfl Tryd.underlying55 (HMv.out.c2) (by first | (rw [← HD.out]; done) | (rw [← HD.out]; rfl))) ?_
              refine hK _ _ ?_
              clear hK
              simp only [Act.put, List.setIfInBounds_toArray, List.set_cons_succ, List.set_cons_zero]
              refine ord_step (i := 11) rfl (by kernel_rfl) rfl (fun K hK => ?_)
              refine wp_bs1L Tryd.underlying22 (z := 32) (by kernel_rfl) (by omega) (by omega) (v0 := .agg (Array.replicate 32 (.int .u8 0))) (by kernel_rfl) _ rfl (u8v y) rfl (HS.nil _) ?_
              intro b7 w7 hb7 hc7 hs
              have HR7 := Lib.hid (hs.row 0 rfl)
              have HB7 := Lib.hid (hs.out (by simp; omega))
              have HM7 := Lib.hid (HMv.out.below HB7.out)
              have HR5 := Lib.hid (row_below HRv.out HB7.out HRv.out.lt)
              clear hs
              refine hK _ _ ?_
              clear hK
              simp only [Act.put, List.setIfInBounds_toArray, List.set_cons_succ, List.set_cons_zero]
              refine ord_step (i := 12) rfl (by kernel_rfl) rfl (fun K hK => ?_)
              refine wp_appZ _ (.tmp 25) (.tmp 27) 22 base (e := 30) (z := .agg (Array.replicate 32 (.int .u8 0))) (k := 32) (bytes := 32) (by kernel_rfl) Tryd.underlying22 (by rfl) (by omega) rfl (n + 1) (u8v (appN (v.g 0) n y)) rfl rfl (lev0 HM7.out HA.out HN.out HC.out) (Rd.of_row (n := 1 * 32) HR7.out (Nat.le_refl _) HR7.out.lt) (fun _ _ => rfl) rfl (cat_app n (v.g 0) y) ⟨by omega, by omega⟩ HM7.out.base_le ?_
              intro A8 c8 w8 ho hg ha
              have hg0 : w7.grownBy w8 ((v.lA 0).map (·.block)) := by rw [HA.out]; exact hg
              have HG8 := Lib.hid hg0
              have HO8 := Lib.hid ho
              have HA8 := Lib.hid (show ∀ b, OnA A8 b → OnA (v.lA 0) b ∨ w7.heap.size ≤ b by rw [HA.out]; exact app_on ha)
              clear ho hg ha hg0
              refine hK _ _ ?_
              clear hK
              simp only [Act.put, List.setIfInBounds_toArray, List.set_cons_succ, List.set_cons_zero]
              refine ord_take (i := 13) (.pointer (some ⟨v.lb, 0, none⟩)) rfl (by kernel_rfl) (by kernel_rfl) (by kernel_rfl) rfl (fun _ _ _ h => h) (ex_idx rfl rfl rfl (fun w => idx0 w _ _ _ (by omega))) ?_
              simp only [Act.put, List.setIfInBounds_toArray, List.set_cons_succ, List.set_cons_zero]
              refine ord_step (i := 14) rfl (by kernel_rfl) rfl (fun K hK => ?_)
              obtain ⟨F, hF, _⟩ := HM7.out.lrow
              have hrow := hF.of_block ((HM7.out.other2 (r0 := 3) (A := v.lA 0) (fun b hb => ⟨Nat.zero_le _, hb⟩) HG8.out).1 1 v.lb rfl (by omega))
              have hcap := HM7.out.lcap
              refine wp_stC 22 (.tmp 29) (.tmp 28) rfl hrow 0 (by omega) (.slice A8 (n + 1) c8) (StCopy.stSlR _ _ _) rfl rfl ?_
              have HM9 := Lib.hid (HM7.out.setL (Nat.zero_le _) HG8.out HO8.out HA8.out)
              have HS9 := Lib.hid ((TStep.refl (T := T) (v := v) (HB6.out.trans (HB7.out.mono HB6.out.size))).trans (TStep.ofL (T := T) (v := v) (Nat.zero_le _) (n' := n + 1) (c' := c8) (g' := appN (v.g 0) n y) HG8.out HA8.out))
              clear hrow hF HM7 HG8 HO8 HA8 HB7
              refine hK _ _ ?_
              clear hK
              simp only [Act.put]
              refine wpAny_done (by kernel_rfl) ?_ _
              go_wp2_with fail
              go_meet
              case rel => exact ⟨A8, c8, HM9.out, HS9.out⟩
            · refine wp_bs1L Tryd.underlying22 (z := 32) (by kernel_rfl) (by omega) (by omega) (v0 := .agg (Array.replicate 32 (.int .u8 0))) (by kernel_rfl) _ rfl (u8v y) rfl (HS.nil _) ?_
              intro b7 w7 hb7 hc7 hs
              have HR7 := Lib.hid (hs.row 0 rfl)
              have HB7 := Lib.hid (hs.out (by simp; omega))
              have HM7 := Lib.hid (HMv.out.below HB7.out)
              have HR5 := Lib.hid (row_below HRv.out HB7.out HRv.out.lt)
              clear hs
              refine hK _ _ ?_
              clear hK
              simp only [Act.put, List.setIfInBounds_toArray, List.set_cons_succ, List.set_cons_zero]
              refine ord_two (i := 3) (j := 12) rfl rfl (by kernel_rfl) rfl rfl (fun K hK => ?_) (fun K hK => ?_)
              · refine wp_as (.slice (some ⟨v.lb, 0, none⟩) (D + 1) v.lc) (ex_ldSl rfl rfl Tryd.underlying55 (HM7.out.c2) (by first | (rw [← HD.out]; done) | (rw [← HD.out]; rfl))) ?_
                refine hK _ _ ?_
                clear hK
                simp only [Act.put, List.setIfInBounds_toArray, List.set_cons_succ, List.set_cons_zero]
                refine ord_step (i := 12) rfl (by kernel_rfl) rfl (fun K hK => ?_)
                refine wp_appZ _ (.tmp 25) (.tmp 27) 22 base (e := 30) (z := .agg (Array.replicate 32 (.int .u8 0))) (k := 32) (bytes := 32) (by kernel_rfl) Tryd.underlying22 (by rfl) (by omega) rfl (n + 1) (u8v (appN (v.g 0) n y)) rfl rfl (lev0 HM7.out HA.out HN.out HC.out) (Rd.of_row (n := 1 * 32) HR7.out (Nat.le_refl _) HR7.out.lt) (fun _ _ => rfl) rfl (cat_app n (v.g 0) y) ⟨by omega, by omega⟩ HM7.out.base_le ?_
                intro A8 c8 w8 ho hg ha
                have hg0 : w7.grownBy w8 ((v.lA 0).map (·.block)) := by rw [HA.out]; exact hg
                have HG8 := Lib.hid hg0
                have HO8 := Lib.hid ho
                have HA8 := Lib.hid (show ∀ b, OnA A8 b → OnA (v.lA 0) b ∨ w7.heap.size ≤ b by rw [HA.out]; exact app_on ha)
                clear ho hg ha hg0
                refine hK _ _ ?_
                clear hK
                simp only [Act.put, List.setIfInBounds_toArray, List.set_cons_succ, List.set_cons_zero]
                refine ord_take (i := 13) (.pointer (some ⟨v.lb, 0, none⟩)) rfl (by kernel_rfl) (by kernel_rfl) (by kernel_rfl) rfl (fun _ _ _ h => h) (ex_idx rfl rfl rfl (fun w => idx0 w _ _ _ (by omega))) ?_
                simp only [Act.put, List.setIfInBounds_toArray, List.set_cons_succ, List.set_cons_zero]
                refine ord_step (i := 14) rfl (by kernel_rfl) rfl (fun K hK => ?_)
                obtain ⟨F, hF, _⟩ := HM7.out.lrow
                have hrow := hF.of_block ((HM7.out.other2 (r0 := 3) (A := v.lA 0) (fun b hb => ⟨Nat.zero_le _, hb⟩) HG8.out).1 1 v.lb rfl (by omega))
                have hcap := HM7.out.lcap
                refine wp_stC 22 (.tmp 29) (.tmp 28) rfl hrow 0 (by omega) (.slice A8 (n + 1) c8) (StCopy.stSlR _ _ _) rfl rfl ?_
                have HM9 := Lib.hid (HM7.out.setL (Nat.zero_le _) HG8.out HO8.out HA8.out)
                have HS9 := Lib.hid ((TStep.refl (T := T) (v := v) (HB6.out.trans (HB7.out.mono HB6.out.size))).trans (TStep.ofL (T := T) (v := v) (Nat.zero_le _) (n' := n + 1) (c' := c8) (g' := appN (v.g 0) n y) HG8.out HA8.out))
                clear hrow hF HM7 HG8 HO8 HA8 HB7
                refine hK _ _ ?_
                clear hK
                simp only [Act.put]
                refine wpAny_done (by kernel_rfl) ?_ _
                go_wp2_with fail
                go_meet
                case rel => exact ⟨A8, c8, HM9.out, HS9.out⟩
              · refine wp_appZ _ (.tmp 25) (.tmp 27) 22 base (e := 30) (z := .agg (Array.replicate 32 (.int .u8 0))) (k := 32) (bytes := 32) (by kernel_rfl) Tryd.underlying22 (by rfl) (by omega) rfl (n + 1) (u8v (appN (v.g 0) n y)) rfl rfl (lev0 HM7.out HA.out HN.out HC.out) (Rd.of_row (n := 1 * 32) HR7.out (Nat.le_refl _) HR7.out.lt) (fun _ _ => rfl) rfl (cat_app n (v.g 0) y) ⟨by omega, by omega⟩ HM7.out.base_le ?_
                intro A8 c8 w8 ho hg ha
                have hg0 : w7.grownBy w8 ((v.lA 0).map (·.block)) := by rw [HA.out]; exact hg
                have HG8 := Lib.hid hg0
                have HO8 := Lib.hid ho
                have HA8 := Lib.hid (show ∀ b, OnA A8 b → OnA (v.lA 0) b ∨ w7.heap.size ≤ b by rw [HA.out]; exact app_on ha)
                clear ho hg ha hg0
                refine hK _ _ ?_
                clear hK
                simp only [Act.put, List.setIfInBounds_toArray, List.set_cons_succ, List.set_cons_zero]
                refine ord_step (i := 3) rfl (by kernel_rfl) rfl (fun K hK => ?_)
                refine wp_as (.slice (some ⟨v.lb, 0, none⟩) (D + 1) v.lc) (ex_ldSl rfl rfl Tryd.underlying55 ((HM7.out.rowD (r0 := 3) (by omega) (fun b hb => ⟨Nat.zero_le _, hb⟩) HG8.out).cell (show 2 < 5 by omega)) (by first | (rw [← HD.out]; done) | (rw [← HD.out]; rfl))) ?_
                refine hK _ _ ?_
                clear hK
                simp only [Act.put, List.setIfInBounds_toArray, List.set_cons_succ, List.set_cons_zero]
                refine ord_take (i := 13) (.pointer (some ⟨v.lb, 0, none⟩)) rfl (by kernel_rfl) (by kernel_rfl) (by kernel_rfl) rfl (fun _ _ _ h => h) (ex_idx rfl rfl rfl (fun w => idx0 w _ _ _ (by omega))) ?_
                simp only [Act.put, List.setIfInBounds_toArray, List.set_cons_succ, List.set_cons_zero]
                refine ord_step (i := 14) rfl (by kernel_rfl) rfl (fun K hK => ?_)
                obtain ⟨F, hF, _⟩ := HM7.out.lrow
                have hrow := hF.of_block ((HM7.out.other2 (r0 := 3) (A := v.lA 0) (fun b hb => ⟨Nat.zero_le _, hb⟩) HG8.out).1 1 v.lb rfl (by omega))
                have hcap := HM7.out.lcap
                refine wp_stC 22 (.tmp 29) (.tmp 28) rfl hrow 0 (by omega) (.slice A8 (n + 1) c8) (StCopy.stSlR _ _ _) rfl rfl ?_
                have HM9 := Lib.hid (HM7.out.setL (Nat.zero_le _) HG8.out HO8.out HA8.out)
                have HS9 := Lib.hid ((TStep.refl (T := T) (v := v) (HB6.out.trans (HB7.out.mono HB6.out.size))).trans (TStep.ofL (T := T) (v := v) (Nat.zero_le _) (n' := n + 1) (c' := c8) (g' := appN (v.g 0) n y) HG8.out HA8.out))
                clear hrow hF HM7 HG8 HO8 HA8 HB7
                refine hK _ _ ?_
                clear hK
                simp only [Act.put]
                refine wpAny_done (by kernel_rfl) ?_ _
                go_wp2_with fail
                go_meet
                case rel => exact ⟨A8, c8, HM9.out, HS9.out⟩
          · refine wp_bs1L Tryd.underlying22 (z := 32) (by kernel_rfl) (by omega) (by omega) (v0 := .agg (Array.replicate 32 (.int .u8 0))) (by kernel_rfl) _ rfl (u8v y) rfl (HS.nil _) ?_
            intro b7 w7 hb7 hc7 hs
            have HR7 := Lib.hid (hs.row 0 rfl)
            have HB7 := Lib.hid (hs.out (by simp; omega))
            have HM7 := Lib.hid (HMv.out.below HB7.out)
            have HR5 := Lib.hid (row_below HRv.out HB7.out HRv.out.lt)
            clear hs
            refine hK _ _ ?_
            clear hK
            simp only [Act.put, List.setIfInBounds_toArray, List.set_cons_succ, List.set_cons_zero]
            refine ord_two (i := 3) (j := 9) rfl rfl (by kernel_rfl) rfl rfl (fun K hK => ?_) (fun K hK => ?_)
            · refine wp_as (.slice (some ⟨v.lb, 0, none⟩) (D + 1) v.lc) (ex_ldSl rfl rfl Tryd.underlying55 (HM7.out.c2) (by first | (rw [← HD.out]; done) | (rw [← HD.out]; rfl))) ?_
              refine hK _ _ ?_
              clear hK
              simp only [Act.put, List.setIfInBounds_toArray, List.set_cons_succ, List.set_cons_zero]
              refine ord_step (i := 9) rfl (by kernel_rfl) rfl (fun K hK => ?_)
              refine wp_as (.slice A0 n c0) (ex_ldSl rfl rfl Tryd.underlying22 (HM7.out.level (k := 0) (Nat.zero_le _)) (by rw [HA.out, HN.out, HC.out])) ?_
              refine hK _ _ ?_
              clear hK
              simp only [Act.put, List.setIfInBounds_toArray, List.set_cons_succ, List.set_cons_zero]
              refine ord_step (i := 12) rfl (by kernel_rfl) rfl (fun K hK => ?_)
              refine wp_appZ _ (.tmp 25) (.tmp 27) 22 base (e := 30) (z := .agg (Array.replicate 32 (.int .u8 0))) (k := 32) (bytes := 32) (by kernel_rfl) Tryd.underlying22 (by rfl) (by omega) rfl (n + 1) (u8v (appN (v.g 0) n y)) rfl rfl (lev0 HM7.out HA.out HN.out HC.out) (Rd.of_row (n := 1 * 32) HR7.out (Nat.le_refl _) HR7.out.lt) (fun _ _ => rfl) rfl (cat_app n (v.g 0) y) ⟨by omega, by omega⟩ HM7.out.base_le ?_
              intro A8 c8 w8 ho hg ha
              have hg0 : w7.grownBy w8 ((v.lA 0).map (·.block)) := by rw [HA.out]; exact hg
              have HG8 := Lib.hid hg0
              have HO8 := Lib.hid ho
              have HA8 := Lib.hid (show ∀ b, OnA A8 b → OnA (v.lA 0) b ∨ w7.heap.size ≤ b by rw [HA.out]; exact app_on ha)
              clear ho hg ha hg0
              refine hK _ _ ?_
              clear hK
              simp only [Act.put, List.setIfInBounds_toArray, List.set_cons_succ, List.set_cons_zero]
              refine ord_take (i := 13) (.pointer (some ⟨v.lb, 0, none⟩)) rfl (by kernel_rfl) (by kernel_rfl) (by kernel_rfl) rfl (fun _ _ _ h => h) (ex_idx rfl rfl rfl (fun w => idx0 w _ _ _ (by omega))) ?_
              simp only [Act.put, List.setIfInBounds_toArray, List.set_cons_succ, List.set_cons_zero]
              refine ord_step (i := 14) rfl (by kernel_rfl) rfl (fun K hK => ?_)
              obtain ⟨F, hF, _⟩ := HM7.out.lrow
              have hrow := hF.of_block ((HM7.out.other2 (r0 := 3) (A := v.lA 0) (fun b hb => ⟨Nat.zero_le _, hb⟩) HG8.out).1 1 v.lb rfl (by omega))
              have hcap := HM7.out.lcap
              refine wp_stC 22 (.tmp 29) (.tmp 28) rfl hrow 0 (by omega) (.slice A8 (n + 1) c8) (StCopy.stSlR _ _ _) rfl rfl ?_
              have HM9 := Lib.hid (HM7.out.setL (Nat.zero_le _) HG8.out HO8.out HA8.out)
              have HS9 := Lib.hid ((TStep.refl (T := T) (v := v) (HB6.out.trans (HB7.out.mono HB6.out.size))).trans (TStep.ofL (T := T) (v := v) (Nat.zero_le _) (n' := n + 1) (c' := c8) (g' := appN (v.g 0) n y) HG8.out HA8.out))
              clear hrow hF HM7 HG8 HO8 HA8 HB7
              refine hK _ _ ?_
              clear hK
              simp only [Act.put]
              refine wpAny_done (by kernel_rfl) ?_ _
              go_wp2_with fail
              go_meet
              case rel => exact ⟨A8, c8, HM9.out, HS9.out⟩
            · refine wp_as (.slice A0 n c0) (ex_ldSl rfl rfl Tryd.underlying22 (HM7.out.level (k := 0) (Nat.zero_le _)) (by rw [HA.out, HN.out, HC.out])) ?_
              refine hK _ _ ?_
              clear hK
              simp only [Act.put, List.setIfInBounds_toArray, List.set_cons_succ, List.set_cons_zero]
              refine ord_two (i := 3) (j := 12) rfl rfl (by kernel_rfl) rfl rfl (fun K hK => ?_) (fun K hK => ?_)
              · refine wp_as (.slice (some ⟨v.lb, 0, none⟩) (D + 1) v.lc) (ex_ldSl rfl rfl Tryd.underlying55 (HM7.out.c2) (by first | (rw [← HD.out]; done) | (rw [← HD.out]; rfl))) ?_
                refine hK _ _ ?_
                clear hK
                simp only [Act.put, List.setIfInBounds_toArray, List.set_cons_succ, List.set_cons_zero]
                refine ord_step (i := 12) rfl (by kernel_rfl) rfl (fun K hK => ?_)
                refine wp_appZ _ (.tmp 25) (.tmp 27) 22 base (e := 30) (z := .agg (Array.replicate 32 (.int .u8 0))) (k := 32) (bytes := 32) (by kernel_rfl) Tryd.underlying22 (by rfl) (by omega) rfl (n + 1) (u8v (appN (v.g 0) n y)) rfl rfl (lev0 HM7.out HA.out HN.out HC.out) (Rd.of_row (n := 1 * 32) HR7.out (Nat.le_refl _) HR7.out.lt) (fun _ _ => rfl) rfl (cat_app n (v.g 0) y) ⟨by omega, by omega⟩ HM7.out.base_le ?_
                intro A8 c8 w8 ho hg ha
                have hg0 : w7.grownBy w8 ((v.lA 0).map (·.block)) := by rw [HA.out]; exact hg
                have HG8 := Lib.hid hg0
                have HO8 := Lib.hid ho
                have HA8 := Lib.hid (show ∀ b, OnA A8 b → OnA (v.lA 0) b ∨ w7.heap.size ≤ b by rw [HA.out]; exact app_on ha)
                clear ho hg ha hg0
                refine hK _ _ ?_
                clear hK
                simp only [Act.put, List.setIfInBounds_toArray, List.set_cons_succ, List.set_cons_zero]
                refine ord_take (i := 13) (.pointer (some ⟨v.lb, 0, none⟩)) rfl (by kernel_rfl) (by kernel_rfl) (by kernel_rfl) rfl (fun _ _ _ h => h) (ex_idx rfl rfl rfl (fun w => idx0 w _ _ _ (by omega))) ?_
                simp only [Act.put, List.setIfInBounds_toArray, List.set_cons_succ, List.set_cons_zero]
                refine ord_step (i := 14) rfl (by kernel_rfl) rfl (fun K hK => ?_)
                obtain ⟨F, hF, _⟩ := HM7.out.lrow
                have hrow := hF.of_block ((HM7.out.other2 (r0 := 3) (A := v.lA 0) (fun b hb => ⟨Nat.zero_le _, hb⟩) HG8.out).1 1 v.lb rfl (by omega))
                have hcap := HM7.out.lcap
                refine wp_stC 22 (.tmp 29) (.tmp 28) rfl hrow 0 (by omega) (.slice A8 (n + 1) c8) (StCopy.stSlR _ _ _) rfl rfl ?_
                have HM9 := Lib.hid (HM7.out.setL (Nat.zero_le _) HG8.out HO8.out HA8.out)
                have HS9 := Lib.hid ((TStep.refl (T := T) (v := v) (HB6.out.trans (HB7.out.mono HB6.out.size))).trans (TStep.ofL (T := T) (v := v) (Nat.zero_le _) (n' := n + 1) (c' := c8) (g' := appN (v.g 0) n y) HG8.out HA8.out))
                clear hrow hF HM7 HG8 HO8 HA8 HB7
                refine hK _ _ ?_
                clear hK
                simp only [Act.put]
                refine wpAny_done (by kernel_rfl) ?_ _
                go_wp2_with fail
                go_meet
                case rel => exact ⟨A8, c8, HM9.out, HS9.out⟩
              · refine wp_appZ _ (.tmp 25) (.tmp 27) 22 base (e := 30) (z := .agg (Array.replicate 32 (.int .u8 0))) (k := 32) (bytes := 32) (by kernel_rfl) Tryd.underlying22 (by rfl) (by omega) rfl (n + 1) (u8v (appN (v.g 0) n y)) rfl rfl (lev0 HM7.out HA.out HN.out HC.out) (Rd.of_row (n := 1 * 32) HR7.out (Nat.le_refl _) HR7.out.lt) (fun _ _ => rfl) rfl (cat_app n (v.g 0) y) ⟨by omega, by omega⟩ HM7.out.base_le ?_
                intro A8 c8 w8 ho hg ha
                have hg0 : w7.grownBy w8 ((v.lA 0).map (·.block)) := by rw [HA.out]; exact hg
                have HG8 := Lib.hid hg0
                have HO8 := Lib.hid ho
                have HA8 := Lib.hid (show ∀ b, OnA A8 b → OnA (v.lA 0) b ∨ w7.heap.size ≤ b by rw [HA.out]; exact app_on ha)
                clear ho hg ha hg0
                refine hK _ _ ?_
                clear hK
                simp only [Act.put, List.setIfInBounds_toArray, List.set_cons_succ, List.set_cons_zero]
                refine ord_step (i := 3) rfl (by kernel_rfl) rfl (fun K hK => ?_)
                refine wp_as (.slice (some ⟨v.lb, 0, none⟩) (D + 1) v.lc) (ex_ldSl rfl rfl Tryd.underlying55 ((HM7.out.rowD (r0 := 3) (by omega) (fun b hb => ⟨Nat.zero_le _, hb⟩) HG8.out).cell (show 2 < 5 by omega)) (by first | (rw [← HD.out]; done) | (rw [← HD.out]; rfl))) ?_
                refine hK _ _ ?_
                clear hK
                simp only [Act.put, List.setIfInBounds_toArray, List.set_cons_succ, List.set_cons_zero]
                refine ord_take (i := 13) (.pointer (some ⟨v.lb, 0, none⟩)) rfl (by kernel_rfl) (by kernel_rfl) (by kernel_rfl) rfl (fun _ _ _ h => h) (ex_idx rfl rfl rfl (fun w => idx0 w _ _ _ (by omega))) ?_
                simp only [Act.put, List.setIfInBounds_toArray, List.set_cons_succ, List.set_cons_zero]
                refine ord_step (i := 14) rfl (by kernel_rfl) rfl (fun K hK => ?_)
                obtain ⟨F, hF, _⟩ := HM7.out.lrow
                have hrow := hF.of_block ((HM7.out.other2 (r0 := 3) (A := v.lA 0) (fun b hb => ⟨Nat.zero_le _, hb⟩) HG8.out).1 1 v.lb rfl (by omega))
                have hcap := HM7.out.lcap
                refine wp_stC 22 (.tmp 29) (.tmp 28) rfl hrow 0 (by omega) (.slice A8 (n + 1) c8) (StCopy.stSlR _ _ _) rfl rfl ?_
                have HM9 := Lib.hid (HM7.out.setL (Nat.zero_le _) HG8.out HO8.out HA8.out)
                have HS9 := Lib.hid ((TStep.refl (T := T) (v := v) (HB6.out.trans (HB7.out.mono HB6.out.size))).trans (TStep.ofL (T := T) (v := v) (Nat.zero_le _) (n' := n + 1) (c' := c8) (g' := appN (v.g 0) n y) HG8.out HA8.out))
                clear hrow hF HM7 HG8 HO8 HA8 HB7
                refine hK _ _ ?_
                clear hK
                simp only [Act.put]
                refine wpAny_done (by kernel_rfl) ?_ _
                go_wp2_with fail
                go_meet
                case rel => exact ⟨A8, c8, HM9.out, HS9.out⟩
        · refine wp_bs1L Tryd.underlying22 (z := 32) (by kernel_rfl) (by omega) (by omega) (v0 := .agg (Array.replicate 32 (.int .u8 0))) (by kernel_rfl) _ rfl (u8v y) rfl (HS.nil _) ?_
          intro b7 w7 hb7 hc7 hs
          have HR7 := Lib.hid (hs.row 0 rfl)
          have HB7 := Lib.hid (hs.out (by simp; omega))
          have HM7 := Lib.hid (HMv.out.below HB7.out)
          have HR5 := Lib.hid (row_below HRv.out HB7.out HRv.out.lt)
          clear hs
          refine hK _ _ ?_
          clear hK
          simp only [Act.put, List.setIfInBounds_toArray, List.set_cons_succ, List.set_cons_zero]
          refine ord_two (i := 3) (j := 7) rfl rfl (by kernel_rfl) rfl rfl (fun K hK => ?_) (fun K hK => ?_)
          · refine wp_as (.slice (some ⟨v.lb, 0, none⟩) (D + 1) v.lc) (ex_ldSl rfl rfl Tryd.underlying55 (HM7.out.c2) (by first | (rw [← HD.out]; done) | (rw [← HD.out]; rfl))) ?_
            refine hK _ _ ?_
            clear hK
            simp only [Act.put, List.setIfInBounds_toArray, List.set_cons_succ, List.set_cons_zero]
            refine ord_step (i := 7) rfl (by kernel_rfl) rfl (fun K hK => ?_)
            refine wp_as (.slice (some ⟨v.lb, 0, none⟩) (D + 1) v.lc) (ex_ldSl rfl rfl Tryd.underlying55 (HM7.out.c2) (by first | (rw [← HD.out]; done) | (rw [← HD.out]; rfl))) ?_
            refine hK _ _ ?_
            clear hK
            simp only [Act.put, List.setIfInBounds_toArray, List.set_cons_succ, List.set_cons_zero]
            refine ord_take (i := 8) (.pointer (some ⟨v.lb, 0, none⟩)) rfl (by kernel_rfl) (by kernel_rfl) (by kernel_rfl) rfl (fun _ _ _ h => h) (ex_idx rfl rfl rfl (fun w => idx0 w _ _ _ (by omega))) ?_
            simp only [Act.put, List.setIfInBounds_toArray, List.set_cons_succ, List.set_cons_zero]
            refine ord_step (i := 9) rfl (by kernel_rfl) rfl (fun K hK => ?_)
            refine wp_as (.slice A0 n c0) (ex_ldSl rfl rfl Tryd.underlying22 (HM7.out.level (k := 0) (Nat.zero_le _)) (by rw [HA.out, HN.out, HC.out])) ?_
            refine hK _ _ ?_
            clear hK
            simp only [Act.put, List.setIfInBounds_toArray, List.set_cons_succ, List.set_cons_zero]
            refine ord_step (i := 12) rfl (by kernel_rfl) rfl (fun K hK => ?_)
            refine wp_appZ _ (.tmp 25) (.tmp 27) 22 base (e := 30) (z := .agg (Array.replicate 32 (.int .u8 0))) (k := 32) (bytes := 32) (by kernel_rfl) Tryd.underlying22 (by rfl) (by omega) rfl (n + 1) (u8v (appN (v.g 0) n y)) rfl rfl (lev0 HM7.out HA.out HN.out HC.out) (Rd.of_row (n := 1 * 32) HR7.out (Nat.le_refl _) HR7.out.lt) (fun _ _ => rfl) rfl (cat_app n (v.g 0) y) ⟨by omega, by omega⟩ HM7.out.base_le ?_
            intro A8 c8 w8 ho hg ha
            have hg0 : w7.grownBy w8 ((v.lA 0).map (·.block)) := by rw [HA.out]; exact hg
            have HG8 := Lib.hid hg0
            have HO8 := Lib.hid ho
            have HA8 := Lib.hid (show ∀ b, OnA A8 b → OnA (v.lA 0) b ∨ w7.heap.size ≤ b by rw [HA.out]; exact app_on ha)
            clear ho hg ha hg0
            refine hK _ _ ?_
            clear hK
            simp only [Act.put, List.setIfInBounds_toArray, List.set_cons_succ, List.set_cons_zero]
            refine ord_take (i := 13) (.pointer (some ⟨v.lb, 0, none⟩)) rfl (by kernel_rfl) (by kernel_rfl) (by kernel_rfl) rfl (fun _ _ _ h => h) (ex_idx rfl rfl rfl (fun w => idx0 w _ _ _ (by omega))) ?_
            simp only [Act.put, List.setIfInBounds_toArray, List.set_cons_succ, List.set_cons_zero]
            refine ord_step (i := 14) rfl (by kernel_rfl) rfl (fun K hK => ?_)
            obtain ⟨F, hF, _⟩ := HM7.out.lrow
            have hrow := hF.of_block ((HM7.out.other2 (r0 := 3) (A := v.lA 0) (fun b hb => ⟨Nat.zero_le _, hb⟩) HG8.out).1 1 v.lb rfl (by omega))
            have hcap := HM7.out.lcap
            refine wp_stC 22 (.tmp 29) (.tmp 28) rfl hrow 0 (by omega) (.slice A8 (n + 1) c8) (StCopy.stSlR _ _ _) rfl rfl ?_
            have HM9 := Lib.hid (HM7.out.setL (Nat.zero_le _) HG8.out HO8.out HA8.out)
            have HS9 := Lib.hid ((TStep.refl (T := T) (v := v) (HB6.out.trans (HB7.out.mono HB6.out.size))).trans (TStep.ofL (T := T) (v := v) (Nat.zero_le _) (n' := n + 1) (c' := c8) (g' := appN (v.g 0) n y) HG8.out HA8.out))
            clear hrow hF HM7 HG8 HO8 HA8 HB7
            refine hK _ _ ?_
            clear hK
            simp only [Act.put]
            refine wpAny_done (by kernel_rfl) ?_ _
            go_wp2_with fail
            go_meet
            case rel => exact ⟨A8, c8, HM9.out, HS9.out⟩
          · refine wp_as (.slice (some ⟨v.lb, 0, none⟩) (D + 1) v.lc) (ex_ldSl rfl rfl Tryd.underlying55 (HM7.out.c2) (by first | (rw [← HD.out]; done) | (rw [← HD.out]; rfl))) ?_
            refine hK _ _ ?_
            clear hK
            simp only [Act.put, List.setIfInBounds_toArray, List.set_cons_succ, List.set_cons_zero]
            refine ord_take (i := 8) (.pointer (some ⟨v.lb, 0, none⟩)) rfl (by kernel_rfl) (by kernel_rfl) (by kernel_rfl) rfl (fun _ _ _ h => h) (ex_idx rfl rfl rfl (fun w => idx0 w _ _ _ (by omega))) ?_
            simp only [Act.put, List.setIfInBounds_toArray, List.set_cons_succ, List.set_cons_zero]
            refine ord_two (i := 3) (j := 9) rfl rfl (by kernel_rfl) rfl rfl (fun K hK => ?_) (fun K hK => ?_)
            · refine wp_as (.slice (some ⟨v.lb, 0, none⟩) (D + 1) v.lc) (ex_ldSl rfl rfl Tryd.underlying55 (HM7.out.c2) (by first | (rw [← HD.out]; done) | (rw [← HD.out]; rfl))) ?_
              refine hK _ _ ?_
              clear hK
              simp only [Act.put, List.setIfInBounds_toArray, List.set_cons_succ, List.set_cons_zero]
              refine ord_step (i := 9) rfl (by kernel_rfl) rfl (fun K hK => ?_)
              refine wp_as (.slice A0 n c0) (ex_ldSl rfl rfl Tryd.underlying22 (HM7.out.level (k := 0) (Nat.zero_le _)) (by rw [HA.out, HN.out, HC.out])) ?_
              refine hK _ _ ?_
              clear hK
              simp only [Act.put, List.setIfInBounds_toArray, List.set_cons_succ, List.set_cons_zero]
              refine ord_step (i := 12) rfl (by kernel_rfl) rfl (fun K hK => ?_)
              refine wp_appZ _ (.tmp 25) (.tmp 27) 22 base (e := 30) (z := .agg (Array.replicate 32 (.int .u8 0))) (k := 32) (bytes := 32) (by kernel_rfl) Tryd.underlying22 (by rfl) (by omega) rfl (n + 1) (u8v (appN (v.g 0) n y)) rfl rfl (lev0 HM7.out HA.out HN.out HC.out) (Rd.of_row (n := 1 * 32) HR7.out (Nat.le_refl _) HR7.out.lt) (fun _ _ => rfl) rfl (cat_app n (v.g 0) y) ⟨by omega, by omega⟩ HM7.out.base_le ?_
              intro A8 c8 w8 ho hg ha
              have hg0 : w7.grownBy w8 ((v.lA 0).map (·.block)) := by rw [HA.out]; exact hg
              have HG8 := Lib.hid hg0
              have HO8 := Lib.hid ho
              have HA8 := Lib.hid (show ∀ b, OnA A8 b → OnA (v.lA 0) b ∨ w7.heap.size ≤ b by rw [HA.out]; exact app_on ha)
              clear ho hg ha hg0
              refine hK _ _ ?_
              clear hK
              simp only [Act.put, List.setIfInBounds_toArray, List.set_cons_succ, List.set_cons_zero]
              refine ord_take (i := 13) (.pointer (some ⟨v.lb, 0, none⟩)) rfl (by kernel_rfl) (by kernel_rfl) (by kernel_rfl) rfl (fun _ _ _ h => h) (ex_idx rfl rfl rfl (fun w => idx0 w _ _ _ (by omega))) ?_
              simp only [Act.put, List.setIfInBounds_toArray, List.set_cons_succ, List.set_cons_zero]
              refine ord_step (i := 14) rfl (by kernel_rfl) rfl (fun K hK => ?_)
              obtain ⟨F, hF, _⟩ := HM7.out.lrow
              have hrow := hF.of_block ((HM7.out.other2 (r0 := 3) (A := v.lA 0) (fun b hb => ⟨Nat.zero_le _, hb⟩) HG8.out).1 1 v.lb rfl (by omega))
              have hcap := HM7.out.lcap
              refine wp_stC 22 (.tmp 29) (.tmp 28) rfl hrow 0 (by omega) (.slice A8 (n + 1) c8) (StCopy.stSlR _ _ _) rfl rfl ?_
              have HM9 := Lib.hid (HM7.out.setL (Nat.zero_le _) HG8.out HO8.out HA8.out)
              have HS9 := Lib.hid ((TStep.refl (T := T) (v := v) (HB6.out.trans (HB7.out.mono HB6.out.size))).trans (TStep.ofL (T := T) (v := v) (Nat.zero_le _) (n' := n + 1) (c' := c8) (g' := appN (v.g 0) n y) HG8.out HA8.out))
              clear hrow hF HM7 HG8 HO8 HA8 HB7
              refine hK _ _ ?_
              clear hK
              simp only [Act.put]
              refine wpAny_done (by kernel_rfl) ?_ _
              go_wp2_with fail
              go_meet
              case rel => exact ⟨A8, c8, HM9.out, HS9.out⟩
            · refine wp_as (.slice A0 n c0) (ex_ldSl rfl rfl Tryd.underlying22 (HM7.out.level (k := 0) (Nat.zero_le _)) (by rw [HA.out, HN.out, HC.out])) ?_
              refine hK _ _ ?_
              clear hK
              simp only [Act.put, List.setIfInBounds_toArray, List.set_cons_succ, List.set_cons_zero]
              refine ord_two (i := 3) (j := 12) rfl rfl (by kernel_rfl) rfl rfl (fun K hK => ?_) (fun K hK => ?_)
              · refine wp_as (.slice (some ⟨v.lb, 0, none⟩) (D + 1) v.lc) (ex_ldSl rfl rfl Tryd.underlying55 (HM7.out.c2) (by first | (rw [← HD.out]; done) | (rw [← HD.out]; rfl))) ?_
                refine hK _ _ ?_
                clear hK
                simp only [Act.put, List.setIfInBounds_toArray, List.set_cons_succ, List.set_cons_zero]
                refine ord_step (i := 12) rfl (by kernel_rfl) rfl (fun K hK => ?_)
                refine wp_appZ _ (.tmp 25) (.tmp 27) 22 base (e := 30) (z := .agg (Array.replicate 32 (.int .u8 0))) (k := 32) (bytes := 32) (by kernel_rfl) Tryd.underlying22 (by rfl) (by omega) rfl (n + 1) (u8v (appN (v.g 0) n y)) rfl rfl (lev0 HM7.out HA.out HN.out HC.out) (Rd.of_row (n := 1 * 32) HR7.out (Nat.le_refl _) HR7.out.lt) (fun _ _ => rfl) rfl (cat_app n (v.g 0) y) ⟨by omega, by omega⟩ HM7.out.base_le ?_
                intro A8 c8 w8 ho hg ha
                have hg0 : w7.grownBy w8 ((v.lA 0).map (·.block)) := by rw [HA.out]; exact hg
                have HG8 := Lib.hid hg0
                have HO8 := Lib.hid ho
                have HA8 := Lib.hid (show ∀ b, OnA A8 b → OnA (v.lA 0) b ∨ w7.heap.size ≤ b by rw [HA.out]; exact app_on ha)
                clear ho hg ha hg0
                refine hK _ _ ?_
                clear hK
                simp only [Act.put, List.setIfInBounds_toArray, List.set_cons_succ, List.set_cons_zero]
                refine ord_take (i := 13) (.pointer (some ⟨v.lb, 0, none⟩)) rfl (by kernel_rfl) (by kernel_rfl) (by kernel_rfl) rfl (fun _ _ _ h => h) (ex_idx rfl rfl rfl (fun w => idx0 w _ _ _ (by omega))) ?_
                simp only [Act.put, List.setIfInBounds_toArray, List.set_cons_succ, List.set_cons_zero]
                refine ord_step (i := 14) rfl (by kernel_rfl) rfl (fun K hK => ?_)
                obtain ⟨F, hF, _⟩ := HM7.out.lrow
                have hrow := hF.of_block ((HM7.out.other2 (r0 := 3) (A := v.lA 0) (fun b hb => ⟨Nat.zero_le _, hb⟩) HG8.out).1 1 v.lb rfl (by omega))
                have hcap := HM7.out.lcap
                refine wp_stC 22 (.tmp 29) (.tmp 28) rfl hrow 0 (by omega) (.slice A8 (n + 1) c8) (StCopy.stSlR _ _ _) rfl rfl ?_
                have HM9 := Lib.hid (HM7.out.setL (Nat.zero_le _) HG8.out HO8.out HA8.out)
                have HS9 := Lib.hid ((TStep.refl (T := T) (v := v) (HB6.out.trans (HB7.out.mono HB6.out.size))).trans (TStep.ofL (T := T) (v := v) (Nat.zero_le _) (n' := n + 1) (c' := c8) (g' := appN (v.g 0) n y) HG8.out HA8.out))
                clear hrow hF HM7 HG8 HO8 HA8 HB7
                refine hK _ _ ?_
                clear hK
                simp only [Act.put]
                refine wpAny_done (by kernel_rfl) ?_ _
                go_wp2_with fail
                go_meet
                case rel => exact ⟨A8, c8, HM9.out, HS9.out⟩
              · refine wp_appZ _ (.tmp 25) (.tmp 27) 22 base (e := 30) (z := .agg (Array.replicate 32 (.int .u8 0))) (k := 32) (bytes := 32) (by kernel_rfl) Tryd.underlying22 (by rfl) (by omega) rfl (n + 1) (u8v (appN (v.g 0) n y)) rfl rfl (lev0 HM7.out HA.out HN.out HC.out) (Rd.of_row (n := 1 * 32) HR7.out (Nat.le_refl _) HR7.out.lt) (fun _ _ => rfl) rfl (cat_app n (v.g 0) y) ⟨by omega, by omega⟩ HM7.out.base_le ?_
                intro A8 c8 w8 ho hg ha
                have hg0 : w7.grownBy w8 ((v.lA 0).map (·.block)) := by rw [HA.out]; exact hg
                have HG8 := Lib.hid hg0
                have HO8 := Lib.hid ho
                have HA8 := Lib.hid (show ∀ b, OnA A8 b → OnA (v.lA 0) b ∨ w7.heap.size ≤ b by rw [HA.out]; exact app_on ha)
                clear ho hg ha hg0
                refine hK _ _ ?_
                clear hK
                simp only [Act.put, List.setIfInBounds_toArray, List.set_cons_succ, List.set_cons_zero]
                refine ord_step (i := 3) rfl (by kernel_rfl) rfl (fun K hK => ?_)
                refine wp_as (.slice (some ⟨v.lb, 0, none⟩) (D + 1) v.lc) (ex_ldSl rfl rfl Tryd.underlying55 ((HM7.out.rowD (r0 := 3) (by omega) (fun b hb => ⟨Nat.zero_le _, hb⟩) HG8.out).cell (show 2 < 5 by omega)) (by first | (rw [← HD.out]; done) | (rw [← HD.out]; rfl))) ?_
                refine hK _ _ ?_
                clear hK
                simp only [Act.put, List.setIfInBounds_toArray, List.set_cons_succ, List.set_cons_zero]
                refine ord_take (i := 13) (.pointer (some ⟨v.lb, 0, none⟩)) rfl (by kernel_rfl) (by kernel_rfl) (by kernel_rfl) rfl (fun _ _ _ h => h) (ex_idx rfl rfl rfl (fun w => idx0 w _ _ _ (by omega))) ?_
                simp only [Act.put, List.setIfInBounds_toArray, List.set_cons_succ, List.set_cons_zero]
                refine ord_step (i := 14) rfl (by kernel_rfl) rfl (fun K hK => ?_)
                obtain ⟨F, hF, _⟩ := HM7.out.lrow
                have hrow := hF.of_block ((HM7.out.other2 (r0 := 3) (A := v.lA 0) (fun b hb => ⟨Nat.zero_le _, hb⟩) HG8.out).1 1 v.lb rfl (by omega))
                have hcap := HM7.out.lcap
                refine wp_stC 22 (.tmp 29) (.tmp 28) rfl hrow 0 (by omega) (.slice A8 (n + 1) c8) (StCopy.stSlR _ _ _) rfl rfl ?_
                have HM9 := Lib.hid (HM7.out.setL (Nat.zero_le _) HG8.out HO8.out HA8.out)
                have HS9 := Lib.hid ((TStep.refl (T := T) (v := v) (HB6.out.trans (HB7.out.mono HB6.out.size))).trans (TStep.ofL (T := T) (v := v) (Nat.zero_le _) (n' := n + 1) (c' := c8) (g' := appN (v.g 0) n y) HG8.out HA8.out))
                clear hrow hF HM7 HG8 HO8 HA8 HB7
                refine hK _ _ ?_
                clear hK
                simp only [Act.put]
                refine wpAny_done (by kernel_rfl) ?_ _
                go_wp2_with fail
                go_meet
                case rel => exact ⟨A8, c8, HM9.out, HS9.out⟩
    case rest =>
      obtain ⟨A8, c8, hm, hs⟩ := hcut
      obtain ⟨v1, hv1⟩ : ∃ v1, v1 = { v with lA := fun j => if j = 0 then A8 else v.lA j, lm := fun j => if j = 0 then n + 1 else v.lm j, lk := fun j => if j = 0 then c8 else v.lk j, g := fun j => if j = 0 then appN (v.g 0) n y else v.g j } := ⟨_, rfl⟩
      rw [← hv1] at hm hs
      have HM8 := Lib.hid hm
      have HS8 := Lib.hid hs
      have HV1 := Lib.hid hv1
      have HDw := Lib.hid (show ∀ q, q < v1.dn → v1.dw q < 18446744073709551616 by rw [hv1]; exact HT0.out.dw)
      have HL1 := Lib.hid (show v1.lm 0 = n + 1 by rw [hv1]; rfl)
      clear hm hs hv1
      go_wp2_with (first
        | (go_at_call 14; refine (tlen_look v1 base T _ HM8.out).mono ?_; rintro r w9 ⟨rfl, rfl⟩; rw [HL1.out])
        | (refine wpList_as rfl 33 rfl (.int .i64 (n : Int)) ?_ ?_; (· exact ex_bin rfl rfl rfl rfl (fun w => sub1 n (by omega) w) _))
        | (go_at_call 26; refine (mark_look v1 base T n (by omega) _ HM8.out HDw.out (by omega)).mono ?_; rintro r w9 ⟨A', n', c', dw', rfl, hm, hst, hdw, hn', hdir⟩; have HM9 := Lib.hid hm; have HS9 := Lib.hid hst; have HDn := Lib.hid (And.intro hdw (And.intro hn' hdir)); clear hm hst hdw hn' hdir))
      go_ret
      have hv1 := HV1.out
      have hm := HM9.out
      have hs := HS8.out.trans HS9.out
      obtain ⟨hdw, hn', hdir⟩ := HDn.out
      clear HM8 HM9 HS8 HS9 HDw HDn HV1 HL1
      subst hv1
      refine ⟨_, rfl, hm, hs, HT0.out.app HLt0.out rfl rfl rfl (fun d hd => ?_) (fun i hi => ?_) (fun d hd => ?_) (fun d i => ?_) hdw hn' hdir, DirLe.of hdir, rfl⟩
      · show (if d = 0 then n + 1 else v.lm d) = _
        rw [if_neg hd]
      · show (if (0 : Nat) = 0 then appN (v.g 0) n y else v.g 0) i = _
        rw [if_pos rfl]
        unfold appN catN
        split
        · rename_i h1; exact HT0.out.x0 i h1
        · rfl
      · show (if d = 0 then appN (v.g 0) n y else v.g d) = _
        rw [if_neg hd]
      · show (if d = 0 then appN (v.g 0) n y else v.g d) i < 256
        split
        · unfold appN catN; split
          · exact HT0.out.g8 _ _
          · exact HY.out _
        · exact HT0.out.g8 _ _
end Go.Proofs.YtlcpflaofggmeaaDoor
