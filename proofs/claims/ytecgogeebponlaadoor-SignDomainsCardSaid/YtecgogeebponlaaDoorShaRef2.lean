/- The walks of the reference's Sum and Two. (Printed by a program of mine.) -/
import Derived.Test.YtecgogeebponlaaDoorShaRef
import Derived.Test.YtecgogeebponlaaDoorApp
namespace Go.Proofs.YtecgogeebponlaaDoor
set_option maxRecDepth 40000
open Go.RowKit

theorem root_byte (H : Nat → W32) (j : Nat) : Value.int .u8 (((H (j / 4)).toNat : Int) / 2 ^ (24 - 8 * (j % 4)) % 256) = .int .u8 ((rootOf H j : Nat) : Int) := by
  unfold rootOf
  rw [BitVec.toNat_ushiftRight, Nat.shiftRight_eq_div_pow]
  simp
theorem ent_block (vs : Array Value) (w : World) : (callFunc 46 vs).run Tryd.prog w = .ok (.enter 46 vs) w := by kernel_rfl
theorem built_h0 : Tryd.prog.built 91 [(0, .int .u32 1779033703), (1, .int .u32 3144134277), (2, .int .u32 1013904242), (3, .int .u32 2773480762), (4, .int .u32 1359893119), (5, .int .u32 2600822924), (6, .int .u32 528734635), (7, .int .u32 1541459225)] = some #[wv (h0 0), wv (h0 1), wv (h0 2), wv (h0 3), wv (h0 4), wv (h0 5), wv (h0 6), wv (h0 7)] := by kernel_rfl
/-- The reference's package variables lie where they were laid. -/
def RefPkg (w : World) : Prop := ∀ i, i < 64 → w.cell? ⟨2, i, none⟩ = some (wv (kw i))
theorem RefPkg.lt {w : World} (h : RefPkg w) : 2 < w.heap.size := by have := h 0 (by omega); exact cell_lt0 this
theorem RefPkg.below {w w' : World} (h : RefPkg w) (hb : Below w.heap.size w w') : RefPkg w' := fun i hi => (hb.cell (p := ⟨2, i, none⟩) h.lt).trans (h i hi)

set_option maxHeartbeats 4000000 in
theorem refSum_any (n c : Nat) (A : Option Addr) (x : Nat → Nat) (w : World) (hb : Rd w w.heap.size A n (u8v x)) (hx : ∀ i, x i < 256) (hn : n ≤ 140737488355200) (hp : RefPkg w) :
    Calls Tryd.prog 38 #[.slice A n c] w fun e w' => e = .returned (rootV (shaB x n)) ∧ Below w.heap.size w w' := by
  have HP := Lib.hid hp
  have HB := Lib.hid hb
  obtain ⟨P, hPd⟩ : ∃ P, P = padF n x := ⟨_, rfl⟩
  obtain ⟨N, hN⟩ : ∃ N, N = nb n := ⟨_, rfl⟩
  have hres : shaB x n = rootOf (Hs P N) := by rw [hPd, hN]; rfl
  have hP : ∀ i, P i < 256 := fun i => by rw [hPd]; exact padF_lt _ _ hx i
  have hnb : 64 * N ≤ n + 72 := by rw [hN]; unfold nb; omega
  rw [hres]
  have HPl := Lib.hid hP
  have HH := Lib.hid (show padF n x = P ∧ nb n = N from ⟨hPd.symm, hN.symm⟩)
  have H0 := Lib.hid (((HS.nil w).allocB _ _ 24 32 _ (by rfl) (zero_at 32 (.int .u8 0)) rfl).allocB (w.heap.size + 1) _ 91 8 _ rfl h0_at (by simp))
  clear hp hb hres hP hPd hN hx
  go_enter Tryd.func38, Tryd.ntmps38
  go_wp2_with (first
    | (refine wpList_build_as rfl 91 #[(0, .const (.int .u32 1779033703)), (1, .const (.int .u32 3144134277)), (2, .const (.int .u32 1013904242)), (3, .const (.int .u32 2773480762)), (4, .const (.int .u32 1359893119)), (5, .const (.int .u32 2600822924)), (6, .const (.int .u32 528734635)), (7, .const (.int .u32 1541459225))] rfl [(0, .int .u32 1779033703), (1, .int .u32 3144134277), (2, .int .u32 1013904242), (3, .int .u32 2773480762), (4, .int .u32 1359893119), (5, .int .u32 2600822924), (6, .int .u32 528734635), (7, .int .u32 1541459225)] rfl _ built_h0 ?_)
    | (go_at_call 45; refine (padded_any n c A x _ (HB.out.below ((H0.out.out (by simp)).mono (Nat.le_refl _)) |>.more (H0.out.size)) hn).mono ?_; rintro e w3 ⟨A', c', rfl, hown, hbel⟩; rw [HH.out.1, HH.out.2] at hown; rw [HH.out.2]; have HO := Lib.hid (And.intro hown hbel); clear hown hbel))
  obtain ⟨hown, hbel3⟩ := HO.out
  have hs3 := H0.out.below hbel3
  have hsw := hs3.size
  have hcap := hown.cap
  have HRd := Lib.hid hown.rd
  have hapt : Hi A' (64 * N) (w.heap.size + 2) := fun _ ad e => by have := (hown.base_le ad e).1; simp at this; omega
  have HAp := Lib.hid hapt
  have HBl := Lib.hid (hs3.out (by simp))
  have HS3 := Lib.hid (((HS.nil w3).take (hs3.row 1 rfl) (fun r hr => by cases hr)).take (hs3.row 0 rfl) (fun r hr => by simp at hr; subst hr; show w.heap.size ≠ w.heap.size + 1; omega))
  clear hown hbel3 hs3 hapt HO H0
  go_loopw [4] (fun s wr => ∃ (k rem : Nat) (Ak : Option Addr) (ck : Nat), s = .slice Ak rem ck ∧ 64 * k + rem = 64 * N ∧ rem ≤ ck ∧ Rd w3 w3.heap.size Ak rem (u8v fun i => P (64 * k + i)) ∧ Hi Ak rem (w.heap.size + 2) ∧ HS w3 wr [⟨w.heap.size + 1, 91, 8, fun i => wv (Hs P k i)⟩, ⟨w.heap.size, 24, 32, fun _ => .int .u8 0⟩]) (fun s _ => match s with | .slice _ k _ => k | _ => 0)
  case atStart => exact ⟨0, 64 * N, A', c', rfl, by omega, hcap, HRd.out.congr (fun i _ => by simp only [u8v, Nat.mul_zero, Nat.zero_add]), HAp.out, HS3.out⟩
  case round =>
    clear HRd HAp HS3
    obtain ⟨k, rem, Ak, ck, rfl, hrem, hck, hrd, hap, hs⟩ := hrel
    have hg1 : w.heap.size + 1 < wr.heap.size := hs.lt 0 rfl
    have hcell : ∀ i, i < 8 → wr.cell? ⟨w.heap.size + 1, i, none⟩ = some (wv (Hs P k i)) := fun i hi => hs.cell 0 i rfl hi
    have HSr := Lib.hid hs
    have HRd := Lib.hid hrd
    have HAp := Lib.hid hap
    have HC := Lib.hid hcell
    clear hs hrd hap hcell
    by_cases hr0 : 0 < rem
    · have h64 : 64 ≤ rem := by omega
      go_wp2_with fail
      have hs := HSr.out
      have hcell := HC.out
      refine wp_region_factsS (l := [_, _, _]) (tl := [_]) (B := wr.heap.size) (w0 := wr) [SF.is (.agg #[wv (Hs P k 0), wv (Hs P k 1), wv (Hs P k 2), wv (Hs P k 3), wv (Hs P k 4), wv (Hs P k 5), wv (Hs P k 6), wv (Hs P k 7)]), SF.is (.slice (Ak) (rem) (ck)), SF.is (.slice (Ak) (64) (ck))] (by kernel_rfl) (by kernel_rfl) rfl (Nat.le_refl _) (Below.refl _ _) ⟨?_, ?_, ?_, trivial⟩ ?_
      · exact opOb_ld rfl rfl (OpK.tmp rfl) (fun w' hb => run_loadAt_part w' _ 0 8 _ _ (fun i => wv (Hs P k i)) (fun i hi => by rw [Nat.zero_add]; exact (hb.cell (p := ⟨w.heap.size + 1, i, none⟩) hg1).trans (hcell i hi)) Tryd.underlying91 rfl (by kernel_rfl))
      · exact (opOb_move _ rfl (.inl rfl) rfl)
      · exact opOb_slc rfl rfl (OpK.tmp rfl) OpKo.no OpKo.const (fun w => cut_to Tryd.underlying39 (by kernel_rfl) Ak rem ck 64 (by omega) w)
      · intro w' hb
        simp only [fin, SF.is, forall_eq]
        simp only [Act.put, List.setIfInBounds_toArray, List.set_cons_succ, List.set_cons_zero]
        clear hcell
        have hs1 := hs.below hb
        refine wp_fn ent_block #[.agg #[wv (Hs P k 0), wv (Hs P k 1), wv (Hs P k 2), wv (Hs P k 3), wv (Hs P k 4), wv (Hs P k 5), wv (Hs P k 6), wv (Hs P k 7)], .slice Ak 64 ck] rfl rfl ?_
        refine (block_any 64 ck w3.heap.size Ak (Hs P k) (fun i => P (64 * k + i)) w' (fun i => HPl.out _) ((HRd.out.short h64).hs hs1 (Nat.le_refl _) (fun _ ad e r hr => by have := HAp.out hr0 ad e; simp at hr; rcases hr with rfl | rfl; (· show w.heap.size + 1 ≠ ad.block; omega); (· show w.heap.size ≠ ad.block; omega))) hs1.size (Nat.le_refl _) (by omega)
          (HP.out.below (HBl.out.trans (hs1.old hsw (by simp))))).mono ?_
        rintro e w4 ⟨rfl, hb4⟩
        have hs4 := hs1.below hb4
        refine ⟨_, rfl, ?_⟩
        refine wp_sto_arr rfl (hs4.row 0 rfl) _ rfl rfl rfl (by kernel_rfl) (fun i hi => ⟨_, w8_at _ i hi, rfl⟩) ?_
        have hs5 := hs4.setRow 0 rfl _ rfl (fun i => wv (Hs P (k + 1) i)) (fun i hi => w8_at (comp (Hs P k) (blk P k)) i hi)
        have HS5 := Lib.hid hs5
        clear hs hs1 hb hs4 hs5 hb4
        simp only [seqWp]
        obtain ⟨A2, hcut0, hcut2⟩ := cut_from (P := Tryd.prog) Tryd.underlying39 (by kernel_rfl) Ak rem ck 64 h64 hck
        have hcut : ∀ w : World, (Instr.sliceAt 39 (.slice Ak rem ck) (some (.int .i64 64)) none none).run Tryd.prog w = .ok (.slice A2 (rem - 64) (ck - 64)) w := hcut0
        clear hcut0
        have HCt := Lib.hid hcut2
        clear hcut2
        go_wp2_with fail
        go_roundw
        case rel => exact ⟨k + 1, rem - 64, A2, ck - 64, rfl, by omega, by omega, (HCt.out.rd HRd.out).congr (fun i _ => congrArg (fun k => Value.int .u8 ((P k : Nat) : Int)) (show 64 * k + (64 + i) = 64 * (k + 1) + i by omega)), HCt.out.hi HAp.out, HS5.out⟩
        case measure => show rem - 64 < rem; omega
    · obtain rfl : rem = 0 := by omega
      obtain rfl : k = N := by omega
      clear hg1 HC HRd HAp
      obtain ⟨wo, rfl⟩ : ∃ wo : World, wo = wr := ⟨_, rfl⟩
      go_wp2_with fail
      have H6 := Lib.hid (HSr.out.allocB _ _ 24 32 (u8v fun _ => 0) (by rfl) (zero_at 32 (.int .u8 0)) rfl)
      have hw6 : w.heap.size + 2 ≤ wo.heap.size := by have := HSr.out.lt 0 rfl; omega
      go_loopw [6] (fun i wq => ∃ j : Nat, j ≤ 32 ∧ i = .int .i64 j ∧ HS w3 wq [⟨wo.heap.size, 24, 32, u8v fun i => if i < j then rootOf (Hs P k) i else 0⟩, ⟨w.heap.size + 1, 91, 8, fun i => wv (Hs P k i)⟩, ⟨w.heap.size, 24, 32, fun _ => .int .u8 0⟩]) (fun i _ => 32 - (intOf i).toNat)
      case atStart => exact ⟨0, by omega, rfl, H6.out⟩
      case round =>
        clear H6
        obtain ⟨j, hj, rfl, hs⟩ := hrel
        by_cases hj32 : j < 32
        · have ch := hs.cell 1 (j / 4) rfl (by show j / 4 < 8; omega)
          have co := hs.cell 0 j rfl hj32
          have fo := hs.frozen 0 j rfl
          have HSq := Lib.hid hs
          clear hs
          go_wp2_with fail
          go_roundw
          case rel =>
            refine ⟨j + 1, by omega, by go_num, ?_⟩
            rw [root_byte]
            refine (HSq.out.set 0 j rfl _).congr 0 rfl (fun i _ => ?_)
            by_cases e : i = j
            · subst e; rw [if_pos rfl]; simp only [u8v]; rw [if_pos (by omega)]
            · rw [if_neg e]; simp only [u8v]
              by_cases e2 : i < j
              · rw [if_pos e2, if_pos (by omega)]
              · rw [if_neg e2, if_neg (by omega)]
          case measure => simp [intOf]; omega
        · obtain rfl : j = 32 := by omega
          have HX := Lib.hid (heap_arr (hs.row 0 rfl))
          have HR := Lib.hid (hs.row 2 rfl)
          have HSq := Lib.hid hs
          clear hs
          go_wp2_with (first
            | (refine wpList_load_row rfl 24 (.tmp 5) rfl wo.heap.size rfl 24 _ _ _ HX.out Tryd.underlying24 rfl (by kernel_rfl) ?_)
            | (refine wpList_store_arr rfl 24 (.tmp 2) (.tmp 36) rfl HR.out _ rfl rfl (size_arr _ _) (by kernel_rfl) (fun i hi => ⟨_, arr_at _ _ i hi, rfl⟩) ?_))
          have hend := HSq.out.setRow 2 rfl (arr 32 (u8v fun i => if i < 32 then rootOf (Hs P k) i else 0)) (size_arr _ _) _ (fun i hi => arr_at _ _ i hi)
          refine ret_rowIs rfl (hend.row 2 rfl) _ rfl Tryd.underlying24 rfl (by kernel_rfl) rfl ?_
          refine ⟨?_, HBl.out.trans (hend.old hsw (by simp; omega))⟩
          rw [arr_congr (g := u8v (rootOf (Hs P k))) (fun i hi => by simp only [u8v]; rw [if_pos hi])]

theorem ent_refSum (vs : Array Value) (w : World) : (callFunc 38 vs).run Tryd.prog w = .ok (.enter 38 vs) w := by kernel_rfl
theorem run_bs0_u8 (w : World) : (Instr.buildSlice 39 0 #[]).run Tryd.prog w = .ok (.slice (some ⟨w.heap.size, 0, none⟩) 0 0) (w.alloc (.cells #[] 5)) := by simp [go_sem]
theorem cat_F (x y : Nat → Nat) (n : Nat) : ∀ i, i < n → catF 32 (u8v x) (u8v y) i = u8v (catN 32 x y) i := fun i _ => by
  simp only [catF, u8v, catN]; split <;> rfl

set_option maxHeartbeats 2000000 in
theorem refTwo_any (x y : Nat → Nat) (hx : ∀ i, x i < 256) (hy : ∀ i, y i < 256) (w : World) (hp : RefPkg w) :
    Calls Tryd.prog 30 #[rootV x, rootV y] w fun e w' => e = .returned (rootV (shaB (catN 32 x y) 64)) ∧ Below w.heap.size w w' := by
  have HP := Lib.hid hp
  have HX := Lib.hid hx
  have HY := Lib.hid hy
  clear hp hx hy
  go_enter Tryd.func30, Tryd.ntmps30
  go_wp2
  refine HS.go (w0 := w) (rows := [⟨w.heap.size + 2, 24, 32, u8v fun _ => 0⟩, ⟨w.heap.size + 1, 24, 32, u8v y⟩, ⟨w.heap.size, 24, 32, u8v x⟩])
    (by exact (((HS.nil w).allocB _ (arr 32 (u8v x)) 24 32 _ (size_arr _ _) (arr_at _ _) rfl).allocB _ (arr 32 (u8v y)) 24 32 _ (size_arr _ _) (arr_at _ _) (by simp)).allocB _ _ 24 32 _ (by rfl) (zero_at 32 (.int .u8 0)) (by simp)) (fun wr hs => ?_)
  have hw : w.heap.size + 2 < wr.heap.size := hs.lt 0 rfl
  have R2 : wr.rowIs w.heap.size 24 32 (u8v x) := hs.row 2 rfl
  refine wp_region_factsS (l := [_, _, _, _]) (tl := [_, _]) (B := wr.heap.size) (w0 := wr) [SF.own0 wr.heap.size 5, SF.is (.slice (some ⟨w.heap.size, 0, none⟩) (32) (32)), SF.own wr.heap.size 5 32 (u8v x), SF.is (.slice (some ⟨w.heap.size + 1, 0, none⟩) (32) (32))] (by kernel_rfl) (by kernel_rfl) rfl (Nat.le_refl _) (Below.refl _ _) ⟨?_, ?_, ?_, ?_, trivial⟩ ?_
  · exact opOb_bs0 rfl rfl run_bs0_u8 _ (Nat.le_refl _)
  · exact opOb_slc rfl rfl (OpK.tmp rfl) (OpKo.no) (OpKo.no) (fun w => cut_arr Tryd.underlying24 1 (by kernel_rfl) none none (0) (32) (.inl ⟨rfl, rfl⟩) (.inl ⟨rfl, rfl⟩) (by omega) (by omega) (by omega) (by omega) (by omega) (by omega))
  · exact opOb_app0 (s := 5) (x := 6) wr.heap.size u8_info Tryd.underlying39 rfl rfl rfl (by rfl) (by rfl) (fun w' hb => Rd.of_row (row_below (B := wr.heap.size) R2 hb (by omega)) (Nat.le_refl _) (Nat.lt_succ_self _)) (fun _ _ => rfl) (by omega) (Nat.le_refl _)
  · exact opOb_slc rfl rfl (OpK.tmp rfl) (OpKo.no) (OpKo.no) (fun w => cut_arr Tryd.underlying24 1 (by kernel_rfl) none none (0) (32) (.inl ⟨rfl, rfl⟩) (.inl ⟨rfl, rfl⟩) (by omega) (by omega) (by omega) (by omega) (by omega) (by omega))
  · intro w' hb
    simp only [fin, SF.is, SF.own, SF.own0, forall_eq]
    rintro _ ⟨_, rfl, _⟩ _ ⟨A7, c7, rfl, ho7⟩
    simp only [Act.put, List.setIfInBounds_toArray, List.set_cons_succ, List.set_cons_zero]
    have hs1 := hs.below hb
    have hlo : ∀ ad, A7 = some ad → wr.heap.size ≤ ad.block := fun ad e => (ho7.base_le ad e).1
    refine wp_app w' (.tmp 7) (.tmp 8) 39 rfl wr.heap.size 5 _ _ 1 Tryd.underlying39 (info_parts u8_info).choose_spec.1 (info_parts u8_info).choose_spec.2.1 (info_parts u8_info).choose_spec.2.2.1 (info_parts u8_info).choose_spec.2.2.2 rfl rfl rfl ho7 (Rd.of_row (hs1.row 1 rfl) (Nat.le_refl _) (hs1.lt 1 rfl)) (fun _ _ => rfl) (by omega) hb.size ?_
    intro A9 c9 w4 ho9 hg9 ha9
    have hb4 : Below wr.heap.size w' w4 := below_app (Below.refl _ _) hg9 hb.size hlo
    have hs4 : HS w w4 _ := hs.below (hb.trans hb4)
    refine wp_fn ent_refSum #[.slice A9 64 c9] rfl rfl ?_
    refine (refSum_any 64 c9 A9 (catN 32 x y) w4 (ho9.rd.congr (cat_F x y 64)) (catN_lt HX.out HY.out) (by omega) (HP.out.below (hs4.out (by simp)))).mono ?_
    rintro e w5 ⟨rfl, hb5⟩
    have hs5 := hs4.below hb5
    refine ⟨_, rfl, ?_⟩
    refine wp_sto_arr rfl (hs5.row 0 rfl) _ rfl rfl (size_arr _ _) (by kernel_rfl) (fun i hi => ⟨_, arr_at _ _ i hi, rfl⟩) ?_
    have hend := hs5.setRow 0 rfl (arr 32 (u8v (shaB (catN 32 x y) 64))) (size_arr _ _) _ (fun i hi => arr_at _ _ i hi)
    have HE := Lib.hid hend
    clear hs hs1 hs4 hs5 hend hb hb4 hb5 ho7 ho9 hg9 ha9 hlo R2 hw
    simp only [seqWp]
    go_wp2_with fail
    exact ret_rowIs rfl (HE.out.row 0 rfl) _ rfl Tryd.underlying24 rfl (by kernel_rfl) rfl ⟨rfl, HE.out.out (by simp)⟩
end Go.Proofs.YtecgogeebponlaaDoor
