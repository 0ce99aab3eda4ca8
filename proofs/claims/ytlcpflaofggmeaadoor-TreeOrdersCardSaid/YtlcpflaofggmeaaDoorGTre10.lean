/- A part of what the proofs stand on: ShaRef2, SignGood, TreeRef, AppZ, TreeZeros, CutZ, TreeTree. -/
import Derived.Test.YtlcpflaofggmeaaDoorGTre7
import Derived.Test.YtlcpflaofggmeaaDoorGTre9
import Derived.Test.YtlcpflaofggmeaaDoorGTre8
import Derived.Test.YtlcpflaofggmeaaDoorGTre6
/- The walks of the reference's Sum and Two. (Printed by a program of mine.) -/
namespace Go.Proofs.YtlcpflaofggmeaaDoor
set_option maxRecDepth 40000
open Go.RowKit

theorem root_byte (H : Nat → W32) (j : Nat) : Value.int .u8 (((H (j / 4)).toNat : Int) / 2 ^ (24 - 8 * (j % 4)) % 256) = .int .u8 ((rootOf H j : Nat) : Int) := by
  unfold rootOf
  rw [BitVec.toNat_ushiftRight, Nat.shiftRight_eq_div_pow]
  simp
theorem ent_block (vs : Array Value) (w : World) : (callFunc 49 vs).run Tryd.prog w = .ok (.enter 49 vs) w := by kernel_rfl
theorem built_h0 : Tryd.prog.built 73 [(0, .int .u32 1779033703), (1, .int .u32 3144134277), (2, .int .u32 1013904242), (3, .int .u32 2773480762), (4, .int .u32 1359893119), (5, .int .u32 2600822924), (6, .int .u32 528734635), (7, .int .u32 1541459225)] = some #[wv (h0 0), wv (h0 1), wv (h0 2), wv (h0 3), wv (h0 4), wv (h0 5), wv (h0 6), wv (h0 7)] := by kernel_rfl
/-- The reference's package variables lie where they were laid. -/
def RefPkg (w : World) : Prop := ∀ i, i < 64 → w.cell? ⟨3, i, none⟩ = some (wv (kw i))
theorem RefPkg.lt {w : World} (h : RefPkg w) : 3 < w.heap.size := by have := h 0 (by omega); exact cell_lt0 this
theorem RefPkg.below {w w' : World} (h : RefPkg w) (hb : Below w.heap.size w w') : RefPkg w' := fun i hi => (hb.cell (p := ⟨3, i, none⟩) h.lt).trans (h i hi)

set_option maxHeartbeats 4000000 in
theorem refSum_any (n c : Nat) (A : Option Addr) (x : Nat → Nat) (w : World) (hb : Rd w w.heap.size A n (u8v x)) (hx : ∀ i, x i < 256) (hn : n ≤ 140737488355200) (hp : RefPkg w) :
    Calls Tryd.prog 47 #[.slice A n c] w fun e w' => e = .returned (rootV (shaB x n)) ∧ Below w.heap.size w w' := by
  have HP := Lib.hid hp
  have HB := Lib.hid hb
  obtain ⟨P, hPd⟩ : ∃ P, P = padF n x := ⟨_, rfl⟩
  obtain ⟨N, hN⟩ : ∃ N, N = nb n := ⟨_, rfl⟩
  have hres : shaB x n = rootOf (Hs P N) := by rw [hPd, hN]; rfl
  have hP : ∀ i, P i < 256 := fun i => by rw [hPd]; exact padF_lt _ _ hx i
  have hnb : 64 * N ≤ n + 72 := by rw [hN]; unfold nb; omega
  rw [hres]
  have HPl := Lib.hid hP
  have HH := Lib.hid (show padF n x = P ∧ nb n = N from ⟨hPd.symm, hN.symm⟩)
  have H0 := Lib.hid (((HS.nil w).allocB _ _ 30 32 _ (by rfl) (zero_at 32 (.int .u8 0)) rfl).allocB (w.heap.size + 1) _ 73 8 _ rfl h0_at (by simp))
  clear hp hb hres hP hPd hN hx
  go_enter Tryd.func47, Tryd.ntmps47
  go_wp2_with (first
    | (refine wpList_build_as rfl 73 #[(0, .const (.int .u32 1779033703)), (1, .const (.int .u32 3144134277)), (2, .const (.int .u32 1013904242)), (3, .const (.int .u32 2773480762)), (4, .const (.int .u32 1359893119)), (5, .const (.int .u32 2600822924)), (6, .const (.int .u32 528734635)), (7, .const (.int .u32 1541459225))] rfl [(0, .int .u32 1779033703), (1, .int .u32 3144134277), (2, .int .u32 1013904242), (3, .int .u32 2773480762), (4, .int .u32 1359893119), (5, .int .u32 2600822924), (6, .int .u32 528734635), (7, .int .u32 1541459225)] rfl _ built_h0 ?_)
    | (go_at_call 48; refine (padded_any n c A x _ (HB.out.below ((H0.out.out (by simp)).mono (Nat.le_refl _)) |>.more (H0.out.size)) hn).mono ?_; rintro e w3 ⟨A', c', rfl, hown, hbel⟩; rw [HH.out.1, HH.out.2] at hown; rw [HH.out.2]; have HO := Lib.hid (And.intro hown hbel); clear hown hbel))
  obtain ⟨hown, hbel3⟩ := HO.out
  have hs3 := H0.out.below hbel3
  have hsw := hs3.size
  have hcap := hown.cap
  have HRd := Lib.hid hown.rd
  have hapt : Hi A' (64 * N) (w.heap.size + 2) := fun _ ad e => by have := (hown.base_le ad e).1; simp at this; omega
  have HAp := Lib.hid hapt
  have HBl := Lib.hid (hs3.out (by simp))
  have HS3 := Lib.hid (((HS.nil w3).take (hs3.row 1 rfl) (fun r hr => by cases hr)).take (hs3.row 0 rfl) (fun r hr => by simp at hr; subst hr; show w.heap.size ≠ w.heap.size + 1; omega))
  clear hown hbel3 hs3 hapt HO H0
  go_loopw [4] (fun s wr => ∃ (k rem : Nat) (Ak : Option Addr) (ck : Nat), s = .slice Ak rem ck ∧ 64 * k + rem = 64 * N ∧ rem ≤ ck ∧ Rd w3 w3.heap.size Ak rem (u8v fun i => P (64 * k + i)) ∧ Hi Ak rem (w.heap.size + 2) ∧ HS w3 wr [⟨w.heap.size + 1, 73, 8, fun i => wv (Hs P k i)⟩, ⟨w.heap.size, 30, 32, fun _ => .int .u8 0⟩]) (fun s _ => match s with | .slice _ k _ => k | _ => 0)
  case atStart => exact ⟨0, 64 * N, A', c', rfl, by omega, hcap, HRd.out.congr (fun i _ => by simp only [u8v, Nat.mul_zero, Nat.zero_add]), HAp.out, HS3.out⟩
  case round =>
    clear HRd HAp HS3
    obtain ⟨k, rem, Ak, ck, rfl, hrem, hck, hrd, hap, hs⟩ := hrel
    have hg1 : w.heap.size + 1 < wr.heap.size := hs.lt 0 rfl
    have hcell : ∀ i, i < 8 → wr.cell? ⟨w.heap.size + 1, i, none⟩ = some (wv (Hs P k i)) := fun i hi => hs.cell 0 i rfl hi
    have HSr := Lib.hid hs
    have HRd := Lib.hid hrd
    have HAp := Lib.hid hap
    have HC := Lib.hid hcell
    clear hs hrd hap hcell
    by_cases hr0 : 0 < rem
    · have h64 : 64 ≤ rem := by omega
      go_wp2_with fail
      have hs := HSr.out
      have hcell := HC.out
      refine wp_region_factsS (l := [_, _, _]) (tl := [_]) (B := wr.heap.size) (w0 := wr) [SF.is (.agg #[wv (Hs P k 0), wv (Hs P k 1), wv (Hs P k 2), wv (Hs P k 3), wv (Hs P k 4), wv (Hs P k 5), wv (Hs P k 6), wv (Hs P k 7)]), SF.is (.slice (Ak) (rem) (ck)), SF.is (.slice (Ak) (64) (ck))] (by kernel_rfl) (by kernel_rfl) rfl (Nat.le_refl _) (Below.refl _ _) ⟨?_, ?_, ?_, trivial⟩ ?_
      · exact opOb_ld rfl rfl (OpK.tmp rfl) (fun w' hb => run_loadAt_part w' _ 0 8 _ _ (fun i => wv (Hs P k i)) (fun i hi => by rw [Nat.zero_add]; exact (hb.cell (p := ⟨w.heap.size + 1, i, none⟩) hg1).trans (hcell i hi)) Tryd.underlying73 rfl (by kernel_rfl))
      · exact (opOb_move _ rfl (.inl rfl) rfl)
      · exact opOb_slc rfl rfl (OpK.tmp rfl) OpKo.no OpKo.const (fun w => cut_to Tryd.underlying72 (by kernel_rfl) Ak rem ck 64 (by omega) w)
      · intro w' hb
        simp only [fin, SF.is, forall_eq]
        simp only [Act.put, List.setIfInBounds_toArray, List.set_cons_succ, List.set_cons_zero]
        clear hcell
        have hs1 := hs.below hb
        refine wp_fn ent_block #[.agg #[wv (Hs P k 0), wv (Hs P k 1), wv (Hs P k 2), wv (Hs P k 3), wv (Hs P k 4), wv (Hs P k 5), wv (Hs P k 6), wv (Hs P k 7)], .slice Ak 64 ck] rfl rfl ?_
        refine (block_any 64 ck w3.heap.size Ak (Hs P k) (fun i => P (64 * k + i)) w' (fun i => HPl.out _) ((HRd.out.short h64).hs hs1 (Nat.le_refl _) (fun _ ad e r hr => by have := HAp.out hr0 ad e; simp at hr; rcases hr with rfl | rfl; (· show w.heap.size + 1 ≠ ad.block; omega); (· show w.heap.size ≠ ad.block; omega))) hs1.size (Nat.le_refl _) (by omega)
          (HP.out.below (HBl.out.trans (hs1.old hsw (by simp))))).mono ?_
        rintro e w4 ⟨rfl, hb4⟩
        have hs4 := hs1.below hb4
        refine ⟨_, rfl, ?_⟩
        refine wp_sto_arr rfl (hs4.row 0 rfl) _ rfl rfl rfl (by kernel_rfl) (fun i hi => ⟨_, w8_at _ i hi, rfl⟩) ?_
        have hs5 := hs4.setRow 0 rfl _ rfl (fun i => wv (Hs P (k + 1) i)) (fun i hi => w8_at (comp (Hs P k) (blk P k)) i hi)
        have HS5 := Lib.hid hs5
        clear hs hs1 hb hs4 hs5 hb4
        simp only [seqWp]
        obtain ⟨A2, hcut0, hcut2⟩ := cut_from (P := Tryd.prog) Tryd.underlying72 (by kernel_rfl) Ak rem ck 64 h64 hck
        have hcut : ∀ w : World, (Instr.sliceAt 72 (.slice Ak rem ck) (some (.int .i64 64)) none none).run Tryd.prog w = .ok (.slice A2 (rem - 64) (ck - 64)) w := hcut0
        clear hcut0
        have HCt := Lib.hid hcut2
        clear hcut2
        go_wp2_with fail
        go_roundw
        case rel => exact ⟨k + 1, rem - 64, A2, ck - 64, rfl, by omega, by omega, (HCt.out.rd HRd.out).congr (fun i _ => congrArg (fun k => Value.int .u8 ((P k : Nat) : Int)) (show 64 * k + (64 + i) = 64 * (k + 1) + i by omega)), HCt.out.hi HAp.out, HS5.out⟩
        case measure => show rem - 64 < rem; omega
    · obtain rfl : rem = 0 := by omega
      obtain rfl : k = N := by omega
      clear hg1 HC HRd HAp
      obtain ⟨wo, rfl⟩ : ∃ wo : World, wo = wr := ⟨_, rfl⟩
      go_wp2_with fail
      have H6 := Lib.hid (HSr.out.allocB _ _ 30 32 (u8v fun _ => 0) (by rfl) (zero_at 32 (.int .u8 0)) rfl)
      have hw6 : w.heap.size + 2 ≤ wo.heap.size := by have := HSr.out.lt 0 rfl; omega
      go_loopw [6] (fun i wq => ∃ j : Nat, j ≤ 32 ∧ i = .int .i64 j ∧ HS w3 wq [⟨wo.heap.size, 30, 32, u8v fun i => if i < j then rootOf (Hs P k) i else 0⟩, ⟨w.heap.size + 1, 73, 8, fun i => wv (Hs P k i)⟩, ⟨w.heap.size, 30, 32, fun _ => .int .u8 0⟩]) (fun i _ => 32 - (intOf i).toNat)
      case atStart => exact ⟨0, by omega, rfl, H6.out⟩
      case round =>
        clear H6
        obtain ⟨j, hj, rfl, hs⟩ := hrel
        by_cases hj32 : j < 32
        · have ch := hs.cell 1 (j / 4) rfl (by show j / 4 < 8; omega)
          have co := hs.cell 0 j rfl hj32
          have fo := hs.frozen 0 j rfl
          have HSq := Lib.hid hs
          clear hs
          go_wp2_with fail
          go_roundw
          case rel =>
            refine ⟨j + 1, by omega, by go_num, ?_⟩
            rw [root_byte]
            refine (HSq.out.set 0 j rfl _).congr 0 rfl (fun i _ => ?_)
            by_cases e : i = j
            · subst e; rw [if_pos rfl]; simp only [u8v]; rw [if_pos (by omega)]
            · rw [if_neg e]; simp only [u8v]
              by_cases e2 : i < j
              · rw [if_pos e2, if_pos (by omega)]
              · rw [if_neg e2, if_neg (by omega)]
          case measure => simp [intOf]; omega
        · obtain rfl : j = 32 := by omega
          have HX := Lib.hid (heap_arr (hs.row 0 rfl))
          have HR := Lib.hid (hs.row 2 rfl)
          have HSq := Lib.hid hs
          clear hs
          go_wp2_with (first
            | (refine wpList_load_row rfl 30 (.tmp 5) rfl wo.heap.size rfl 30 _ _ _ HX.out Tryd.underlying30 rfl (by kernel_rfl) ?_)
            | (refine wpList_store_arr rfl 30 (.tmp 2) (.tmp 36) rfl HR.out _ rfl rfl (size_arr _ _) (by kernel_rfl) (fun i hi => ⟨_, arr_at _ _ i hi, rfl⟩) ?_))
          have hend := HSq.out.setRow 2 rfl (arr 32 (u8v fun i => if i < 32 then rootOf (Hs P k) i else 0)) (size_arr _ _) _ (fun i hi => arr_at _ _ i hi)
          refine ret_rowIs rfl (hend.row 2 rfl) _ rfl Tryd.underlying30 rfl (by kernel_rfl) rfl ?_
          refine ⟨?_, HBl.out.trans (hend.old hsw (by simp; omega))⟩
          rw [arr_congr (g := u8v (rootOf (Hs P k))) (fun i hi => by simp only [u8v]; rw [if_pos hi])]

theorem ent_refSum (vs : Array Value) (w : World) : (callFunc 47 vs).run Tryd.prog w = .ok (.enter 47 vs) w := by kernel_rfl
theorem run_bs0_u8 (w : World) : (Instr.buildSlice 72 0 #[]).run Tryd.prog w = .ok (.slice (some ⟨w.heap.size, 0, none⟩) 0 0) (w.alloc (.cells #[] 5)) := by simp [go_sem]
theorem cat_F (x y : Nat → Nat) (n : Nat) : ∀ i, i < n → catF 32 (u8v x) (u8v y) i = u8v (catN 32 x y) i := fun i _ => by
  simp only [catF, u8v, catN]; split <;> rfl

set_option maxHeartbeats 2000000 in
theorem refTwo_any (x y : Nat → Nat) (hx : ∀ i, x i < 256) (hy : ∀ i, y i < 256) (w : World) (hp : RefPkg w) :
    Calls Tryd.prog 46 #[rootV x, rootV y] w fun e w' => e = .returned (rootV (shaB (catN 32 x y) 64)) ∧ Below w.heap.size w w' := by
  have HP := Lib.hid hp
  have HX := Lib.hid hx
  have HY := Lib.hid hy
  clear hp hx hy
  go_enter Tryd.func46, Tryd.ntmps46
  go_wp2
  refine HS.go (w0 := w) (rows := [⟨w.heap.size + 2, 30, 32, u8v fun _ => 0⟩, ⟨w.heap.size + 1, 30, 32, u8v y⟩, ⟨w.heap.size, 30, 32, u8v x⟩])
    (by exact (((HS.nil w).allocB _ (arr 32 (u8v x)) 30 32 _ (size_arr _ _) (arr_at _ _) rfl).allocB _ (arr 32 (u8v y)) 30 32 _ (size_arr _ _) (arr_at _ _) (by simp)).allocB _ _ 30 32 _ (by rfl) (zero_at 32 (.int .u8 0)) (by simp)) (fun wr hs => ?_)
  have hw : w.heap.size + 2 < wr.heap.size := hs.lt 0 rfl
  have R2 : wr.rowIs w.heap.size 30 32 (u8v x) := hs.row 2 rfl
  refine wp_region_factsS (l := [_, _, _, _]) (tl := [_, _]) (B := wr.heap.size) (w0 := wr) [SF.own0 wr.heap.size 5, SF.is (.slice (some ⟨w.heap.size, 0, none⟩) (32) (32)), SF.own wr.heap.size 5 32 (u8v x), SF.is (.slice (some ⟨w.heap.size + 1, 0, none⟩) (32) (32))] (by kernel_rfl) (by kernel_rfl) rfl (Nat.le_refl _) (Below.refl _ _) ⟨?_, ?_, ?_, ?_, trivial⟩ ?_
  · exact opOb_bs0 rfl rfl run_bs0_u8 _ (Nat.le_refl _)
  · exact opOb_slc rfl rfl (OpK.tmp rfl) (OpKo.no) (OpKo.no) (fun w => cut_arr Tryd.underlying30 1 (by kernel_rfl) none none (0) (32) (.inl ⟨rfl, rfl⟩) (.inl ⟨rfl, rfl⟩) (by omega) (by omega) (by omega) (by omega) (by omega) (by omega))
  · exact opOb_app0 (s := 5) (x := 6) wr.heap.size u8_info Tryd.underlying72 rfl rfl rfl (by rfl) (by rfl) (fun w' hb => Rd.of_row (row_below (B := wr.heap.size) R2 hb (by omega)) (Nat.le_refl _) (Nat.lt_succ_self _)) (fun _ _ => rfl) (by omega) (Nat.le_refl _)
  · exact opOb_slc rfl rfl (OpK.tmp rfl) (OpKo.no) (OpKo.no) (fun w => cut_arr Tryd.underlying30 1 (by kernel_rfl) none none (0) (32) (.inl ⟨rfl, rfl⟩) (.inl ⟨rfl, rfl⟩) (by omega) (by omega) (by omega) (by omega) (by omega) (by omega))
  · intro w' hb
    simp only [fin, SF.is, SF.own, SF.own0, forall_eq]
    rintro _ ⟨_, rfl, _⟩ _ ⟨A7, c7, rfl, ho7⟩
    simp only [Act.put, List.setIfInBounds_toArray, List.set_cons_succ, List.set_cons_zero]
    have hs1 := hs.below hb
    have hlo : ∀ ad, A7 = some ad → wr.heap.size ≤ ad.block := fun ad e => (ho7.base_le ad e).1
    refine wp_app w' (.tmp 7) (.tmp 8) 72 rfl wr.heap.size 5 _ _ 1 Tryd.underlying72 (info_parts u8_info).choose_spec.1 (info_parts u8_info).choose_spec.2.1 (info_parts u8_info).choose_spec.2.2.1 (info_parts u8_info).choose_spec.2.2.2 rfl rfl rfl ho7 (Rd.of_row (hs1.row 1 rfl) (Nat.le_refl _) (hs1.lt 1 rfl)) (fun _ _ => rfl) (by omega) hb.size ?_
    intro A9 c9 w4 ho9 hg9 ha9
    have hb4 : Below wr.heap.size w' w4 := below_app (Below.refl _ _) hg9 hb.size hlo
    have hs4 : HS w w4 _ := hs.below (hb.trans hb4)
    refine wp_fn ent_refSum #[.slice A9 64 c9] rfl rfl ?_
    refine (refSum_any 64 c9 A9 (catN 32 x y) w4 (ho9.rd.congr (cat_F x y 64)) (catN_lt HX.out HY.out) (by omega) (HP.out.below (hs4.out (by simp)))).mono ?_
    rintro e w5 ⟨rfl, hb5⟩
    have hs5 := hs4.below hb5
    refine ⟨_, rfl, ?_⟩
    refine wp_sto_arr rfl (hs5.row 0 rfl) _ rfl rfl (size_arr _ _) (by kernel_rfl) (fun i hi => ⟨_, arr_at _ _ i hi, rfl⟩) ?_
    have hend := hs5.setRow 0 rfl (arr 32 (u8v (shaB (catN 32 x y) 64))) (size_arr _ _) _ (fun i hi => arr_at _ _ i hi)
    have HE := Lib.hid hend
    clear hs hs1 hs4 hs5 hend hb hb4 hb5 ho7 ho9 hg9 ha9 hlo R2 hw
    simp only [seqWp]
    go_wp2_with fail
    exact ret_rowIs rfl (HE.out.row 0 rfl) _ rfl Tryd.underlying30 rfl (by kernel_rfl) rfl ⟨rfl, HE.out.out (by simp)⟩
end Go.Proofs.YtlcpflaofggmeaaDoor
/- Is a root in a list? (Printed by a program of mine.) -/
namespace Go.Proofs.YtlcpflaofggmeaaDoor
set_option maxRecDepth 40000
open Go.RowKit
theorem Rd.cells {w : World} {B n : Nat} {ad : Addr} {f : Nat → Value} (h : Rd w B (some ad) n f) {i : Nat} (hi : i < n) : w.cell? (ad.add i) = some (f i) := by
  obtain ⟨ad', e, _, hc⟩ := h (by omega)
  injection e with e; subst e
  exact hc i hi
namespace SignGood
end SignGood
end Go.Proofs.YtlcpflaofggmeaaDoor
/- Zero roots and depths, by the reference. -/
namespace Go.Proofs.YtlcpflaofggmeaaDoor
set_option maxRecDepth 40000
open Go.RowKit
/-- The least d with l ≤ 2^d. -/
def dep (l : Nat) : Nat := if l ≤ 1 then 0 else Nat.log2 (l - 1) + 1
theorem dep_ge (l : Nat) : l ≤ 2 ^ dep l := by
  unfold dep
  by_cases h : l ≤ 1
  · rw [if_pos h]; simpa using h
  · rw [if_neg h]
    have := Nat.lt_log2_self (n := l - 1)
    omega
theorem dep_lt {l e : Nat} (h : e < dep l) : 2 ^ e < l := by
  unfold dep at h
  by_cases h1 : l ≤ 1
  · rw [if_pos h1] at h; omega
  · rw [if_neg h1] at h
    have h2 := Nat.log2_self_le (n := l - 1) (by omega)
    have h3 : 2 ^ e ≤ 2 ^ Nat.log2 (l - 1) := Nat.pow_le_pow_right (by omega) (by omega)
    omega
theorem dep_le {l k : Nat} (h : l ≤ 2 ^ k) : dep l ≤ k := by
  rcases Nat.lt_or_ge k (dep l) with h1 | h1
  · have := dep_lt h1; omega
  · exact h1
/-- The zero root of depth k. -/
def zrN : Nat → Nat → Nat
  | 0 => fun _ => 0
  | k + 1 => shaB (catN 32 (zrN k) (zrN k)) 64
theorem zrN_lt (k : Nat) : ∀ i, zrN k i < 256 := by
  cases k with
  | zero => intro i; show 0 < 256; omega
  | succ k => exact fun i => shaB_lt _ _ i
/-- The list of zero roots. -/
def zrL : Nat → Nat := fun i => zrN (i / 32) (i % 32)
theorem zrL_at (k q : Nat) (hq : q < 32) : zrL (k * 32 + q) = zrN k q := by
  unfold zrL
  rw [show (k * 32 + q) / 32 = k by omega, show (k * 32 + q) % 32 = q by omega]
namespace TreeRef
theorem shl1 (d : Nat) (hd : d < 63) (w : World) : (binOp .shl 3 (.int .i64 1) (.int .u64 (d : Int))).run Tryd.prog w = .ok (.int .i64 ((2 ^ d : Nat) : Int)) w := by
  have h1 : 2 ^ d ≤ 2 ^ 62 := Nat.pow_le_pow_right (by omega) (by omega)
  have h2 : ((2 ^ d : Nat) : Int) ≤ 4611686018427387904 := by have : (2 : Nat) ^ 62 = 4611686018427387904 := by decide
                                                              omega
  have h0 : (0 : Int) ≤ ((2 ^ d : Nat) : Int) := Int.natCast_nonneg _
  have e : ((2 ^ d : Nat) : Int) = (2 : Int) ^ d := by simp
  rw [e] at h2 h0
  simp [go_sem, IntKind.wrap, IntKind.bits, IntKind.signed]
  generalize (2 : Int) ^ d = y at h2 h0
  rw [Int.emod_eq_of_lt h0 (by omega), if_neg (by omega)]
theorem cvu (m : Nat) (hm : m < 9223372036854775808) (w : World) : (convert 3 54 (.int .i64 (m:Int))).run Tryd.prog w = .ok (.int .u64 (m:Int)) w := by
  simp [go_sem, IntKind.wrap, IntKind.bits, IntKind.signed]; omega
end TreeRef
theorem ex_bin {P : Program} {o : Oper} {a : Act} {b : BinOp} {ty rt : TypeId} {x y : Operand} {u v r : Value} (hne : (b matches .eql | .neq) = false) (ho : o.op = .binOp b ty x y rt) (hx : a.eval x = u) (hy : a.eval y = v) (hr : ∀ w, (binOp b ty u v).run P w = .ok r w) : ∀ w, (execOp a.eval o).run P w = .ok (.value r) w := fun w => by
  unfold execOp
  rw [ho]
  simp only [hx, hy]
  cases b <;> simp at hne <;> simp [eqGuard, hr]
theorem ex_cnv {P : Program} {o : Oper} {a : Act} {s d : TypeId} {x : Operand} {u r : Value} (ho : o.op = .convert s d x) (hx : a.eval x = u) (hr : ∀ w, (convert s d u).run P w = .ok r w) : ∀ w, (execOp a.eval o).run P w = .ok (.value r) w := fun w => by
  unfold execOp
  rw [ho]
  simp only [hx]
  simp [hr w]
open TreeRef in
set_option maxHeartbeats 1000000 in
theorem depth_ref (l : Nat) (hl : l ≤ 1099511627776) (w : World) : Calls Tryd.prog 35 #[.int .i64 (l : Int)] w fun e w' => e = .returned (.int .i64 (dep l : Int)) ∧ w' = w := by
  have hd40 : dep l ≤ 40 := dep_le (k := 40) (by omega)
  go_enter Tryd.func35, Tryd.ntmps35
  go_wp2_with fail
  go_loopw [3] (fun i wr => ∃ d : Nat, i = .int .i64 (d : Int) ∧ d ≤ dep l ∧ wr = w) (fun i _ => 41 - (intOf i).toNat)
  case atStart => exact ⟨0, rfl, by omega, rfl⟩
  case round =>
    obtain ⟨d, rfl, hd, rfl⟩ := hrel
    obtain ⟨p, hp⟩ : ∃ p, p = 2 ^ d := ⟨_, rfl⟩
    have HP := Lib.hid hp
    by_cases hlt : d < dep l
    · have hpl : p < l := by rw [hp]; exact dep_lt hlt
      clear hp
      go_wp2_with (refine wpList_as rfl 6 rfl (.int .i64 (p : Int)) ?_ ?_; (· rw [HP.out]; exact ex_bin rfl rfl rfl rfl (fun w => shl1 d (by omega) w) _))
      go_roundw
      case rel => exact ⟨d + 1, by go_num, by omega, trivial⟩
      case measure => simp [intOf]; omega
    · obtain rfl : d = dep l := by omega
      have hpl : l ≤ p := by rw [hp]; exact dep_ge l
      clear hp
      go_wp2_with (refine wpList_as rfl 6 rfl (.int .i64 (p : Int)) ?_ ?_; (· rw [HP.out]; exact ex_bin rfl rfl rfl rfl (fun w => shl1 _ (by omega) w) _))
      go_ret
      exact ⟨rfl, rfl⟩
end Go.Proofs.YtlcpflaofggmeaaDoor
/- Copies of lists whose elements have many cells. -/
namespace Go.Proofs.YtlcpflaofggmeaaDoor
set_option maxRecDepth 40000
open Go.RowKit
theorem OwnZ.new0 (w : World) (base : Nat) (e : TypeId) (z : Nat) (f : Nat → Value) (hb : base ≤ w.heap.size) : OwnZ (w.alloc (.cells #[] e)) base e z (some ⟨w.heap.size, 0, none⟩) 0 0 f :=
  ⟨by simp, .inr ⟨w.heap.size, 0, #[], rfl, hb, heap_alloc_new w _, Nat.le_refl _, Nat.zero_le _, by simp, by simp⟩⟩
/-- A row of the call's own, as a slice of elements of z cells. -/
def SF.ownZ (base : Nat) (e : TypeId) (z n : Nat) (f : Nat → Value) : SF := ⟨fun v w => ∃ A c, v = .slice A n c ∧ OwnZ w base e z A n c f, fun _ _ _ ⟨A, c, e1, h⟩ hb => ⟨A, c, e1, h.all hb⟩⟩
def SF.own0Z (base : Nat) (e : TypeId) (z : Nat) : SF := ⟨fun v w => ∃ b, v = .slice (some ⟨b, 0, none⟩) 0 0 ∧ OwnZ w base e z (some ⟨b, 0, none⟩) 0 0 (fun _ => undef), fun _ _ _ ⟨b, e1, h⟩ hb => ⟨b, e1, h.all hb⟩⟩
section
variable {P : Program} (w : World)
theorem app0Z_eq {t ty e : TypeId} {i : TypeInfo} {z : Value} {k : Nat} (ht : P.underlying t = some (.slice e)) (hi : P.info? e = some i) (hz : i.zero = some z) (hsize : i.size = k) (hk : 0 < k)
    (b a : Addr) (m cm B : Nat) (g : Nat → Value) (hr : Rd w B (some a) (m * k) g) (hm : 0 < m) (hbytes : m ≤ 9223372036854775807 ∧ m * i.bytes ≤ 140737488355328) :
    (Builtin.append_ #[t, t] ty #[.slice (some b) 0 0, .slice (some a) m cm]).run P w = (Builtin.append_ #[t, t] ty #[.slice none 0 0, .slice (some a) m cm]).run P w := by
  have hmk : 0 < m * k := Nat.mul_pos hm hk
  have hnews : ∀ j v, ((List.range (m * k)).map g)[j]? = some v → w.cell? (a.add j) = some v := fun j v hj => by
    have hjl : j < m * k := by
      rcases Nat.lt_or_ge j (m * k) with h | h
      · exact h
      · simp [h] at hj
    rw [hr.cell_ hjl]
    simp [hjl] at hj
    exact congrArg some hj
  have h1 := run_append_nil (P := P) w t ty e i z ht hi hz a m cm ((List.range (m * k)).map g) (by simp [hsize]) hnews hm (by omega) (by omega)
  have h2 := run_append_grow (P := P) w t ty e i z ht hi hz b 0 0 [] (by simp) (fun j v hj => by simp at hj) a m cm ((List.range (m * k)).map g) (by simp [hsize]) hnews (by omega) (by omega) (growslice_fits (by omega) (by rw [Nat.zero_add]; exact hbytes.2))
  rw [h1, h2]
  simp
theorem run_app0Z (base : Nat) {t ty e : TypeId} {i : TypeInfo} {z : Value} {k bytes : Nat} (ht : P.underlying t = some (.slice e)) (hi : P.info? e = some i) (hz : i.zero = some z)
    (hsize : i.size = k) (hk : 0 < k) (hby : i.bytes = bytes) (hzs : z.cells.size = k) {b : Addr} {f g : Nat → Value} (hown : OwnZ w base e k (some b) 0 0 f)
    {C : Option Addr} {m cm B : Nat} (hr : Rd w B C (m * k) g) (h1 : ∀ i, i < m * k → (g i).oneCell' = true) (hbytes : m ≤ 9223372036854775807 ∧ m * bytes ≤ 140737488355328) (hbase : base ≤ w.heap.size) :
    ∃ A' c' w', (Builtin.append_ #[t, t] ty #[.slice (some b) 0 0, .slice C m cm]).run P w = .ok (.slice A' m c') w' ∧ OwnZ w' base e k A' m c' g ∧ Below w.heap.size w w' := by
  by_cases hm : m = 0
  · subst hm
    have hrun : (Builtin.append_ #[t, t] ty #[.slice (some b) 0 0, .slice C 0 cm]).run P w = .ok (.slice (some b) 0 0) w := by
      rcases C with _ | ad <;> simp [Builtin.append_, run_underlying ht, sizeOf, typeInfo, hi, Builtin.lenOf, Builtin.firstCells, storeCells, loadCells, loadCellsFrom]
    exact ⟨_, _, _, hrun, hown.congr (fun i hi => absurd hi (by omega)), Below.refl _ _⟩
  · obtain ⟨ad, rfl, _⟩ := hr (Nat.mul_pos (by omega) hk)
    obtain ⟨A', c', w', h2, h3, h4, _⟩ := run_appZ (P := P) w base t ty e i z k bytes ht hi hz hsize hby hzs hk (cm := cm) (OwnZ.nil w base e k g) hr h1 (by rw [Nat.zero_add]; exact hbytes) hbase
    refine ⟨A', c', w', ?_, ?_, ⟨h4.os, h4.tape, h4.output, h4.size, fun k hk => h4.block k hk (by simp)⟩⟩
    · rw [app0Z_eq w ht hi hz hsize hk b ad m cm B g hr (by omega) (by rw [hby]; exact hbytes), h2, Nat.zero_add]
    · rw [Nat.zero_add] at h3
      exact h3.congr (fun i _ => by simp [catF])
theorem infoZ {e : TypeId} {z : Value} {k bytes : Nat} (hinfo : (P.info? e).map (fun i => (i.zero, i.size, i.bytes)) = some (some z, k, bytes)) : ∃ i, P.info? e = some i ∧ i.zero = some z ∧ i.size = k ∧ i.bytes = bytes := by
  cases hq : P.info? e with
  | none => rw [hq] at hinfo; simp at hinfo
  | some i => rw [hq] at hinfo; simp at hinfo; exact ⟨i, rfl, hinfo.1, hinfo.2.1, hinfo.2.2⟩
/-- append([]T{}, x...), two operations of a list. -/
theorem wpList_bs0L {ops : Array Oper} {rest : List Oper} {o : Oper} {a : Act} {w w0 : World} {Q : Exit → Act → World → Prop} {rows : List RowSpec} (hgd : o.guard = none) {t e : TypeId} (z : Nat) (ho : o.op = .buildSlice t 0 #[]) (hr : ∀ w : World, (Instr.buildSlice t 0 #[]).run P w = .ok (.slice (some ⟨w.heap.size, 0, none⟩) 0 0) (w.alloc (.cells #[] e))) (h : HS w0 w rows)
    (hK : ∀ b w', w0.heap.size ≤ b → HS w0 w' rows → OwnZ w' w.heap.size e z (some ⟨b, 0, none⟩) 0 0 (fun _ => undef) → wpList P ops Q rest (a.put o.dst (.slice (some ⟨b, 0, none⟩) 0 0)) w') : wpList P ops Q (o :: rest) a w :=
  wpList_plain hgd fun _ hK' => by
    unfold Oper.wp execOp
    rw [ho]
    simp only [List.map_toArray, List.map_nil, Sem.run_bind, hr w, Result.andThen_ok, Sem.run_pure]
    exact hK' _ _ (hK _ _ h.size (h.below ((Below.refl _ _).alloc (Nat.le_refl _) _)) (OwnZ.new0 w w.heap.size e z _ (Nat.le_refl _)))
theorem wpList_app0L {ops : Array Oper} {rest : List Oper} {o : Oper} {a : Act} {w w0 : World} {Q : Exit → Act → World → Prop} {rows : List RowSpec} (hgd : o.guard = none) (s x : Operand) (t base : Nat) {e : TypeId} {z : Value} {k bytes : Nat}
    (hinfo : (P.info? e).map (fun i => (i.zero, i.size, i.bytes)) = some (some z, k, bytes)) (ht : P.underlying t = some (.slice e)) (hzs : z.cells.size = k) (hk : 0 < k)
    (ho : o.op = .call { callee := .builtin .append, args := #[s, x], argTypes := #[t, t] }) {b : Addr} {f : Nat → Value} (hs : a.eval s = .slice (some b) 0 0) (hown : OwnZ w base e k (some b) 0 0 f)
    {C : Option Addr} {m cm B : Nat} {g : Nat → Value} (hx : a.eval x = .slice C m cm) (hr : Rd w B C (m * k) g) (h1 : ∀ i, i < m * k → (g i).oneCell' = true) (hbytes : m ≤ 9223372036854775807 ∧ m * bytes ≤ 140737488355328) (hbase : base ≤ w.heap.size) (h : HS w0 w rows)
    (hK : ∀ A' c' w', OwnZ w' base e k A' m c' g → HS w0 w' rows → wpList P ops Q rest (a.put o.dst (.slice A' m c')) w') : wpList P ops Q (o :: rest) a w :=
  wpList_plain hgd fun _ hK' => by
    obtain ⟨i, hi, hz, hsize, hby⟩ := infoZ hinfo
    obtain ⟨A', c', w', hrun, h5, h6⟩ := run_app0Z (P := P) w base (ty := o.type) ht hi hz hsize hk hby hzs (cm := cm) hown hr h1 hbytes hbase
    unfold Oper.wp execOp
    simp only [ho, resolve, invoke, builtin, Sem.run_bind, Sem.run_pure, Result.andThen_ok, List.map_toArray, List.map_cons, List.map_nil, hs, hx]
    rw [hrun]
    exact hK' _ _ (hK _ _ _ h5 (h.below h6))
end
section
variable {P : Program} {ops : Array Oper} {B : Nat} {w0 : World} {o : Oper} {lk : Tmp → SF} {ty rt : TypeId}
theorem opOb_bs0Z {t e : TypeId} (z : Nat) (hg : o.guard = none) (hop : o.op = .buildSlice t 0 #[]) (hr : ∀ w : World, (Instr.buildSlice t 0 #[]).run P w = .ok (.slice (some ⟨w.heap.size, 0, none⟩) 0 0) (w.alloc (.cells #[] e))) (base : Nat) (hb : base ≤ w0.heap.size) : opOb P ops B w0 o (SF.own0Z base e z) lk :=
  opOb_of hg fun a w hbel hf => by
    unfold Oper.wp execOp
    rw [hop]
    simp only [List.map_toArray, List.map_nil, Sem.run_bind, hr w, Result.andThen_ok, Sem.run_pure]
    exact ⟨_, rfl, ⟨w.heap.size, rfl, OwnZ.new0 w base e z _ (Nat.le_trans hb hbel.size)⟩, (Below.refl _ _).alloc (Nat.le_refl _) _⟩
theorem opOb_app0Z {s x : Tmp} {t : TypeId} (base : Nat) {e : TypeId} {z : Value} {k bytes : Nat} (hinfo : (P.info? e).map (fun i => (i.zero, i.size, i.bytes)) = some (some z, k, bytes)) (ht : P.underlying t = some (.slice e)) (hzs : z.cells.size = k) (hk : 0 < k)
    (hg : o.guard = none) (hop : o.op = .call { callee := .builtin .append, args := #[.tmp s, .tmp x], argTypes := #[t, t] }) (hs : lk s = SF.own0Z base e k)
    {C : Option Addr} {m cm Bx : Nat} {g : Nat → Value} (hx : lk x = SF.is (.slice C m cm)) (hr : ∀ w, Below B w0 w → Rd w Bx C (m * k) g) (h1 : ∀ i, i < m * k → (g i).oneCell' = true) (hbytes : m ≤ 9223372036854775807 ∧ m * bytes ≤ 140737488355328) (hbase : base ≤ w0.heap.size) :
    opOb P ops B w0 o (SF.ownZ base e k m g) lk :=
  opOb_of hg fun a w hbel hf => by
    obtain ⟨i, hi, hz, hsize, hby⟩ := infoZ hinfo
    have h2 := hf s (by rw [hop]; simp [Op.operands, Call.operands])
    have h3 := hf x (by rw [hop]; simp [Op.operands, Call.operands])
    rw [hs] at h2
    rw [hx] at h3
    obtain ⟨b, h4, hown⟩ := h2
    have e1 : a.eval (.tmp s) = .slice (some ⟨b, 0, none⟩) 0 0 := (getD_eq _ _).trans h4
    have e2 : a.eval (.tmp x) = .slice C m cm := (getD_eq _ _).trans h3
    obtain ⟨A', c', w', hrun, h5, h6⟩ := run_app0Z (P := P) w base (ty := o.type) ht hi hz hsize hk hby hzs (cm := cm) hown (hr w hbel) h1 hbytes (Nat.le_trans hbase hbel.size)
    unfold Oper.wp execOp
    simp only [hop, resolve, invoke, builtin, Sem.run_bind, Sem.run_pure, Result.andThen_ok, List.map_toArray, List.map_cons, List.map_nil, e1, e2]
    rw [hrun]
    exact ⟨_, rfl, ⟨A', c', rfl, h5⟩, h6⟩
/-- []T{x}. -/
theorem opOb_bs1Z {t e : TypeId} {z : Nat} (ht : P.underlying t = some (.slice e)) (hz : (P.info? e).map (·.size) = some z) (hlen : z ≤ 16777216) (h0 : 0 < z) {v0 : Value} (hzero : (P.info? e).bind (·.zero) = some v0)
    {x : Operand} (hg : o.guard = none) (hop : o.op = .buildSlice t 1 #[(0, x)]) (f : Nat → Value) (hx : OpK lk x (.agg (arr z f))) : opOb P ops B w0 o (SF.rdZ 1 z f) lk :=
  opOb_of hg fun a w hbel hf => by
    have h1 := hx.eval hf (by rw [hop]; simp [Op.operands])
    have hr := run_bsN (P := P) w (t := t) (len := 1) ht hz (by omega) (by omega) hzero #[(0, .agg (arr z f))] f (fun g => by
      rw [show (#[((0 : Nat), Value.agg (arr z f))] : Array (Nat × Value)).toList = [(0, .agg (arr z f))] from rfl, fill_step z (1 * z) 0 f g [] (by omega)]
      show some _ = some _
      exact congrArg some (arr_congr fun i hi => by rw [if_pos (by omega)]; simp))
    rw [Nat.one_mul] at hr
    have hrun : (execOp a.eval o).run P w = .ok (.value (.slice (some ⟨w.heap.size, 0, none⟩) 1 1)) (w.alloc (.cells (arr z f) e)) := by
      unfold execOp
      rw [hop]
      simp only [List.map_toArray, List.map_cons, List.map_nil, h1]
      simp [hr]
    have h2 := (HS.nil w).alloc (arr z f) e z f (size_arr _ _) (fun i hi => arr_at _ _ i hi)
    unfold Oper.wp
    rw [hrun]
    exact ⟨_, rfl, ⟨_, _, rfl, by rw [Nat.one_mul]; exact Rd.of_row (h2.row 0 rfl) (Nat.le_refl _) (h2.lt 0 rfl)⟩, h2.out (by simp)⟩
theorem opOb_eqBool {xo yo : Operand} (b : Bool) (hu : P.underlying ty = some .bool) (hg : o.guard = none) (hop : o.op = .binOp .eql ty xo yo rt) (hx : OpK lk xo (.bool b)) (hy : OpK lk yo (.bool b)) : opOb P ops B w0 o (SF.is (.bool true)) lk :=
  opOb_val _ hg fun a w _ hf => by
    have h1 := hx.eval hf (by rw [hop]; simp [Op.operands])
    have h2 := hy.eval hf (by rw [hop]; simp [Op.operands])
    unfold execOp
    rw [hop]
    simp only [h1, h2]
    cases b <;> simp [eqGuard, go_sem, hu]
theorem opOb_notB {xo : Operand} (b : Bool) (hg : o.guard = none) (hop : o.op = .unOp .not ty xo) (hx : OpK lk xo (.bool b)) : opOb P ops B w0 o (SF.is (.bool (!b))) lk :=
  opOb_val _ hg fun a w _ hf => by
    have h1 := hx.eval hf (by rw [hop]; simp [Op.operands])
    unfold execOp
    rw [hop]
    simp only [h1]
    simp [go_sem]
end
end Go.Proofs.YtlcpflaofggmeaaDoor
/- The zero roots, by the reference. (Printed by a program of mine.) -/
namespace Go.Proofs.YtlcpflaofggmeaaDoor
set_option maxRecDepth 40000
open Go.RowKit
namespace TreeZeros
theorem ent_two (vs : Array Value) (w : World) : (callFunc 46 vs).run Tryd.prog w = .ok (.enter 46 vs) w := by kernel_rfl
theorem sub1 (m : Nat) (h : 1 ≤ m) (hm : m ≤ 9223372036854775807) (w : World) : (binOp .sub 3 (.int .i64 (m : Int)) (.int .i64 1)).run Tryd.prog w = .ok (.int .i64 ((m - 1 : Nat) : Int)) w := by
  rw [show ((m - 1 : Nat) : Int) = (m : Int) - 1 by omega]
  simp [go_sem, IntKind.wrap, IntKind.bits, IntKind.signed]
  omega
theorem cat_z {m : Nat} : ∀ i, i < (m + 1) * 32 → catF (m * 32) (u8v zrL) (u8v (zrN m)) i = u8v zrL i := fun i hi => by
  simp only [catF, u8v]
  split
  · rfl
  · rename_i h
    have := zrL_at m (i - m * 32) (by omega)
    rw [show m * 32 + (i - m * 32) = i by omega] at this
    rw [this]
end TreeZeros
open TreeZeros in
set_option maxHeartbeats 4000000 in
theorem zeros_ref (d : Nat) (hd : d ≤ 40) (w : World) (hp : RefPkg w) :
    Calls Tryd.prog 44 #[.int .i64 (d : Int)] w fun e w' => ∃ A c, e = .returned (.slice A (d + 1) c) ∧ OwnZ w' w.heap.size 30 32 A (d + 1) c (u8v zrL) ∧ Below w.heap.size w w' := by
  have HP := Lib.hid hp
  have HS0 := Lib.hid (HS.nil w)
  clear hp
  go_enter Tryd.func44, Tryd.ntmps44
  go_wp2_with (first
    | (refine wpList_build_as rfl 30 #[] rfl [] rfl (arr 32 (u8v fun _ => 0)) (by kernel_rfl) ?_)
    | (refine wpList_bs1 rfl Tryd.underlying22 (z := 32) (by kernel_rfl) (by omega) (by omega) (v0 := .agg (Array.replicate 32 (.int .u8 0))) (by kernel_rfl) _ rfl (u8v fun _ => 0) rfl HS0.out ?_; intro b5 w5 hb5 hc5 hs5; have HS5 := Lib.hid hs5; clear hs5))
  go_loopw [3] (fun v wr => ∃ (m : Nat) (A : Option Addr) (c : Nat), v = .slice A m c ∧ 1 ≤ m ∧ m ≤ d + 1 ∧ OwnZ wr w.heap.size 30 32 A m c (u8v zrL) ∧ Below w.heap.size w wr) (fun v _ => match v with | .slice _ m _ => 100 - m | _ => 0)
  case atStart => exact ⟨1, some ⟨b5, 0, none⟩, 1, rfl, by omega, by omega, (OwnZ.of_row (m := 1) (HS5.out.row 0 rfl) hb5 (by unfold maxLen; omega)).congr (fun i hi => by rw [← Nat.zero_add i]; have := zrL_at 0 i (by omega); simp only [u8v]; rw [show 0 + i = 0 * 32 + i by omega, this]; rfl), HS5.out.out (by simp; omega)⟩
  case round =>
    obtain ⟨m, A, c, rfl, hm1, hm, ho, hbw⟩ := hrel
    have HO := Lib.hid ho
    have HW := Lib.hid hbw
    have hsz := hbw.size
    clear ho hbw
    by_cases hmd : m ≤ d
    · obtain ⟨ad, hA, _, _⟩ := HO.out.rd (show 0 < m * 32 by omega)
      subst hA
      have HCL : Hid (∀ w', Below wr.heap.size wr w' → ∀ i, i < m * 32 → w'.cell? (ad.add i) = some (u8v zrL i)) := Lib.hid (fun w' hb i hi => (HO.out.rd.below hb).cells hi)
      have HZ := Lib.hid (show Ending.returned (rootV (shaB (catN 32 (zrN (m - 1)) (zrN (m - 1))) 64)) = .returned (rootV (zrN m)) by obtain ⟨q, rfl⟩ : ∃ q, m = q + 1 := ⟨m - 1, by omega⟩; rfl)
      go_wp2_with fail
      refine wp_region_factsS (l := [_, _, _, _, _, _, _, _, _, _, _, _, _, _, _]) (tl := [_]) (B := wr.heap.size) (w0 := wr) [SF.is (.slice (some ad) (m) (c)), SF.is (.slice (some ad) (m) (c)), SF.is (.slice (some ad) (m) (c)), SF.is (.int .i64 ((m : Nat) : Int)), SF.is (.int .i64 ((m - 1 : Nat) : Int)), SF.is (.pointer (some (ad.add ((m - 1) * 32)))), SF.is (rootV (zrN (m - 1))), SF.is (.slice (some ad) (m) (c)), SF.is (.slice (some ad) (m) (c)), SF.is (.int .i64 ((m : Nat) : Int)), SF.is (.int .i64 ((m - 1 : Nat) : Int)), SF.is (.pointer (some (ad.add ((m - 1) * 32)))), SF.is (rootV (zrN (m - 1))), SF.is (rootV (zrN m)), SF.rdZ 1 32 (u8v (zrN m))] (by kernel_rfl) (by kernel_rfl) rfl (Nat.le_refl _) (Below.refl _ _) ⟨?_, ?_, ?_, ?_, ?_, ?_, ?_, ?_, ?_, ?_, ?_, ?_, ?_, ?_, ?_, trivial⟩ ?_
      · exact (opOb_move _ rfl (.inl rfl) rfl)
      · exact (opOb_move _ rfl (.inl rfl) rfl)
      · exact (opOb_move _ rfl (.inl rfl) rfl)
      · exact opOb_len Tryd.underlying22 rfl rfl (OpK.tmp rfl)
      · exact opOb_bin rfl rfl rfl (OpK.tmp rfl) OpK.const (fun w => sub1 m (by omega) (by omega) w)
      · exact opOb_idx rfl rfl (OpK.tmp rfl) (OpK.tmp rfl) (fun w => run_idxZ w Tryd.underlying22 (by kernel_rfl) ad (by omega))
      · exact opOb_ld rfl rfl (OpK.tmp rfl) (fun w' hb => run_loadAt_rd w' (ad.add ((m - 1) * 32)) 32 _ _ (u8v (zrN (m - 1))) (fun i hi => by rw [add_add, HCL.out w' hb ((m - 1) * 32 + i) (by omega)]; simp only [u8v]; rw [zrL_at _ _ hi]) Tryd.underlying30 rfl (by kernel_rfl))
      · exact (opOb_move _ rfl (.inl rfl) rfl)
      · exact (opOb_move _ rfl (.inl rfl) rfl)
      · exact opOb_len Tryd.underlying22 rfl rfl (OpK.tmp rfl)
      · exact opOb_bin rfl rfl rfl (OpK.tmp rfl) OpK.const (fun w => sub1 m (by omega) (by omega) w)
      · exact opOb_idx rfl rfl (OpK.tmp rfl) (OpK.tmp rfl) (fun w => run_idxZ w Tryd.underlying22 (by kernel_rfl) ad (by omega))
      · exact opOb_ld rfl rfl (OpK.tmp rfl) (fun w' hb => run_loadAt_rd w' (ad.add ((m - 1) * 32)) 32 _ _ (u8v (zrN (m - 1))) (fun i hi => by rw [add_add, HCL.out w' hb ((m - 1) * 32 + i) (by omega)]; simp only [u8v]; rw [zrL_at _ _ hi]) Tryd.underlying30 rfl (by kernel_rfl))
      · exact opOb_fn2 ent_two rfl rfl (OpK.tmp rfl) (OpK.tmp rfl) (fun w' hb => (refTwo_any (zrN (m - 1)) (zrN (m - 1)) (zrN_lt _) (zrN_lt _) w' (HP.out.below (HW.out.trans (hb.mono HW.out.size)))).mono fun e w'' ⟨he, hb2⟩ => ⟨_, he.trans HZ.out, rfl, hb2⟩)
      · exact opOb_bs1Z Tryd.underlying22 (z := 32) (by kernel_rfl) (by omega) (by omega) (v0 := .agg (Array.replicate 32 (.int .u8 0))) (by kernel_rfl) rfl rfl (u8v (zrN m)) (OpK.tmp rfl)
      · intro w' hb
        simp only [fin, SF.is, SF.rdZ, forall_eq]
        simp only [Act.put, List.setIfInBounds_toArray, List.set_cons_succ, List.set_cons_zero]
        rintro _ ⟨A24, c24, rfl, hr24⟩
        have hw' := HW.out.trans (hb.mono HW.out.size)
        have ho' := HO.out.all hb
        refine wp_appZ w' (.tmp 10) (.tmp 24) 22 w.heap.size (z := .agg (Array.replicate 32 (.int .u8 0))) (k := 32) (bytes := 32) (by kernel_rfl) Tryd.underlying22 (by rfl) (by omega) rfl (m + 1) (u8v zrL) rfl rfl ho' hr24 (fun _ _ => rfl) rfl cat_z ⟨by omega, by omega⟩ hw'.size ?_
        intro A25 c25 w25 ho25 hg25 _
        have HB := Lib.hid (below_app hw' hg25 hw'.size (fun ad e => (HO.out.base_le ad e).1))
        have HO2 := Lib.hid ho25
        clear ho25 hg25 hr24 ho' hw' hb
        refine wp_asg (.slice A25 (m + 1) c25) (.inl rfl) rfl ?_
        simp only [seqWp, Act.put, List.setIfInBounds_toArray, List.set_cons_succ, List.set_cons_zero]
        go_wp2_with fail
        go_roundw
        case rel => exact ⟨m + 1, A25, c25, rfl, by omega, by omega, HO2.out, HB.out⟩
        case measure => show 100 - (m + 1) < 100 - m; omega
    · obtain rfl : m = d + 1 := by omega
      go_wp2_with fail
      go_ret
      exact ⟨A, c, rfl, HO.out, HW.out⟩
end Go.Proofs.YtlcpflaofggmeaaDoor
/- Parts of slices whose elements have many cells. -/
namespace Go.Proofs.YtlcpflaofggmeaaDoor
set_option maxRecDepth 40000
open Go.RowKit
section
variable {P : Program}
theorem cut_midZ {t e : TypeId} {z : Nat} (hu : P.underlying t = some (.slice e)) (hz : (P.info? e).map (·.size) = some z) (_hz0 : 0 < z) (A : Option Addr) (n c l h : Nat) (low high : Option Value)
    (hl : low = none ∧ l = 0 ∨ low = some (.int .i64 (l : Int))) (hh : high = none ∧ h = n ∨ high = some (.int .i64 (h : Int))) (hlh : l ≤ h) (hn : h ≤ n) (hnc : n ≤ c) :
    ∃ A', (∀ w, (Instr.sliceAt t (.slice A n c) low high none).run P w = .ok (.slice A' (h - l) (c - l)) w) ∧ ∀ w B f, Rd w B A (h * z) f → Rd w B A' ((h - l) * z) (fun i => f (l * z + i)) := by
  have b1 : ∀ (y : Nat) (k : BoundsCode) (w : World), l ≤ y → (Instr.sliceBound (.int .i64 (l : Int)) y k).run P w = .ok l w := fun y k w hy => by
    rw [run_sliceBound w .i64 (l : Int) y k (by omega) (by omega)]; simp
  have b2 : ∀ (y : Nat) (k : BoundsCode) (w : World), h ≤ y → (Instr.sliceBound (.int .i64 (h : Int)) y k).run P w = .ok h w := fun y k w hy => by
    rw [run_sliceBound w .i64 (h : Int) y k (by omega) (by omega)]; simp
  refine ⟨if c = l then A else A.map (·.add (l * z)), fun w => ?_, fun w B f hr => ?_⟩
  · have hs := sizeOf_run hz
    have h9 : h ≤ c := by omega
    rcases hl with ⟨rfl, rfl⟩ | rfl <;> rcases hh with ⟨rfl, rfl⟩ | rfl <;>
      simp [Instr.sliceAt, Instr.slice, run_underlying hu, Instr.sliceBounds, b1, b2, hlh, h9, hs, add_zero'] <;> simp_all
  · intro h0
    have hpos : 0 < h - l := by
      rcases Nat.eq_zero_or_pos (h - l) with e | e
      · rw [e] at h0; simp at h0
      · exact e
    have e1 : (h - l) * z + l * z = h * z := by rw [← Nat.add_mul]; congr 1; omega
    obtain ⟨ad, rfl, hb, hc⟩ := hr (by omega)
    rw [if_neg (by omega)]
    refine ⟨ad.add (l * z), rfl, by rw [block_of_add]; exact hb, fun i hi => ?_⟩
    rw [add_of_add]
    exact hc (l * z + i) (by omega)
theorem cut_fromZ {t e : TypeId} {z : Nat} (hu : P.underlying t = some (.slice e)) (hz : (P.info? e).map (·.size) = some z) (hz0 : 0 < z) (A : Option Addr) (n c k : Nat) (hk : k ≤ n) (hnc : n ≤ c) :
    ∃ A', (∀ w, (Instr.sliceAt t (.slice A n c) (some (.int .i64 (k : Int))) none none).run P w = .ok (.slice A' (n - k) (c - k)) w) ∧ ∀ w B f, Rd w B A (n * z) f → Rd w B A' ((n - k) * z) (fun i => f (k * z + i)) :=
  cut_midZ hu hz hz0 A n c k n _ _ (.inr rfl) (.inl ⟨rfl, rfl⟩) hk (Nat.le_refl _) hnc
theorem cut_toZ {t e : TypeId} {z : Nat} (hu : P.underlying t = some (.slice e)) (hz : (P.info? e).map (·.size) = some z) (A : Option Addr) (n c h : Nat) (hh : h ≤ c) (w : World) :
    (Instr.sliceAt t (.slice A n c) none (some (.int .i64 (h : Int))) none).run P w = .ok (.slice A h c) w := by
  have b2 : (Instr.sliceBound (.int .i64 (h : Int)) c .sliceAcap).run P w = .ok h w := by
    rw [run_sliceBound w .i64 (h : Int) c _ (by omega) (by omega)]; simp
  simp [Instr.sliceAt, Instr.slice, run_underlying hu, Instr.sliceBounds, b2, sizeOf_run hz, add_zero']
end
end Go.Proofs.YtlcpflaofggmeaaDoor
/- The root of a tree of chunks, by the reference. (Printed by a program of mine.) -/
namespace Go.Proofs.YtlcpflaofggmeaaDoor
set_option maxRecDepth 40000
open Go.RowKit
/-- The root of n chunks in a tree of depth d. -/
def treeN : Nat → Nat → (Nat → Nat) → Nat → Nat
  | 0, n, x => if n = 0 then zrN 0 else x
  | d + 1, n, x => if n = 0 then zrN (d + 1) else shaB (catN 32 (treeN d (min (2 ^ d) n) x) (treeN d (n - min (2 ^ d) n) (fun i => x (min (2 ^ d) n * 32 + i)))) 64
theorem treeN_lt {x : Nat → Nat} (hx : ∀ i, x i < 256) (d n : Nat) : ∀ i, treeN d n x i < 256 := by
  intro i
  cases d with
  | zero => unfold treeN; split; exact zrN_lt _ _; exact hx _
  | succ d => unfold treeN; split; exact zrN_lt _ _; exact shaB_lt _ _ _
theorem treeN_zero (d : Nat) (x : Nat → Nat) : treeN d 0 x = zrN d := by cases d <;> rfl
theorem treeN_leaf (n : Nat) (x : Nat → Nat) (hn : n ≠ 0) : treeN 0 n x = x := by unfold treeN; rw [if_neg hn]
theorem treeN_succ (d n h : Nat) (x : Nat → Nat) (hn : n ≠ 0) (hh : min (2 ^ d) n = h) : treeN (d + 1) n x = shaB (catN 32 (treeN d h x) (treeN d (n - h) (fun i => x (h * 32 + i)))) 64 := by
  subst hh
  rw [treeN, if_neg hn]
theorem subd (d : Nat) (hd : d ≤ 1000) (w : World) : (binOp .sub 3 (.int .i64 ((d + 1 : Nat) : Int)) (.int .i64 1)).run Tryd.prog w = .ok (.int .i64 (d : Int)) w := by
  have := TreeZeros.sub1 (d + 1) (by omega) (by omega) w
  rw [show d + 1 - 1 = d by omega] at this
  exact this
namespace TreeTree
theorem ent_tree (vs : Array Value) (w : World) : (callFunc 43 vs).run Tryd.prog w = .ok (.enter 43 vs) w := by kernel_rfl
theorem ent_two (vs : Array Value) (w : World) : (callFunc 46 vs).run Tryd.prog w = .ok (.enter 46 vs) w := by kernel_rfl
end TreeTree
open TreeTree in
set_option maxHeartbeats 8000000 in
theorem tree_ref : ∀ (d n c : Nat) (A : Option Addr) (x : Nat → Nat) (m cz : Nat) (Z : Option Addr) (w : World), d < m → d ≤ 40 → n ≤ c → Rd w w.heap.size A (n * 32) (u8v x) → (∀ i, x i < 256) → Rd w w.heap.size Z (m * 32) (u8v zrL) → n ≤ 4611686018427387904 → RefPkg w →
    Calls Tryd.prog 43 #[.slice A n c, .int .i64 (d : Int), .slice Z m cz] w fun e w' => e = .returned (rootV (treeN d n x)) ∧ Below w.heap.size w w' := by
  intro d
  induction d with
  | zero =>
    intro n c A x m cz Z w hdm _ hnc hb hx hz hn hp
    have HX := Lib.hid hb
    have HS0 := Lib.hid (HS.nil w)
    by_cases hn0 : n = 0
    · subst hn0
      obtain ⟨ad, hZ, _, _⟩ := hz (by omega)
      subst hZ
      have HZ := Lib.hid hz
      clear hb hx hz hp
      go_enter Tryd.func43, Tryd.ntmps43
      go_wp2_with (first
      | (refine wpList_allocL rfl 30 6 rfl rfl HS0.out (Array.replicate 32 (.int .u8 0)) (by kernel_rfl) 32 (u8v fun _ => 0) (by rfl) (zero_at 32 (.int .u8 0)) ?_; intro b6 w6 hb6 hc6 hs6; have HS6 := Lib.hid hs6; clear hs6)
      | (refine wpList_load_rd rfl 30 _ rfl 32 _ Tryd.underlying30 rfl (by kernel_rfl) (ad.add (0 * 32)) rfl (u8v (zrN 0)) (fun q hq => by rw [add_add]; exact ((HZ.out.below (HS6.out.out (by simp; omega))).cells (by omega)).trans (congrArg some (by simp only [u8v]; rw [zrL_at 0 q hq]))) ?_)
      | (refine wpList_storeH rfl 30 (.tmp 6) (.tmp 14) rfl HS6.out 0 rfl (u8v (zrN 0)) rfl rfl (by kernel_rfl) (fun _ _ => rfl) ?_; intro wy hs; have HY := Lib.hid hs; clear hs))
      exact ret_rowIs rfl (HY.out.row 0 rfl) _ rfl Tryd.underlying30 rfl (by kernel_rfl) rfl ⟨by rw [treeN_zero], HY.out.out (by simp; omega)⟩
    · obtain ⟨ad, hA, _, _⟩ := hb (by omega)
      subst hA
      clear hb hx hz hp
      go_enter Tryd.func43, Tryd.ntmps43
      go_wp2_with (first
      | (refine wpList_allocL rfl 30 6 rfl rfl HS0.out (Array.replicate 32 (.int .u8 0)) (by kernel_rfl) 32 (u8v fun _ => 0) (by rfl) (zero_at 32 (.int .u8 0)) ?_; intro b6 w6 hb6 hc6 hs6; have HS6 := Lib.hid hs6; clear hs6)
      | (refine wpList_load_rd rfl 30 _ rfl 32 _ Tryd.underlying30 rfl (by kernel_rfl) (ad.add (0)) rfl (u8v x) (fun q hq => by rw [add_add]; exact ((HX.out.below (HS6.out.out (by simp; omega))).cells (by omega)).trans (congrArg some (by rw [Nat.zero_add]))) ?_)
      | (refine wpList_storeH rfl 30 (.tmp 6) (.tmp 19) rfl HS6.out 0 rfl (u8v x) rfl rfl (by kernel_rfl) (fun _ _ => rfl) ?_; intro wy hs; have HY := Lib.hid hs; clear hs))
      exact ret_rowIs rfl (HY.out.row 0 rfl) _ rfl Tryd.underlying30 rfl (by kernel_rfl) rfl ⟨by rw [treeN_leaf n x hn0], HY.out.out (by simp; omega)⟩
  | succ d ih =>
    intro n c A x m cz Z w hdm hd40 hnc hb hx hz hn hp
    have HP := Lib.hid hp
    have HX := Lib.hid hb
    have HXl := Lib.hid hx
    have HZ := Lib.hid hz
    have HS0 := Lib.hid (HS.nil w)
    by_cases hn0 : n = 0
    · subst hn0
      obtain ⟨ad, hZ, _, _⟩ := hz (by omega)
      subst hZ
      clear hb hx hz hp ih
      go_enter Tryd.func43, Tryd.ntmps43
      go_wp2_with (first
      | (refine wpList_allocL rfl 30 6 rfl rfl HS0.out (Array.replicate 32 (.int .u8 0)) (by kernel_rfl) 32 (u8v fun _ => 0) (by rfl) (zero_at 32 (.int .u8 0)) ?_; intro b6 w6 hb6 hc6 hs6; have HS6 := Lib.hid hs6; clear hs6)
      | (refine wpList_load_rd rfl 30 _ rfl 32 _ Tryd.underlying30 rfl (by kernel_rfl) (ad.add ((d + 1) * 32)) rfl (u8v (zrN (d + 1))) (fun q hq => by rw [add_add]; exact ((HZ.out.below (HS6.out.out (by simp; omega))).cells (by omega)).trans (congrArg some (by simp only [u8v]; rw [zrL_at (d + 1) q hq]))) ?_)
      | (refine wpList_storeH rfl 30 (.tmp 6) (.tmp 14) rfl HS6.out 0 rfl (u8v (zrN (d + 1))) rfl rfl (by kernel_rfl) (fun _ _ => rfl) ?_; intro wy hs; have HY := Lib.hid hs; clear hs))
      exact ret_rowIs rfl (HY.out.row 0 rfl) _ rfl Tryd.underlying30 rfl (by kernel_rfl) rfl ⟨by rw [treeN_zero], HY.out.out (by simp; omega)⟩
    · obtain ⟨p, hp2⟩ : ∃ p, p = 2 ^ d := ⟨_, rfl⟩
      have HPw := Lib.hid hp2
      by_cases hpn : p ≤ n
      · have hmin : min (2 ^ d) n = p := by omega
        clear hb hx hz hp hp2
        go_enter Tryd.func43, Tryd.ntmps43
        have hh : p ≤ n := by omega
        obtain ⟨A2, hct⟩ := cut_fromZ (P := Tryd.prog) Tryd.underlying22 (z := 32) (by kernel_rfl) (by omega) A n c p hh hnc
        have HCt := Lib.hid hct
        clear hct
        go_wp2_with (first
          | (refine wpList_allocL rfl 30 6 rfl rfl HS0.out (Array.replicate 32 (.int .u8 0)) (by kernel_rfl) 32 (u8v fun _ => 0) (by rfl) (zero_at 32 (.int .u8 0)) ?_; intro b6 w6 hb6 hc6 hs6; have HS6 := Lib.hid hs6; clear hs6)
          | (refine wpList_as rfl 21 rfl (.int .i64 (d : Int)) ?_ ?_; (· exact ex_bin rfl rfl rfl rfl (fun w => subd d (by omega) w) _))
          | (refine wpList_as rfl 23 rfl (.int .i64 (p : Int)) ?_ ?_; (· rw [HPw.out]; exact ex_bin rfl rfl rfl rfl (fun w => TreeRef.shl1 d (by omega) w) _)))
        have HW6 := Lib.hid (HS6.out.out (by simp; omega))
        refine wp_region_factsS (l := [_, _, _, _, _, _, _, _, _, _, _, _, _, _, _]) (tl := []) (B := w6.heap.size) (w0 := w6) [SF.is (.slice (A) (n) (c)), SF.is (.int .i64 ((p : Nat) : Int)), SF.is (.slice (A) (p) (c)), SF.is (.int .i64 ((d + 1 : Nat) : Int)), SF.is (.int .i64 ((d : Nat) : Int)), SF.is (.slice (Z) (m) (cz)), SF.is (rootV (treeN d p x)), SF.is (.slice (A) (n) (c)), SF.is (.int .i64 ((p : Nat) : Int)), SF.is (.slice (A2) (n - p) (c - p)), SF.is (.int .i64 ((d + 1 : Nat) : Int)), SF.is (.int .i64 ((d : Nat) : Int)), SF.is (.slice (Z) (m) (cz)), SF.is (rootV (treeN d (n - p) (fun i => x (p * 32 + i)))), SF.is (rootV (shaB (catN 32 (treeN d p x) (treeN d (n - p) (fun i => x (p * 32 + i)))) 64))] (by kernel_rfl) (by kernel_rfl) rfl (Nat.le_refl _) (Below.refl _ _) ⟨?_, ?_, ?_, ?_, ?_, ?_, ?_, ?_, ?_, ?_, ?_, ?_, ?_, ?_, ?_, trivial⟩ ?_
        · exact (opOb_move _ rfl (.inl rfl) rfl)
        · exact (opOb_move _ rfl (.inl rfl) rfl)
        · exact opOb_slc rfl rfl (OpK.tmp rfl) OpKo.no (OpKo.tmp rfl) (fun w => cut_toZ (z := 32) Tryd.underlying22 (by kernel_rfl) A n c p (by omega) w)
        · exact (opOb_move _ rfl (.inl rfl) rfl)
        · exact opOb_bin rfl rfl rfl (OpK.tmp rfl) OpK.const (fun w => subd d (by omega) w)
        · exact (opOb_move _ rfl (.inl rfl) rfl)
        · exact opOb_fn3 ent_tree rfl rfl (OpK.tmp rfl) (OpK.tmp rfl) (OpK.tmp rfl) (fun w' hb => (ih p c A x m cz Z w' (by omega) (by omega) (by omega) (((HX.out.below (HW6.out.trans (hb.mono HW6.out.size))).more (Nat.le_trans HW6.out.size hb.size)).short (by omega)) (fun i => HXl.out _) ((HZ.out.below (HW6.out.trans (hb.mono HW6.out.size))).more (Nat.le_trans HW6.out.size hb.size)) (by omega) (HP.out.below (HW6.out.trans (hb.mono HW6.out.size)))).mono fun e w'' ⟨he, hb2⟩ => ⟨_, he, rfl, hb2⟩)
        · exact (opOb_move _ rfl (.inl rfl) rfl)
        · exact (opOb_move _ rfl (.inl rfl) rfl)
        · exact opOb_slc rfl rfl (OpK.tmp rfl) (OpKo.tmp rfl) OpKo.no (fun w => HCt.out.1 w)
        · exact (opOb_move _ rfl (.inl rfl) rfl)
        · exact opOb_bin rfl rfl rfl (OpK.tmp rfl) OpK.const (fun w => subd d (by omega) w)
        · exact (opOb_move _ rfl (.inl rfl) rfl)
        · exact opOb_fn3 ent_tree rfl rfl (OpK.tmp rfl) (OpK.tmp rfl) (OpK.tmp rfl) (fun w' hb => (ih (n - p) (c - p) A2 (fun i => x (p * 32 + i)) m cz Z w' (by omega) (by omega) (by omega) (HCt.out.2 w' _ (u8v x) ((HX.out.below (HW6.out.trans (hb.mono HW6.out.size))).more (Nat.le_trans HW6.out.size hb.size))) (fun i => HXl.out _) ((HZ.out.below (HW6.out.trans (hb.mono HW6.out.size))).more (Nat.le_trans HW6.out.size hb.size)) (by omega) (HP.out.below (HW6.out.trans (hb.mono HW6.out.size)))).mono fun e w'' ⟨he, hb2⟩ => ⟨_, he, rfl, hb2⟩)
        · exact opOb_fn2 ent_two rfl rfl (OpK.tmp rfl) (OpK.tmp rfl) (fun w' hb => (refTwo_any (treeN d p x) (treeN d (n - p) (fun i => x (p * 32 + i))) (treeN_lt HXl.out _ _) (treeN_lt (fun i => HXl.out _) _ _) w' (HP.out.below (HW6.out.trans (hb.mono HW6.out.size)))).mono fun e w'' ⟨he, hb2⟩ => ⟨_, he, rfl, hb2⟩)
        · intro w' hb
          simp only [fin, SF.is, forall_eq]
          simp only [Act.put, List.setIfInBounds_toArray, List.set_cons_succ, List.set_cons_zero]
          have hs := HS6.out.below hb
          refine wp_storeL 30 (.tmp 6) (.tmp 44) rfl hs 0 rfl (u8v (shaB (catN 32 (treeN d p x) (treeN d (n - p) (fun i => x (p * 32 + i)))) 64)) rfl rfl (by kernel_rfl) (fun _ _ => rfl) ?_
          clear hs hb
          intro wy hs
          have HY := Lib.hid hs
          clear hs
          simp only [seqWp]
          go_wp2_with fail
          exact ret_rowIs rfl (HY.out.row 0 rfl) _ rfl Tryd.underlying30 rfl (by kernel_rfl) rfl ⟨by rw [treeN_succ d n p x hn0 hmin], HY.out.out (by simp; omega)⟩
      · have hmin : min (2 ^ d) n = n := by omega
        clear hb hx hz hp hp2
        go_enter Tryd.func43, Tryd.ntmps43
        have hh : n ≤ n := by omega
        obtain ⟨A2, hct⟩ := cut_fromZ (P := Tryd.prog) Tryd.underlying22 (z := 32) (by kernel_rfl) (by omega) A n c n hh hnc
        have HCt := Lib.hid hct
        clear hct
        go_wp2_with (first
          | (refine wpList_allocL rfl 30 6 rfl rfl HS0.out (Array.replicate 32 (.int .u8 0)) (by kernel_rfl) 32 (u8v fun _ => 0) (by rfl) (zero_at 32 (.int .u8 0)) ?_; intro b6 w6 hb6 hc6 hs6; have HS6 := Lib.hid hs6; clear hs6)
          | (refine wpList_as rfl 21 rfl (.int .i64 (d : Int)) ?_ ?_; (· exact ex_bin rfl rfl rfl rfl (fun w => subd d (by omega) w) _))
          | (refine wpList_as rfl 23 rfl (.int .i64 (p : Int)) ?_ ?_; (· rw [HPw.out]; exact ex_bin rfl rfl rfl rfl (fun w => TreeRef.shl1 d (by omega) w) _)))
        have HW6 := Lib.hid (HS6.out.out (by simp; omega))
        refine wp_region_factsS (l := [_, _, _, _, _, _, _, _, _, _, _, _, _, _, _]) (tl := []) (B := w6.heap.size) (w0 := w6) [SF.is (.slice (A) (n) (c)), SF.is (.int .i64 ((n : Nat) : Int)), SF.is (.slice (A) (n) (c)), SF.is (.int .i64 ((d + 1 : Nat) : Int)), SF.is (.int .i64 ((d : Nat) : Int)), SF.is (.slice (Z) (m) (cz)), SF.is (rootV (treeN d n x)), SF.is (.slice (A) (n) (c)), SF.is (.int .i64 ((n : Nat) : Int)), SF.is (.slice (A2) (n - n) (c - n)), SF.is (.int .i64 ((d + 1 : Nat) : Int)), SF.is (.int .i64 ((d : Nat) : Int)), SF.is (.slice (Z) (m) (cz)), SF.is (rootV (treeN d (n - n) (fun i => x (n * 32 + i)))), SF.is (rootV (shaB (catN 32 (treeN d n x) (treeN d (n - n) (fun i => x (n * 32 + i)))) 64))] (by kernel_rfl) (by kernel_rfl) rfl (Nat.le_refl _) (Below.refl _ _) ⟨?_, ?_, ?_, ?_, ?_, ?_, ?_, ?_, ?_, ?_, ?_, ?_, ?_, ?_, ?_, trivial⟩ ?_
        · exact (opOb_move _ rfl (.inl rfl) rfl)
        · exact (opOb_move _ rfl (.inl rfl) rfl)
        · exact opOb_slc rfl rfl (OpK.tmp rfl) OpKo.no (OpKo.tmp rfl) (fun w => cut_toZ (z := 32) Tryd.underlying22 (by kernel_rfl) A n c n (by omega) w)
        · exact (opOb_move _ rfl (.inl rfl) rfl)
        · exact opOb_bin rfl rfl rfl (OpK.tmp rfl) OpK.const (fun w => subd d (by omega) w)
        · exact (opOb_move _ rfl (.inl rfl) rfl)
        · exact opOb_fn3 ent_tree rfl rfl (OpK.tmp rfl) (OpK.tmp rfl) (OpK.tmp rfl) (fun w' hb => (ih n c A x m cz Z w' (by omega) (by omega) (by omega) (((HX.out.below (HW6.out.trans (hb.mono HW6.out.size))).more (Nat.le_trans HW6.out.size hb.size)).short (by omega)) (fun i => HXl.out _) ((HZ.out.below (HW6.out.trans (hb.mono HW6.out.size))).more (Nat.le_trans HW6.out.size hb.size)) (by omega) (HP.out.below (HW6.out.trans (hb.mono HW6.out.size)))).mono fun e w'' ⟨he, hb2⟩ => ⟨_, he, rfl, hb2⟩)
        · exact (opOb_move _ rfl (.inl rfl) rfl)
        · exact (opOb_move _ rfl (.inl rfl) rfl)
        · exact opOb_slc rfl rfl (OpK.tmp rfl) (OpKo.tmp rfl) OpKo.no (fun w => HCt.out.1 w)
        · exact (opOb_move _ rfl (.inl rfl) rfl)
        · exact opOb_bin rfl rfl rfl (OpK.tmp rfl) OpK.const (fun w => subd d (by omega) w)
        · exact (opOb_move _ rfl (.inl rfl) rfl)
        · exact opOb_fn3 ent_tree rfl rfl (OpK.tmp rfl) (OpK.tmp rfl) (OpK.tmp rfl) (fun w' hb => (ih (n - n) (c - n) A2 (fun i => x (n * 32 + i)) m cz Z w' (by omega) (by omega) (by omega) (HCt.out.2 w' _ (u8v x) ((HX.out.below (HW6.out.trans (hb.mono HW6.out.size))).more (Nat.le_trans HW6.out.size hb.size))) (fun i => HXl.out _) ((HZ.out.below (HW6.out.trans (hb.mono HW6.out.size))).more (Nat.le_trans HW6.out.size hb.size)) (by omega) (HP.out.below (HW6.out.trans (hb.mono HW6.out.size)))).mono fun e w'' ⟨he, hb2⟩ => ⟨_, he, rfl, hb2⟩)
        · exact opOb_fn2 ent_two rfl rfl (OpK.tmp rfl) (OpK.tmp rfl) (fun w' hb => (refTwo_any (treeN d n x) (treeN d (n - n) (fun i => x (n * 32 + i))) (treeN_lt HXl.out _ _) (treeN_lt (fun i => HXl.out _) _ _) w' (HP.out.below (HW6.out.trans (hb.mono HW6.out.size)))).mono fun e w'' ⟨he, hb2⟩ => ⟨_, he, rfl, hb2⟩)
        · intro w' hb
          simp only [fin, SF.is, forall_eq]
          simp only [Act.put, List.setIfInBounds_toArray, List.set_cons_succ, List.set_cons_zero]
          have hs := HS6.out.below hb
          refine wp_storeL 30 (.tmp 6) (.tmp 44) rfl hs 0 rfl (u8v (shaB (catN 32 (treeN d n x) (treeN d (n - n) (fun i => x (n * 32 + i)))) 64)) rfl rfl (by kernel_rfl) (fun _ _ => rfl) ?_
          clear hs hb
          intro wy hs
          have HY := Lib.hid hs
          clear hs
          simp only [seqWp]
          go_wp2_with fail
          exact ret_rowIs rfl (HY.out.row 0 rfl) _ rfl Tryd.underlying30 rfl (by kernel_rfl) rfl ⟨by rw [treeN_succ d n n x hn0 hmin], HY.out.out (by simp; omega)⟩
end Go.Proofs.YtlcpflaofggmeaaDoor
