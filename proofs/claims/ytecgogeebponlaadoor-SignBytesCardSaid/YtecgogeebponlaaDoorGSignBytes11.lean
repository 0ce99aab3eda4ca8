/- Part 11 of what the proof of SignBytes stands on: Ptr, ShaRef2, SignDom, SignDomain. -/
import Derived.Test.YtecgogeebponlaaDoorGSignBytes10
import Derived.Test.YtecgogeebponlaaDoorGSignBytes8
import Derived.Test.YtecgogeebponlaaDoorGSignBytes3
/- In drawn regions: slices of elements of many cells, and where an element lies. -/
namespace Go.Proofs.YtecgogeebponlaaDoor
set_option maxRecDepth 40000
open Go.RowKit
/-- A slice of n elements of z cells that reads as f. -/
def SF.rdZ (n z : Nat) (f : Nat → Value) : SF := ⟨fun v w => ∃ A c, v = .slice A n c ∧ Rd w w.heap.size A (n * z) f, fun _ _ _ ⟨A, c, e, h⟩ hb => ⟨A, c, e, (h.below hb).more hb.size⟩⟩
theorem add_blk (ad : Addr) (i : Nat) : (ad.add i).block = ad.block := by unfold Addr.add; split <;> rfl
theorem add_add (ad : Addr) (m n : Nat) : (ad.add m).add n = ad.add (m + n) := by
  unfold Addr.add
  by_cases hm : m = 0
  · subst hm; simp
  · by_cases hn : n = 0
    · subst hn; simp [hm]
    · simp [hm, hn, Nat.add_assoc]
/-- A pointer to n cells that read as f. -/
def SF.ptr (n : Nat) (f : Nat → Value) : SF := ⟨fun v w => ∃ ad : Addr, v = .pointer (some ad) ∧ ad.block < w.heap.size ∧ ∀ i, i < n → w.cell? (ad.add i) = some (f i), fun _ w w' ⟨ad, e, h, hc⟩ hb => ⟨ad, e, Nat.lt_of_lt_of_le h hb.size, fun i hi => by
  rw [hb.cell (p := ad.add i) (by rw [add_blk]; exact h)]; exact hc i hi⟩⟩
section
variable {P : Program} {ops : Array Oper} {B : Nat} {w0 : World} {o : Oper} {lk : Tmp → SF} {ty : TypeId}
theorem run_idxZ (w : World) {t e : TypeId} {z n c k : Nat} (hu : P.underlying t = some (.slice e)) (hz : (P.info? e).map (·.size) = some z) (ad : Addr) (hk : k < n) : (Instr.indexAt t (.slice (some ad) n c) (.int .i64 (k : Int))).run P w = .ok (.pointer (some (ad.add (k * z)))) w := by
  unfold Instr.indexAt
  simp [run_underlying hu, sizeOf_run hz, go_sem, asIntOf, hk]
theorem opOb_idxZ {x : Tmp} {i : Operand} {e : TypeId} {n z k : Nat} {f : Nat → Value} (f' : Nat → Value) (hf' : ∀ q, q < z → f (k * z + q) = f' q) (hu : P.underlying ty = some (.slice e)) (hz : (P.info? e).map (·.size) = some z) (h0 : 0 < z) (hk : k < n) (hg : o.guard = none) (hop : o.op = .indexAddr ty (.tmp x) i) (hx : lk x = SF.rdZ n z f) (hi : OpK lk i (.int .i64 (k : Int))) :
    opOb P ops B w0 o (SF.ptr z f') lk :=
  opOb_of hg fun a w _ hf => by
    have h1 := hf x (by rw [hop]; simp [Op.operands])
    rw [hx] at h1
    obtain ⟨A, c, e1, h1⟩ := h1
    have h2 := hi.eval hf (by rw [hop]; simp [Op.operands])
    have hkz : k * z + z ≤ n * z := by rw [← Nat.succ_mul]; exact Nat.mul_le_mul_right _ hk
    obtain ⟨ad, rfl, hb, hc⟩ := h1 (by omega)
    have h1' : a.eval (.tmp x) = .slice (some ad) n c := (getD_eq _ _).trans e1
    have hrun : (execOp a.eval o).run P w = .ok (.value (.pointer (some (ad.add (k * z))))) w := by
      unfold execOp
      rw [hop]
      simp only [h1', h2]
      simp [run_idxZ w hu hz ad hk]
    unfold Oper.wp
    rw [hrun]
    refine ⟨_, rfl, ⟨ad.add (k * z), rfl, by rw [add_blk]; exact hb, fun i hi => ?_⟩, Below.refl _ _⟩
    rw [add_add, ← hf' i hi]
    exact hc _ (by omega)
theorem opOb_ldP {x : Tmp} {n : Nat} {f : Nat → Value} {d : TypeDesc} (hu : P.underlying ty = some d) (hd : (match d with | .struct _ | .array _ _ => true | _ => false) = true) (hi : (P.info? ty).map (·.size) = some n) (hg : o.guard = none) (hop : o.op = .load ty (.tmp x)) (hx : lk x = SF.ptr n f) :
    opOb P ops B w0 o (SF.is (.agg (arr n f))) lk :=
  opOb_val _ hg fun a w _ hf => by
    have h1 := hf x (by rw [hop]; simp [Op.operands])
    rw [hx] at h1
    obtain ⟨ad, e1, hb, hc⟩ := h1
    have h1' : a.eval (.tmp x) = .pointer (some ad) := (getD_eq _ _).trans e1
    unfold execOp
    rw [hop]
    simp only [h1']
    simp [run_loadAt_rd w ad n ty d f hc hu hd hi]
end
end Go.Proofs.YtecgogeebponlaaDoor
/- The walks of the reference's Sum and Two. (Printed by a program of mine.) -/
namespace Go.Proofs.YtecgogeebponlaaDoor
set_option maxRecDepth 40000
open Go.RowKit

theorem root_byte (H : Nat → W32) (j : Nat) : Value.int .u8 (((H (j / 4)).toNat : Int) / 2 ^ (24 - 8 * (j % 4)) % 256) = .int .u8 ((rootOf H j : Nat) : Int) := by
  unfold rootOf
  rw [BitVec.toNat_ushiftRight, Nat.shiftRight_eq_div_pow]
  simp
theorem ent_block (vs : Array Value) (w : World) : (callFunc 46 vs).run Tryd.prog w = .ok (.enter 46 vs) w := by kernel_rfl
theorem built_h0 : Tryd.prog.built 91 [(0, .int .u32 1779033703), (1, .int .u32 3144134277), (2, .int .u32 1013904242), (3, .int .u32 2773480762), (4, .int .u32 1359893119), (5, .int .u32 2600822924), (6, .int .u32 528734635), (7, .int .u32 1541459225)] = some #[wv (h0 0), wv (h0 1), wv (h0 2), wv (h0 3), wv (h0 4), wv (h0 5), wv (h0 6), wv (h0 7)] := by kernel_rfl
/-- The reference's package variables lie where they were laid. -/
def RefPkg (w : World) : Prop := ∀ i, i < 64 → w.cell? ⟨2, i, none⟩ = some (wv (kw i))
theorem RefPkg.lt {w : World} (h : RefPkg w) : 2 < w.heap.size := by have := h 0 (by omega); exact cell_lt0 this
theorem RefPkg.below {w w' : World} (h : RefPkg w) (hb : Below w.heap.size w w') : RefPkg w' := fun i hi => (hb.cell (p := ⟨2, i, none⟩) h.lt).trans (h i hi)

set_option maxHeartbeats 4000000 in
theorem refSum_any (n c : Nat) (A : Option Addr) (x : Nat → Nat) (w : World) (hb : Rd w w.heap.size A n (u8v x)) (hx : ∀ i, x i < 256) (hn : n ≤ 140737488355200) (hp : RefPkg w) :
    Calls Tryd.prog 38 #[.slice A n c] w fun e w' => e = .returned (rootV (shaB x n)) ∧ Below w.heap.size w w' := by
  have HP := Lib.hid hp
  have HB := Lib.hid hb
  obtain ⟨P, hPd⟩ : ∃ P, P = padF n x := ⟨_, rfl⟩
  obtain ⟨N, hN⟩ : ∃ N, N = nb n := ⟨_, rfl⟩
  have hres : shaB x n = rootOf (Hs P N) := by rw [hPd, hN]; rfl
  have hP : ∀ i, P i < 256 := fun i => by rw [hPd]; exact padF_lt _ _ hx i
  have hnb : 64 * N ≤ n + 72 := by rw [hN]; unfold nb; omega
  rw [hres]
  have HPl := Lib.hid hP
  have HH := Lib.hid (show padF n x = P ∧ nb n = N from ⟨hPd.symm, hN.symm⟩)
  have H0 := Lib.hid (((HS.nil w).allocB _ _ 24 32 _ (by rfl) (zero_at 32 (.int .u8 0)) rfl).allocB (w.heap.size + 1) _ 91 8 _ rfl h0_at (by simp))
  clear hp hb hres hP hPd hN hx
  go_enter Tryd.func38, Tryd.ntmps38
  go_wp2_with (first
    | (refine wpList_build_as rfl 91 #[(0, .const (.int .u32 1779033703)), (1, .const (.int .u32 3144134277)), (2, .const (.int .u32 1013904242)), (3, .const (.int .u32 2773480762)), (4, .const (.int .u32 1359893119)), (5, .const (.int .u32 2600822924)), (6, .const (.int .u32 528734635)), (7, .const (.int .u32 1541459225))] rfl [(0, .int .u32 1779033703), (1, .int .u32 3144134277), (2, .int .u32 1013904242), (3, .int .u32 2773480762), (4, .int .u32 1359893119), (5, .int .u32 2600822924), (6, .int .u32 528734635), (7, .int .u32 1541459225)] rfl _ built_h0 ?_)
    | (go_at_call 45; refine (padded_any n c A x _ (HB.out.below ((H0.out.out (by simp)).mono (Nat.le_refl _)) |>.more (H0.out.size)) hn).mono ?_; rintro e w3 ⟨A', c', rfl, hown, hbel⟩; rw [HH.out.1, HH.out.2] at hown; rw [HH.out.2]; have HO := Lib.hid (And.intro hown hbel); clear hown hbel))
  obtain ⟨hown, hbel3⟩ := HO.out
  have hs3 := H0.out.below hbel3
  have hsw := hs3.size
  have hcap := hown.cap
  have HRd := Lib.hid hown.rd
  have hapt : Hi A' (64 * N) (w.heap.size + 2) := fun _ ad e => by have := (hown.base_le ad e).1; simp at this; omega
  have HAp := Lib.hid hapt
  have HBl := Lib.hid (hs3.out (by simp))
  have HS3 := Lib.hid (((HS.nil w3).take (hs3.row 1 rfl) (fun r hr => by cases hr)).take (hs3.row 0 rfl) (fun r hr => by simp at hr; subst hr; show w.heap.size ≠ w.heap.size + 1; omega))
  clear hown hbel3 hs3 hapt HO H0
  go_loopw [4] (fun s wr => ∃ (k rem : Nat) (Ak : Option Addr) (ck : Nat), s = .slice Ak rem ck ∧ 64 * k + rem = 64 * N ∧ rem ≤ ck ∧ Rd w3 w3.heap.size Ak rem (u8v fun i => P (64 * k + i)) ∧ Hi Ak rem (w.heap.size + 2) ∧ HS w3 wr [⟨w.heap.size + 1, 91, 8, fun i => wv (Hs P k i)⟩, ⟨w.heap.size, 24, 32, fun _ => .int .u8 0⟩]) (fun s _ => match s with | .slice _ k _ => k | _ => 0)
  case atStart => exact ⟨0, 64 * N, A', c', rfl, by omega, hcap, HRd.out.congr (fun i _ => by simp only [u8v, Nat.mul_zero, Nat.zero_add]), HAp.out, HS3.out⟩
  case round =>
    clear HRd HAp HS3
    obtain ⟨k, rem, Ak, ck, rfl, hrem, hck, hrd, hap, hs⟩ := hrel
    have hg1 : w.heap.size + 1 < wr.heap.size := hs.lt 0 rfl
    have hcell : ∀ i, i < 8 → wr.cell? ⟨w.heap.size + 1, i, none⟩ = some (wv (Hs P k i)) := fun i hi => hs.cell 0 i rfl hi
    have HSr := Lib.hid hs
    have HRd := Lib.hid hrd
    have HAp := Lib.hid hap
    have HC := Lib.hid hcell
    clear hs hrd hap hcell
    by_cases hr0 : 0 < rem
    · have h64 : 64 ≤ rem := by omega
      go_wp2_with fail
      have hs := HSr.out
      have hcell := HC.out
      refine wp_region_factsS (l := [_, _, _]) (tl := [_]) (B := wr.heap.size) (w0 := wr) [SF.is (.agg #[wv (Hs P k 0), wv (Hs P k 1), wv (Hs P k 2), wv (Hs P k 3), wv (Hs P k 4), wv (Hs P k 5), wv (Hs P k 6), wv (Hs P k 7)]), SF.is (.slice (Ak) (rem) (ck)), SF.is (.slice (Ak) (64) (ck))] (by kernel_rfl) (by kernel_rfl) rfl (Nat.le_refl _) (Below.refl _ _) ⟨?_, ?_, ?_, trivial⟩ ?_
      · exact opOb_ld rfl rfl (OpK.tmp rfl) (fun w' hb => run_loadAt_part w' _ 0 8 _ _ (fun i => wv (Hs P k i)) (fun i hi => by rw [Nat.zero_add]; exact (hb.cell (p := ⟨w.heap.size + 1, i, none⟩) hg1).trans (hcell i hi)) Tryd.underlying91 rfl (by kernel_rfl))
      · exact (opOb_move _ rfl (.inl rfl) rfl)
      · exact opOb_slc rfl rfl (OpK.tmp rfl) OpKo.no OpKo.const (fun w => cut_to Tryd.underlying39 (by kernel_rfl) Ak rem ck 64 (by omega) w)
      · intro w' hb
        simp only [fin, SF.is, forall_eq]
        simp only [Act.put, List.setIfInBounds_toArray, List.set_cons_succ, List.set_cons_zero]
        clear hcell
        have hs1 := hs.below hb
        refine wp_fn ent_block #[.agg #[wv (Hs P k 0), wv (Hs P k 1), wv (Hs P k 2), wv (Hs P k 3), wv (Hs P k 4), wv (Hs P k 5), wv (Hs P k 6), wv (Hs P k 7)], .slice Ak 64 ck] rfl rfl ?_
        refine (block_any 64 ck w3.heap.size Ak (Hs P k) (fun i => P (64 * k + i)) w' (fun i => HPl.out _) ((HRd.out.short h64).hs hs1 (Nat.le_refl _) (fun _ ad e r hr => by have := HAp.out hr0 ad e; simp at hr; rcases hr with rfl | rfl; (· show w.heap.size + 1 ≠ ad.block; omega); (· show w.heap.size ≠ ad.block; omega))) hs1.size (Nat.le_refl _) (by omega)
          (HP.out.below (HBl.out.trans (hs1.old hsw (by simp))))).mono ?_
        rintro e w4 ⟨rfl, hb4⟩
        have hs4 := hs1.below hb4
        refine ⟨_, rfl, ?_⟩
        refine wp_sto_arr rfl (hs4.row 0 rfl) _ rfl rfl rfl (by kernel_rfl) (fun i hi => ⟨_, w8_at _ i hi, rfl⟩) ?_
        have hs5 := hs4.setRow 0 rfl _ rfl (fun i => wv (Hs P (k + 1) i)) (fun i hi => w8_at (comp (Hs P k) (blk P k)) i hi)
        have HS5 := Lib.hid hs5
        clear hs hs1 hb hs4 hs5 hb4
        simp only [seqWp]
        obtain ⟨A2, hcut0, hcut2⟩ := cut_from (P := Tryd.prog) Tryd.underlying39 (by kernel_rfl) Ak rem ck 64 h64 hck
        have hcut : ∀ w : World, (Instr.sliceAt 39 (.slice Ak rem ck) (some (.int .i64 64)) none none).run Tryd.prog w = .ok (.slice A2 (rem - 64) (ck - 64)) w := hcut0
        clear hcut0
        have HCt := Lib.hid hcut2
        clear hcut2
        go_wp2_with fail
        go_roundw
        case rel => exact ⟨k + 1, rem - 64, A2, ck - 64, rfl, by omega, by omega, (HCt.out.rd HRd.out).congr (fun i _ => congrArg (fun k => Value.int .u8 ((P k : Nat) : Int)) (show 64 * k + (64 + i) = 64 * (k + 1) + i by omega)), HCt.out.hi HAp.out, HS5.out⟩
        case measure => show rem - 64 < rem; omega
    · obtain rfl : rem = 0 := by omega
      obtain rfl : k = N := by omega
      clear hg1 HC HRd HAp
      obtain ⟨wo, rfl⟩ : ∃ wo : World, wo = wr := ⟨_, rfl⟩
      go_wp2_with fail
      have H6 := Lib.hid (HSr.out.allocB _ _ 24 32 (u8v fun _ => 0) (by rfl) (zero_at 32 (.int .u8 0)) rfl)
      have hw6 : w.heap.size + 2 ≤ wo.heap.size := by have := HSr.out.lt 0 rfl; omega
      go_loopw [6] (fun i wq => ∃ j : Nat, j ≤ 32 ∧ i = .int .i64 j ∧ HS w3 wq [⟨wo.heap.size, 24, 32, u8v fun i => if i < j then rootOf (Hs P k) i else 0⟩, ⟨w.heap.size + 1, 91, 8, fun i => wv (Hs P k i)⟩, ⟨w.heap.size, 24, 32, fun _ => .int .u8 0⟩]) (fun i _ => 32 - (intOf i).toNat)
      case atStart => exact ⟨0, by omega, rfl, H6.out⟩
      case round =>
        clear H6
        obtain ⟨j, hj, rfl, hs⟩ := hrel
        by_cases hj32 : j < 32
        · have ch := hs.cell 1 (j / 4) rfl (by show j / 4 < 8; omega)
          have co := hs.cell 0 j rfl hj32
          have fo := hs.frozen 0 j rfl
          have HSq := Lib.hid hs
          clear hs
          go_wp2_with fail
          go_roundw
          case rel =>
            refine ⟨j + 1, by omega, by go_num, ?_⟩
            rw [root_byte]
            refine (HSq.out.set 0 j rfl _).congr 0 rfl (fun i _ => ?_)
            by_cases e : i = j
            · subst e; rw [if_pos rfl]; simp only [u8v]; rw [if_pos (by omega)]
            · rw [if_neg e]; simp only [u8v]
              by_cases e2 : i < j
              · rw [if_pos e2, if_pos (by omega)]
              · rw [if_neg e2, if_neg (by omega)]
          case measure => simp [intOf]; omega
        · obtain rfl : j = 32 := by omega
          have HX := Lib.hid (heap_arr (hs.row 0 rfl))
          have HR := Lib.hid (hs.row 2 rfl)
          have HSq := Lib.hid hs
          clear hs
          go_wp2_with (first
            | (refine wpList_load_row rfl 24 (.tmp 5) rfl wo.heap.size rfl 24 _ _ _ HX.out Tryd.underlying24 rfl (by kernel_rfl) ?_)
            | (refine wpList_store_arr rfl 24 (.tmp 2) (.tmp 36) rfl HR.out _ rfl rfl (size_arr _ _) (by kernel_rfl) (fun i hi => ⟨_, arr_at _ _ i hi, rfl⟩) ?_))
          have hend := HSq.out.setRow 2 rfl (arr 32 (u8v fun i => if i < 32 then rootOf (Hs P k) i else 0)) (size_arr _ _) _ (fun i hi => arr_at _ _ i hi)
          refine ret_rowIs rfl (hend.row 2 rfl) _ rfl Tryd.underlying24 rfl (by kernel_rfl) rfl ?_
          refine ⟨?_, HBl.out.trans (hend.old hsw (by simp; omega))⟩
          rw [arr_congr (g := u8v (rootOf (Hs P k))) (fun i hi => by simp only [u8v]; rw [if_pos hi])]

theorem ent_refSum (vs : Array Value) (w : World) : (callFunc 38 vs).run Tryd.prog w = .ok (.enter 38 vs) w := by kernel_rfl
theorem run_bs0_u8 (w : World) : (Instr.buildSlice 39 0 #[]).run Tryd.prog w = .ok (.slice (some ⟨w.heap.size, 0, none⟩) 0 0) (w.alloc (.cells #[] 5)) := by simp [go_sem]
theorem cat_F (x y : Nat → Nat) (n : Nat) : ∀ i, i < n → catF 32 (u8v x) (u8v y) i = u8v (catN 32 x y) i := fun i _ => by
  simp only [catF, u8v, catN]; split <;> rfl

set_option maxHeartbeats 2000000 in
theorem refTwo_any (x y : Nat → Nat) (hx : ∀ i, x i < 256) (hy : ∀ i, y i < 256) (w : World) (hp : RefPkg w) :
    Calls Tryd.prog 30 #[rootV x, rootV y] w fun e w' => e = .returned (rootV (shaB (catN 32 x y) 64)) ∧ Below w.heap.size w w' := by
  have HP := Lib.hid hp
  have HX := Lib.hid hx
  have HY := Lib.hid hy
  clear hp hx hy
  go_enter Tryd.func30, Tryd.ntmps30
  go_wp2
  refine HS.go (w0 := w) (rows := [⟨w.heap.size + 2, 24, 32, u8v fun _ => 0⟩, ⟨w.heap.size + 1, 24, 32, u8v y⟩, ⟨w.heap.size, 24, 32, u8v x⟩])
    (by exact (((HS.nil w).allocB _ (arr 32 (u8v x)) 24 32 _ (size_arr _ _) (arr_at _ _) rfl).allocB _ (arr 32 (u8v y)) 24 32 _ (size_arr _ _) (arr_at _ _) (by simp)).allocB _ _ 24 32 _ (by rfl) (zero_at 32 (.int .u8 0)) (by simp)) (fun wr hs => ?_)
  have hw : w.heap.size + 2 < wr.heap.size := hs.lt 0 rfl
  have R2 : wr.rowIs w.heap.size 24 32 (u8v x) := hs.row 2 rfl
  refine wp_region_factsS (l := [_, _, _, _]) (tl := [_, _]) (B := wr.heap.size) (w0 := wr) [SF.own0 wr.heap.size 5, SF.is (.slice (some ⟨w.heap.size, 0, none⟩) (32) (32)), SF.own wr.heap.size 5 32 (u8v x), SF.is (.slice (some ⟨w.heap.size + 1, 0, none⟩) (32) (32))] (by kernel_rfl) (by kernel_rfl) rfl (Nat.le_refl _) (Below.refl _ _) ⟨?_, ?_, ?_, ?_, trivial⟩ ?_
  · exact opOb_bs0 rfl rfl run_bs0_u8 _ (Nat.le_refl _)
  · exact opOb_slc rfl rfl (OpK.tmp rfl) (OpKo.no) (OpKo.no) (fun w => cut_arr Tryd.underlying24 1 (by kernel_rfl) none none (0) (32) (.inl ⟨rfl, rfl⟩) (.inl ⟨rfl, rfl⟩) (by omega) (by omega) (by omega) (by omega) (by omega) (by omega))
  · exact opOb_app0 (s := 5) (x := 6) wr.heap.size u8_info Tryd.underlying39 rfl rfl rfl (by rfl) (by rfl) (fun w' hb => Rd.of_row (row_below (B := wr.heap.size) R2 hb (by omega)) (Nat.le_refl _) (Nat.lt_succ_self _)) (fun _ _ => rfl) (by omega) (Nat.le_refl _)
  · exact opOb_slc rfl rfl (OpK.tmp rfl) (OpKo.no) (OpKo.no) (fun w => cut_arr Tryd.underlying24 1 (by kernel_rfl) none none (0) (32) (.inl ⟨rfl, rfl⟩) (.inl ⟨rfl, rfl⟩) (by omega) (by omega) (by omega) (by omega) (by omega) (by omega))
  · intro w' hb
    simp only [fin, SF.is, SF.own, SF.own0, forall_eq]
    rintro _ ⟨_, rfl, _⟩ _ ⟨A7, c7, rfl, ho7⟩
    simp only [Act.put, List.setIfInBounds_toArray, List.set_cons_succ, List.set_cons_zero]
    have hs1 := hs.below hb
    have hlo : ∀ ad, A7 = some ad → wr.heap.size ≤ ad.block := fun ad e => (ho7.base_le ad e).1
    refine wp_app w' (.tmp 7) (.tmp 8) 39 rfl wr.heap.size 5 _ _ 1 Tryd.underlying39 (info_parts u8_info).choose_spec.1 (info_parts u8_info).choose_spec.2.1 (info_parts u8_info).choose_spec.2.2.1 (info_parts u8_info).choose_spec.2.2.2 rfl rfl rfl ho7 (Rd.of_row (hs1.row 1 rfl) (Nat.le_refl _) (hs1.lt 1 rfl)) (fun _ _ => rfl) (by omega) hb.size ?_
    intro A9 c9 w4 ho9 hg9 ha9
    have hb4 : Below wr.heap.size w' w4 := below_app (Below.refl _ _) hg9 hb.size hlo
    have hs4 : HS w w4 _ := hs.below (hb.trans hb4)
    refine wp_fn ent_refSum #[.slice A9 64 c9] rfl rfl ?_
    refine (refSum_any 64 c9 A9 (catN 32 x y) w4 (ho9.rd.congr (cat_F x y 64)) (catN_lt HX.out HY.out) (by omega) (HP.out.below (hs4.out (by simp)))).mono ?_
    rintro e w5 ⟨rfl, hb5⟩
    have hs5 := hs4.below hb5
    refine ⟨_, rfl, ?_⟩
    refine wp_sto_arr rfl (hs5.row 0 rfl) _ rfl rfl (size_arr _ _) (by kernel_rfl) (fun i hi => ⟨_, arr_at _ _ i hi, rfl⟩) ?_
    have hend := hs5.setRow 0 rfl (arr 32 (u8v (shaB (catN 32 x y) 64))) (size_arr _ _) _ (fun i hi => arr_at _ _ i hi)
    have HE := Lib.hid hend
    clear hs hs1 hs4 hs5 hend hb hb4 hb5 ho7 ho9 hg9 ha9 hlo R2 hw
    simp only [seqWp]
    go_wp2_with fail
    exact ret_rowIs rfl (HE.out.row 0 rfl) _ rfl Tryd.underlying24 rfl (by kernel_rfl) rfl ⟨rfl, HE.out.out (by simp)⟩
end Go.Proofs.YtecgogeebponlaaDoor
/- Domains, by the reference. (Printed by a program of mine.) -/
namespace Go.Proofs.YtecgogeebponlaaDoor
set_option maxRecDepth 40000
open Go.RowKit
namespace SignDom
theorem ent_pack (vs : Array Value) (w : World) : (callFunc 37 vs).run Tryd.prog w = .ok (.enter 37 vs) w := by kernel_rfl
theorem ent_two (vs : Array Value) (w : World) : (callFunc 30 vs).run Tryd.prog w = .ok (.enter 30 vs) w := by kernel_rfl
theorem dq1 (K : Nat) {j i : Nat} (v : Value) (hv : v = .int .u8 ((leB K j : Nat) : Int)) : (if i = j then v else u8v (fun i => if i < j then leB K i else 0) i) = u8v (fun i => if i < j + 1 then leB K i else 0) i := le_step v hv
theorem dq2 (K : Nat) (h : Nat → Nat) : ∀ i, i < 32 → u8v (fun i => if i < 4 then leB K i else 0) i = u8v (fun i => if i < 4 + 0 then catN 4 (leB K) h i else 0) i := fun i _ => by
  simp only [u8v, catN]
  by_cases e : i < 4
  · rw [if_pos e, if_pos (show i < 4 + 0 by omega), if_pos e]
  · rw [if_neg e, if_neg (show ¬ i < 4 + 0 by omega)]
theorem dq3 (K : Nat) (h : Nat → Nat) {j i : Nat} (v : Value) (hv : v = .int .u8 ((h j : Nat) : Int)) : (if i = 4 + j then v else u8v (fun i => if i < 4 + j then catN 4 (leB K) h i else 0) i) = u8v (fun i => if i < 4 + (j + 1) then catN 4 (leB K) h i else 0) i := by
  by_cases e : i = 4 + j
  · subst e
    rw [if_pos rfl, hv]
    simp only [u8v, catN]
    rw [if_pos (show 4 + j < 4 + (j + 1) by omega), if_neg (show ¬ 4 + j < 4 by omega), show 4 + j - 4 = j by omega]
  · rw [if_neg e]
    simp only [u8v]
    by_cases e2 : i < 4 + j
    · rw [if_pos e2, if_pos (show i < 4 + (j + 1) by omega)]
    · rw [if_neg e2, if_neg (show ¬ i < 4 + (j + 1) by omega)]
theorem dq4 (K : Nat) (h : Nat → Nat) : ∀ i, i < 32 → u8v (fun i => if i < 4 + 28 then catN 4 (leB K) h i else 0) i = u8v (catN 4 (leB K) h) i := fun i hi => by
  simp only [u8v]; rw [if_pos (by omega)]
end SignDom
open SignDom in
set_option maxHeartbeats 4000000 in
theorem dom_ref (k : Int) (K : Nat) (hk : k % 4294967296 = (K : Int)) (v r : Nat → Nat) (hv : ∀ i, v i < 256) (hr : ∀ i, r i < 256) (w : World) (hp : RefPkg w) :
    Calls Tryd.prog 28 #[.int .i64 k, .agg (arr 4 (u8v v)), rootV r] w fun e w' => e = .returned (rootV (domN K v r)) ∧ Below w.heap.size w w' := by
  have HP := Lib.hid hp
  have HV := Lib.hid hv
  have HR := Lib.hid hr
  have HK := Lib.hid hk
  have HS0 := Lib.hid (HS.nil w)
  clear hp hv hr hk
  go_enter Tryd.func28, Tryd.ntmps28
  go_wp2_with (first
    | (refine wpList_boxL rfl 26 _ 4 rfl rfl HS0.out 4 (u8v v) rfl ?_; intro b4 w4 hb4 hc4 hs4; have HS4 := Lib.hid hs4; clear hs4)
    | (refine wpList_boxL rfl 24 _ 5 rfl rfl HS4.out 32 (u8v r) rfl ?_; intro b5 w5 hb5 hc5 hs5; have HS5 := Lib.hid hs5; clear hs5)
    | (refine wpList_allocL rfl 24 6 rfl rfl HS5.out (Array.replicate 32 (.int .u8 0)) (by kernel_rfl) 32 (u8v fun _ => 0) (by rfl) (zero_at 32 (.int .u8 0)) ?_; intro b6 w6 hb6 hc6 hs6; have HS6 := Lib.hid hs6; clear hs6)
    | (go_at_call 35; rw [HK.out]; refine (bytes_ref K _).mono ?_; rintro e w6b ⟨rfl, hbb⟩; have HS6b := Lib.hid (HS6.out.below hbb); clear hbb)
    | (refine wpList_allocL rfl 84 7 rfl rfl HS6b.out (Array.replicate 8 (.int .u8 0)) (by kernel_rfl) 8 (u8v fun _ => 0) (by rfl) (zero_at 8 (.int .u8 0)) ?_; intro b7 w7 hb7 hc7 hs7; have HS7 := Lib.hid hs7; clear hs7)
    | (refine wpList_storeH rfl 84 (.tmp 7) (.tmp 15) rfl HS7.out 0 rfl (u8v (leB K)) rfl rfl (by kernel_rfl) (fun _ _ => rfl) ?_; intro wa hs; have HA := Lib.hid hs; clear hs))
  have hs : HS w wa [⟨b7, 84, 8, u8v (leB K)⟩, ⟨b6, 24, 32, u8v fun _ => 0⟩, ⟨b5, 24, 32, u8v r⟩, ⟨b4, 26, 4, u8v v⟩] := HA.out
  clear HA
  have HA := Lib.hid hs
  clear hs HS0 HS4 HS5 HS6 HS6b HS7
  refine wp_region_factsS (l := [_, _, _, _, _, _, _]) (tl := []) (B := wa.heap.size) (w0 := wa) [SF.is (.slice (some ⟨b4, 0, none⟩) (4) (4)), SF.rdZ 1 32 (u8v (padN 4 v)), SF.ptr 32 (u8v (padN 4 v)), SF.is (rootV (padN 4 v)), SF.is (rootV r), SF.is (rootV (shaB (catN 32 (padN 4 v) r) 64)), SF.new wa.heap.size 24 32 (u8v fun _ => 0)] (by kernel_rfl) (by kernel_rfl) rfl (Nat.le_refl _) (Below.refl _ _) ⟨?_, ?_, ?_, ?_, ?_, ?_, ?_, trivial⟩ ?_
  · exact opOb_slc rfl rfl (OpK.tmp rfl) (OpKo.no) (OpKo.no) (fun w => cut_arr Tryd.underlying26 1 (by kernel_rfl) none none (0) (4) (.inl ⟨rfl, rfl⟩) (.inl ⟨rfl, rfl⟩) (by omega) (by omega) (by omega) (by omega) (by omega) (by omega))
  · exact opOb_fn1 ent_pack rfl rfl (OpK.tmp rfl) (fun w' hb => (pack_ref 4 4 _ v w' (Rd.of_row (row_below (HA.out.row 3 rfl) hb (HA.out.row 3 rfl).lt) (Nat.le_refl _) (row_below (HA.out.row 3 rfl) hb (HA.out.row 3 rfl).lt).lt) (by omega)).mono fun e w'' ⟨A', c', he, ho, hb2⟩ => ⟨_, he, ⟨A', c', rfl, ho.rd⟩, hb2⟩)
  · exact opOb_idxZ (k := 0) (u8v (padN 4 v)) (fun q _ => congrArg (u8v (padN 4 v)) (by omega)) Tryd.underlying32 (by kernel_rfl) (by omega) (by omega) rfl rfl rfl OpK.const
  · exact opOb_ldP Tryd.underlying24 rfl (by kernel_rfl) rfl rfl rfl
  · exact opOb_ld rfl rfl (OpK.tmp rfl) (fun w' hb => ld_all (HA.out.row 2 rfl) (HA.out.row 2 rfl).lt Tryd.underlying24 rfl (by kernel_rfl) w' hb)
  · exact opOb_fn2 ent_two rfl rfl (OpK.tmp rfl) (OpK.tmp rfl) (fun w' hb => (refTwo_any (padN 4 v) r (padN_lt HV.out) HR.out w' (HP.out.below ((HA.out.out (by simp; omega)).trans (hb.mono HA.out.size)))).mono fun e w'' ⟨he, hb2⟩ => ⟨_, he, rfl, hb2⟩)
  · exact opOb_new wa.heap.size rfl rfl (Array.replicate 32 (.int .u8 0)) (by kernel_rfl) 32 (u8v fun _ => 0) (by rfl) (zero_at 32 (.int .u8 0)) (Nat.le_refl _)
  · intro w' hb
    simp only [fin, SF.is, SF.new, SF.ptr, SF.rdZ, forall_eq]
    simp only [Act.put, List.setIfInBounds_toArray, List.set_cons_succ, List.set_cons_zero]
    rintro _ ⟨A17, c17, rfl, _⟩ _ ⟨a18, rfl, _, _⟩ _ ⟨b8, rfl, hc8, hr8⟩
    have hs := HA.out.below hb
    have hsz := HA.out.size
    have hs1 := hs.add hr8 (by omega) (fun r hr => by have := (HA.out.has r hr).lt; omega)
    clear hs hb hr8
    refine wp_storeL 24 (.tmp 8) (.tmp 21) rfl hs1 0 rfl (u8v (shaB (catN 32 (padN 4 v) r) 64)) rfl rfl (by kernel_rfl) (fun _ _ => rfl) ?_
    clear hs1
    intro wb hs
    have HBB : Hid (HS w wb [⟨b8, 24, 32, u8v (shaB (catN 32 (padN 4 v) r) 64)⟩, ⟨b7, 84, 8, u8v (leB K)⟩, ⟨b6, 24, 32, u8v fun _ => 0⟩, ⟨b5, 24, 32, u8v r⟩, ⟨b4, 26, 4, u8v v⟩]) := Lib.hid hs
    clear hs HA
    obtain ⟨H, hH⟩ : ∃ H, H = shaB (catN 32 (padN 4 v) r) 64 := ⟨_, rfl⟩
    have hres : domN K v r = catN 4 (leB K) H := by rw [hH]; rfl
    rw [← hH] at HBB
    have HRES := Lib.hid hres.symm
    clear hH hres
    simp only [seqWp]
    go_wp2_with (first
      | (refine wpList_allocL rfl 24 9 rfl rfl HBB.out (Array.replicate 32 (.int .u8 0)) (by kernel_rfl) 32 (u8v fun _ => 0) (by rfl) (zero_at 32 (.int .u8 0)) ?_; intro b9 w9 hb9 hc9 hs9; have HS9 := Lib.hid hs9; clear hs9))
    go_loopw [10] (fun i wq => ∃ j : Nat, i = .int .i64 (j : Int) ∧ j ≤ 4 ∧ HS w wq [⟨b9, 24, 32, u8v fun q => if q < j then leB K q else 0⟩, ⟨b8, 24, 32, u8v H⟩, ⟨b7, 84, 8, u8v (leB K)⟩, ⟨b6, 24, 32, u8v fun _ => 0⟩, ⟨b5, 24, 32, u8v r⟩, ⟨b4, 26, 4, u8v v⟩]) (fun i _ => 4 - (intOf i).toNat)
    case atStart => exact ⟨0, rfl, by omega, HS9.out.congr 0 rfl (fun i _ => by simp [u8v])⟩
    case round =>
      clear HS9 HBB
      obtain ⟨j, rfl, hj, hs⟩ := hrel
      by_cases hj4 : j < 4
      · have c7 := hs.cell 2 j rfl (by show j < 8; omega)
        have c9 := hs.cell 0 j rfl (by show j < 32; omega)
        have f9 := hs.frozen 0 j rfl
        have HSq := Lib.hid hs
        clear hs
        go_wp2_with fail
        go_roundw
        case rel => exact ⟨j + 1, by go_num, by omega, (HSq.out.set 0 j rfl _).congr 0 rfl (fun i _ => dq1 K _ rfl)⟩
        case measure => simp [intOf]; omega
      · obtain rfl : j = 4 := by omega
        have HS2 := Lib.hid (hs.congr 0 rfl (dq2 K H))
        clear hs
        obtain ⟨wo, rfl⟩ : ∃ wo : World, wo = wr := ⟨_, rfl⟩
        go_wp2_with fail
        go_loopw [11] (fun i wq => ∃ j : Nat, i = .int .i64 (j : Int) ∧ j ≤ 28 ∧ HS w wq [⟨b9, 24, 32, u8v fun q => if q < 4 + j then catN 4 (leB K) H q else 0⟩, ⟨b8, 24, 32, u8v H⟩, ⟨b7, 84, 8, u8v (leB K)⟩, ⟨b6, 24, 32, u8v fun _ => 0⟩, ⟨b5, 24, 32, u8v r⟩, ⟨b4, 26, 4, u8v v⟩]) (fun i _ => 28 - (intOf i).toNat)
        case atStart => exact ⟨0, rfl, by omega, HS2.out⟩
        case round =>
          clear HS2
          obtain ⟨j, rfl, hj, hs⟩ := hrel
          by_cases hj28 : j < 28
          · have c8 := hs.cell 1 j rfl (by show j < 32; omega)
            have c9 := hs.cell 0 (4 + j) rfl (by show 4 + j < 32; omega)
            have f9 := hs.frozen 0 (4 + j) rfl
            have HSq := Lib.hid hs
            clear hs
            go_wp2_with fail
            go_roundw
            case rel => exact ⟨j + 1, by go_num, by omega, (HSq.out.set 0 (4 + j) rfl _).congr 0 rfl (fun i _ => dq3 K H _ rfl)⟩
            case measure => simp [intOf]; omega
          · obtain rfl : j = 28 := by omega
            have HG := Lib.hid (hs.congr 0 rfl (dq4 K H))
            clear hs
            go_wp2_with (first
              | (refine wpList_load_rd rfl 24 _ rfl 32 _ Tryd.underlying24 rfl (by kernel_rfl) ⟨b9, 0, none⟩ rfl (u8v (catN 4 (leB K) H)) (fun i hi => by rw [add_lit0]; exact HG.out.cell 0 i rfl hi) ?_)
              | (refine wpList_storeH rfl 24 (.tmp 6) (.tmp 41) rfl HG.out 3 rfl (u8v (catN 4 (leB K) H)) rfl rfl (by kernel_rfl) (fun _ _ => rfl) ?_; intro wh hs; have HH := Lib.hid hs; clear hs))
            exact ret_rowIs rfl (HH.out.row 3 rfl) _ rfl Tryd.underlying24 rfl (by kernel_rfl) rfl ⟨by rw [← HRES.out], HH.out.out (by simp; omega)⟩
end Go.Proofs.YtecgogeebponlaaDoor
/- The domain of a state, and of deposits. (Printed by a program of mine.) -/
namespace Go.Proofs.YtecgogeebponlaaDoor
set_option maxRecDepth 40000
open Go.RowKit
/-- The bytes that lie from cell o on. -/
def byF (F : Nat → Value) (o : Nat) : Nat → Nat := fun q => nat (F (o + q)) % 256
theorem byF_lt (F : Nat → Value) (o : Nat) : ∀ i, byF F o i < 256 := fun _ => Nat.mod_lt _ (by omega)
theorem byF_eq {F : Nat → Value} (hF : Sc F 49) (o q : Nat) (hl : leafAt Tryd.prog 8 49 (o + q) = some 5) : F (o + q) = u8v (byF F o) q := by
  have h2 := hF.u8 _ hl
  show _ = Value.int .u8 ((nat (F (o + q)) % 256 : Nat) : Int)
  rw [Nat.mod_eq_of_lt h2.2]
  exact h2.1
theorem leaf_34 : ∀ q, q < 4 → leafAt Tryd.prog 8 49 (34 + q) = some 5 := by decide +kernel
theorem leaf_38 : ∀ q, q < 4 → leafAt Tryd.prog 8 49 (38 + q) = some 5 := by decide +kernel
theorem leaf_1 : ∀ q, q < 32 → leafAt Tryd.prog 8 49 (1 + q) = some 5 := by decide +kernel
/-- The version that holds in epoch E. -/
def verN (F : Nat → Value) (E : Nat) : Nat → Nat := if E < nat (F 42) then byF F 34 else byF F 38
set_option maxHeartbeats 4000000 in
theorem domain_look (F : Nat → Value) (hF : Sc F 49) (E : Nat) (k : Int) (K : Nat) (hk : IntKind.u64.wrap k = (K : Int)) (w : World) (hp : ShaPkg w) :
    Calls Tryd.prog 9 #[.agg (arr 1957 F), .int .i64 k, .int .u64 (E : Int)] w fun e w' => e = .returned (rootV (domN K (verN F E) (byF F 1))) ∧ Below w.heap.size w w' := by
  have HP := Lib.hid hp
  have HSc := Lib.hid hF
  have HK := Lib.hid hk
  have HS0 := Lib.hid (HS.nil w)
  obtain ⟨m, hm⟩ : ∃ m, m = nat (F 42) := ⟨_, rfl⟩
  have H42 := Lib.hid (show F 42 = .int .u64 (m : Int) by rw [hm]; exact (hF.u64 42 (by kernel_rfl)).1)
  have HVe := Lib.hid (show verN F E = if E < m then byF F 34 else byF F 38 by rw [hm]; rfl)
  clear hp hF hk hm
  by_cases hE : E < m
  · have hd : decide ((E : Int) < (m : Int)) = true := by simp; omega
    go_enter Tryd.func9, Tryd.ntmps9
    go_wp2_with (first
      | (refine wpList_boxL rfl 49 _ 3 rfl rfl HS0.out 1957 F rfl ?_; intro b3 w3 hb3 hc3 hs3; have HS3 := Lib.hid hs3; clear hs3; have c42 := (HS3.out.cell 0 42 rfl (by show 42 < 1957; omega)).trans (congrArg some H42.out))
      | (refine wpList_allocL rfl 24 6 rfl rfl HS3.out (Array.replicate 32 (.int .u8 0)) (by kernel_rfl) 32 (u8v fun _ => 0) (by rfl) (zero_at 32 (.int .u8 0)) ?_; intro b6 w6 hb6 hc6 hs6; have HS6 := Lib.hid hs6; clear hs6; have c42 := (HS6.out.cell 1 42 rfl (by show 42 < 1957; omega)).trans (congrArg some H42.out))
      | (refine wpList_load_rd rfl 26 _ rfl 4 _ Tryd.underlying26 rfl (by kernel_rfl) ⟨b3, 38, none⟩ rfl (u8v (byF F 38)) (fun q hq => by rw [add_litO]; exact (HS6.out.cell 1 (38 + q) rfl (by show _ < 1957; omega)).trans (congrArg some (byF_eq HSc.out 38 q (leaf_38 q hq)))) ?_)
      | (refine wpList_allocL rfl 26 7 rfl rfl HS6.out (Array.replicate 4 (.int .u8 0)) (by kernel_rfl) 4 (u8v fun _ => 0) (by rfl) (zero_at 4 (.int .u8 0)) ?_; intro b7 w7 hb7 hc7 hs7; have HS7 := Lib.hid hs7; clear hs7)
      | (refine wpList_storeH rfl 26 (.tmp 7) (.tmp 10) rfl HS7.out 0 rfl (u8v (byF F 38)) rfl rfl (by kernel_rfl) (fun _ _ => rfl) ?_; intro w8 hs; have HS8 := Lib.hid hs; clear hs; have c42 := (HS8.out.cell 2 42 rfl (by show 42 < 1957; omega)).trans (congrArg some H42.out))
      | (refine wpList_load_rd rfl 26 _ rfl 4 _ Tryd.underlying26 rfl (by kernel_rfl) ⟨b3, 34, none⟩ rfl (u8v (byF F 34)) (fun q hq => by rw [add_litO]; exact (HS8.out.cell 2 (34 + q) rfl (by show _ < 1957; omega)).trans (congrArg some (byF_eq HSc.out 34 q (leaf_34 q hq)))) ?_)
      | (refine wpList_storeH rfl 26 (.tmp 7) (.tmp 18) rfl HS8.out 0 rfl (u8v (byF F 34)) rfl rfl (by kernel_rfl) (fun _ _ => rfl) ?_; intro w9 hs; have HS9 := Lib.hid hs; clear hs)
      | (refine wpList_load_rd rfl 26 _ rfl 4 _ Tryd.underlying26 rfl (by kernel_rfl) ⟨b7, 0, none⟩ rfl (u8v (byF F 34)) (fun q hq => by rw [add_lit0]; exact (HS9.out.cell 0 q rfl (by show _ < 4; omega)).trans (congrArg some (rfl))) ?_)
      | (refine wpList_load_rd rfl 24 _ rfl 32 _ Tryd.underlying24 rfl (by kernel_rfl) ⟨b3, 1, none⟩ rfl (u8v (byF F 1)) (fun q hq => by rw [add_litO]; exact (HS9.out.cell 2 (1 + q) rfl (by show _ < 1957; omega)).trans (congrArg some (byF_eq HSc.out 1 q (leaf_1 q hq)))) ?_)
      | (go_at_call 27; refine (of_look k K HK.out (byF F 34) (byF F 1) (byF_lt F _) (byF_lt F _) _ (HP.out.below (HS9.out.out (by simp; omega)))).mono ?_; rintro e wx ⟨rfl, hbx⟩; have HX := Lib.hid (HS9.out.below hbx); clear hbx)
      | (refine wpList_storeH rfl 24 (.tmp 6) (.tmp 23) rfl HX.out 1 rfl (u8v (domN K (byF F 34) (byF F 1))) rfl rfl (by kernel_rfl) (fun _ _ => rfl) ?_; intro wy hs; have HY := Lib.hid hs; clear hs))
    exact ret_rowIs rfl (HY.out.row 1 rfl) _ rfl Tryd.underlying24 rfl (by kernel_rfl) rfl ⟨by rw [HVe.out, if_pos hE], HY.out.out (by simp; omega)⟩
  · have hd : decide ((E : Int) < (m : Int)) = false := by simp; omega
    go_enter Tryd.func9, Tryd.ntmps9
    go_wp2_with (first
      | (refine wpList_boxL rfl 49 _ 3 rfl rfl HS0.out 1957 F rfl ?_; intro b3 w3 hb3 hc3 hs3; have HS3 := Lib.hid hs3; clear hs3; have c42 := (HS3.out.cell 0 42 rfl (by show 42 < 1957; omega)).trans (congrArg some H42.out))
      | (refine wpList_allocL rfl 24 6 rfl rfl HS3.out (Array.replicate 32 (.int .u8 0)) (by kernel_rfl) 32 (u8v fun _ => 0) (by rfl) (zero_at 32 (.int .u8 0)) ?_; intro b6 w6 hb6 hc6 hs6; have HS6 := Lib.hid hs6; clear hs6; have c42 := (HS6.out.cell 1 42 rfl (by show 42 < 1957; omega)).trans (congrArg some H42.out))
      | (refine wpList_load_rd rfl 26 _ rfl 4 _ Tryd.underlying26 rfl (by kernel_rfl) ⟨b3, 38, none⟩ rfl (u8v (byF F 38)) (fun q hq => by rw [add_litO]; exact (HS6.out.cell 1 (38 + q) rfl (by show _ < 1957; omega)).trans (congrArg some (byF_eq HSc.out 38 q (leaf_38 q hq)))) ?_)
      | (refine wpList_allocL rfl 26 7 rfl rfl HS6.out (Array.replicate 4 (.int .u8 0)) (by kernel_rfl) 4 (u8v fun _ => 0) (by rfl) (zero_at 4 (.int .u8 0)) ?_; intro b7 w7 hb7 hc7 hs7; have HS7 := Lib.hid hs7; clear hs7)
      | (refine wpList_storeH rfl 26 (.tmp 7) (.tmp 10) rfl HS7.out 0 rfl (u8v (byF F 38)) rfl rfl (by kernel_rfl) (fun _ _ => rfl) ?_; intro w8 hs; have HS8 := Lib.hid hs; clear hs; have c42 := (HS8.out.cell 2 42 rfl (by show 42 < 1957; omega)).trans (congrArg some H42.out))
      | (refine wpList_load_rd rfl 26 _ rfl 4 _ Tryd.underlying26 rfl (by kernel_rfl) ⟨b7, 0, none⟩ rfl (u8v (byF F 38)) (fun q hq => by rw [add_lit0]; exact (HS8.out.cell 0 q rfl (by show _ < 4; omega)).trans (congrArg some (rfl))) ?_)
      | (refine wpList_load_rd rfl 24 _ rfl 32 _ Tryd.underlying24 rfl (by kernel_rfl) ⟨b3, 1, none⟩ rfl (u8v (byF F 1)) (fun q hq => by rw [add_litO]; exact (HS8.out.cell 2 (1 + q) rfl (by show _ < 1957; omega)).trans (congrArg some (byF_eq HSc.out 1 q (leaf_1 q hq)))) ?_)
      | (go_at_call 27; refine (of_look k K HK.out (byF F 38) (byF F 1) (byF_lt F _) (byF_lt F _) _ (HP.out.below (HS8.out.out (by simp; omega)))).mono ?_; rintro e wx ⟨rfl, hbx⟩; have HX := Lib.hid (HS8.out.below hbx); clear hbx)
      | (refine wpList_storeH rfl 24 (.tmp 6) (.tmp 23) rfl HX.out 1 rfl (u8v (domN K (byF F 38) (byF F 1))) rfl rfl (by kernel_rfl) (fun _ _ => rfl) ?_; intro wy hs; have HY := Lib.hid hs; clear hs))
    exact ret_rowIs rfl (HY.out.row 1 rfl) _ rfl Tryd.underlying24 rfl (by kernel_rfl) rfl ⟨by rw [HVe.out, if_neg hE], HY.out.out (by simp; omega)⟩
set_option maxHeartbeats 4000000 in
theorem domain_ref (F : Nat → Value) (hF : Sc F 49) (E : Nat) (k : Int) (K : Nat) (hk : k % 4294967296 = (K : Int)) (w : World) (hp : RefPkg w) :
    Calls Tryd.prog 10 #[.agg (arr 1957 F), .int .i64 k, .int .u64 (E : Int)] w fun e w' => e = .returned (rootV (domN K (verN F E) (byF F 1))) ∧ Below w.heap.size w w' := by
  have HP := Lib.hid hp
  have HSc := Lib.hid hF
  have HK := Lib.hid hk
  have HS0 := Lib.hid (HS.nil w)
  obtain ⟨m, hm⟩ : ∃ m, m = nat (F 42) := ⟨_, rfl⟩
  have H42 := Lib.hid (show F 42 = .int .u64 (m : Int) by rw [hm]; exact (hF.u64 42 (by kernel_rfl)).1)
  have HVe := Lib.hid (show verN F E = if E < m then byF F 34 else byF F 38 by rw [hm]; rfl)
  clear hp hF hk hm
  by_cases hE : E < m
  · have hd : decide ((E : Int) < (m : Int)) = true := by simp; omega
    go_enter Tryd.func10, Tryd.ntmps10
    go_wp2_with (first
      | (refine wpList_boxL rfl 49 _ 3 rfl rfl HS0.out 1957 F rfl ?_; intro b3 w3 hb3 hc3 hs3; have HS3 := Lib.hid hs3; clear hs3; have c42 := (HS3.out.cell 0 42 rfl (by show 42 < 1957; omega)).trans (congrArg some H42.out))
      | (refine wpList_allocL rfl 24 6 rfl rfl HS3.out (Array.replicate 32 (.int .u8 0)) (by kernel_rfl) 32 (u8v fun _ => 0) (by rfl) (zero_at 32 (.int .u8 0)) ?_; intro b6 w6 hb6 hc6 hs6; have HS6 := Lib.hid hs6; clear hs6; have c42 := (HS6.out.cell 1 42 rfl (by show 42 < 1957; omega)).trans (congrArg some H42.out))
      | (refine wpList_load_rd rfl 26 _ rfl 4 _ Tryd.underlying26 rfl (by kernel_rfl) ⟨b3, 34, none⟩ rfl (u8v (byF F 34)) (fun q hq => by rw [add_litO]; exact (HS6.out.cell 1 (34 + q) rfl (by show _ < 1957; omega)).trans (congrArg some (byF_eq HSc.out 34 q (leaf_34 q hq)))) ?_)
      | (refine wpList_load_rd rfl 24 _ rfl 32 _ Tryd.underlying24 rfl (by kernel_rfl) ⟨b3, 1, none⟩ rfl (u8v (byF F 1)) (fun q hq => by rw [add_litO]; exact (HS6.out.cell 1 (1 + q) rfl (by show _ < 1957; omega)).trans (congrArg some (byF_eq HSc.out 1 q (leaf_1 q hq)))) ?_)
      | (go_at_call 28; refine (dom_ref k K HK.out (byF F 34) (byF F 1) (byF_lt F _) (byF_lt F _) _ (HP.out.below (HS6.out.out (by simp; omega)))).mono ?_; rintro e wx ⟨rfl, hbx⟩; have HX := Lib.hid (HS6.out.below hbx); clear hbx)
      | (refine wpList_storeH rfl 24 (.tmp 6) (.tmp 18) rfl HX.out 0 rfl (u8v (domN K (byF F 34) (byF F 1))) rfl rfl (by kernel_rfl) (fun _ _ => rfl) ?_; intro wy hs; have HY := Lib.hid hs; clear hs))
    exact ret_rowIs rfl (HY.out.row 0 rfl) _ rfl Tryd.underlying24 rfl (by kernel_rfl) rfl ⟨by rw [HVe.out, if_pos hE], HY.out.out (by simp; omega)⟩
  · have hd : decide ((E : Int) < (m : Int)) = false := by simp; omega
    go_enter Tryd.func10, Tryd.ntmps10
    go_wp2_with (first
      | (refine wpList_boxL rfl 49 _ 3 rfl rfl HS0.out 1957 F rfl ?_; intro b3 w3 hb3 hc3 hs3; have HS3 := Lib.hid hs3; clear hs3; have c42 := (HS3.out.cell 0 42 rfl (by show 42 < 1957; omega)).trans (congrArg some H42.out))
      | (refine wpList_allocL rfl 24 6 rfl rfl HS3.out (Array.replicate 32 (.int .u8 0)) (by kernel_rfl) 32 (u8v fun _ => 0) (by rfl) (zero_at 32 (.int .u8 0)) ?_; intro b6 w6 hb6 hc6 hs6; have HS6 := Lib.hid hs6; clear hs6; have c42 := (HS6.out.cell 1 42 rfl (by show 42 < 1957; omega)).trans (congrArg some H42.out))
      | (refine wpList_load_rd rfl 26 _ rfl 4 _ Tryd.underlying26 rfl (by kernel_rfl) ⟨b3, 38, none⟩ rfl (u8v (byF F 38)) (fun q hq => by rw [add_litO]; exact (HS6.out.cell 1 (38 + q) rfl (by show _ < 1957; omega)).trans (congrArg some (byF_eq HSc.out 38 q (leaf_38 q hq)))) ?_)
      | (refine wpList_load_rd rfl 24 _ rfl 32 _ Tryd.underlying24 rfl (by kernel_rfl) ⟨b3, 1, none⟩ rfl (u8v (byF F 1)) (fun q hq => by rw [add_litO]; exact (HS6.out.cell 1 (1 + q) rfl (by show _ < 1957; omega)).trans (congrArg some (byF_eq HSc.out 1 q (leaf_1 q hq)))) ?_)
      | (go_at_call 28; refine (dom_ref k K HK.out (byF F 38) (byF F 1) (byF_lt F _) (byF_lt F _) _ (HP.out.below (HS6.out.out (by simp; omega)))).mono ?_; rintro e wx ⟨rfl, hbx⟩; have HX := Lib.hid (HS6.out.below hbx); clear hbx)
      | (refine wpList_storeH rfl 24 (.tmp 6) (.tmp 25) rfl HX.out 0 rfl (u8v (domN K (byF F 38) (byF F 1))) rfl rfl (by kernel_rfl) (fun _ _ => rfl) ?_; intro wy hs; have HY := Lib.hid hs; clear hs))
    exact ret_rowIs rfl (HY.out.row 0 rfl) _ rfl Tryd.underlying24 rfl (by kernel_rfl) rfl ⟨by rw [HVe.out, if_neg hE], HY.out.out (by simp; omega)⟩
set_option maxHeartbeats 1000000 in
theorem deposits_look (w : World) (hp : ShaPkg w) : Calls Tryd.prog 11 #[] w fun e w' => e = .returned (rootV (domN 3 (fun _ => 0) (fun _ => 0))) ∧ Below w.heap.size w w' := by
  have HP := Lib.hid hp
  have HS0 := Lib.hid (HS.nil w)
  clear hp
  go_enter Tryd.func11, Tryd.ntmps11
  go_wp2_with (first
    | (refine wpList_allocL rfl 24 0 rfl rfl HS0.out (Array.replicate 32 (.int .u8 0)) (by kernel_rfl) 32 (u8v fun _ => 0) (by rfl) (zero_at 32 (.int .u8 0)) ?_; intro b6 w6 hb6 hc6 hs6; have HS6 := Lib.hid hs6; clear hs6)
    | (refine wpList_build_as rfl 26 #[] rfl [] rfl (arr 4 (u8v fun _ => 0)) (by kernel_rfl) ?_)
    | (refine wpList_build_as rfl 24 #[] rfl [] rfl (arr 32 (u8v fun _ => 0)) (by kernel_rfl) ?_)
    | (go_at_call 27; refine (of_look 3 3 (by decide) (fun _ => 0) (fun _ => 0) (fun _ => by omega) (fun _ => by omega) _ (HP.out.below (HS6.out.out (by simp; omega)))).mono ?_; rintro e wx ⟨rfl, hbx⟩; have HX := Lib.hid (HS6.out.below hbx); clear hbx)
    | (refine wpList_storeH rfl 24 (.tmp 0) (.tmp 3) rfl HX.out 0 rfl (u8v (domN 3 (fun _ => 0) (fun _ => 0))) rfl rfl (by kernel_rfl) (fun _ _ => rfl) ?_; intro wy hs; have HY := Lib.hid hs; clear hs))
  exact ret_rowIs rfl (HY.out.row 0 rfl) _ rfl Tryd.underlying24 rfl (by kernel_rfl) rfl ⟨rfl, HY.out.out (by simp; omega)⟩
set_option maxHeartbeats 1000000 in
theorem deposits_ref (w : World) (hp : RefPkg w) : Calls Tryd.prog 12 #[] w fun e w' => e = .returned (rootV (domN 3 (fun _ => 0) (fun _ => 0))) ∧ Below w.heap.size w w' := by
  have HP := Lib.hid hp
  have HS0 := Lib.hid (HS.nil w)
  clear hp
  go_enter Tryd.func12, Tryd.ntmps12
  go_wp2_with (first
    | (refine wpList_allocL rfl 24 0 rfl rfl HS0.out (Array.replicate 32 (.int .u8 0)) (by kernel_rfl) 32 (u8v fun _ => 0) (by rfl) (zero_at 32 (.int .u8 0)) ?_; intro b6 w6 hb6 hc6 hs6; have HS6 := Lib.hid hs6; clear hs6)
    | (refine wpList_build_as rfl 26 #[] rfl [] rfl (arr 4 (u8v fun _ => 0)) (by kernel_rfl) ?_)
    | (refine wpList_build_as rfl 24 #[] rfl [] rfl (arr 32 (u8v fun _ => 0)) (by kernel_rfl) ?_)
    | (go_at_call 28; refine (dom_ref 3 3 (by decide) (fun _ => 0) (fun _ => 0) (fun _ => by omega) (fun _ => by omega) _ (HP.out.below (HS6.out.out (by simp; omega)))).mono ?_; rintro e wx ⟨rfl, hbx⟩; have HX := Lib.hid (HS6.out.below hbx); clear hbx)
    | (refine wpList_storeH rfl 24 (.tmp 0) (.tmp 3) rfl HX.out 0 rfl (u8v (domN 3 (fun _ => 0) (fun _ => 0))) rfl rfl (by kernel_rfl) (fun _ _ => rfl) ?_; intro wy hs; have HY := Lib.hid hs; clear hs))
  exact ret_rowIs rfl (HY.out.row 0 rfl) _ rfl Tryd.underlying24 rfl (by kernel_rfl) rfl ⟨rfl, HY.out.out (by simp; omega)⟩
end Go.Proofs.YtecgogeebponlaaDoor
