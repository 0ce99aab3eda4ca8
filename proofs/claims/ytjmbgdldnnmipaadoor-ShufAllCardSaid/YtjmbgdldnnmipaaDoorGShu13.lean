/- A part of what the proofs stand on: PackRef, Ord, ShaRef2, SignGood, TreeRef, TreeZeros, TreeTree, Fold. -/
import Derived.Test.YtjmbgdldnnmipaaDoorGShu7
import Derived.Test.YtjmbgdldnnmipaaDoorGShu12
import Derived.RegionTactic
import Derived.Test.YtjmbgdldnnmipaaDoorGShu5
import Derived.Test.YtjmbgdldnnmipaaDoorGShu6
import Derived.Test.YtjmbgdldnnmipaaDoorGShu11
/- Packed bytes, by the reference. -/
namespace Go.Proofs.YtjmbgdldnnmipaaDoor
set_option maxRecDepth 40000
open Go.RowKit
namespace PackRef
theorem lay_step {x : Nat → Nat} {j k n : Nat} (hk : k < 32) (hn : j * 32 + k < n) (v : Value) (hv : v = .int .u8 ((x (j * 32 + k) : Nat) : Int)) (i : Nat) : (if i = k then v else u8v (fun q => if q < k then padN n x (j * 32 + q) else 0) i) = u8v (fun q => if q < k + 1 then padN n x (j * 32 + q) else 0) i := by
  unfold padN
  by_cases e : i = k
  · subst e; rw [if_pos rfl, hv]; simp only [u8v]; rw [if_pos (by omega), if_pos hn]
  · rw [if_neg e]; simp only [u8v]
    by_cases e2 : i < k
    · rw [if_pos e2, if_pos (show i < k + 1 by omega)]
    · rw [if_neg e2, if_neg (show ¬ i < k + 1 by omega)]
theorem lay_all {x : Nat → Nat} {j k n : Nat} (h : k = 32 ∨ k < 32 ∧ j * 32 + k = n) : ∀ q, q < 32 → u8v (fun q => if q < k then padN n x (j * 32 + q) else 0) q = u8v (fun q => padN n x (j * 32 + q)) q := fun q hq => by
  simp only [u8v]
  by_cases e : q < k
  · rw [if_pos e]
  · rw [if_neg e]; unfold padN; rw [if_neg (by omega)]
theorem cat_ch {x : Nat → Nat} {j n : Nat} : ∀ i, i < (j + 1) * 32 → catF (j * 32) (u8v (padN n x)) (u8v fun q => padN n x (j * 32 + q)) i = u8v (padN n x) i := fun i _ => by
  simp only [catF, u8v]
  split
  · rfl
  · rw [show j * 32 + (i - j * 32) = i by omega]
end PackRef
open PackRef in
set_option maxHeartbeats 4000000 in
theorem pack_ref (n c : Nat) (A : Option Addr) (x : Nat → Nat) (w : World) (hb : Rd w w.heap.size A n (u8v x)) (hn : n ≤ 140737488355000) :
    Calls Tryd.prog 24 #[.slice A n c] w fun e w' => ∃ A' c', e = .returned (.slice A' (nch n) c') ∧ OwnZ w' w.heap.size 23 32 A' (nch n) c' (u8v (padN n x)) ∧ Below w.heap.size w w' := by
  have HB := Lib.hid hb
  obtain ⟨N, hN⟩ : ∃ N, N = nch n := ⟨_, rfl⟩
  have hN1 : N * 32 < n + 32 := by rw [hN]; unfold nch; omega
  have hN2 : n ≤ N * 32 := by rw [hN]; unfold nch; omega
  rw [← hN]
  clear hb hN
  go_enter Tryd.func24, Tryd.ntmps24
  go_wp2_with fail
  go_loopw [3, 4] (fun v i wr => ∃ (j : Nat) (C : Option Addr) (cC : Nat), v = .slice C j cC ∧ i = .int .i64 ((j * 32 : Nat) : Int) ∧ j ≤ N ∧ OwnZ wr w.heap.size 23 32 C j cC (u8v (padN n x)) ∧ Below w.heap.size w wr) (fun _ i _ => n + 32 - (intOf i).toNat)
  case atStart => exact ⟨0, none, 0, rfl, rfl, Nat.zero_le _, OwnZ.nil _ _ _ _ _, Below.refl _ _⟩
  case round =>
    obtain ⟨j, C, cC, rfl, rfl, hj, ho, hbw⟩ := hrel
    have HO := Lib.hid ho
    have HW := Lib.hid hbw
    have hsz := hbw.size
    clear ho hbw
    obtain ⟨wo, rfl⟩ : ∃ wo : World, wo = wr := ⟨_, rfl⟩
    have HS0 := Lib.hid (HS.nil wo)
    by_cases hjn : j * 32 < n
    · go_wp2_with (refine wpList_allocL rfl 23 5 rfl rfl HS0.out (Array.replicate 32 (.int .u8 0)) (by kernel_rfl) 32 (u8v fun q => if q < 0 then padN n x (j * 32 + q) else 0) (by rfl) (zero_at 32 (.int .u8 0)) ?_; intro b5 w5 hb5 hc5 hs5; have HS5 := Lib.hid hs5; clear hs5)
      go_loopw [6] (fun i wq => ∃ k : Nat, i = .int .i64 (k : Int) ∧ k ≤ 32 ∧ j * 32 + k ≤ n ∧ HS wo wq [⟨b5, 23, 32, u8v fun q => if q < k then padN n x (j * 32 + q) else 0⟩]) (fun i _ => 32 - (intOf i).toNat)
      case atStart => exact ⟨0, rfl, by omega, by omega, HS5.out⟩
      case round =>
        clear HS5
        obtain ⟨k, rfl, hk, hkn, hs⟩ := hrel
        by_cases h32 : k < 32
        · by_cases hin : j * 32 + k < n
          · have co := hs.cell 0 k rfl h32
            have fo := hs.frozen 0 k rfl
            obtain ⟨ad, hA, hblk, hc⟩ := ((HB.out.below HW.out).more hsz |>.below (hs.out (by simp; omega))).at_ hin
            subst hA
            have HSq := Lib.hid hs
            clear hs
            go_wp2_with fail
            go_roundw
            case rel => exact ⟨k + 1, by go_num, by omega, by omega, (HSq.out.set 0 k rfl _).congr 0 rfl (fun i _ => lay_step h32 hin _ rfl i)⟩
            case measure => simp [intOf]; omega
          · have HSq := Lib.hid (hs.congr 0 rfl (lay_all (.inr ⟨h32, by omega⟩)))
            clear hs
            go_wp2_with (first
              | (refine wpList_load_rd rfl 23 _ rfl 32 _ Tryd.underlying23 rfl (by kernel_rfl) ⟨b5, 0, none⟩ rfl (u8v fun q => padN n x (j * 32 + q)) (fun q hq => by rw [add_lit0]; exact HSq.out.cell 0 q rfl hq) ?_)
              | (refine wpList_bs1 rfl Tryd.underlying24 (z := 32) (by kernel_rfl) (by omega) (by omega) (v0 := .agg (Array.replicate 32 (.int .u8 0))) (by kernel_rfl) _ rfl (u8v fun q => padN n x (j * 32 + q)) rfl HSq.out ?_; intro b35 w35 hb35 hc35 hs35; have HS35 := Lib.hid hs35; clear hs35)
              | (at_builtin; refine wpList_appZ _ (.tmp 33) (.tmp 35) 24 w.heap.size (e := 23) (z := .agg (Array.replicate 32 (.int .u8 0))) (k := 32) (bytes := 32) (by kernel_rfl) Tryd.underlying24 (by rfl) (by omega) rfl rfl (j + 1) (u8v (padN n x)) rfl rfl (HO.out.all (HS35.out.out (by simp; omega))) (Rd.of_row (HS35.out.row 0 rfl) (Nat.le_refl _) (HS35.out.lt 0 rfl)) (fun _ _ => rfl) rfl cat_ch ⟨by omega, by omega⟩ (Nat.le_trans hsz HS35.out.size) ?_; intro A36 c36 w36 ho36 hg36 ha36; have HO36 := Lib.hid ho36; have HB36 := Lib.hid (below_app (HW.out.trans ((HS35.out.out (by simp; omega)).mono hsz)) hg36 (Nat.le_trans hsz HS35.out.size) (fun ad e => (HO.out.base_le ad e).1)); clear ho36 hg36 ha36))
            go_roundw
            case rel => exact ⟨j + 1, A36, c36, rfl, by go_num, by omega, HO36.out, HB36.out⟩
            case measure => simp [intOf]; omega
        · have HSq := Lib.hid (hs.congr 0 rfl (lay_all (.inl (by omega))))
          clear hs
          go_wp2_with (first
            | (refine wpList_load_rd rfl 23 _ rfl 32 _ Tryd.underlying23 rfl (by kernel_rfl) ⟨b5, 0, none⟩ rfl (u8v fun q => padN n x (j * 32 + q)) (fun q hq => by rw [add_lit0]; exact HSq.out.cell 0 q rfl hq) ?_)
            | (refine wpList_bs1 rfl Tryd.underlying24 (z := 32) (by kernel_rfl) (by omega) (by omega) (v0 := .agg (Array.replicate 32 (.int .u8 0))) (by kernel_rfl) _ rfl (u8v fun q => padN n x (j * 32 + q)) rfl HSq.out ?_; intro b35 w35 hb35 hc35 hs35; have HS35 := Lib.hid hs35; clear hs35)
            | (at_builtin; refine wpList_appZ _ (.tmp 33) (.tmp 35) 24 w.heap.size (e := 23) (z := .agg (Array.replicate 32 (.int .u8 0))) (k := 32) (bytes := 32) (by kernel_rfl) Tryd.underlying24 (by rfl) (by omega) rfl rfl (j + 1) (u8v (padN n x)) rfl rfl (HO.out.all (HS35.out.out (by simp; omega))) (Rd.of_row (HS35.out.row 0 rfl) (Nat.le_refl _) (HS35.out.lt 0 rfl)) (fun _ _ => rfl) rfl cat_ch ⟨by omega, by omega⟩ (Nat.le_trans hsz HS35.out.size) ?_; intro A36 c36 w36 ho36 hg36 ha36; have HO36 := Lib.hid ho36; have HB36 := Lib.hid (below_app (HW.out.trans ((HS35.out.out (by simp; omega)).mono hsz)) hg36 (Nat.le_trans hsz HS35.out.size) (fun ad e => (HO.out.base_le ad e).1)); clear ho36 hg36 ha36))
          go_roundw
          case rel => exact ⟨j + 1, A36, c36, rfl, by go_num, by omega, HO36.out, HB36.out⟩
          case measure => simp [intOf]; omega
    · obtain rfl : j = N := by omega
      go_wp2_with fail
      go_ret
      exact ⟨C, cC, rfl, HO.out, HW.out⟩
end Go.Proofs.YtjmbgdldnnmipaaDoor
/- A region that draws its order, walked by hand: what yields its value in whatever world comes first, then the rest in the one order that is left. -/
namespace Go.Proofs.YtjmbgdldnnmipaaDoor
set_option maxRecDepth 40000
open Go.RowKit
section
variable {P : Program} {ops : Array Oper} {Q : Exit → Act → World → Prop} {md : Region.Mode}
theorem ord_enter {n id : Nat} {a : Act} {w : World} (hm : P.follows .mixedOrders = true) (hn : ops.size = n) (h : wpAny P .any ops Q n (Array.replicate n false) a w.drew) : (Code.region id ops true).wp P Q a w := by
  subst hn
  exact wp_region_any hm h
/-- The one operation that is ready. -/
theorem ord_step {i fuel : Nat} {o : Oper} {listed : Array Bool} {a : Act} {w : World} (hi : ops.toList[i]? = some o) (hr : Region.ready md ops listed = [i]) (hg : o.guard = none)
    (h : ∀ K : Act → World → Prop, (∀ a w, wpAny P md ops Q fuel (listed.setIfInBounds i true) a w → K a w) → o.wp P a w K Q) : wpAny P md ops Q (fuel + 1) listed a w :=
  wpAny_ready (rs := [i]) hr (by simp) (AllReady.cons (by rw [← Array.getElem?_toList]; exact hi) (fun K hK => by rw [if_pos (by simp [Region.wanted, hg])]; exact h K hK) AllReady.nil)
theorem ord_take {i fuel : Nat} {o : Oper} (v : Value) {listed : Array Bool} {a : Act} {w : World} (hi : ops.toList[i]? = some o) (hs : Region.noSelect ops = true) (hf : Region.free md ops listed i = true) (hr : (Region.ready md ops listed).contains i = true) (hg : o.guard = none)
    (hQ : ∀ c a w, Q (.panic c) (a.put o.dst v) w → Q (.panic c) a w) (hy : ∀ w, (execOp a.eval o).run P w = .ok (.value v) w)
    (h : wpAny P md ops Q fuel (listed.setIfInBounds i true) (a.put o.dst v) w) : wpAny P md ops Q (fuel + 1) listed a w :=
  wpAny_take (by rw [← Array.getElem?_toList]; exact hi) hs hf hr hQ (Or.inl ⟨by simp [Region.wanted, hg], hy⟩) h
variable {o : Oper} {a : Act}
theorem ex_move {x : Operand} {v : Value} (ho : o.op = .move x ∨ o.op = .assign x) (hx : a.eval x = v) : ∀ w, (execOp a.eval o).run P w = .ok (.value v) w := fun w => by
  unfold execOp
  rcases ho with ho | ho <;> (rw [ho]; simp only [hx]; simp)
theorem ex_slice {t : TypeId} {x : Operand} {lo hi : Option Operand} {v sv : Value} {l h : Option Value} (ho : o.op = .slice t x lo hi none) (hx : a.eval x = v) (hl : lo.map a.eval = l) (hh : hi.map a.eval = h) (hr : ∀ w, (Instr.sliceAt t v l h none).run P w = .ok sv w) : ∀ w, (execOp a.eval o).run P w = .ok (.value sv) w := fun w => by
  unfold execOp
  rw [ho]
  simp only [hx]
  rw [show lo.map (fun y => a.eval y) = l from hl, show hi.map (fun y => a.eval y) = h from hh]
  simp [hr w]
theorem ex_idx {t : TypeId} {x i : Operand} {v u p : Value} (ho : o.op = .indexAddr t x i) (hx : a.eval x = v) (hi : a.eval i = u) (hr : ∀ w, (Instr.indexAt t v u).run P w = .ok p w) : ∀ w, (execOp a.eval o).run P w = .ok (.value p) w := fun w => by
  unfold execOp
  rw [ho]
  simp only [hx, hi]
  simp [hr w]
theorem ex_fld {t : TypeId} {x : Operand} {k : Nat} {v p : Value} (ho : o.op = .fieldAddr t x k) (hx : a.eval x = v) (hr : ∀ w, (Instr.fieldAt t v k).run P w = .ok p w) : ∀ w, (execOp a.eval o).run P w = .ok (.value p) w := fun w => by
  unfold execOp
  rw [ho]
  simp only [hx]
  simp [hr w]
theorem ex_nil {x : Operand} {ad : Addr} (ho : o.op = .nilCheck x) (hx : a.eval x = .pointer (some ad)) : ∀ w, (execOp a.eval o).run P w = .ok (.value (.pointer (some ad))) w := fun w => by
  unfold execOp
  rw [ho]
  simp only [hx]
  simp [go_sem]
end
end Go.Proofs.YtjmbgdldnnmipaaDoor
/- The walks of the reference's Sum and Two. (Printed by a program of mine.) -/
namespace Go.Proofs.YtjmbgdldnnmipaaDoor
set_option maxRecDepth 40000
open Go.RowKit

theorem root_byte (H : Nat → W32) (j : Nat) : Value.int .u8 (((H (j / 4)).toNat : Int) / 2 ^ (24 - 8 * (j % 4)) % 256) = .int .u8 ((rootOf H j : Nat) : Int) := by
  unfold rootOf
  rw [BitVec.toNat_ushiftRight, Nat.shiftRight_eq_div_pow]
  simp
theorem ent_block (vs : Array Value) (w : World) : (callFunc 70 vs).run Tryd.prog w = .ok (.enter 70 vs) w := by kernel_rfl
theorem built_h0 : Tryd.prog.built 64 [(0, .int .u32 1779033703), (1, .int .u32 3144134277), (2, .int .u32 1013904242), (3, .int .u32 2773480762), (4, .int .u32 1359893119), (5, .int .u32 2600822924), (6, .int .u32 528734635), (7, .int .u32 1541459225)] = some #[wv (h0 0), wv (h0 1), wv (h0 2), wv (h0 3), wv (h0 4), wv (h0 5), wv (h0 6), wv (h0 7)] := by kernel_rfl
/-- The reference's package variables lie where they were laid. -/
def RefPkg (w : World) : Prop := ∀ i, i < 64 → w.cell? ⟨2, i, none⟩ = some (wv (kw i))
theorem RefPkg.lt {w : World} (h : RefPkg w) : 2 < w.heap.size := by have := h 0 (by omega); exact cell_lt0 this
theorem RefPkg.below {w w' : World} (h : RefPkg w) (hb : Below w.heap.size w w') : RefPkg w' := fun i hi => (hb.cell (p := ⟨2, i, none⟩) h.lt).trans (h i hi)

set_option maxHeartbeats 4000000 in
theorem refSum_any (n c : Nat) (A : Option Addr) (x : Nat → Nat) (w : World) (hb : Rd w w.heap.size A n (u8v x)) (hx : ∀ i, x i < 256) (hn : n ≤ 140737488355200) (hp : RefPkg w) :
    Calls Tryd.prog 59 #[.slice A n c] w fun e w' => e = .returned (rootV (shaB x n)) ∧ Below w.heap.size w w' := by
  have HP := Lib.hid hp
  have HB := Lib.hid hb
  obtain ⟨P, hPd⟩ : ∃ P, P = padF n x := ⟨_, rfl⟩
  obtain ⟨N, hN⟩ : ∃ N, N = nb n := ⟨_, rfl⟩
  have hres : shaB x n = rootOf (Hs P N) := by rw [hPd, hN]; rfl
  have hP : ∀ i, P i < 256 := fun i => by rw [hPd]; exact padF_lt _ _ hx i
  have hnb : 64 * N ≤ n + 72 := by rw [hN]; unfold nb; omega
  rw [hres]
  have HPl := Lib.hid hP
  have HH := Lib.hid (show padF n x = P ∧ nb n = N from ⟨hPd.symm, hN.symm⟩)
  have H0 := Lib.hid (((HS.nil w).allocB _ _ 23 32 _ (by rfl) (zero_at 32 (.int .u8 0)) rfl).allocB (w.heap.size + 1) _ 64 8 _ rfl h0_at (by simp))
  clear hp hb hres hP hPd hN hx
  go_enter Tryd.func59, Tryd.ntmps59
  go_wp2_with (first
    | (refine wpList_build_as rfl 64 #[(0, .const (.int .u32 1779033703)), (1, .const (.int .u32 3144134277)), (2, .const (.int .u32 1013904242)), (3, .const (.int .u32 2773480762)), (4, .const (.int .u32 1359893119)), (5, .const (.int .u32 2600822924)), (6, .const (.int .u32 528734635)), (7, .const (.int .u32 1541459225))] rfl [(0, .int .u32 1779033703), (1, .int .u32 3144134277), (2, .int .u32 1013904242), (3, .int .u32 2773480762), (4, .int .u32 1359893119), (5, .int .u32 2600822924), (6, .int .u32 528734635), (7, .int .u32 1541459225)] rfl _ built_h0 ?_)
    | (go_at_call 69; refine (padded_any n c A x _ (HB.out.below ((H0.out.out (by simp)).mono (Nat.le_refl _)) |>.more (H0.out.size)) hn).mono ?_; rintro e w3 ⟨A', c', rfl, hown, hbel⟩; rw [HH.out.1, HH.out.2] at hown; rw [HH.out.2]; have HO := Lib.hid (And.intro hown hbel); clear hown hbel))
  obtain ⟨hown, hbel3⟩ := HO.out
  have hs3 := H0.out.below hbel3
  have hsw := hs3.size
  have hcap := hown.cap
  have HRd := Lib.hid hown.rd
  have hapt : Hi A' (64 * N) (w.heap.size + 2) := fun _ ad e => by have := (hown.base_le ad e).1; simp at this; omega
  have HAp := Lib.hid hapt
  have HBl := Lib.hid (hs3.out (by simp))
  have HS3 := Lib.hid (((HS.nil w3).take (hs3.row 1 rfl) (fun r hr => by cases hr)).take (hs3.row 0 rfl) (fun r hr => by simp at hr; subst hr; show w.heap.size ≠ w.heap.size + 1; omega))
  clear hown hbel3 hs3 hapt HO H0
  go_loopw [4] (fun s wr => ∃ (k rem : Nat) (Ak : Option Addr) (ck : Nat), s = .slice Ak rem ck ∧ 64 * k + rem = 64 * N ∧ rem ≤ ck ∧ Rd w3 w3.heap.size Ak rem (u8v fun i => P (64 * k + i)) ∧ Hi Ak rem (w.heap.size + 2) ∧ HS w3 wr [⟨w.heap.size + 1, 64, 8, fun i => wv (Hs P k i)⟩, ⟨w.heap.size, 23, 32, fun _ => .int .u8 0⟩]) (fun s _ => match s with | .slice _ k _ => k | _ => 0)
  case atStart => exact ⟨0, 64 * N, A', c', rfl, by omega, hcap, HRd.out.congr (fun i _ => by simp only [u8v, Nat.mul_zero, Nat.zero_add]), HAp.out, HS3.out⟩
  case round =>
    clear HRd HAp HS3
    obtain ⟨k, rem, Ak, ck, rfl, hrem, hck, hrd, hap, hs⟩ := hrel
    have hg1 : w.heap.size + 1 < wr.heap.size := hs.lt 0 rfl
    have hcell : ∀ i, i < 8 → wr.cell? ⟨w.heap.size + 1, i, none⟩ = some (wv (Hs P k i)) := fun i hi => hs.cell 0 i rfl hi
    have HSr := Lib.hid hs
    have HRd := Lib.hid hrd
    have HAp := Lib.hid hap
    have HC := Lib.hid hcell
    clear hs hrd hap hcell
    by_cases hr0 : 0 < rem
    · have h64 : 64 ≤ rem := by omega
      go_wp2_with fail
      have hs := HSr.out
      have hcell := HC.out
      refine wp_region_factsS (l := [_, _, _]) (tl := [_]) (B := wr.heap.size) (w0 := wr) [SF.is (.agg #[wv (Hs P k 0), wv (Hs P k 1), wv (Hs P k 2), wv (Hs P k 3), wv (Hs P k 4), wv (Hs P k 5), wv (Hs P k 6), wv (Hs P k 7)]), SF.is (.slice (Ak) (rem) (ck)), SF.is (.slice (Ak) (64) (ck))] (by kernel_rfl) (by kernel_rfl) rfl (Nat.le_refl _) (Below.refl _ _) ⟨?_, ?_, ?_, trivial⟩ ?_
      · exact opOb_ld rfl rfl (OpK.tmp rfl) (fun w' hb => run_loadAt_part w' _ 0 8 _ _ (fun i => wv (Hs P k i)) (fun i hi => by rw [Nat.zero_add]; exact (hb.cell (p := ⟨w.heap.size + 1, i, none⟩) hg1).trans (hcell i hi)) Tryd.underlying64 rfl (by kernel_rfl))
      · exact (opOb_move _ rfl (.inl rfl) rfl)
      · exact opOb_slc rfl rfl (OpK.tmp rfl) OpKo.no OpKo.const (fun w => cut_to Tryd.underlying35 (by kernel_rfl) Ak rem ck 64 (by omega) w)
      · intro w' hb
        simp only [fin, SF.is, forall_eq]
        simp only [Act.put, List.setIfInBounds_toArray, List.set_cons_succ, List.set_cons_zero]
        clear hcell
        have hs1 := hs.below hb
        refine wp_fn ent_block #[.agg #[wv (Hs P k 0), wv (Hs P k 1), wv (Hs P k 2), wv (Hs P k 3), wv (Hs P k 4), wv (Hs P k 5), wv (Hs P k 6), wv (Hs P k 7)], .slice Ak 64 ck] rfl rfl ?_
        refine (block_any 64 ck w3.heap.size Ak (Hs P k) (fun i => P (64 * k + i)) w' (fun i => HPl.out _) ((HRd.out.short h64).hs hs1 (Nat.le_refl _) (fun _ ad e r hr => by have := HAp.out hr0 ad e; simp at hr; rcases hr with rfl | rfl; (· show w.heap.size + 1 ≠ ad.block; omega); (· show w.heap.size ≠ ad.block; omega))) hs1.size (Nat.le_refl _) (by omega)
          (HP.out.below (HBl.out.trans (hs1.old hsw (by simp))))).mono ?_
        rintro e w4 ⟨rfl, hb4⟩
        have hs4 := hs1.below hb4
        refine ⟨_, rfl, ?_⟩
        refine wp_sto_arr rfl (hs4.row 0 rfl) _ rfl rfl rfl (by kernel_rfl) (fun i hi => ⟨_, w8_at _ i hi, rfl⟩) ?_
        have hs5 := hs4.setRow 0 rfl _ rfl (fun i => wv (Hs P (k + 1) i)) (fun i hi => w8_at (comp (Hs P k) (blk P k)) i hi)
        have HS5 := Lib.hid hs5
        clear hs hs1 hb hs4 hs5 hb4
        simp only [seqWp]
        obtain ⟨A2, hcut0, hcut2⟩ := cut_from (P := Tryd.prog) Tryd.underlying35 (by kernel_rfl) Ak rem ck 64 h64 hck
        have hcut : ∀ w : World, (Instr.sliceAt 35 (.slice Ak rem ck) (some (.int .i64 64)) none none).run Tryd.prog w = .ok (.slice A2 (rem - 64) (ck - 64)) w := hcut0
        clear hcut0
        have HCt := Lib.hid hcut2
        clear hcut2
        go_wp2_with fail
        go_roundw
        case rel => exact ⟨k + 1, rem - 64, A2, ck - 64, rfl, by omega, by omega, (HCt.out.rd HRd.out).congr (fun i _ => congrArg (fun k => Value.int .u8 ((P k : Nat) : Int)) (show 64 * k + (64 + i) = 64 * (k + 1) + i by omega)), HCt.out.hi HAp.out, HS5.out⟩
        case measure => show rem - 64 < rem; omega
    · obtain rfl : rem = 0 := by omega
      obtain rfl : k = N := by omega
      clear hg1 HC HRd HAp
      obtain ⟨wo, rfl⟩ : ∃ wo : World, wo = wr := ⟨_, rfl⟩
      go_wp2_with fail
      have H6 := Lib.hid (HSr.out.allocB _ _ 23 32 (u8v fun _ => 0) (by rfl) (zero_at 32 (.int .u8 0)) rfl)
      have hw6 : w.heap.size + 2 ≤ wo.heap.size := by have := HSr.out.lt 0 rfl; omega
      go_loopw [6] (fun i wq => ∃ j : Nat, j ≤ 32 ∧ i = .int .i64 j ∧ HS w3 wq [⟨wo.heap.size, 23, 32, u8v fun i => if i < j then rootOf (Hs P k) i else 0⟩, ⟨w.heap.size + 1, 64, 8, fun i => wv (Hs P k i)⟩, ⟨w.heap.size, 23, 32, fun _ => .int .u8 0⟩]) (fun i _ => 32 - (intOf i).toNat)
      case atStart => exact ⟨0, by omega, rfl, H6.out⟩
      case round =>
        clear H6
        obtain ⟨j, hj, rfl, hs⟩ := hrel
        by_cases hj32 : j < 32
        · have ch := hs.cell 1 (j / 4) rfl (by show j / 4 < 8; omega)
          have co := hs.cell 0 j rfl hj32
          have fo := hs.frozen 0 j rfl
          have HSq := Lib.hid hs
          clear hs
          go_wp2_with fail
          go_roundw
          case rel =>
            refine ⟨j + 1, by omega, by go_num, ?_⟩
            rw [root_byte]
            refine (HSq.out.set 0 j rfl _).congr 0 rfl (fun i _ => ?_)
            by_cases e : i = j
            · subst e; rw [if_pos rfl]; simp only [u8v]; rw [if_pos (by omega)]
            · rw [if_neg e]; simp only [u8v]
              by_cases e2 : i < j
              · rw [if_pos e2, if_pos (by omega)]
              · rw [if_neg e2, if_neg (by omega)]
          case measure => simp [intOf]; omega
        · obtain rfl : j = 32 := by omega
          have HX := Lib.hid (heap_arr (hs.row 0 rfl))
          have HR := Lib.hid (hs.row 2 rfl)
          have HSq := Lib.hid hs
          clear hs
          go_wp2_with (first
            | (refine wpList_load_row rfl 23 (.tmp 5) rfl wo.heap.size rfl 23 _ _ _ HX.out Tryd.underlying23 rfl (by kernel_rfl) ?_)
            | (refine wpList_store_arr rfl 23 (.tmp 2) (.tmp 36) rfl HR.out _ rfl rfl (size_arr _ _) (by kernel_rfl) (fun i hi => ⟨_, arr_at _ _ i hi, rfl⟩) ?_))
          have hend := HSq.out.setRow 2 rfl (arr 32 (u8v fun i => if i < 32 then rootOf (Hs P k) i else 0)) (size_arr _ _) _ (fun i hi => arr_at _ _ i hi)
          refine ret_rowIs rfl (hend.row 2 rfl) _ rfl Tryd.underlying23 rfl (by kernel_rfl) rfl ?_
          refine ⟨?_, HBl.out.trans (hend.old hsw (by simp; omega))⟩
          rw [arr_congr (g := u8v (rootOf (Hs P k))) (fun i hi => by simp only [u8v]; rw [if_pos hi])]

theorem ent_refSum (vs : Array Value) (w : World) : (callFunc 59 vs).run Tryd.prog w = .ok (.enter 59 vs) w := by kernel_rfl
theorem run_bs0_u8 (w : World) : (Instr.buildSlice 35 0 #[]).run Tryd.prog w = .ok (.slice (some ⟨w.heap.size, 0, none⟩) 0 0) (w.alloc (.cells #[] 5)) := by simp [go_sem]
theorem cat_F (x y : Nat → Nat) (n : Nat) : ∀ i, i < n → catF 32 (u8v x) (u8v y) i = u8v (catN 32 x y) i := fun i _ => by
  simp only [catF, u8v, catN]; split <;> rfl

set_option maxHeartbeats 2000000 in
theorem refTwo_any (x y : Nat → Nat) (hx : ∀ i, x i < 256) (hy : ∀ i, y i < 256) (w : World) (hp : RefPkg w) :
    Calls Tryd.prog 46 #[rootV x, rootV y] w fun e w' => e = .returned (rootV (shaB (catN 32 x y) 64)) ∧ Below w.heap.size w w' := by
  have HP := Lib.hid hp
  have HX := Lib.hid hx
  have HY := Lib.hid hy
  clear hp hx hy
  go_enter Tryd.func46, Tryd.ntmps46
  go_wp2
  refine HS.go (w0 := w) (rows := [⟨w.heap.size + 2, 23, 32, u8v fun _ => 0⟩, ⟨w.heap.size + 1, 23, 32, u8v y⟩, ⟨w.heap.size, 23, 32, u8v x⟩])
    (by exact (((HS.nil w).allocB _ (arr 32 (u8v x)) 23 32 _ (size_arr _ _) (arr_at _ _) rfl).allocB _ (arr 32 (u8v y)) 23 32 _ (size_arr _ _) (arr_at _ _) (by simp)).allocB _ _ 23 32 _ (by rfl) (zero_at 32 (.int .u8 0)) (by simp)) (fun wr hs => ?_)
  have hw : w.heap.size + 2 < wr.heap.size := hs.lt 0 rfl
  have R2 : wr.rowIs w.heap.size 23 32 (u8v x) := hs.row 2 rfl
  refine wp_region_factsS (l := [_, _, _, _]) (tl := [_, _]) (B := wr.heap.size) (w0 := wr) [SF.own0 wr.heap.size 5, SF.is (.slice (some ⟨w.heap.size, 0, none⟩) (32) (32)), SF.own wr.heap.size 5 32 (u8v x), SF.is (.slice (some ⟨w.heap.size + 1, 0, none⟩) (32) (32))] (by kernel_rfl) (by kernel_rfl) rfl (Nat.le_refl _) (Below.refl _ _) ⟨?_, ?_, ?_, ?_, trivial⟩ ?_
  · exact opOb_bs0 rfl rfl run_bs0_u8 _ (Nat.le_refl _)
  · exact opOb_slc rfl rfl (OpK.tmp rfl) (OpKo.no) (OpKo.no) (fun w => cut_arr Tryd.underlying23 1 (by kernel_rfl) none none (0) (32) (.inl ⟨rfl, rfl⟩) (.inl ⟨rfl, rfl⟩) (by omega) (by omega) (by omega) (by omega) (by omega) (by omega))
  · exact opOb_app0 (s := 5) (x := 6) wr.heap.size u8_info Tryd.underlying35 rfl rfl rfl (by rfl) (by rfl) (fun w' hb => Rd.of_row (row_below (B := wr.heap.size) R2 hb (by omega)) (Nat.le_refl _) (Nat.lt_succ_self _)) (fun _ _ => rfl) (by omega) (Nat.le_refl _)
  · exact opOb_slc rfl rfl (OpK.tmp rfl) (OpKo.no) (OpKo.no) (fun w => cut_arr Tryd.underlying23 1 (by kernel_rfl) none none (0) (32) (.inl ⟨rfl, rfl⟩) (.inl ⟨rfl, rfl⟩) (by omega) (by omega) (by omega) (by omega) (by omega) (by omega))
  · intro w' hb
    simp only [fin, SF.is, SF.own, SF.own0, forall_eq]
    rintro _ ⟨_, rfl, _⟩ _ ⟨A7, c7, rfl, ho7⟩
    simp only [Act.put, List.setIfInBounds_toArray, List.set_cons_succ, List.set_cons_zero]
    have hs1 := hs.below hb
    have hlo : ∀ ad, A7 = some ad → wr.heap.size ≤ ad.block := fun ad e => (ho7.base_le ad e).1
    refine wp_app w' (.tmp 7) (.tmp 8) 35 rfl wr.heap.size 5 _ _ 1 Tryd.underlying35 (info_parts u8_info).choose_spec.1 (info_parts u8_info).choose_spec.2.1 (info_parts u8_info).choose_spec.2.2.1 (info_parts u8_info).choose_spec.2.2.2 rfl rfl rfl ho7 (Rd.of_row (hs1.row 1 rfl) (Nat.le_refl _) (hs1.lt 1 rfl)) (fun _ _ => rfl) (by omega) hb.size ?_
    intro A9 c9 w4 ho9 hg9 ha9
    have hb4 : Below wr.heap.size w' w4 := below_app (Below.refl _ _) hg9 hb.size hlo
    have hs4 : HS w w4 _ := hs.below (hb.trans hb4)
    refine wp_fn ent_refSum #[.slice A9 64 c9] rfl rfl ?_
    refine (refSum_any 64 c9 A9 (catN 32 x y) w4 (ho9.rd.congr (cat_F x y 64)) (catN_lt HX.out HY.out) (by omega) (HP.out.below (hs4.out (by simp)))).mono ?_
    rintro e w5 ⟨rfl, hb5⟩
    have hs5 := hs4.below hb5
    refine ⟨_, rfl, ?_⟩
    refine wp_sto_arr rfl (hs5.row 0 rfl) _ rfl rfl (size_arr _ _) (by kernel_rfl) (fun i hi => ⟨_, arr_at _ _ i hi, rfl⟩) ?_
    have hend := hs5.setRow 0 rfl (arr 32 (u8v (shaB (catN 32 x y) 64))) (size_arr _ _) _ (fun i hi => arr_at _ _ i hi)
    have HE := Lib.hid hend
    clear hs hs1 hs4 hs5 hend hb hb4 hb5 ho7 ho9 hg9 ha9 hlo R2 hw
    simp only [seqWp]
    go_wp2_with fail
    exact ret_rowIs rfl (HE.out.row 0 rfl) _ rfl Tryd.underlying23 rfl (by kernel_rfl) rfl ⟨rfl, HE.out.out (by simp)⟩
end Go.Proofs.YtjmbgdldnnmipaaDoor
/- Is a root in a list? (Printed by a program of mine.) -/
namespace Go.Proofs.YtjmbgdldnnmipaaDoor
set_option maxRecDepth 40000
open Go.RowKit
theorem Rd.cells {w : World} {B n : Nat} {ad : Addr} {f : Nat → Value} (h : Rd w B (some ad) n f) {i : Nat} (hi : i < n) : w.cell? (ad.add i) = some (f i) := by
  obtain ⟨ad', e, _, hc⟩ := h (by omega)
  injection e with e; subst e
  exact hc i hi
/-- Element j of the list is q. -/
def eqAt (x : Nat → Nat) (j : Nat) (q : Nat → Nat) : Prop := ∀ i, i < 32 → x (j * 32 + i) = q i
open Classical in
/-- q is one of the first n. -/
noncomputable def inB (x : Nat → Nat) (n : Nat) (q : Nat → Nat) : Bool := decide (∃ j, j < n ∧ eqAt x j q)
theorem inB_t {x q : Nat → Nat} {n j : Nat} (hj : j < n) (h : eqAt x j q) : inB x n q = true := @decide_eq_true _ (_) ⟨j, hj, h⟩
theorem inB_f {x q : Nat → Nat} {n : Nat} (h : ∀ j, j < n → ¬ eqAt x j q) : inB x n q = false := @decide_eq_false _ (_) fun ⟨j, hj, h1⟩ => h j hj h1
namespace SignGood
theorem eq_qx_t {x q : Nat → Nat} {j : Nat} (h : eqAt x j q) : decide (∀ i : Nat, i < 32 → ((q i : Nat) : Int) = ((x (j * 32 + i) : Nat) : Int)) = true := decide_eq_true fun i hi => by rw [h i hi]
theorem eq_qx_f {x q : Nat → Nat} {j : Nat} (h : ¬ eqAt x j q) : decide (∀ i : Nat, i < 32 → ((q i : Nat) : Int) = ((x (j * 32 + i) : Nat) : Int)) = false := decide_eq_false fun h2 => h fun i hi => by have := h2 i hi; omega
theorem eq_xq_t {x q : Nat → Nat} {j : Nat} (h : eqAt x j q) : decide (∀ i : Nat, i < 32 → ((x (j * 32 + i) : Nat) : Int) = ((q i : Nat) : Int)) = true := decide_eq_true fun i hi => by rw [h i hi]
theorem eq_xq_f {x q : Nat → Nat} {j : Nat} (h : ¬ eqAt x j q) : decide (∀ i : Nat, i < 32 → ((x (j * 32 + i) : Nat) : Int) = ((q i : Nat) : Int)) = false := decide_eq_false fun h2 => h fun i hi => by have := h2 i hi; omega
end SignGood
end Go.Proofs.YtjmbgdldnnmipaaDoor
/- Zero roots and depths, by the reference. -/
namespace Go.Proofs.YtjmbgdldnnmipaaDoor
set_option maxRecDepth 40000
open Go.RowKit
/-- The least d with l ≤ 2^d. -/
def dep (l : Nat) : Nat := if l ≤ 1 then 0 else Nat.log2 (l - 1) + 1
theorem dep_ge (l : Nat) : l ≤ 2 ^ dep l := by
  unfold dep
  by_cases h : l ≤ 1
  · rw [if_pos h]; simpa using h
  · rw [if_neg h]
    have := Nat.lt_log2_self (n := l - 1)
    omega
theorem dep_lt {l e : Nat} (h : e < dep l) : 2 ^ e < l := by
  unfold dep at h
  by_cases h1 : l ≤ 1
  · rw [if_pos h1] at h; omega
  · rw [if_neg h1] at h
    have h2 := Nat.log2_self_le (n := l - 1) (by omega)
    have h3 : 2 ^ e ≤ 2 ^ Nat.log2 (l - 1) := Nat.pow_le_pow_right (by omega) (by omega)
    omega
theorem dep_le {l k : Nat} (h : l ≤ 2 ^ k) : dep l ≤ k := by
  rcases Nat.lt_or_ge k (dep l) with h1 | h1
  · have := dep_lt h1; omega
  · exact h1
/-- The zero root of depth k. -/
def zrN : Nat → Nat → Nat
  | 0 => fun _ => 0
  | k + 1 => shaB (catN 32 (zrN k) (zrN k)) 64
theorem zrN_lt (k : Nat) : ∀ i, zrN k i < 256 := by
  cases k with
  | zero => intro i; show 0 < 256; omega
  | succ k => exact fun i => shaB_lt _ _ i
/-- The list of zero roots. -/
def zrL : Nat → Nat := fun i => zrN (i / 32) (i % 32)
theorem zrL_at (k q : Nat) (hq : q < 32) : zrL (k * 32 + q) = zrN k q := by
  unfold zrL
  rw [show (k * 32 + q) / 32 = k by omega, show (k * 32 + q) % 32 = q by omega]
namespace TreeRef
theorem shl1 (d : Nat) (hd : d < 63) (w : World) : (binOp .shl 3 (.int .i64 1) (.int .u64 (d : Int))).run Tryd.prog w = .ok (.int .i64 ((2 ^ d : Nat) : Int)) w := by
  have h1 : 2 ^ d ≤ 2 ^ 62 := Nat.pow_le_pow_right (by omega) (by omega)
  have h2 : ((2 ^ d : Nat) : Int) ≤ 4611686018427387904 := by have : (2 : Nat) ^ 62 = 4611686018427387904 := by decide
                                                              omega
  have h0 : (0 : Int) ≤ ((2 ^ d : Nat) : Int) := Int.natCast_nonneg _
  have e : ((2 ^ d : Nat) : Int) = (2 : Int) ^ d := by simp
  rw [e] at h2 h0
  simp [go_sem, IntKind.wrap, IntKind.bits, IntKind.signed]
  generalize (2 : Int) ^ d = y at h2 h0
  rw [Int.emod_eq_of_lt h0 (by omega), if_neg (by omega)]
theorem cvu (m : Nat) (hm : m < 9223372036854775808) (w : World) : (convert 3 28 (.int .i64 (m:Int))).run Tryd.prog w = .ok (.int .u64 (m:Int)) w := by
  simp [go_sem, IntKind.wrap, IntKind.bits, IntKind.signed]; omega
end TreeRef
theorem ex_bin {P : Program} {o : Oper} {a : Act} {b : BinOp} {ty rt : TypeId} {x y : Operand} {u v r : Value} (hne : (b matches .eql | .neq) = false) (ho : o.op = .binOp b ty x y rt) (hx : a.eval x = u) (hy : a.eval y = v) (hr : ∀ w, (binOp b ty u v).run P w = .ok r w) : ∀ w, (execOp a.eval o).run P w = .ok (.value r) w := fun w => by
  unfold execOp
  rw [ho]
  simp only [hx, hy]
  cases b <;> simp at hne <;> simp [eqGuard, hr]
theorem ex_cnv {P : Program} {o : Oper} {a : Act} {s d : TypeId} {x : Operand} {u r : Value} (ho : o.op = .convert s d x) (hx : a.eval x = u) (hr : ∀ w, (convert s d u).run P w = .ok r w) : ∀ w, (execOp a.eval o).run P w = .ok (.value r) w := fun w => by
  unfold execOp
  rw [ho]
  simp only [hx]
  simp [hr w]
open TreeRef in
set_option maxHeartbeats 1000000 in
theorem depth_ref (l : Nat) (hl : l ≤ 1099511627776) (w : World) : Calls Tryd.prog 44 #[.int .i64 (l : Int)] w fun e w' => e = .returned (.int .i64 (dep l : Int)) ∧ w' = w := by
  have hd40 : dep l ≤ 40 := dep_le (k := 40) (by omega)
  go_enter Tryd.func44, Tryd.ntmps44
  go_wp2_with fail
  go_loopw [3] (fun i wr => ∃ d : Nat, i = .int .i64 (d : Int) ∧ d ≤ dep l ∧ wr = w) (fun i _ => 41 - (intOf i).toNat)
  case atStart => exact ⟨0, rfl, by omega, rfl⟩
  case round =>
    obtain ⟨d, rfl, hd, rfl⟩ := hrel
    obtain ⟨p, hp⟩ : ∃ p, p = 2 ^ d := ⟨_, rfl⟩
    have HP := Lib.hid hp
    by_cases hlt : d < dep l
    · have hpl : p < l := by rw [hp]; exact dep_lt hlt
      clear hp
      go_wp2_with (refine wpList_as rfl 6 rfl (.int .i64 (p : Int)) ?_ ?_; (· rw [HP.out]; exact ex_bin rfl rfl rfl rfl (fun w => shl1 d (by omega) w) _))
      go_roundw
      case rel => exact ⟨d + 1, by go_num, by omega, trivial⟩
      case measure => simp [intOf]; omega
    · obtain rfl : d = dep l := by omega
      have hpl : l ≤ p := by rw [hp]; exact dep_ge l
      clear hp
      go_wp2_with (refine wpList_as rfl 6 rfl (.int .i64 (p : Int)) ?_ ?_; (· rw [HP.out]; exact ex_bin rfl rfl rfl rfl (fun w => shl1 _ (by omega) w) _))
      go_ret
      exact ⟨rfl, rfl⟩
end Go.Proofs.YtjmbgdldnnmipaaDoor
/- The zero roots, by the reference. (Printed by a program of mine.) -/
namespace Go.Proofs.YtjmbgdldnnmipaaDoor
set_option maxRecDepth 40000
open Go.RowKit
namespace TreeZeros
theorem ent_two (vs : Array Value) (w : World) : (callFunc 46 vs).run Tryd.prog w = .ok (.enter 46 vs) w := by kernel_rfl
theorem sub1 (m : Nat) (h : 1 ≤ m) (hm : m ≤ 9223372036854775807) (w : World) : (binOp .sub 3 (.int .i64 (m : Int)) (.int .i64 1)).run Tryd.prog w = .ok (.int .i64 ((m - 1 : Nat) : Int)) w := by
  rw [show ((m - 1 : Nat) : Int) = (m : Int) - 1 by omega]
  simp [go_sem, IntKind.wrap, IntKind.bits, IntKind.signed]
  omega
theorem cat_z {m : Nat} : ∀ i, i < (m + 1) * 32 → catF (m * 32) (u8v zrL) (u8v (zrN m)) i = u8v zrL i := fun i hi => by
  simp only [catF, u8v]
  split
  · rfl
  · rename_i h
    have := zrL_at m (i - m * 32) (by omega)
    rw [show m * 32 + (i - m * 32) = i by omega] at this
    rw [this]
end TreeZeros
open TreeZeros in
set_option maxHeartbeats 4000000 in
theorem zeros_ref (d : Nat) (hd : d ≤ 40) (w : World) (hp : RefPkg w) :
    Calls Tryd.prog 45 #[.int .i64 (d : Int)] w fun e w' => ∃ A c, e = .returned (.slice A (d + 1) c) ∧ OwnZ w' w.heap.size 23 32 A (d + 1) c (u8v zrL) ∧ Below w.heap.size w w' := by
  have HP := Lib.hid hp
  have HS0 := Lib.hid (HS.nil w)
  clear hp
  go_enter Tryd.func45, Tryd.ntmps45
  go_wp2_with (first
    | (refine wpList_build_as rfl 23 #[] rfl [] rfl (arr 32 (u8v fun _ => 0)) (by kernel_rfl) ?_)
    | (refine wpList_bs1 rfl Tryd.underlying24 (z := 32) (by kernel_rfl) (by omega) (by omega) (v0 := .agg (Array.replicate 32 (.int .u8 0))) (by kernel_rfl) _ rfl (u8v fun _ => 0) rfl HS0.out ?_; intro b5 w5 hb5 hc5 hs5; have HS5 := Lib.hid hs5; clear hs5))
  go_loopw [3] (fun v wr => ∃ (m : Nat) (A : Option Addr) (c : Nat), v = .slice A m c ∧ 1 ≤ m ∧ m ≤ d + 1 ∧ OwnZ wr w.heap.size 23 32 A m c (u8v zrL) ∧ Below w.heap.size w wr) (fun v _ => match v with | .slice _ m _ => 100 - m | _ => 0)
  case atStart => exact ⟨1, some ⟨b5, 0, none⟩, 1, rfl, by omega, by omega, (OwnZ.of_row (m := 1) (HS5.out.row 0 rfl) hb5 (by unfold maxLen; omega)).congr (fun i hi => by rw [← Nat.zero_add i]; have := zrL_at 0 i (by omega); simp only [u8v]; rw [show 0 + i = 0 * 32 + i by omega, this]; rfl), HS5.out.out (by simp; omega)⟩
  case round =>
    obtain ⟨m, A, c, rfl, hm1, hm, ho, hbw⟩ := hrel
    have HO := Lib.hid ho
    have HW := Lib.hid hbw
    have hsz := hbw.size
    clear ho hbw
    by_cases hmd : m ≤ d
    · obtain ⟨ad, hA, _, _⟩ := HO.out.rd (show 0 < m * 32 by omega)
      subst hA
      have HCL : Hid (∀ w', Below wr.heap.size wr w' → ∀ i, i < m * 32 → w'.cell? (ad.add i) = some (u8v zrL i)) := Lib.hid (fun w' hb i hi => (HO.out.rd.below hb).cells hi)
      have HZ := Lib.hid (show Ending.returned (rootV (shaB (catN 32 (zrN (m - 1)) (zrN (m - 1))) 64)) = .returned (rootV (zrN m)) by obtain ⟨q, rfl⟩ : ∃ q, m = q + 1 := ⟨m - 1, by omega⟩; rfl)
      go_wp2_with fail
      refine wp_region_factsS (l := [_, _, _, _, _, _, _, _, _, _, _, _, _, _, _]) (tl := [_]) (B := wr.heap.size) (w0 := wr) [SF.is (.slice (some ad) (m) (c)), SF.is (.slice (some ad) (m) (c)), SF.is (.slice (some ad) (m) (c)), SF.is (.int .i64 ((m : Nat) : Int)), SF.is (.int .i64 ((m - 1 : Nat) : Int)), SF.is (.pointer (some (ad.add ((m - 1) * 32)))), SF.is (rootV (zrN (m - 1))), SF.is (.slice (some ad) (m) (c)), SF.is (.slice (some ad) (m) (c)), SF.is (.int .i64 ((m : Nat) : Int)), SF.is (.int .i64 ((m - 1 : Nat) : Int)), SF.is (.pointer (some (ad.add ((m - 1) * 32)))), SF.is (rootV (zrN (m - 1))), SF.is (rootV (zrN m)), SF.rdZ 1 32 (u8v (zrN m))] (by kernel_rfl) (by kernel_rfl) rfl (Nat.le_refl _) (Below.refl _ _) ⟨?_, ?_, ?_, ?_, ?_, ?_, ?_, ?_, ?_, ?_, ?_, ?_, ?_, ?_, ?_, trivial⟩ ?_
      · exact (opOb_move _ rfl (.inl rfl) rfl)
      · exact (opOb_move _ rfl (.inl rfl) rfl)
      · exact (opOb_move _ rfl (.inl rfl) rfl)
      · exact opOb_len Tryd.underlying24 rfl rfl (OpK.tmp rfl)
      · exact opOb_bin rfl rfl rfl (OpK.tmp rfl) OpK.const (fun w => sub1 m (by omega) (by omega) w)
      · exact opOb_idx rfl rfl (OpK.tmp rfl) (OpK.tmp rfl) (fun w => run_idxZ w Tryd.underlying24 (by kernel_rfl) ad (by omega))
      · exact opOb_ld rfl rfl (OpK.tmp rfl) (fun w' hb => run_loadAt_rd w' (ad.add ((m - 1) * 32)) 32 _ _ (u8v (zrN (m - 1))) (fun i hi => by rw [add_add, HCL.out w' hb ((m - 1) * 32 + i) (by omega)]; simp only [u8v]; rw [zrL_at _ _ hi]) Tryd.underlying23 rfl (by kernel_rfl))
      · exact (opOb_move _ rfl (.inl rfl) rfl)
      · exact (opOb_move _ rfl (.inl rfl) rfl)
      · exact opOb_len Tryd.underlying24 rfl rfl (OpK.tmp rfl)
      · exact opOb_bin rfl rfl rfl (OpK.tmp rfl) OpK.const (fun w => sub1 m (by omega) (by omega) w)
      · exact opOb_idx rfl rfl (OpK.tmp rfl) (OpK.tmp rfl) (fun w => run_idxZ w Tryd.underlying24 (by kernel_rfl) ad (by omega))
      · exact opOb_ld rfl rfl (OpK.tmp rfl) (fun w' hb => run_loadAt_rd w' (ad.add ((m - 1) * 32)) 32 _ _ (u8v (zrN (m - 1))) (fun i hi => by rw [add_add, HCL.out w' hb ((m - 1) * 32 + i) (by omega)]; simp only [u8v]; rw [zrL_at _ _ hi]) Tryd.underlying23 rfl (by kernel_rfl))
      · exact opOb_fn2 ent_two rfl rfl (OpK.tmp rfl) (OpK.tmp rfl) (fun w' hb => (refTwo_any (zrN (m - 1)) (zrN (m - 1)) (zrN_lt _) (zrN_lt _) w' (HP.out.below (HW.out.trans (hb.mono HW.out.size)))).mono fun e w'' ⟨he, hb2⟩ => ⟨_, he.trans HZ.out, rfl, hb2⟩)
      · exact opOb_bs1Z Tryd.underlying24 (z := 32) (by kernel_rfl) (by omega) (by omega) (v0 := .agg (Array.replicate 32 (.int .u8 0))) (by kernel_rfl) rfl rfl (u8v (zrN m)) (OpK.tmp rfl)
      · intro w' hb
        simp only [fin, SF.is, SF.rdZ, forall_eq]
        simp only [Act.put, List.setIfInBounds_toArray, List.set_cons_succ, List.set_cons_zero]
        rintro _ ⟨A24, c24, rfl, hr24⟩
        have hw' := HW.out.trans (hb.mono HW.out.size)
        have ho' := HO.out.all hb
        refine wp_appZ w' (.tmp 10) (.tmp 24) 24 w.heap.size (z := .agg (Array.replicate 32 (.int .u8 0))) (k := 32) (bytes := 32) (by kernel_rfl) Tryd.underlying24 (by rfl) (by omega) rfl (m + 1) (u8v zrL) rfl rfl ho' hr24 (fun _ _ => rfl) rfl cat_z ⟨by omega, by omega⟩ hw'.size ?_
        intro A25 c25 w25 ho25 hg25 _
        have HB := Lib.hid (below_app hw' hg25 hw'.size (fun ad e => (HO.out.base_le ad e).1))
        have HO2 := Lib.hid ho25
        clear ho25 hg25 hr24 ho' hw' hb
        refine wp_asg (.slice A25 (m + 1) c25) (.inl rfl) rfl ?_
        simp only [seqWp, Act.put, List.setIfInBounds_toArray, List.set_cons_succ, List.set_cons_zero]
        go_wp2_with fail
        go_roundw
        case rel => exact ⟨m + 1, A25, c25, rfl, by omega, by omega, HO2.out, HB.out⟩
        case measure => show 100 - (m + 1) < 100 - m; omega
    · obtain rfl : m = d + 1 := by omega
      go_wp2_with fail
      go_ret
      exact ⟨A, c, rfl, HO.out, HW.out⟩
end Go.Proofs.YtjmbgdldnnmipaaDoor
/- The root of a tree of chunks, by the reference. (Printed by a program of mine.) -/
namespace Go.Proofs.YtjmbgdldnnmipaaDoor
set_option maxRecDepth 40000
open Go.RowKit
/-- The root of n chunks in a tree of depth d. -/
def treeN : Nat → Nat → (Nat → Nat) → Nat → Nat
  | 0, n, x => if n = 0 then zrN 0 else x
  | d + 1, n, x => if n = 0 then zrN (d + 1) else shaB (catN 32 (treeN d (min (2 ^ d) n) x) (treeN d (n - min (2 ^ d) n) (fun i => x (min (2 ^ d) n * 32 + i)))) 64
theorem treeN_lt {x : Nat → Nat} (hx : ∀ i, x i < 256) (d n : Nat) : ∀ i, treeN d n x i < 256 := by
  intro i
  cases d with
  | zero => unfold treeN; split; exact zrN_lt _ _; exact hx _
  | succ d => unfold treeN; split; exact zrN_lt _ _; exact shaB_lt _ _ _
theorem treeN_zero (d : Nat) (x : Nat → Nat) : treeN d 0 x = zrN d := by cases d <;> rfl
theorem treeN_leaf (n : Nat) (x : Nat → Nat) (hn : n ≠ 0) : treeN 0 n x = x := by unfold treeN; rw [if_neg hn]
theorem treeN_succ (d n h : Nat) (x : Nat → Nat) (hn : n ≠ 0) (hh : min (2 ^ d) n = h) : treeN (d + 1) n x = shaB (catN 32 (treeN d h x) (treeN d (n - h) (fun i => x (h * 32 + i)))) 64 := by
  subst hh
  rw [treeN, if_neg hn]
theorem subd (d : Nat) (hd : d ≤ 1000) (w : World) : (binOp .sub 3 (.int .i64 ((d + 1 : Nat) : Int)) (.int .i64 1)).run Tryd.prog w = .ok (.int .i64 (d : Int)) w := by
  have := TreeZeros.sub1 (d + 1) (by omega) (by omega) w
  rw [show d + 1 - 1 = d by omega] at this
  exact this
namespace TreeTree
theorem ent_tree (vs : Array Value) (w : World) : (callFunc 43 vs).run Tryd.prog w = .ok (.enter 43 vs) w := by kernel_rfl
theorem ent_two (vs : Array Value) (w : World) : (callFunc 46 vs).run Tryd.prog w = .ok (.enter 46 vs) w := by kernel_rfl
end TreeTree
open TreeTree in
set_option maxHeartbeats 8000000 in
theorem tree_ref : ∀ (d n c : Nat) (A : Option Addr) (x : Nat → Nat) (m cz : Nat) (Z : Option Addr) (w : World), d < m → d ≤ 40 → n ≤ c → Rd w w.heap.size A (n * 32) (u8v x) → (∀ i, x i < 256) → Rd w w.heap.size Z (m * 32) (u8v zrL) → n ≤ 4611686018427387904 → RefPkg w →
    Calls Tryd.prog 43 #[.slice A n c, .int .i64 (d : Int), .slice Z m cz] w fun e w' => e = .returned (rootV (treeN d n x)) ∧ Below w.heap.size w w' := by
  intro d
  induction d with
  | zero =>
    intro n c A x m cz Z w hdm _ hnc hb hx hz hn hp
    have HX := Lib.hid hb
    have HS0 := Lib.hid (HS.nil w)
    by_cases hn0 : n = 0
    · subst hn0
      obtain ⟨ad, hZ, _, _⟩ := hz (by omega)
      subst hZ
      have HZ := Lib.hid hz
      clear hb hx hz hp
      go_enter Tryd.func43, Tryd.ntmps43
      go_wp2_with (first
      | (refine wpList_allocL rfl 23 6 rfl rfl HS0.out (Array.replicate 32 (.int .u8 0)) (by kernel_rfl) 32 (u8v fun _ => 0) (by rfl) (zero_at 32 (.int .u8 0)) ?_; intro b6 w6 hb6 hc6 hs6; have HS6 := Lib.hid hs6; clear hs6)
      | (refine wpList_load_rd rfl 23 _ rfl 32 _ Tryd.underlying23 rfl (by kernel_rfl) (ad.add (0 * 32)) rfl (u8v (zrN 0)) (fun q hq => by rw [add_add]; exact ((HZ.out.below (HS6.out.out (by simp; omega))).cells (by omega)).trans (congrArg some (by simp only [u8v]; rw [zrL_at 0 q hq]))) ?_)
      | (refine wpList_storeH rfl 23 (.tmp 6) (.tmp 14) rfl HS6.out 0 rfl (u8v (zrN 0)) rfl rfl (by kernel_rfl) (fun _ _ => rfl) ?_; intro wy hs; have HY := Lib.hid hs; clear hs))
      exact ret_rowIs rfl (HY.out.row 0 rfl) _ rfl Tryd.underlying23 rfl (by kernel_rfl) rfl ⟨by rw [treeN_zero], HY.out.out (by simp; omega)⟩
    · obtain ⟨ad, hA, _, _⟩ := hb (by omega)
      subst hA
      clear hb hx hz hp
      go_enter Tryd.func43, Tryd.ntmps43
      go_wp2_with (first
      | (refine wpList_allocL rfl 23 6 rfl rfl HS0.out (Array.replicate 32 (.int .u8 0)) (by kernel_rfl) 32 (u8v fun _ => 0) (by rfl) (zero_at 32 (.int .u8 0)) ?_; intro b6 w6 hb6 hc6 hs6; have HS6 := Lib.hid hs6; clear hs6)
      | (refine wpList_load_rd rfl 23 _ rfl 32 _ Tryd.underlying23 rfl (by kernel_rfl) (ad.add (0)) rfl (u8v x) (fun q hq => by rw [add_add]; exact ((HX.out.below (HS6.out.out (by simp; omega))).cells (by omega)).trans (congrArg some (by rw [Nat.zero_add]))) ?_)
      | (refine wpList_storeH rfl 23 (.tmp 6) (.tmp 19) rfl HS6.out 0 rfl (u8v x) rfl rfl (by kernel_rfl) (fun _ _ => rfl) ?_; intro wy hs; have HY := Lib.hid hs; clear hs))
      exact ret_rowIs rfl (HY.out.row 0 rfl) _ rfl Tryd.underlying23 rfl (by kernel_rfl) rfl ⟨by rw [treeN_leaf n x hn0], HY.out.out (by simp; omega)⟩
  | succ d ih =>
    intro n c A x m cz Z w hdm hd40 hnc hb hx hz hn hp
    have HP := Lib.hid hp
    have HX := Lib.hid hb
    have HXl := Lib.hid hx
    have HZ := Lib.hid hz
    have HS0 := Lib.hid (HS.nil w)
    by_cases hn0 : n = 0
    · subst hn0
      obtain ⟨ad, hZ, _, _⟩ := hz (by omega)
      subst hZ
      clear hb hx hz hp ih
      go_enter Tryd.func43, Tryd.ntmps43
      go_wp2_with (first
      | (refine wpList_allocL rfl 23 6 rfl rfl HS0.out (Array.replicate 32 (.int .u8 0)) (by kernel_rfl) 32 (u8v fun _ => 0) (by rfl) (zero_at 32 (.int .u8 0)) ?_; intro b6 w6 hb6 hc6 hs6; have HS6 := Lib.hid hs6; clear hs6)
      | (refine wpList_load_rd rfl 23 _ rfl 32 _ Tryd.underlying23 rfl (by kernel_rfl) (ad.add ((d + 1) * 32)) rfl (u8v (zrN (d + 1))) (fun q hq => by rw [add_add]; exact ((HZ.out.below (HS6.out.out (by simp; omega))).cells (by omega)).trans (congrArg some (by simp only [u8v]; rw [zrL_at (d + 1) q hq]))) ?_)
      | (refine wpList_storeH rfl 23 (.tmp 6) (.tmp 14) rfl HS6.out 0 rfl (u8v (zrN (d + 1))) rfl rfl (by kernel_rfl) (fun _ _ => rfl) ?_; intro wy hs; have HY := Lib.hid hs; clear hs))
      exact ret_rowIs rfl (HY.out.row 0 rfl) _ rfl Tryd.underlying23 rfl (by kernel_rfl) rfl ⟨by rw [treeN_zero], HY.out.out (by simp; omega)⟩
    · obtain ⟨p, hp2⟩ : ∃ p, p = 2 ^ d := ⟨_, rfl⟩
      have HPw := Lib.hid hp2
      by_cases hpn : p ≤ n
      · have hmin : min (2 ^ d) n = p := by omega
        clear hb hx hz hp hp2
        go_enter Tryd.func43, Tryd.ntmps43
        have hh : p ≤ n := by omega
        obtain ⟨A2, hct⟩ := cut_fromZ (P := Tryd.prog) Tryd.underlying24 (z := 32) (by kernel_rfl) (by omega) A n c p hh hnc
        have HCt := Lib.hid hct
        clear hct
        go_wp2_with (first
          | (refine wpList_allocL rfl 23 6 rfl rfl HS0.out (Array.replicate 32 (.int .u8 0)) (by kernel_rfl) 32 (u8v fun _ => 0) (by rfl) (zero_at 32 (.int .u8 0)) ?_; intro b6 w6 hb6 hc6 hs6; have HS6 := Lib.hid hs6; clear hs6)
          | (refine wpList_as rfl 21 rfl (.int .i64 (d : Int)) ?_ ?_; (· exact ex_bin rfl rfl rfl rfl (fun w => subd d (by omega) w) _))
          | (refine wpList_as rfl 23 rfl (.int .i64 (p : Int)) ?_ ?_; (· rw [HPw.out]; exact ex_bin rfl rfl rfl rfl (fun w => TreeRef.shl1 d (by omega) w) _)))
        have HW6 := Lib.hid (HS6.out.out (by simp; omega))
        refine wp_region_factsS (l := [_, _, _, _, _, _, _, _, _, _, _, _, _, _, _]) (tl := []) (B := w6.heap.size) (w0 := w6) [SF.is (.slice (A) (n) (c)), SF.is (.int .i64 ((p : Nat) : Int)), SF.is (.slice (A) (p) (c)), SF.is (.int .i64 ((d + 1 : Nat) : Int)), SF.is (.int .i64 ((d : Nat) : Int)), SF.is (.slice (Z) (m) (cz)), SF.is (rootV (treeN d p x)), SF.is (.slice (A) (n) (c)), SF.is (.int .i64 ((p : Nat) : Int)), SF.is (.slice (A2) (n - p) (c - p)), SF.is (.int .i64 ((d + 1 : Nat) : Int)), SF.is (.int .i64 ((d : Nat) : Int)), SF.is (.slice (Z) (m) (cz)), SF.is (rootV (treeN d (n - p) (fun i => x (p * 32 + i)))), SF.is (rootV (shaB (catN 32 (treeN d p x) (treeN d (n - p) (fun i => x (p * 32 + i)))) 64))] (by kernel_rfl) (by kernel_rfl) rfl (Nat.le_refl _) (Below.refl _ _) ⟨?_, ?_, ?_, ?_, ?_, ?_, ?_, ?_, ?_, ?_, ?_, ?_, ?_, ?_, ?_, trivial⟩ ?_
        · exact (opOb_move _ rfl (.inl rfl) rfl)
        · exact (opOb_move _ rfl (.inl rfl) rfl)
        · exact opOb_slc rfl rfl (OpK.tmp rfl) OpKo.no (OpKo.tmp rfl) (fun w => cut_toZ (z := 32) Tryd.underlying24 (by kernel_rfl) A n c p (by omega) w)
        · exact (opOb_move _ rfl (.inl rfl) rfl)
        · exact opOb_bin rfl rfl rfl (OpK.tmp rfl) OpK.const (fun w => subd d (by omega) w)
        · exact (opOb_move _ rfl (.inl rfl) rfl)
        · exact opOb_fn3 ent_tree rfl rfl (OpK.tmp rfl) (OpK.tmp rfl) (OpK.tmp rfl) (fun w' hb => (ih p c A x m cz Z w' (by omega) (by omega) (by omega) (((HX.out.below (HW6.out.trans (hb.mono HW6.out.size))).more (Nat.le_trans HW6.out.size hb.size)).short (by omega)) (fun i => HXl.out _) ((HZ.out.below (HW6.out.trans (hb.mono HW6.out.size))).more (Nat.le_trans HW6.out.size hb.size)) (by omega) (HP.out.below (HW6.out.trans (hb.mono HW6.out.size)))).mono fun e w'' ⟨he, hb2⟩ => ⟨_, he, rfl, hb2⟩)
        · exact (opOb_move _ rfl (.inl rfl) rfl)
        · exact (opOb_move _ rfl (.inl rfl) rfl)
        · exact opOb_slc rfl rfl (OpK.tmp rfl) (OpKo.tmp rfl) OpKo.no (fun w => HCt.out.1 w)
        · exact (opOb_move _ rfl (.inl rfl) rfl)
        · exact opOb_bin rfl rfl rfl (OpK.tmp rfl) OpK.const (fun w => subd d (by omega) w)
        · exact (opOb_move _ rfl (.inl rfl) rfl)
        · exact opOb_fn3 ent_tree rfl rfl (OpK.tmp rfl) (OpK.tmp rfl) (OpK.tmp rfl) (fun w' hb => (ih (n - p) (c - p) A2 (fun i => x (p * 32 + i)) m cz Z w' (by omega) (by omega) (by omega) (HCt.out.2 w' _ (u8v x) ((HX.out.below (HW6.out.trans (hb.mono HW6.out.size))).more (Nat.le_trans HW6.out.size hb.size))) (fun i => HXl.out _) ((HZ.out.below (HW6.out.trans (hb.mono HW6.out.size))).more (Nat.le_trans HW6.out.size hb.size)) (by omega) (HP.out.below (HW6.out.trans (hb.mono HW6.out.size)))).mono fun e w'' ⟨he, hb2⟩ => ⟨_, he, rfl, hb2⟩)
        · exact opOb_fn2 ent_two rfl rfl (OpK.tmp rfl) (OpK.tmp rfl) (fun w' hb => (refTwo_any (treeN d p x) (treeN d (n - p) (fun i => x (p * 32 + i))) (treeN_lt HXl.out _ _) (treeN_lt (fun i => HXl.out _) _ _) w' (HP.out.below (HW6.out.trans (hb.mono HW6.out.size)))).mono fun e w'' ⟨he, hb2⟩ => ⟨_, he, rfl, hb2⟩)
        · intro w' hb
          simp only [fin, SF.is, forall_eq]
          simp only [Act.put, List.setIfInBounds_toArray, List.set_cons_succ, List.set_cons_zero]
          have hs := HS6.out.below hb
          refine wp_storeL 23 (.tmp 6) (.tmp 44) rfl hs 0 rfl (u8v (shaB (catN 32 (treeN d p x) (treeN d (n - p) (fun i => x (p * 32 + i)))) 64)) rfl rfl (by kernel_rfl) (fun _ _ => rfl) ?_
          clear hs hb
          intro wy hs
          have HY := Lib.hid hs
          clear hs
          simp only [seqWp]
          go_wp2_with fail
          exact ret_rowIs rfl (HY.out.row 0 rfl) _ rfl Tryd.underlying23 rfl (by kernel_rfl) rfl ⟨by rw [treeN_succ d n p x hn0 hmin], HY.out.out (by simp; omega)⟩
      · have hmin : min (2 ^ d) n = n := by omega
        clear hb hx hz hp hp2
        go_enter Tryd.func43, Tryd.ntmps43
        have hh : n ≤ n := by omega
        obtain ⟨A2, hct⟩ := cut_fromZ (P := Tryd.prog) Tryd.underlying24 (z := 32) (by kernel_rfl) (by omega) A n c n hh hnc
        have HCt := Lib.hid hct
        clear hct
        go_wp2_with (first
          | (refine wpList_allocL rfl 23 6 rfl rfl HS0.out (Array.replicate 32 (.int .u8 0)) (by kernel_rfl) 32 (u8v fun _ => 0) (by rfl) (zero_at 32 (.int .u8 0)) ?_; intro b6 w6 hb6 hc6 hs6; have HS6 := Lib.hid hs6; clear hs6)
          | (refine wpList_as rfl 21 rfl (.int .i64 (d : Int)) ?_ ?_; (· exact ex_bin rfl rfl rfl rfl (fun w => subd d (by omega) w) _))
          | (refine wpList_as rfl 23 rfl (.int .i64 (p : Int)) ?_ ?_; (· rw [HPw.out]; exact ex_bin rfl rfl rfl rfl (fun w => TreeRef.shl1 d (by omega) w) _)))
        have HW6 := Lib.hid (HS6.out.out (by simp; omega))
        refine wp_region_factsS (l := [_, _, _, _, _, _, _, _, _, _, _, _, _, _, _]) (tl := []) (B := w6.heap.size) (w0 := w6) [SF.is (.slice (A) (n) (c)), SF.is (.int .i64 ((n : Nat) : Int)), SF.is (.slice (A) (n) (c)), SF.is (.int .i64 ((d + 1 : Nat) : Int)), SF.is (.int .i64 ((d : Nat) : Int)), SF.is (.slice (Z) (m) (cz)), SF.is (rootV (treeN d n x)), SF.is (.slice (A) (n) (c)), SF.is (.int .i64 ((n : Nat) : Int)), SF.is (.slice (A2) (n - n) (c - n)), SF.is (.int .i64 ((d + 1 : Nat) : Int)), SF.is (.int .i64 ((d : Nat) : Int)), SF.is (.slice (Z) (m) (cz)), SF.is (rootV (treeN d (n - n) (fun i => x (n * 32 + i)))), SF.is (rootV (shaB (catN 32 (treeN d n x) (treeN d (n - n) (fun i => x (n * 32 + i)))) 64))] (by kernel_rfl) (by kernel_rfl) rfl (Nat.le_refl _) (Below.refl _ _) ⟨?_, ?_, ?_, ?_, ?_, ?_, ?_, ?_, ?_, ?_, ?_, ?_, ?_, ?_, ?_, trivial⟩ ?_
        · exact (opOb_move _ rfl (.inl rfl) rfl)
        · exact (opOb_move _ rfl (.inl rfl) rfl)
        · exact opOb_slc rfl rfl (OpK.tmp rfl) OpKo.no (OpKo.tmp rfl) (fun w => cut_toZ (z := 32) Tryd.underlying24 (by kernel_rfl) A n c n (by omega) w)
        · exact (opOb_move _ rfl (.inl rfl) rfl)
        · exact opOb_bin rfl rfl rfl (OpK.tmp rfl) OpK.const (fun w => subd d (by omega) w)
        · exact (opOb_move _ rfl (.inl rfl) rfl)
        · exact opOb_fn3 ent_tree rfl rfl (OpK.tmp rfl) (OpK.tmp rfl) (OpK.tmp rfl) (fun w' hb => (ih n c A x m cz Z w' (by omega) (by omega) (by omega) (((HX.out.below (HW6.out.trans (hb.mono HW6.out.size))).more (Nat.le_trans HW6.out.size hb.size)).short (by omega)) (fun i => HXl.out _) ((HZ.out.below (HW6.out.trans (hb.mono HW6.out.size))).more (Nat.le_trans HW6.out.size hb.size)) (by omega) (HP.out.below (HW6.out.trans (hb.mono HW6.out.size)))).mono fun e w'' ⟨he, hb2⟩ => ⟨_, he, rfl, hb2⟩)
        · exact (opOb_move _ rfl (.inl rfl) rfl)
        · exact (opOb_move _ rfl (.inl rfl) rfl)
        · exact opOb_slc rfl rfl (OpK.tmp rfl) (OpKo.tmp rfl) OpKo.no (fun w => HCt.out.1 w)
        · exact (opOb_move _ rfl (.inl rfl) rfl)
        · exact opOb_bin rfl rfl rfl (OpK.tmp rfl) OpK.const (fun w => subd d (by omega) w)
        · exact (opOb_move _ rfl (.inl rfl) rfl)
        · exact opOb_fn3 ent_tree rfl rfl (OpK.tmp rfl) (OpK.tmp rfl) (OpK.tmp rfl) (fun w' hb => (ih (n - n) (c - n) A2 (fun i => x (n * 32 + i)) m cz Z w' (by omega) (by omega) (by omega) (HCt.out.2 w' _ (u8v x) ((HX.out.below (HW6.out.trans (hb.mono HW6.out.size))).more (Nat.le_trans HW6.out.size hb.size))) (fun i => HXl.out _) ((HZ.out.below (HW6.out.trans (hb.mono HW6.out.size))).more (Nat.le_trans HW6.out.size hb.size)) (by omega) (HP.out.below (HW6.out.trans (hb.mono HW6.out.size)))).mono fun e w'' ⟨he, hb2⟩ => ⟨_, he, rfl, hb2⟩)
        · exact opOb_fn2 ent_two rfl rfl (OpK.tmp rfl) (OpK.tmp rfl) (fun w' hb => (refTwo_any (treeN d n x) (treeN d (n - n) (fun i => x (n * 32 + i))) (treeN_lt HXl.out _ _) (treeN_lt (fun i => HXl.out _) _ _) w' (HP.out.below (HW6.out.trans (hb.mono HW6.out.size)))).mono fun e w'' ⟨he, hb2⟩ => ⟨_, he, rfl, hb2⟩)
        · intro w' hb
          simp only [fin, SF.is, forall_eq]
          simp only [Act.put, List.setIfInBounds_toArray, List.set_cons_succ, List.set_cons_zero]
          have hs := HS6.out.below hb
          refine wp_storeL 23 (.tmp 6) (.tmp 44) rfl hs 0 rfl (u8v (shaB (catN 32 (treeN d n x) (treeN d (n - n) (fun i => x (n * 32 + i)))) 64)) rfl rfl (by kernel_rfl) (fun _ _ => rfl) ?_
          clear hs hb
          intro wy hs
          have HY := Lib.hid hs
          clear hs
          simp only [seqWp]
          go_wp2_with fail
          exact ret_rowIs rfl (HY.out.row 0 rfl) _ rfl Tryd.underlying23 rfl (by kernel_rfl) rfl ⟨by rw [treeN_succ d n n x hn0 hmin], HY.out.out (by simp; omega)⟩
end Go.Proofs.YtjmbgdldnnmipaaDoor
/- A tree's root, level by level. -/
namespace Go.Proofs.YtjmbgdldnnmipaaDoor
set_option maxRecDepth 40000
/-- The root of 2^d chunks. -/
def fullN : Nat → (Nat → Nat) → Nat → Nat
  | 0, x => x
  | d + 1, x => shaB (catN 32 (fullN d x) (fullN d (fun i => x (2 ^ d * 32 + i)))) 64
theorem full_succ (d : Nat) (x : Nat → Nat) : fullN (d + 1) x = shaB (catN 32 (fullN d x) (fullN d (fun i => x (2 ^ d * 32 + i)))) 64 := rfl
/-- The level above: two by two. -/
def lvl (x : Nat → Nat) : Nat → Nat := fun i => shaB (catN 32 (fun q => x (2 * (i / 32) * 32 + q)) (fun q => x ((2 * (i / 32) + 1) * 32 + q))) 64 (i % 32)
theorem two_congr {a b c d : Nat → Nat} (h1 : ∀ i, i < 32 → a i = c i) (h2 : ∀ i, i < 32 → b i = d i) : shaB (catN 32 a b) 64 = shaB (catN 32 c d) 64 := shaB_congr fun i hi => by
  unfold catN
  by_cases h : i < 32
  · rw [if_pos h, if_pos h, h1 i h]
  · rw [if_neg h, if_neg h, h2 _ (by omega)]
theorem fullN_congr : ∀ (d : Nat) (x y : Nat → Nat), (∀ i, i < 2 ^ d * 32 → x i = y i) → ∀ i, i < 32 → fullN d x i = fullN d y i := by
  intro d
  induction d with
  | zero => intro x y h i hi; exact h i (by simpa using hi)
  | succ d ih =>
    intro x y h i _
    have hp : 2 ^ (d + 1) = 2 * 2 ^ d := by rw [Nat.pow_succ]; omega
    rw [full_succ d x, full_succ d y]
    rw [two_congr (ih x y (fun i hi => h i (by omega))) (ih _ _ (fun i hi => h (2 ^ d * 32 + i) (by omega)))]
theorem fullN_lvl : ∀ (d : Nat) (x : Nat → Nat) (i : Nat), i < 32 → fullN (d + 1) x i = fullN d (lvl x) i := by
  intro d
  induction d with
  | zero =>
    intro x i hi
    have e : shaB (catN 32 x (fun i => x (2 ^ 0 * 32 + i))) 64 = shaB (catN 32 (fun q => x (2 * (i / 32) * 32 + q)) (fun q => x ((2 * (i / 32) + 1) * 32 + q))) 64 :=
      two_congr (fun q _ => congrArg x (by omega)) (fun q _ => congrArg x (by omega))
    exact (congrFun e i).trans (congrArg _ (show i = i % 32 by omega))
  | succ d ih =>
    intro x i hi
    rw [full_succ (d + 1) x, full_succ d (lvl x)]
    rw [two_congr (ih x) (ih (fun i => x (2 ^ (d + 1) * 32 + i)))]
    rw [two_congr (fun i _ => rfl) (fullN_congr d (lvl (fun i => x (2 ^ (d + 1) * 32 + i))) (fun i => lvl x (2 ^ d * 32 + i)) (fun j _ => by
      have hp : 2 ^ (d + 1) = 2 * 2 ^ d := by rw [Nat.pow_succ]; omega
      unfold lvl
      rw [show (2 ^ d * 32 + j) / 32 = 2 ^ d + j / 32 by omega, show (2 ^ d * 32 + j) % 32 = j % 32 by omega]
      rw [two_congr (c := fun q => x (2 * (2 ^ d + j / 32) * 32 + q)) (d := fun q => x ((2 * (2 ^ d + j / 32) + 1) * 32 + q)) (fun q _ => congrArg x (by rw [hp]; omega)) (fun q _ => congrArg x (by rw [hp]; omega))]))]
theorem zr_full : ∀ (d : Nat) (i : Nat), i < 32 → zrN d i = fullN d (fun _ => 0) i := by
  intro d
  induction d with
  | zero => intro i _; rfl
  | succ d ih => intro i _; rw [full_succ]; unfold zrN; rw [two_congr ih ih]
theorem tree_full : ∀ (d n : Nat) (x : Nat → Nat), n ≤ 2 ^ d → ∀ i, i < 32 → treeN d n x i = fullN d (padN (n * 32) x) i := by
  intro d
  induction d with
  | zero =>
    intro n x hn i hi
    unfold treeN fullN padN
    by_cases h : n = 0
    · subst h; rw [if_pos rfl, if_neg (by omega)]; rfl
    · rw [if_neg h, if_pos (by omega)]
  | succ d ih =>
    intro n x hn i hi
    have hp : 2 ^ (d + 1) = 2 * 2 ^ d := by rw [Nat.pow_succ]; omega
    by_cases h : n = 0
    · subst h
      rw [treeN_zero, zr_full _ i hi]
      refine fullN_congr _ _ _ (fun j _ => ?_) i hi
      unfold padN; rw [if_neg (by omega)]
    · obtain ⟨m, hm⟩ : ∃ m, min (2 ^ d) n = m := ⟨_, rfl⟩
      rw [treeN_succ d n m x h hm, full_succ]
      rw [two_congr (ih m x (by omega)) (ih (n - m) _ (by omega))]
      rw [two_congr (c := fullN d (padN (n * 32) x)) (d := fullN d (fun i => padN (n * 32) x (2 ^ d * 32 + i))) (fullN_congr d _ _ (fun j hj => ?_)) (fullN_congr d _ _ (fun j hj => ?_))]
      · unfold padN
        by_cases h1 : j < m * 32
        · rw [if_pos h1, if_pos (by omega)]
        · rw [if_neg h1, if_neg (by omega)]
      · unfold padN
        by_cases h1 : j < (n - m) * 32
        · rw [if_pos h1, if_pos (by omega), show m = 2 ^ d by omega]
        · rw [if_neg h1, if_neg (by omega)]
end Go.Proofs.YtjmbgdldnnmipaaDoor
