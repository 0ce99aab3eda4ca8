/- The law ShaSums. (Printed by a program of mine.) -/
import Derived.Test.YtlklomaekimjlaaDoorShaAwake
import Derived.Test.YtlklomaekimjlaaDoorShaRef2
namespace Go.Proofs.YtlklomaekimjlaaDoor
open Go.RowKit

theorem ent_sum (vs : Array Value) (w : World) : (callFunc 9 vs).run Tryd.prog w = .ok (.enter 9 vs) w := by kernel_rfl
theorem ent_two (vs : Array Value) (w : World) : (callFunc 11 vs).run Tryd.prog w = .ok (.enter 11 vs) w := by kernel_rfl
theorem ent_refTwo (vs : Array Value) (w : World) : (callFunc 12 vs).run Tryd.prog w = .ok (.enter 12 vs) w := by kernel_rfl
theorem seven_F (n : Nat) (x : Nat → Nat) : ∀ i, i < n + 1 → catF n (u8v x) (fun _ => .int .u8 7) i = (fun i => if i < n then u8v x i else .int .u8 7) i := fun i _ => by simp only [catF]

set_option maxHeartbeats 4000000 in
theorem shaSums_law (w : World) (A : Option Addr) (n c : Nat) (x : Nat → Nat) (hb : Rd w w.heap.size A n (u8v x)) (hx : ∀ i, x i < 256) (hn : n ≤ 140737488351232) (_hnc : n ≤ c) (y : Nat → Nat) (hy : ∀ i, y i < 256) (z : Nat → Nat) (hz : ∀ i, z i < 256) (hp : ShaPkg w) (hr : RefPkg w) :
    Calls Tryd.prog 3 #[.slice A n c, rootV y, rootV z] w fun e w' => e = .returned (.bool true) ∧ Below w.heap.size w w' := by
  have HP := Lib.hid hp
  have HR := Lib.hid hr
  have HBx := Lib.hid hb
  have HX := Lib.hid hx
  have HY := Lib.hid hy
  have HZ := Lib.hid hz
  have H0 := Lib.hid (((HS.nil w).allocB _ (arr 32 (u8v y)) 24 32 _ (size_arr _ _) (arr_at _ _) rfl).allocB (w.heap.size + 1) (arr 32 (u8v z)) 24 32 _ (size_arr _ _) (arr_at _ _) (by simp))
  have HF1 := Lib.hid (show ∀ i, i < n → catF 0 (u8v x) (u8v x) i = u8v x i from fun i _ => by simp [catF])
  have HF2 := Lib.hid (seven_F n x)
  have Hcut := fun (A : Option Addr) (c : Nat) (h : n ≤ c) (w : World) => cut_to (P := Tryd.prog) Tryd.underlying22 (by kernel_rfl) A (n + 1) c n h w
  have HCut := Lib.hid Hcut
  clear hp hr hb hx hy hz Hcut
  go_enter Tryd.func3, Tryd.ntmps3
  go_wp2_with (first
    | (go_at_call 8; refine (awake_any _ (HP.out.below (H0.out.out (by simp)))).mono ?_; rintro e w1 ⟨rfl, hb1⟩; have H1 := Lib.hid (H0.out.below hb1); have HB1 := Lib.hid (H1.out.out (by simp)); clear hb1)
    | (at_builtin; refine wpList_app _ (.tmp 10) (.tmp 11) 22 w1.heap.size u8_info Tryd.underlying22 rfl rfl rfl n (u8v x) rfl rfl (Own.new0 _ _ _ (u8v x) (Nat.le_refl _)) (((HBx.out.below HB1.out).more HB1.out.size).alloc (Nat.le_refl _) _) (fun _ _ => rfl) (Nat.zero_add _).symm HF1.out ⟨by omega, by omega⟩ (by simp) ?_; intro A1 c1 w2 o1 g1 b1; have O1 := Lib.hid (And.intro o1 (And.intro g1 b1)); clear o1 g1 b1)
    | (at_builtin; refine wpList_app _ (.tmp 12) (.tmp 13) 22 w1.heap.size u8_info Tryd.underlying22 rfl rfl rfl (n + 1) (fun i => if i < n then u8v x i else .int .u8 7) rfl rfl (O1.out.1.alloc _) (Rd.one _ _ _) (fun _ _ => rfl) rfl HF2.out ⟨by omega, by omega⟩ (by have := O1.out.2.1.size; simp at this; simp; omega) ?_; intro A2 c2 wr o2 g2 b2; have hc2 : n + 1 ≤ c2 := o2.cap; have hcut := HCut.out A2 c2 (by omega); have O2 := Lib.hid (And.intro o2 (And.intro g2 b2)); clear o2 g2 b2))
  clear hcut
  have hbA : Below w1.heap.size w1 w2 := below_app ((Below.refl _ _).alloc (Nat.le_refl _) _) O1.out.2.1 (by simp) (by rintro ad h; injection h with h; subst h; exact Nat.le_refl _)
  have hbB : Below w1.heap.size w1 wr := below_app (hbA.alloc hbA.size _) O2.out.2.1 (by have := hbA.size; simp; omega) (fun ad h => (O1.out.1.base_le ad h).1)
  have hs4 := H1.out.below hbB
  have HB4 := Lib.hid (hs4.out (by simp))
  have HLT := Lib.hid (show w.heap.size + 1 < w.heap.size + 2 by omega)
  have hw2 : w.heap.size + 1 < wr.heap.size := hs4.lt 0 rfl
  have Hz := Lib.hid (show ∀ i, i < 32 → wr.cell? ⟨w.heap.size + 1, i, none⟩ = some (u8v z i) from fun i hi => hs4.cell 0 i rfl hi)
  have Hy := Lib.hid (show ∀ i, i < 32 → wr.cell? ⟨w.heap.size, i, none⟩ = some (u8v y i) from fun i hi => hs4.cell 1 i rfl hi)
  have hrd2 := O2.out.1.rd
  obtain ⟨ad2, had, hadb, hc7⟩ := hrd2.at_ (show n < n + 1 by omega)
  have HAD := Lib.hid had
  have HADB := Lib.hid hadb
  have HC7 := Lib.hid (show wr.cell? (ad2.add n) = some (.int .u8 7) by rw [hc7, if_neg (by omega)])
  have HO2 := Lib.hid (show Rd wr wr.heap.size A2 n (u8v x) from (hrd2.short (by omega)).congr (fun i hi => if_pos hi))
  clear hbA hbB hs4 hrd2 had hadb hc7
  refine wp_region_facts (B := wr.heap.size) (w0 := wr) [SF.is (.slice (A2) (n) (c2)), SF.is (rootV (shaB x n)), SF.is (.slice (A) (n) (c)), SF.is (rootV (shaB x n)), SF.is (.bool true), SF.is (.bool true), SF.is (.slice (A2) (n) (c2)), SF.is (.string (strF n x)), SF.is (.slice (A) (n) (c)), SF.is (.string (strF n x)), SF.is (.bool true), SF.is (.bool true), SF.is (.bool true), SF.is (.slice (A2) (n) (c2)), SF.is (.slice (A) (n) (c)), SF.is (.int .i64 ((n : Nat) : Int)), SF.is (.int .i64 ((n + 1 : Nat) : Int)), SF.is (.slice (A2) (n + 1) (c2)), SF.is (.slice (A) (n) (c)), SF.is (.int .i64 ((n : Nat) : Int)), SF.is (.pointer (some (ad2.add n))), SF.is (.int .u8 7), SF.is (.bool true), SF.is (.bool true), SF.is (.bool true), SF.is (rootV y), SF.is (rootV z), SF.is (rootV (shaB (catN 32 y z) 64)), SF.is (rootV y), SF.is (rootV z), SF.is (rootV (shaB (catN 32 y z) 64)), SF.is (.bool true), SF.is (.bool true), SF.is (.bool true)] (by kernel_rfl) (by kernel_rfl) rfl (Nat.le_refl _) (Below.refl _ _) ⟨?_, ?_, ?_, ?_, ?_, ?_, ?_, ?_, ?_, ?_, ?_, ?_, ?_, ?_, ?_, ?_, ?_, ?_, ?_, ?_, ?_, ?_, ?_, ?_, ?_, ?_, ?_, ?_, ?_, ?_, ?_, ?_, ?_, ?_, trivial⟩ ?_
  · exact (opOb_move _ rfl (.inl rfl) rfl)
  · exact opOb_fn1 ent_sum rfl rfl (OpK.tmp rfl) (fun w' hb => (sum_any n c2 A2 x w' ((HO2.out.below hb).more hb.size) HX.out (by omega) (by omega) (HP.out.below (HB4.out.trans (hb.mono HB4.out.size)))).mono fun e w'' ⟨he, hb2⟩ => ⟨_, he, rfl, hb2⟩)
  · exact (opOb_move _ rfl (.inl rfl) rfl)
  · exact opOb_fn1 ent_refSum rfl rfl (OpK.tmp rfl) (fun w' hb => (refSum_any n c A x w' ((HBx.out.below (HB4.out.trans (hb.mono HB4.out.size))).more (Nat.le_trans HB4.out.size hb.size)) HX.out (by omega) (HR.out.below (HB4.out.trans (hb.mono HB4.out.size)))).mono fun e w'' ⟨he, hb2⟩ => ⟨_, he, rfl, hb2⟩)
  · exact opOb_eqArr 5 32 .u8 (fun i => ((shaB x n i : Nat) : Int)) (fun i => ((shaB x n i : Nat) : Int)) true Tryd.underlying24 Tryd.underlying5 (by kernel_rfl) (by kernel_rfl) (by simp) rfl rfl (OpK.tmp rfl) (OpK.tmp rfl)
  · exact (opOb_move _ rfl (.inl rfl) rfl)
  · exact opOb_on 23 rfl rfl ((opOb_move _ rfl (.inl rfl) rfl))
  · exact opOb_on 23 rfl rfl (opOb_cnvW rfl rfl (OpK.tmp rfl) (fun w' hb => run_convert_rd w' _ _ 5 Tryd.underlying22 Tryd.underlying5 Tryd.underlying9 x ((HO2.out.below hb).more hb.size)))
  · exact opOb_on 23 rfl rfl ((opOb_move _ rfl (.inl rfl) rfl))
  · exact opOb_on 23 rfl rfl (opOb_cnvW rfl rfl (OpK.tmp rfl) (fun w' hb => run_convert_rd w' _ _ 5 Tryd.underlying22 Tryd.underlying5 Tryd.underlying9 x ((HBx.out.below (HB4.out.trans (hb.mono HB4.out.size))).more (Nat.le_trans HB4.out.size hb.size))))
  · exact opOb_on 23 rfl rfl (opOb_eqStr _ _ true (str_refl _) rfl rfl (OpK.tmp rfl) (OpK.tmp rfl))
  · exact opOb_pickT rfl rfl rfl (OpK.tmp rfl)
  · exact (opOb_move _ rfl (.inl rfl) rfl)
  · exact opOb_on 30 rfl rfl ((opOb_move _ rfl (.inl rfl) rfl))
  · exact opOb_on 30 rfl rfl ((opOb_move _ rfl (.inl rfl) rfl))
  · exact opOb_on 30 rfl rfl (opOb_len Tryd.underlying22 rfl rfl (OpK.tmp rfl))
  · exact opOb_on 30 rfl rfl (opOb_nadd n 1 (by omega) rfl rfl (OpK.tmp rfl) OpK.const)
  · exact opOb_on 30 rfl rfl (opOb_slc rfl rfl (OpK.tmp rfl) OpKo.no (OpKo.tmp rfl) (fun w => cut_to Tryd.underlying22 (by kernel_rfl) A2 n c2 (n + 1) (by omega) w))
  · exact opOb_on 30 rfl rfl ((opOb_move _ rfl (.inl rfl) rfl))
  · exact opOb_on 30 rfl rfl (opOb_len Tryd.underlying22 rfl rfl (OpK.tmp rfl))
  · exact opOb_on 30 rfl rfl (opOb_idx rfl rfl (OpK.tmp rfl) (OpK.tmp rfl) (fun w => by rw [HAD.out]; exact run_idx_slice w ad2 (n + 1) c2 n (by omega)))
  · exact opOb_on 30 rfl rfl (opOb_ld rfl rfl (OpK.tmp rfl) (fun w' hb => run_ld8 w' _ 7 ((hb.cell (by rw [block_of_add]; exact HADB.out)).trans HC7.out)))
  · exact opOb_on 30 rfl rfl (opOb_eqInt .u8 (7) (7) true Tryd.underlying5 (by simp) rfl rfl (OpK.tmp rfl) OpK.const)
  · exact opOb_pickT rfl rfl rfl (OpK.tmp rfl)
  · exact (opOb_move _ rfl (.inl rfl) rfl)
  · exact opOb_on 42 rfl rfl (opOb_ld rfl rfl (OpK.tmp rfl) (fun w' hb => run_loadAt_part w' _ 0 32 _ _ (u8v y) (fun i hi => by rw [Nat.zero_add]; exact (hb.cell (p := ⟨w.heap.size, i, none⟩) (show w.heap.size < wr.heap.size by omega)).trans (Hy.out i hi)) Tryd.underlying24 rfl (by kernel_rfl)))
  · exact opOb_on 42 rfl rfl (opOb_ld rfl rfl (OpK.tmp rfl) (fun w' hb => run_loadAt_part w' _ 0 32 _ _ (u8v z) (fun i hi => by rw [Nat.zero_add]; exact (hb.cell (p := ⟨w.heap.size + 1, i, none⟩) (show w.heap.size + 1 < wr.heap.size by omega)).trans (Hz.out i hi)) Tryd.underlying24 rfl (by kernel_rfl)))
  · exact opOb_on 42 rfl rfl (opOb_fn2 ent_two rfl rfl (OpK.tmp rfl) (OpK.tmp rfl) (fun w' hb => (two_any y z HY.out HZ.out w' (HP.out.below (HB4.out.trans (hb.mono HB4.out.size)))).mono fun e w'' ⟨he, hb2⟩ => ⟨_, he, rfl, hb2⟩))
  · exact opOb_on 42 rfl rfl (opOb_ld rfl rfl (OpK.tmp rfl) (fun w' hb => run_loadAt_part w' _ 0 32 _ _ (u8v y) (fun i hi => by rw [Nat.zero_add]; exact (hb.cell (p := ⟨w.heap.size, i, none⟩) (show w.heap.size < wr.heap.size by omega)).trans (Hy.out i hi)) Tryd.underlying24 rfl (by kernel_rfl)))
  · exact opOb_on 42 rfl rfl (opOb_ld rfl rfl (OpK.tmp rfl) (fun w' hb => run_loadAt_part w' _ 0 32 _ _ (u8v z) (fun i hi => by rw [Nat.zero_add]; exact (hb.cell (p := ⟨w.heap.size + 1, i, none⟩) (show w.heap.size + 1 < wr.heap.size by omega)).trans (Hz.out i hi)) Tryd.underlying24 rfl (by kernel_rfl)))
  · exact opOb_on 42 rfl rfl (opOb_fn2 ent_refTwo rfl rfl (OpK.tmp rfl) (OpK.tmp rfl) (fun w' hb => (refTwo_any y z HY.out HZ.out w' (HR.out.below (HB4.out.trans (hb.mono HB4.out.size)))).mono fun e w'' ⟨he, hb2⟩ => ⟨_, he, rfl, hb2⟩))
  · exact opOb_on 42 rfl rfl (opOb_eqArr 5 32 .u8 (fun i => ((shaB (catN 32 y z) 64 i : Nat) : Int)) (fun i => ((shaB (catN 32 y z) 64 i : Nat) : Int)) true Tryd.underlying24 Tryd.underlying5 (by kernel_rfl) (by kernel_rfl) (by simp) rfl rfl (OpK.tmp rfl) (OpK.tmp rfl))
  · exact opOb_pickT rfl rfl rfl (OpK.tmp rfl)
  · exact (opOb_move _ rfl (.inr rfl) rfl)
  · intro w' hb
    simp only [fin, SF.is, forall_eq]
    simp only [Act.put, List.setIfInBounds_toArray, List.set_cons_succ, List.set_cons_zero]
    have hend := HB4.out.trans (hb.mono HB4.out.size)
    go_wp2_with fail
    go_ret
    exact ⟨rfl, hend⟩
end Go.Proofs.YtlklomaekimjlaaDoor
