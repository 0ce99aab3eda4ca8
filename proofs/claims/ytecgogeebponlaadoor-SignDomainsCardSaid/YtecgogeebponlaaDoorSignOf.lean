/- Domains, by the program. (Printed by a program of mine.) -/
import Derived.Test.YtecgogeebponlaaDoorBytes
import Derived.Test.YtecgogeebponlaaDoorStep
import Derived.Test.YtecgogeebponlaaDoorShaAll
namespace Go.Proofs.YtecgogeebponlaaDoor
set_option maxRecDepth 40000
open Go.RowKit
/-- The bytes of a domain of kind K, version v and root r. -/
def domN (K : Nat) (v r : Nat → Nat) : Nat → Nat := catN 4 (leB K) (shaB (catN 32 (padN 4 v) r) 64)
theorem domN_lt {K : Nat} {v r : Nat → Nat} : ∀ i, domN K v r i < 256 := catN_lt (leB_lt K) (fun i => shaB_lt _ _ i)
namespace SignOf
theorem ent_bytes (vs : Array Value) (w : World) : (callFunc 42 vs).run Tryd.prog w = .ok (.enter 42 vs) w := by kernel_rfl
theorem ent_two (vs : Array Value) (w : World) : (callFunc 29 vs).run Tryd.prog w = .ok (.enter 29 vs) w := by kernel_rfl
theorem c1 (v : Nat → Nat) : ∀ j, j < 32 → (if 0 ≤ j ∧ j < 0 + 4 then u8v v (j - 0) else u8v (fun _ => 0) j) = u8v (padN 4 v) j := fun j _ => by
  unfold padN
  by_cases h : j < 4
  · rw [if_pos (by omega)]; simp only [u8v]; rw [if_pos h]; rfl
  · rw [if_neg (by omega)]; simp only [u8v]; rw [if_neg h]
theorem c2 (v : Nat → Nat) : ∀ j, j < 32 → (if 0 ≤ j ∧ j < 0 + 4 then u8v v (j - 0) else u8v (fun _ => 0) j) = u8v (padN 4 v) j := c1 v
theorem c3 (K : Nat) (h : Nat → Nat) : ∀ j, j < 32 → (if 4 ≤ j ∧ j < 4 + 28 then u8v h (j - 4) else u8v (padN 4 (leB K)) j) = u8v (catN 4 (leB K) h) j := fun j hj => by
  unfold padN catN
  by_cases h4 : j < 4
  · rw [if_neg (by omega)]; simp only [u8v]; rw [if_pos h4, if_pos h4]
  · rw [if_pos (by omega)]; simp only [u8v]; rw [if_neg h4]
end SignOf
open SignOf in
set_option maxHeartbeats 4000000 in
theorem of_look (k : Int) (K : Nat) (hk : IntKind.u64.wrap k = (K : Int)) (v r : Nat → Nat) (hv : ∀ i, v i < 256) (hr : ∀ i, r i < 256) (w : World) (hp : ShaPkg w) :
    Calls Tryd.prog 27 #[.int .i64 k, .agg (arr 4 (u8v v)), rootV r] w fun e w' => e = .returned (rootV (domN K v r)) ∧ Below w.heap.size w w' := by
  have HP := Lib.hid hp
  have HV := Lib.hid hv
  have HR := Lib.hid hr
  have HK := Lib.hid hk
  have HS0 := Lib.hid (HS.nil w)
  clear hp hv hr hk
  go_enter Tryd.func27, Tryd.ntmps27
  go_wp2_with (first
    | (refine wpList_boxL rfl 26 _ 4 rfl rfl HS0.out 4 (u8v v) rfl ?_; intro b4 w4 hb4 hc4 hs4; have HS4 := Lib.hid hs4; clear hs4)
    | (refine wpList_boxL rfl 24 _ 5 rfl rfl HS4.out 32 (u8v r) rfl ?_; intro b5 w5 hb5 hc5 hs5; have HS5 := Lib.hid hs5; clear hs5)
    | (refine wpList_allocL rfl 24 6 rfl rfl HS5.out (Array.replicate 32 (.int .u8 0)) (by kernel_rfl) 32 (u8v fun _ => 0) (by rfl) (zero_at 32 (.int .u8 0)) ?_; intro b6 w6 hb6 hc6 hs6; have HS6 := Lib.hid hs6; clear hs6)
    | (refine wpList_allocL rfl 24 7 rfl rfl HS6.out (Array.replicate 32 (.int .u8 0)) (by kernel_rfl) 32 (u8v fun _ => 0) (by rfl) (zero_at 32 (.int .u8 0)) ?_; intro b7 w7 hb7 hc7 hs7; have HS7 := Lib.hid hs7; clear hs7)
    | (refine wpList_allocL rfl 24 8 rfl rfl HS7.out (Array.replicate 32 (.int .u8 0)) (by kernel_rfl) 32 (u8v fun _ => 0) (by rfl) (zero_at 32 (.int .u8 0)) ?_; intro b8 w8 hb8 hc8 hs8; have HS8 := Lib.hid hs8; clear hs8))
  refine wp_region_factsS (l := [_, _]) (tl := []) (B := w8.heap.size) (w0 := w8) [SF.is (.slice (some ⟨b7, 0, none⟩) (32) (32)), SF.is (.slice (some ⟨b4, 0, none⟩) (4) (4))] (by kernel_rfl) (by kernel_rfl) rfl (Nat.le_refl _) (Below.refl _ _) ⟨?_, ?_, trivial⟩ ?_
  · exact opOb_slc rfl rfl (OpK.tmp rfl) (OpKo.no) (OpKo.no) (fun w => cut_arr Tryd.underlying24 1 (by kernel_rfl) none none (0) (32) (.inl ⟨rfl, rfl⟩) (.inl ⟨rfl, rfl⟩) (by omega) (by omega) (by omega) (by omega) (by omega) (by omega))
  · exact opOb_slc rfl rfl (OpK.tmp rfl) (OpKo.no) (OpKo.no) (fun w => cut_arr Tryd.underlying26 1 (by kernel_rfl) none none (0) (4) (.inl ⟨rfl, rfl⟩) (.inl ⟨rfl, rfl⟩) (by omega) (by omega) (by omega) (by omega) (by omega) (by omega))
  · intro w' hb
    simp only [fin, SF.is, forall_eq]
    simp only [Act.put, List.setIfInBounds_toArray, List.set_cons_succ, List.set_cons_zero]
    have hs := HS8.out.below hb
    refine wp_copyL rfl Tryd.underlying39 (by kernel_rfl) hs 1 rfl 0 32 32 (Rd.of_row (hs.row 4 rfl) (Nat.le_refl _) (hs.lt 4 rfl)) (fun _ _ => rfl) 4 rfl (by omega) rfl rfl _ (c1 v) ?_
    clear hs hb
    intro wa hs
    have HA := Lib.hid hs
    clear hs
    simp only [seqWp]
    go_wp2_with fail
    refine wp_region_factsS (l := [_, _, _, _, _, _, _, _]) (tl := [_]) (B := wa.heap.size) (w0 := wa) [SF.is (.int .i64 k), SF.is (.int .u64 ((K : Nat) : Int)), SF.is (.agg (arr 8 (u8v (leB K)))), SF.is (rootV (padN 4 v)), SF.is (rootV r), SF.is (rootV (shaB (catN 32 (padN 4 v) r) 64)), SF.new wa.heap.size 84 8 (u8v fun _ => 0), SF.new wa.heap.size 24 32 (u8v fun _ => 0)] (by kernel_rfl) (by kernel_rfl) rfl (Nat.le_refl _) (Below.refl _ _) ⟨?_, ?_, ?_, ?_, ?_, ?_, ?_, ?_, trivial⟩ ?_
    · exact (opOb_move _ rfl (.inl rfl) rfl)
    · exact opOb_cnv rfl rfl (OpK.tmp rfl) (fun w => by rw [← HK.out]; simp [go_sem])
    · exact opOb_fn1 ent_bytes rfl rfl (OpK.tmp rfl) (fun w' hb => (bytes_look K w').mono fun e w'' ⟨he, hb2⟩ => ⟨_, he, rfl, hb2⟩)
    · exact opOb_ld rfl rfl (OpK.tmp rfl) (fun w' hb => ld_all (HA.out.row 1 rfl) (HA.out.row 1 rfl).lt Tryd.underlying24 rfl (by kernel_rfl) w' hb)
    · exact opOb_ld rfl rfl (OpK.tmp rfl) (fun w' hb => ld_all (HA.out.row 3 rfl) (HA.out.row 3 rfl).lt Tryd.underlying24 rfl (by kernel_rfl) w' hb)
    · exact opOb_fn2 ent_two rfl rfl (OpK.tmp rfl) (OpK.tmp rfl) (fun w' hb => (two_any (padN 4 v) r (padN_lt HV.out) HR.out w' (HP.out.below ((HA.out.out (by simp; omega)).trans (hb.mono HA.out.size)))).mono fun e w'' ⟨he, hb2⟩ => ⟨_, he, rfl, hb2⟩)
    · exact opOb_new wa.heap.size rfl rfl (Array.replicate 8 (.int .u8 0)) (by kernel_rfl) 8 (u8v fun _ => 0) (by rfl) (zero_at 8 (.int .u8 0)) (Nat.le_refl _)
    · exact opOb_new wa.heap.size rfl rfl (Array.replicate 32 (.int .u8 0)) (by kernel_rfl) 32 (u8v fun _ => 0) (by rfl) (zero_at 32 (.int .u8 0)) (Nat.le_refl _)
    · intro w' hb
      simp only [fin, SF.is, SF.new, forall_eq]
      simp only [Act.put, List.setIfInBounds_toArray, List.set_cons_succ, List.set_cons_zero]
      rintro _ ⟨c9, rfl, hc9, hr9⟩ _ ⟨c10, rfl, hc10, hr10⟩
      have hs := HA.out.below hb
      have hsz := HA.out.size
      have hn9 := row_ne hr9 hr10 (by decide)
      have hs1 := hs.add hr9 (by omega) (fun r hr => by have := (HA.out.has r hr).lt; omega)
      have hs2 := hs1.add hr10 (by omega) (fun r hr => by
        rcases List.mem_cons.1 hr with rfl | hr
        · exact hn9
        · have := (HA.out.has r hr).lt; omega)
      clear hs hb hs1 hr9 hr10 hn9
      have hs := hs2
      clear hs2
      refine wp_storeL 84 (.tmp 9) (.tmp 16) rfl hs 1 rfl (u8v (leB K)) rfl rfl (by kernel_rfl) (fun _ _ => rfl) ?_
      clear hs
      intro wd hs
      refine wp_storeL 24 (.tmp 10) (.tmp 19) rfl hs 0 rfl (u8v (shaB (catN 32 (padN 4 v) r) 64)) rfl rfl (by kernel_rfl) (fun _ _ => rfl) ?_
      clear hs
      intro we hs
      have HE := Lib.hid hs
      clear hs
      simp only [seqWp, Act.put]
      go_wp2_with fail
      refine wp_region_factsS (l := [_, _]) (tl := []) (B := we.heap.size) (w0 := we) [SF.is (.slice (some ⟨b8, 0, none⟩) (4) (32)), SF.is (.slice (some ⟨c9, 0, none⟩) (8) (8))] (by kernel_rfl) (by kernel_rfl) rfl (Nat.le_refl _) (Below.refl _ _) ⟨?_, ?_, trivial⟩ ?_
      · exact opOb_slc rfl rfl (OpK.tmp rfl) (OpKo.no) (OpKo.const) (fun w => cut_arr Tryd.underlying24 1 (by kernel_rfl) none (some _) (0) (4) (.inl ⟨rfl, rfl⟩) (.inr rfl) (by omega) (by omega) (by omega) (by omega) (by omega) (by omega))
      · exact opOb_slc rfl rfl (OpK.tmp rfl) (OpKo.no) (OpKo.no) (fun w => cut_arr Tryd.underlying84 1 (by kernel_rfl) none none (0) (8) (.inl ⟨rfl, rfl⟩) (.inl ⟨rfl, rfl⟩) (by omega) (by omega) (by omega) (by omega) (by omega) (by omega))
      · intro w' hb
        simp only [fin, SF.is, forall_eq]
        simp only [Act.put, List.setIfInBounds_toArray, List.set_cons_succ, List.set_cons_zero]
        have hs := HE.out.below hb
        refine wp_copyL rfl Tryd.underlying39 (by kernel_rfl) hs 2 rfl 0 4 32 (Rd.of_row (hs.row 1 rfl) (Nat.le_refl _) (hs.lt 1 rfl)) (fun _ _ => rfl) 4 rfl (by omega) rfl rfl _ (c2 (leB K)) ?_
        clear hs hb
        intro wf hs
        have HF := Lib.hid hs
        clear hs
        simp only [seqWp]
        go_wp2_with fail
        refine wp_region_factsS (l := [_, _]) (tl := []) (B := wf.heap.size) (w0 := wf) [SF.is (.slice (some ⟨b8, 4, none⟩) (28) (28)), SF.is (.slice (some ⟨c10, 0, none⟩) (32) (32))] (by kernel_rfl) (by kernel_rfl) rfl (Nat.le_refl _) (Below.refl _ _) ⟨?_, ?_, trivial⟩ ?_
        · exact opOb_slc rfl rfl (OpK.tmp rfl) (OpKo.const) (OpKo.no) (fun w => cut_arr Tryd.underlying24 1 (by kernel_rfl) (some _) none (4) (32) (.inr rfl) (.inl ⟨rfl, rfl⟩) (by omega) (by omega) (by omega) (by omega) (by omega) (by omega))
        · exact opOb_slc rfl rfl (OpK.tmp rfl) (OpKo.no) (OpKo.no) (fun w => cut_arr Tryd.underlying24 1 (by kernel_rfl) none none (0) (32) (.inl ⟨rfl, rfl⟩) (.inl ⟨rfl, rfl⟩) (by omega) (by omega) (by omega) (by omega) (by omega) (by omega))
        · intro w' hb
          simp only [fin, SF.is, forall_eq]
          simp only [Act.put, List.setIfInBounds_toArray, List.set_cons_succ, List.set_cons_zero]
          have hs := HF.out.below hb
          refine wp_copyL rfl Tryd.underlying39 (by kernel_rfl) hs 2 rfl 4 28 28 (Rd.of_row (hs.row 0 rfl) (Nat.le_refl _) (hs.lt 0 rfl)) (fun _ _ => rfl) 28 rfl (by omega) rfl rfl _ (c3 K (shaB (catN 32 (padN 4 v) r) 64)) ?_
          clear hs hb
          intro wg hs
          have HG := Lib.hid hs
          clear hs
          simp only [seqWp]
          go_wp2_with (first
            | (refine wpList_load_rd rfl 24 _ rfl 32 _ Tryd.underlying24 rfl (by kernel_rfl) ⟨b8, 0, none⟩ rfl (u8v (catN 4 (leB K) (shaB (catN 32 (padN 4 v) r) 64))) (fun i hi => by rw [add_lit0]; exact HG.out.cell 2 i rfl hi) ?_)
            | (refine wpList_storeH rfl 24 (.tmp 6) (.tmp 26) rfl HG.out 4 rfl (u8v (catN 4 (leB K) (shaB (catN 32 (padN 4 v) r) 64))) rfl rfl (by kernel_rfl) (fun _ _ => rfl) ?_; intro wh hs; have HH := Lib.hid hs; clear hs))
          exact ret_rowIs rfl (HH.out.row 4 rfl) _ rfl Tryd.underlying24 rfl (by kernel_rfl) rfl ⟨rfl, HH.out.out (by simp; omega)⟩
end Go.Proofs.YtecgogeebponlaaDoor
