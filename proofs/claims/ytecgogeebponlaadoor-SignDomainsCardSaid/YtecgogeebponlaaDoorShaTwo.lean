/- The walk of Two. (Printed by a program of mine.) -/
import Derived.Test.YtecgogeebponlaaDoorShaDig
import Derived.Test.YtecgogeebponlaaDoorTail
namespace Go.Proofs.YtecgogeebponlaaDoor
set_option maxRecDepth 40000
open Go.RowKit

theorem h0_at : ∀ i, i < 8 → (#[wv (h0 0), wv (h0 1), wv (h0 2), wv (h0 3), wv (h0 4), wv (h0 5), wv (h0 6), wv (h0 7)] : Array Value)[i]? = some (wv (h0 i)) := by
  intro i hi
  match i, hi with
  | 0, _ | 1, _ | 2, _ | 3, _ | 4, _ | 5, _ | 6, _ | 7, _ => rfl
theorem padOf (m : Nat → Nat) : ∀ i, i < 64 → (if i = 62 then 2 else if i = 0 then 128 else 0 : Nat) = blk (padF 64 m) 1 i := by
  intro i hi
  unfold blk padF
  rw [if_neg (show ¬ 64 * 1 + i < 64 by omega)]
  by_cases e : i = 0
  · subst e; simp
  · rw [if_neg (show ¬ 64 * 1 + i = 64 by omega), if_neg (show ¬ i = 0 from e)]
    by_cases e2 : i = 62
    · subst e2; decide
    · rw [if_neg e2]
      by_cases e3 : i = 63
      · subst e3; decide
      · by_cases e4 : 64 * 1 + i < 64 * nb 64 - 8
        · rw [if_pos e4]
        · rw [if_neg e4]
          have : i = 56 ∨ i = 57 ∨ i = 58 ∨ i = 59 ∨ i = 60 ∨ i = 61 := by
            have : nb 64 = 2 := rfl
            omega
          rcases this with rfl | rfl | rfl | rfl | rfl | rfl <;> decide

set_option maxHeartbeats 2000000 in
theorem two_any (x y : Nat → Nat) (hx : ∀ i, x i < 256) (hy : ∀ i, y i < 256) (w : World) (hp : ShaPkg w) :
    Calls Tryd.prog 29 #[rootV x, rootV y] w fun e w' => e = .returned (rootV (shaB (catN 32 x y) 64)) ∧ Below w.heap.size w w' := by
  have HP := Lib.hid hp
  clear hp
  obtain ⟨M, hMd⟩ : ∃ M, M = padF 64 (catN 32 x y) := ⟨_, rfl⟩
  have hM : ∀ i, M i < 256 := fun i => by rw [hMd]; exact padF_lt _ _ (catN_lt hx hy) i
  have hres : shaB (catN 32 x y) 64 = rootOf (Hs M 2) := by rw [hMd]; rfl
  have pad_cells : ∀ f : Nat → Value, (∀ j, j < 64 → f j = .int .u8 0) → ∀ j, j < 64 → (if j = 62 then .int .u8 2 else if j = 0 then .int .u8 128 else f j) = u8v (blk M 1) j := fun f hf j hj => by
    rw [hMd, hf j hj]; show _ = Value.int .u8 ((blk _ 1 j : Nat) : Int)
    rw [← padOf (catN 32 x y) j hj]
    by_cases e : j = 62
    · subst e; rfl
    · rw [if_neg e, if_neg e]
      by_cases e2 : j = 0
      · subst e2; rfl
      · rw [if_neg e2, if_neg e2]; rfl
  have both_cells : ∀ f : Nat → Value, ∀ j, j < 64 → (if 32 ≤ j ∧ j < 32 + 32 then u8v y (j - 32) else if 0 ≤ j ∧ j < 0 + 32 then u8v x (j - 0) else f j) = u8v (blk M 0) j := fun f j hj => by
    have hb : blk M 0 j = catN 32 x y j := by
      rw [hMd]; unfold blk padF; rw [if_pos (by omega), show 64 * 0 + j = j by omega]
    show _ = Value.int .u8 ((blk M 0 j : Nat) : Int)
    rw [hb]
    unfold catN
    by_cases e : j < 32
    · rw [if_neg (by omega), if_pos (by omega), if_pos e]; rfl
    · rw [if_pos (by omega), if_neg e]
  rw [hres]
  have HB := Lib.hid both_cells
  have HD := Lib.hid pad_cells
  clear both_cells pad_cells hres hMd
  go_enter Tryd.func29, Tryd.ntmps29
  go_wp2
  refine HS.go (w0 := w) (rows := [⟨w.heap.size + 4, 93, 64, u8v fun _ => 0⟩, ⟨w.heap.size + 3, 93, 64, u8v fun _ => 0⟩, ⟨w.heap.size + 2, 24, 32, u8v fun _ => 0⟩, ⟨w.heap.size + 1, 24, 32, u8v y⟩, ⟨w.heap.size, 24, 32, u8v x⟩])
    (by
      have h := (((((HS.nil w).alloc (arr 32 (u8v x)) 24 32 _ (size_arr _ _) (arr_at _ _)).alloc (arr 32 (u8v y)) 24 32 _ (size_arr _ _) (arr_at _ _)).alloc (Array.replicate 32 (.int .u8 0)) 24 32 _ (by simp) (zero_at 32 _)).alloc (Array.replicate 64 (.int .u8 0)) 93 64 _ (by simp) (zero_at 64 _)).alloc (Array.replicate 64 (.int .u8 0)) 93 64 _ (by simp) (zero_at 64 _)
      simp only [alloc_sz] at h
      exact h) (fun wr hs => ?_)
  refine wp_region_factsS (l := [_, _]) (tl := []) (B := wr.heap.size) (w0 := wr) [SF.is (.slice (some ⟨w.heap.size + 3, 0, none⟩) (32) (64)), SF.is (.slice (some ⟨w.heap.size, 0, none⟩) (32) (32))] (by kernel_rfl) (by kernel_rfl) rfl (Nat.le_refl _) (Below.refl _ _) ⟨?_, ?_, trivial⟩ ?_
  · exact opOb_slc rfl rfl (OpK.tmp rfl) (OpKo.no) (OpKo.const) (fun w => cut_arr Tryd.underlying93 1 (by kernel_rfl) none (some _) (0) (32) (.inl ⟨rfl, rfl⟩) (.inr rfl) (by omega) (by omega) (by omega) (by omega) (by omega) (by omega))
  · exact opOb_slc rfl rfl (OpK.tmp rfl) (OpKo.no) (OpKo.no) (fun w => cut_arr Tryd.underlying24 1 (by kernel_rfl) none none (0) (32) (.inl ⟨rfl, rfl⟩) (.inl ⟨rfl, rfl⟩) (by omega) (by omega) (by omega) (by omega) (by omega) (by omega))
  · intro w' hb
    simp only [fin, SF.is, forall_eq]
    simp only [Act.put, List.setIfInBounds_toArray, List.set_cons_succ, List.set_cons_zero]
    have hs1 := hs.below hb
    refine wp_copy_fn rfl Tryd.underlying39 (by kernel_rfl) (hs1.row 1 rfl) 0 32 64 (Rd.of_row (hs1.row 4 rfl) (Nat.le_refl _) (hs1.lt 4 rfl)) (fun _ _ => rfl) 32 rfl (show _ ≤ 64 by decide) rfl rfl (fun w1 hr hg => ?_)
    have hs2 := hs1.write 1 rfl hg hr
    clear hs hs1 hb hr hg
    simp only [seqWp]
    have HS2 := Lib.hid hs2
    clear hs2
    go_wp2_with fail
    have hs := HS2.out
    clear HS2
    refine wp_region_factsS (l := [_, _]) (tl := []) (B := w1.heap.size) (w0 := w1) [SF.is (.slice (some ⟨w.heap.size + 3, 32, none⟩) (32) (32)), SF.is (.slice (some ⟨w.heap.size + 1, 0, none⟩) (32) (32))] (by kernel_rfl) (by kernel_rfl) rfl (Nat.le_refl _) (Below.refl _ _) ⟨?_, ?_, trivial⟩ ?_
    · exact opOb_slc rfl rfl (OpK.tmp rfl) (OpKo.const) (OpKo.no) (fun w => cut_arr Tryd.underlying93 1 (by kernel_rfl) (some _) none (32) (64) (.inr rfl) (.inl ⟨rfl, rfl⟩) (by omega) (by omega) (by omega) (by omega) (by omega) (by omega))
    · exact opOb_slc rfl rfl (OpK.tmp rfl) (OpKo.no) (OpKo.no) (fun w => cut_arr Tryd.underlying24 1 (by kernel_rfl) none none (0) (32) (.inl ⟨rfl, rfl⟩) (.inl ⟨rfl, rfl⟩) (by omega) (by omega) (by omega) (by omega) (by omega) (by omega))
    · intro w' hb
      simp only [fin, SF.is, forall_eq]
      simp only [Act.put, List.setIfInBounds_toArray, List.set_cons_succ, List.set_cons_zero]
      have hs1 := hs.below hb
      refine wp_copy_fn rfl Tryd.underlying39 (by kernel_rfl) (hs1.row 1 rfl) 32 32 32 (Rd.of_row (hs1.row 3 rfl) (Nat.le_refl _) (hs1.lt 3 rfl)) (fun _ _ => rfl) 32 rfl (show _ ≤ 64 by decide) rfl rfl (fun w2 hr hg => ?_)
      have hs2 := hs1.write 1 rfl hg hr
      have hsz2 : w.heap.size ≤ w2.heap.size := hs2.size
      clear hs hs1 hb hr hg
      simp only [seqWp]
      have HS2 := Lib.hid hs2
      have c0 := hs2.cell 0 0 rfl (by omega)
      have c62 := hs2.cell 0 62 rfl (by omega)
      have f0 := hs2.frozen 0 0 rfl
      have f62 := hs2.frozen 0 62 rfl
      clear hs2
      go_wp2_with (first
        | (refine wpList_load_part rfl 91 (.global 0) rfl 0 0 8 (fun i => wv (h0 i)) rfl _ (by intro i hi; rw [Nat.zero_add]; exact (HP.out.below (((HS2.out.set 0 0 rfl _).set 0 62 rfl _).out (by simp))).start i hi) Tryd.underlying91 rfl (by kernel_rfl) #[wv (h0 0), wv (h0 1), wv (h0 2), wv (h0 3), wv (h0 4), wv (h0 5), wv (h0 6), wv (h0 7)] rfl ?_))
      refine HS.goC (w0 := w) (rows := [⟨w2.heap.size, 92, 8, fun i => wv (h0 i)⟩, ⟨w.heap.size + 4, 93, 64, u8v (blk M 1)⟩, ⟨w.heap.size + 3, 93, 64, u8v (blk M 0)⟩, ⟨w.heap.size + 2, 24, 32, u8v fun _ => 0⟩, ⟨w.heap.size + 1, 24, 32, u8v y⟩, ⟨w.heap.size, 24, 32, u8v x⟩])
        (by exact ((((HS2.out.set 0 0 rfl _).set 0 62 rfl _).congr 0 rfl (g := u8v (blk M 1)) (fun j hj => HD.out _ (fun _ _ => rfl) j hj)).congr 1 rfl (g := u8v (blk M 0)) (fun j hj => HB.out _ j hj)).allocB _ _ _ 8 _ rfl h0_at (by simp)) (fun w3 hs => ?_)
      have hpk := HP.out.below (hs.out (by simp [hsz2]))
      have HP3 := Lib.hid hpk
      refine (mix_any w2.heap.size 0 64 64 w3.heap.size _ 92 8 (fun i => wv (h0 i)) h0 (blk M 0) w3 (hs.row 0 rfl) (Nat.le_refl _) (fun i _ => by rw [Nat.zero_add]) (fun i => hM _) (Rd.of_row (hs.row 2 rfl) (Nat.le_refl _) (hs.lt 2 rfl)) (Nat.le_refl _) (Nat.le_refl _) (by omega) hpk.round).mono ?_
      rintro e w4 ⟨rfl, hr, hg⟩
      have hs4 := (hs.write 0 rfl hg hr).congr 0 rfl (g := fun i => wv (Hs M 1 i)) (fun j hj => by rw [if_pos (by omega)]; rfl)
      have HS4 := Lib.hid hs4
      have HP4 := Lib.hid (HP.out.below (hs4.out (by simp [hsz2])))
      clear hs hr hg hs4 hpk
      simp only []
      go_wp2_with fail
      have hs := HS4.out
      have hpk := HP4.out
      refine (mix_any w2.heap.size 0 64 64 w4.heap.size _ 92 8 (fun i => wv (Hs M 1 i)) (Hs M 1) (blk M 1) w4 (hs.row 0 rfl) (Nat.le_refl _) (fun i _ => by rw [Nat.zero_add]) (fun i => hM _) (Rd.of_row (hs.row 1 rfl) (Nat.le_refl _) (hs.lt 1 rfl)) (Nat.le_refl _) (Nat.le_refl _) (by omega) hpk.round).mono ?_
      rintro e w5 ⟨rfl, hr, hg⟩
      have hs5 := (hs.write 0 rfl hg hr).congr 0 rfl (g := fun i => wv (Hs M 2 i)) (fun j hj => by rw [if_pos (by omega)]; rfl)
      have HS5 := Lib.hid hs5
      clear hs hr hg hs5 hpk HS4
      simp only []
      go_wp2_with fail
      have hs := HS5.out
      refine (root_any w2.heap.size 0 (Hs M 2) w5 (fun i hi => by rw [Nat.zero_add]; exact hs.cell 0 i rfl hi)).mono ?_
      rintro e w6 ⟨rfl, hb⟩
      have hs6 := hs.below hb
      have HS6 := Lib.hid hs6
      have HR := Lib.hid (hs6.row 3 rfl)
      clear hs hb hs6 HS5
      simp only []
      go_wp2_with (refine wpList_store_arr rfl 24 (.tmp 4) (.tmp 21) rfl HR.out _ rfl rfl (size_arr _ _) (by kernel_rfl) (fun i hi => ⟨_, arr_at _ _ i hi, rfl⟩) ?_)
      have hend := HS6.out.setRow 3 rfl (arr 32 (u8v (rootOf (Hs M 2)))) (size_arr _ _) _ (fun i hi => arr_at _ _ i hi)
      exact ret_rowIs rfl (hend.row 3 rfl) _ rfl Tryd.underlying24 rfl (by kernel_rfl) rfl ⟨rfl, hend.out (by simp [hsz2])⟩
end Go.Proofs.YtecgogeebponlaaDoor
