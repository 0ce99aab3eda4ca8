/- A part of what the proofs stand on: ShaSum, ShaTwo, ShaCopy, ShaAll, ShaRot, ShaOps. -/
import Derived.Test.YtjhgndnpihnidaaDoorGPic10
import Derived.Test.YtjhgndnpihnidaaDoorGPic6
import Derived.Test.YtjhgndnpihnidaaDoorGPic9
/- The walks of the digest's Sum and Copy, and of Sum. (Printed by a program of mine.) -/
namespace Go.Proofs.YtjhgndnpihnidaaDoor
set_option maxRecDepth 40000
open Go.RowKit

theorem w8_at (H : Nat → W32) : ∀ i, i < 8 → (#[wv (H 0), wv (H 1), wv (H 2), wv (H 3), wv (H 4), wv (H 5), wv (H 6), wv (H 7)] : Array Value)[i]? = some (wv (H i)) := by
  intro i hi
  match i, hi with
  | 0, _ | 1, _ | 2, _ | 3, _ | 4, _ | 5, _ | 6, _ | 7, _ => rfl
theorem len_byte (A : Int) (a k : Nat) (h : A = (a : Int)) : IntKind.u64.wrap (A % 18446744073709551616 * 8) / 2 ^ (8 * k) % 256 = ((8 * a % 18446744073709551616 / 2 ^ (8 * k) % 256 : Nat) : Int) := by
  subst h
  rw [IntKind.wrap_u64, show (a : Int) % 18446744073709551616 * 8 % 18446744073709551616 = ((8 * a % 18446744073709551616 : Nat) : Int) by omega]
  generalize 8 * a % 18446744073709551616 = b
  simp

set_option maxHeartbeats 4000000 in
theorem sumd_64 (g q r : Nat) (m y : Nat → Nat) (w : World) (hrow : w.rowIs g 135 74 (digG (Hs m q) y r (64 * q + r))) (hy : ∀ j, j < r → y j = m (64 * q + j)) (hm : ∀ j, m j < 256) (hr : r < 64) (hE : r < 56) (hp : ShaPkg w) :
    Calls Tryd.prog 64 #[.pointer (some ⟨g, 0, none⟩)] w fun e w' => e = .returned (rootV (shaB m (64 * q + r))) ∧ Below w.heap.size w w' := by
  have hglt := hrow.lt
  have hs0 := HS.own hrow
  have hh : ∀ i, i < 8 → w.cell? ⟨g, 0 + i, none⟩ = some (wv (Hs m q i)) := fun i hi => by
    rw [Nat.zero_add, hrow.cell (show i < 74 by omega)]; unfold digG; rw [if_pos hi]
  have c72 := hs0.cell 0 72 rfl (by show 72 < 74; omega)
  have c73 := hs0.cell 0 73 rfl (by show 73 < 74; omega)
  rw [digG_72] at c72
  rw [digG_73] at c73
  obtain ⟨P, hPd⟩ : ∃ P, P = padF (64 * q + r) m := ⟨_, rfl⟩
  have hnb : nb (64 * q + r) = q + 1 := by unfold nb; omega
  have hP : ∀ j, P j < 256 := fun j => by rw [hPd]; exact padF_lt _ _ hm j
  have hHs : Hs P q = Hs m q := by rw [hPd]; exact Hs_pad m _ q (by omega)
  have hres : shaB m (64 * q + r) = rootOf (Hs P (q + 1)) := by rw [hPd, ← hnb]; rfl
  have hbase : ∀ j, j < 128 → (if j = r then Value.int .u8 128 else if 0 ≤ j ∧ j < 0 + r then u8v y (j - 0) else u8v (fun _ => 0) j) = u8v (fun j => if j < 64 - 8 ∨ 64 - 0 ≤ j ∧ j < 64 then P (64 * q + j) else 0) j := fun j hj => by
    simp only [u8v]
    rw [hPd]
    unfold padF
    rw [hnb]
    by_cases e : j = r
    · subst e; rw [if_pos rfl, if_pos (by omega), if_neg (by omega), if_pos rfl]; rfl
    · rw [if_neg e]
      by_cases e1 : j < r
      · rw [if_pos (by omega), if_pos (by omega), if_pos (by omega), Nat.sub_zero, hy j e1]
      · rw [if_neg (by omega)]
        by_cases e2 : j < 64 - 8
        · rw [if_pos (by omega), if_neg (by omega), if_neg (by omega), if_pos (by omega)]
        · rw [if_neg (by omega)]
  have hlast : ∀ k, k < 8 → 8 * (64 * q + r) % 18446744073709551616 / 2 ^ (8 * k) % 256 = P (64 * q + (64 - 1 - k)) := fun k hk => by
    rw [hPd]
    unfold padF
    rw [hnb, if_neg (by omega), if_neg (by omega), if_neg (by omega), show 64 * (q + 1) - 1 - (64 * q + (64 - 1 - k)) = k by omega]
  rw [hres]
  have HH := Lib.hid hh
  have C73 := Lib.hid c73
  have HP := Lib.hid hp
  have HROW := Lib.hid hrow
  have HPl := Lib.hid hP
  have HHs := Lib.hid hHs
  have HBASE := Lib.hid hbase
  have HLAST := Lib.hid hlast
  clear hrow hs0 hh hp hm hy hP hHs hbase hlast hres hPd hnb
  go_enter Tryd.func64, Tryd.ntmps64
  go_wp2_with (first
    | (refine wpList_alloc_as rfl 136 rfl (Array.replicate 128 (.int .u8 0)) (by kernel_rfl) ?_)
    | (refine wpList_load_part rfl 133 (.tmp 13) rfl g 0 8 (fun i => wv (Hs m q i)) rfl _ (by intro i hi; exact ((Below.refl w.heap.size w).alloc (Nat.le_refl _) _).cell (p := ⟨g, 0 + i, none⟩) hglt |>.trans (HH.out i hi)) Tryd.underlying133 rfl (by kernel_rfl) #[wv (Hs m q 0), wv (Hs m q 1), wv (Hs m q 2), wv (Hs m q 3), wv (Hs m q 4), wv (Hs m q 5), wv (Hs m q 6), wv (Hs m q 7)] rfl ?_))
  simp only [Act.put, List.setIfInBounds_toArray, List.set_cons_succ, List.set_cons_zero, alloc_sz]
  refine HS.go (w0 := w) (rows := [⟨w.heap.size + 2, 136, 128, u8v fun _ => 0⟩, ⟨w.heap.size + 1, 133, 8, fun i => wv (Hs m q i)⟩, ⟨w.heap.size, 24, 32, u8v fun _ => 0⟩])
    (by exact (((HS.nil w).allocB _ _ 24 32 _ (by rfl) (zero_at 32 (.int .u8 0)) rfl).allocB _ _ 133 8 _ rfl (w8_at _) (by simp)).allocB _ _ 136 128 _ (by rfl) (zero_at 128 (.int .u8 0)) (by simp)) (fun w1 hs => ?_)
  have hg1 : g < w1.heap.size := Nat.lt_of_lt_of_le hglt hs.size
  have hol : Below w.heap.size w w1 := hs.out (by simp)
  have c72b := (hol.cell (p := ⟨g, 72, none⟩) hglt).trans c72
  clear c72
  have c72 := c72b
  clear c72b
  refine wp_region_factsS (l := [_, _, _, _, _, _, _, _, _]) (tl := [_]) (B := w1.heap.size) (w0 := w1) [SF.is (.slice (some ⟨w.heap.size + 2, 0, none⟩) (128) (128)), SF.is (.pointer (some ⟨g, 0, none⟩)), SF.is (.pointer (some ⟨g, 0, none⟩)), SF.is (.pointer (some ⟨g, 8, none⟩)), SF.is (.pointer (some ⟨g, 0, none⟩)), SF.is (.pointer (some ⟨g, 0, none⟩)), SF.is (.pointer (some ⟨g, 72, none⟩)), SF.is (.int .i64 ((r : Nat) : Int)), SF.is (.slice (some ⟨g, 8, none⟩) (r) (64))] (by kernel_rfl) (by kernel_rfl) rfl (Nat.le_refl _) (Below.refl _ _) ⟨?_, ?_, ?_, ?_, ?_, ?_, ?_, ?_, ?_, trivial⟩ ?_
  · exact opOb_slc rfl rfl (OpK.tmp rfl) (OpKo.no) (OpKo.no) (fun w => cut_arr Tryd.underlying136 1 (by kernel_rfl) none none (0) (128) (.inl ⟨rfl, rfl⟩) (.inl ⟨rfl, rfl⟩) (by omega) (by omega) (by omega) (by omega) (by omega) (by omega))
  · exact (opOb_move _ rfl (.inl rfl) rfl)
  · exact opOb_nil _ rfl rfl (OpK.tmp rfl)
  · exact opOb_fld rfl rfl (OpK.tmp rfl) (fun w => by simp [go_sem])
  · exact (opOb_move _ rfl (.inl rfl) rfl)
  · exact opOb_nil _ rfl rfl (OpK.tmp rfl)
  · exact opOb_fld rfl rfl (OpK.tmp rfl) (fun w => by simp [go_sem])
  · exact opOb_ld rfl rfl (OpK.tmp rfl) (fun w' hb => run_ldint w' _ _ ((hb.cell (p := ⟨g, 72, none⟩) hg1).trans c72))
  · exact opOb_slc rfl rfl (OpK.tmp rfl) (OpKo.no) (OpKo.tmp rfl) (fun w => cut_arr Tryd.underlying132 1 (by kernel_rfl) none (some _) (0) (r) (.inl ⟨rfl, rfl⟩) (.inr rfl) (by omega) (by omega) (by omega) (by omega) (by omega) (by omega))
  · intro w' hb
    simp only [fin, SF.is, forall_eq]
    simp only [Act.put, List.setIfInBounds_toArray, List.set_cons_succ, List.set_cons_zero]
    have hs1 := hs.below hb
    have hrd : Rd w' w'.heap.size (some ⟨g, 8, none⟩) r (u8v y) := Rd.of_part (row_below HROW.out (hs1.out (by simp)) hglt) (show 8 + r ≤ 74 by omega) (fun i hi => digG_rest _ _ _ _ i (by omega))
    refine wp_copy_fn rfl Tryd.underlying39 (by kernel_rfl) (hs1.row 0 rfl) 0 128 128 hrd (fun _ _ => rfl) r (by omega) (show _ ≤ 128 by omega) rfl rfl (fun w2 hr2 hg2 => ?_)
    have hs2 := hs1.write 0 rfl hg2 hr2
    have cr := hs2.cell 0 r rfl (by show r < 128; omega)
    have fr := hs2.frozen 0 r rfl
    have HS2 := Lib.hid hs2
    have c73b := ((hs2.out (by simp)).cell (p := ⟨g, 73, none⟩) hglt).trans c73
    clear hs hs1 hb hr2 hg2 hs2 hg1 hol hrd c73
    simp only [seqWp]
    refine wp_asg _ (.inl rfl) rfl ?_
    go_wp2_with fail
    go_loopw [29] (fun i wr => ∃ k : Nat, k ≤ 8 ∧ i = .int .i64 k ∧ HS w wr [⟨w.heap.size + 2, 136, 128, u8v fun j => if j < 64 - 8 ∨ 64 - k ≤ j ∧ j < 64 then P (64 * q + j) else 0⟩, ⟨w.heap.size + 1, 133, 8, fun i => wv (Hs m q i)⟩, ⟨w.heap.size, 24, 32, u8v fun _ => 0⟩]) (fun i _ => 8 - (intOf i).toNat)
    case atStart => exact ⟨0, by omega, rfl, (HS2.out.set 0 r rfl _).congr 0 rfl (fun j hj => HBASE.out j hj)⟩
    case round =>
      clear cr fr c73b HS2
      obtain ⟨k, hk, rfl, hs⟩ := hrel
      have c73 := ((hs.out (by simp)).cell (p := ⟨g, 73, none⟩) hglt).trans C73.out
      by_cases hk8 : k < 8
      · have ck := hs.cell 0 (64 - 1 - k) rfl (by show 64 - 1 - k < 128; omega)
        have fk := hs.frozen 0 (64 - 1 - k) rfl
        have HSk := Lib.hid hs
        clear hs
        go_wp2_with fail
        go_roundw
        case rel =>
          refine ⟨k + 1, by omega, by go_num, ?_⟩
          rw [len_byte (64 * (q : Int) + r) (64 * q + r) k (by omega), HLAST.out k hk8]
          refine (HSk.out.set 0 (64 - 1 - k) rfl _).congr 0 rfl (fun j hj => ?_)
          by_cases e : j = 64 - 1 - k
          · subst e; rw [if_pos rfl]; simp only [u8v]; rw [if_pos (by omega)]
          · rw [if_neg e]; simp only [u8v]
            by_cases e2 : j < 64 - 8 ∨ 64 - k ≤ j ∧ j < 64
            · rw [if_pos e2, if_pos (by omega)]
            · rw [if_neg e2, if_neg (by omega)]
        case measure => simp [intOf]; omega
      · obtain rfl : k = 8 := by omega
        have HS3 := Lib.hid hs
        clear hs c73
        go_wp2_with fail
        have hs := HS3.out
        refine (mix_any (w.heap.size + 1) 0 64 128 wr.heap.size _ 133 8 (fun i => wv (Hs m q i)) (Hs m q) (blk P q) wr (hs.row 1 rfl) (Nat.le_refl _) (fun i _ => by rw [Nat.zero_add]) (fun i => HPl.out _) (Rd.of_part (hs.row 0 rfl) (show 0 + 64 ≤ 128 by decide) (fun i hi => by simp only [u8v]; rw [if_pos (by omega), Nat.zero_add]; rfl)) (Nat.le_refl _) (Nat.le_refl _) (by omega) (HP.out.below (hs.out (by simp))).round).mono ?_
        rintro e w4 ⟨rfl, hr4, hg4⟩
        have hs4 := (hs.write 1 rfl hg4 hr4).congr 1 rfl (g := fun i => wv (Hs P (q + 1) i)) (fun j hj => by rw [if_pos (by omega), ← HHs.out]; rfl)
        have HS4 := Lib.hid hs4
        clear hs hr4 hg4 hs4 HS3
        simp only []
        go_wp2_with fail
        have hs := HS4.out
        refine (root_any (w.heap.size + 1) 0 (Hs P (q + 1)) w4 (fun i hi => by rw [Nat.zero_add]; exact hs.cell 1 i rfl hi)).mono ?_
        rintro e w6 ⟨rfl, hb⟩
        have hs6 := hs.below hb
        have HS6 := Lib.hid hs6
        have HR := Lib.hid (hs6.row 2 rfl)
        clear hs hb hs6 HS4
        simp only []
        go_wp2_with (refine wpList_store_arr rfl 24 (.tmp 2) (.tmp 53) rfl HR.out _ rfl rfl (size_arr _ _) (by kernel_rfl) (fun i hi => ⟨_, arr_at _ _ i hi, rfl⟩) ?_)
        have hend := HS6.out.setRow 2 rfl (arr 32 (u8v (rootOf (Hs P (q + 1))))) (size_arr _ _) _ (fun i hi => arr_at _ _ i hi)
        exact ret_rowIs rfl (hend.row 2 rfl) _ rfl Tryd.underlying24 rfl (by kernel_rfl) rfl ⟨rfl, hend.out (by simp)⟩

set_option maxHeartbeats 4000000 in
theorem sumd_128 (g q r : Nat) (m y : Nat → Nat) (w : World) (hrow : w.rowIs g 135 74 (digG (Hs m q) y r (64 * q + r))) (hy : ∀ j, j < r → y j = m (64 * q + j)) (hm : ∀ j, m j < 256) (hr : r < 64) (hE : 56 ≤ r) (hp : ShaPkg w) :
    Calls Tryd.prog 64 #[.pointer (some ⟨g, 0, none⟩)] w fun e w' => e = .returned (rootV (shaB m (64 * q + r))) ∧ Below w.heap.size w w' := by
  have hglt := hrow.lt
  have hs0 := HS.own hrow
  have hh : ∀ i, i < 8 → w.cell? ⟨g, 0 + i, none⟩ = some (wv (Hs m q i)) := fun i hi => by
    rw [Nat.zero_add, hrow.cell (show i < 74 by omega)]; unfold digG; rw [if_pos hi]
  have c72 := hs0.cell 0 72 rfl (by show 72 < 74; omega)
  have c73 := hs0.cell 0 73 rfl (by show 73 < 74; omega)
  rw [digG_72] at c72
  rw [digG_73] at c73
  obtain ⟨P, hPd⟩ : ∃ P, P = padF (64 * q + r) m := ⟨_, rfl⟩
  have hnb : nb (64 * q + r) = q + 2 := by unfold nb; omega
  have hP : ∀ j, P j < 256 := fun j => by rw [hPd]; exact padF_lt _ _ hm j
  have hHs : Hs P q = Hs m q := by rw [hPd]; exact Hs_pad m _ q (by omega)
  have hres : shaB m (64 * q + r) = rootOf (Hs P (q + 2)) := by rw [hPd, ← hnb]; rfl
  have hbase : ∀ j, j < 128 → (if j = r then Value.int .u8 128 else if 0 ≤ j ∧ j < 0 + r then u8v y (j - 0) else u8v (fun _ => 0) j) = u8v (fun j => if j < 128 - 8 ∨ 128 - 0 ≤ j ∧ j < 128 then P (64 * q + j) else 0) j := fun j hj => by
    simp only [u8v]
    rw [hPd]
    unfold padF
    rw [hnb]
    by_cases e : j = r
    · subst e; rw [if_pos rfl, if_pos (by omega), if_neg (by omega), if_pos rfl]; rfl
    · rw [if_neg e]
      by_cases e1 : j < r
      · rw [if_pos (by omega), if_pos (by omega), if_pos (by omega), Nat.sub_zero, hy j e1]
      · rw [if_neg (by omega)]
        by_cases e2 : j < 128 - 8
        · rw [if_pos (by omega), if_neg (by omega), if_neg (by omega), if_pos (by omega)]
        · rw [if_neg (by omega)]
  have hlast : ∀ k, k < 8 → 8 * (64 * q + r) % 18446744073709551616 / 2 ^ (8 * k) % 256 = P (64 * q + (128 - 1 - k)) := fun k hk => by
    rw [hPd]
    unfold padF
    rw [hnb, if_neg (by omega), if_neg (by omega), if_neg (by omega), show 64 * (q + 2) - 1 - (64 * q + (128 - 1 - k)) = k by omega]
  rw [hres]
  have HH := Lib.hid hh
  have C73 := Lib.hid c73
  have HP := Lib.hid hp
  have HROW := Lib.hid hrow
  have HPl := Lib.hid hP
  have HHs := Lib.hid hHs
  have HBASE := Lib.hid hbase
  have HLAST := Lib.hid hlast
  clear hrow hs0 hh hp hm hy hP hHs hbase hlast hres hPd hnb
  go_enter Tryd.func64, Tryd.ntmps64
  go_wp2_with (first
    | (refine wpList_alloc_as rfl 136 rfl (Array.replicate 128 (.int .u8 0)) (by kernel_rfl) ?_)
    | (refine wpList_load_part rfl 133 (.tmp 13) rfl g 0 8 (fun i => wv (Hs m q i)) rfl _ (by intro i hi; exact ((Below.refl w.heap.size w).alloc (Nat.le_refl _) _).cell (p := ⟨g, 0 + i, none⟩) hglt |>.trans (HH.out i hi)) Tryd.underlying133 rfl (by kernel_rfl) #[wv (Hs m q 0), wv (Hs m q 1), wv (Hs m q 2), wv (Hs m q 3), wv (Hs m q 4), wv (Hs m q 5), wv (Hs m q 6), wv (Hs m q 7)] rfl ?_))
  simp only [Act.put, List.setIfInBounds_toArray, List.set_cons_succ, List.set_cons_zero, alloc_sz]
  refine HS.go (w0 := w) (rows := [⟨w.heap.size + 2, 136, 128, u8v fun _ => 0⟩, ⟨w.heap.size + 1, 133, 8, fun i => wv (Hs m q i)⟩, ⟨w.heap.size, 24, 32, u8v fun _ => 0⟩])
    (by exact (((HS.nil w).allocB _ _ 24 32 _ (by rfl) (zero_at 32 (.int .u8 0)) rfl).allocB _ _ 133 8 _ rfl (w8_at _) (by simp)).allocB _ _ 136 128 _ (by rfl) (zero_at 128 (.int .u8 0)) (by simp)) (fun w1 hs => ?_)
  have hg1 : g < w1.heap.size := Nat.lt_of_lt_of_le hglt hs.size
  have hol : Below w.heap.size w w1 := hs.out (by simp)
  have c72b := (hol.cell (p := ⟨g, 72, none⟩) hglt).trans c72
  clear c72
  have c72 := c72b
  clear c72b
  refine wp_region_factsS (l := [_, _, _, _, _, _, _, _, _]) (tl := [_]) (B := w1.heap.size) (w0 := w1) [SF.is (.slice (some ⟨w.heap.size + 2, 0, none⟩) (128) (128)), SF.is (.pointer (some ⟨g, 0, none⟩)), SF.is (.pointer (some ⟨g, 0, none⟩)), SF.is (.pointer (some ⟨g, 8, none⟩)), SF.is (.pointer (some ⟨g, 0, none⟩)), SF.is (.pointer (some ⟨g, 0, none⟩)), SF.is (.pointer (some ⟨g, 72, none⟩)), SF.is (.int .i64 ((r : Nat) : Int)), SF.is (.slice (some ⟨g, 8, none⟩) (r) (64))] (by kernel_rfl) (by kernel_rfl) rfl (Nat.le_refl _) (Below.refl _ _) ⟨?_, ?_, ?_, ?_, ?_, ?_, ?_, ?_, ?_, trivial⟩ ?_
  · exact opOb_slc rfl rfl (OpK.tmp rfl) (OpKo.no) (OpKo.no) (fun w => cut_arr Tryd.underlying136 1 (by kernel_rfl) none none (0) (128) (.inl ⟨rfl, rfl⟩) (.inl ⟨rfl, rfl⟩) (by omega) (by omega) (by omega) (by omega) (by omega) (by omega))
  · exact (opOb_move _ rfl (.inl rfl) rfl)
  · exact opOb_nil _ rfl rfl (OpK.tmp rfl)
  · exact opOb_fld rfl rfl (OpK.tmp rfl) (fun w => by simp [go_sem])
  · exact (opOb_move _ rfl (.inl rfl) rfl)
  · exact opOb_nil _ rfl rfl (OpK.tmp rfl)
  · exact opOb_fld rfl rfl (OpK.tmp rfl) (fun w => by simp [go_sem])
  · exact opOb_ld rfl rfl (OpK.tmp rfl) (fun w' hb => run_ldint w' _ _ ((hb.cell (p := ⟨g, 72, none⟩) hg1).trans c72))
  · exact opOb_slc rfl rfl (OpK.tmp rfl) (OpKo.no) (OpKo.tmp rfl) (fun w => cut_arr Tryd.underlying132 1 (by kernel_rfl) none (some _) (0) (r) (.inl ⟨rfl, rfl⟩) (.inr rfl) (by omega) (by omega) (by omega) (by omega) (by omega) (by omega))
  · intro w' hb
    simp only [fin, SF.is, forall_eq]
    simp only [Act.put, List.setIfInBounds_toArray, List.set_cons_succ, List.set_cons_zero]
    have hs1 := hs.below hb
    have hrd : Rd w' w'.heap.size (some ⟨g, 8, none⟩) r (u8v y) := Rd.of_part (row_below HROW.out (hs1.out (by simp)) hglt) (show 8 + r ≤ 74 by omega) (fun i hi => digG_rest _ _ _ _ i (by omega))
    refine wp_copy_fn rfl Tryd.underlying39 (by kernel_rfl) (hs1.row 0 rfl) 0 128 128 hrd (fun _ _ => rfl) r (by omega) (show _ ≤ 128 by omega) rfl rfl (fun w2 hr2 hg2 => ?_)
    have hs2 := hs1.write 0 rfl hg2 hr2
    have cr := hs2.cell 0 r rfl (by show r < 128; omega)
    have fr := hs2.frozen 0 r rfl
    have HS2 := Lib.hid hs2
    have c73b := ((hs2.out (by simp)).cell (p := ⟨g, 73, none⟩) hglt).trans c73
    clear hs hs1 hb hr2 hg2 hs2 hg1 hol hrd c73
    simp only [seqWp]
    refine wp_asg _ (.inl rfl) rfl ?_
    go_wp2_with fail
    go_loopw [29] (fun i wr => ∃ k : Nat, k ≤ 8 ∧ i = .int .i64 k ∧ HS w wr [⟨w.heap.size + 2, 136, 128, u8v fun j => if j < 128 - 8 ∨ 128 - k ≤ j ∧ j < 128 then P (64 * q + j) else 0⟩, ⟨w.heap.size + 1, 133, 8, fun i => wv (Hs m q i)⟩, ⟨w.heap.size, 24, 32, u8v fun _ => 0⟩]) (fun i _ => 8 - (intOf i).toNat)
    case atStart => exact ⟨0, by omega, rfl, (HS2.out.set 0 r rfl _).congr 0 rfl (fun j hj => HBASE.out j hj)⟩
    case round =>
      clear cr fr c73b HS2
      obtain ⟨k, hk, rfl, hs⟩ := hrel
      have c73 := ((hs.out (by simp)).cell (p := ⟨g, 73, none⟩) hglt).trans C73.out
      by_cases hk8 : k < 8
      · have ck := hs.cell 0 (128 - 1 - k) rfl (by show 128 - 1 - k < 128; omega)
        have fk := hs.frozen 0 (128 - 1 - k) rfl
        have HSk := Lib.hid hs
        clear hs
        go_wp2_with fail
        go_roundw
        case rel =>
          refine ⟨k + 1, by omega, by go_num, ?_⟩
          rw [len_byte (64 * (q : Int) + r) (64 * q + r) k (by omega), HLAST.out k hk8]
          refine (HSk.out.set 0 (128 - 1 - k) rfl _).congr 0 rfl (fun j hj => ?_)
          by_cases e : j = 128 - 1 - k
          · subst e; rw [if_pos rfl]; simp only [u8v]; rw [if_pos (by omega)]
          · rw [if_neg e]; simp only [u8v]
            by_cases e2 : j < 128 - 8 ∨ 128 - k ≤ j ∧ j < 128
            · rw [if_pos e2, if_pos (by omega)]
            · rw [if_neg e2, if_neg (by omega)]
        case measure => simp [intOf]; omega
      · obtain rfl : k = 8 := by omega
        have HS3 := Lib.hid hs
        clear hs c73
        go_wp2_with fail
        have hs := HS3.out
        refine (mix_any (w.heap.size + 1) 0 64 128 wr.heap.size _ 133 8 (fun i => wv (Hs m q i)) (Hs m q) (blk P q) wr (hs.row 1 rfl) (Nat.le_refl _) (fun i _ => by rw [Nat.zero_add]) (fun i => HPl.out _) (Rd.of_part (hs.row 0 rfl) (show 0 + 64 ≤ 128 by decide) (fun i hi => by simp only [u8v]; rw [if_pos (by omega), Nat.zero_add]; rfl)) (Nat.le_refl _) (Nat.le_refl _) (by omega) (HP.out.below (hs.out (by simp))).round).mono ?_
        rintro e w4 ⟨rfl, hr4, hg4⟩
        have hs4 := (hs.write 1 rfl hg4 hr4).congr 1 rfl (g := fun i => wv (Hs P (q + 1) i)) (fun j hj => by rw [if_pos (by omega), ← HHs.out]; rfl)
        have HS4 := Lib.hid hs4
        clear hs hr4 hg4 hs4 HS3
        simp only []
        go_wp2_with fail
        have hs := HS4.out
        refine (mix_any (w.heap.size + 1) 0 64 64 w4.heap.size _ 133 8 (fun i => wv (Hs P (q + 1) i)) (Hs P (q + 1)) (blk P (q + 1)) w4 (hs.row 1 rfl) (Nat.le_refl _) (fun i _ => by rw [Nat.zero_add]) (fun i => HPl.out _) (Rd.of_part (hs.row 0 rfl) (show 64 + 64 ≤ 128 by decide) (fun i hi => by simp only [u8v]; rw [if_pos (by omega)]; unfold blk; rw [show 64 * q + (64 + i) = 64 * (q + 1) + i by omega])) (Nat.le_refl _) (Nat.le_refl _) (by omega) (HP.out.below (hs.out (by simp))).round).mono ?_
        rintro e w5 ⟨rfl, hr5, hg5⟩
        have hs5 := (hs.write 1 rfl hg5 hr5).congr 1 rfl (g := fun i => wv (Hs P (q + 2) i)) (fun j hj => by rw [if_pos (by omega)]; rfl)
        have HS5 := Lib.hid hs5
        clear hs hr5 hg5 hs5 HS4
        simp only []
        go_wp2_with fail
        have hs := HS5.out
        refine (root_any (w.heap.size + 1) 0 (Hs P (q + 2)) w5 (fun i hi => by rw [Nat.zero_add]; exact hs.cell 1 i rfl hi)).mono ?_
        rintro e w6 ⟨rfl, hb⟩
        have hs6 := hs.below hb
        have HS6 := Lib.hid hs6
        have HR := Lib.hid (hs6.row 2 rfl)
        clear hs hb hs6 HS5
        simp only []
        go_wp2_with (refine wpList_store_arr rfl 24 (.tmp 2) (.tmp 53) rfl HR.out _ rfl rfl (size_arr _ _) (by kernel_rfl) (fun i hi => ⟨_, arr_at _ _ i hi, rfl⟩) ?_)
        have hend := HS6.out.setRow 2 rfl (arr 32 (u8v (rootOf (Hs P (q + 2))))) (size_arr _ _) _ (fun i hi => arr_at _ _ i hi)
        exact ret_rowIs rfl (hend.row 2 rfl) _ rfl Tryd.underlying24 rfl (by kernel_rfl) rfl ⟨rfl, hend.out (by simp)⟩

set_option maxHeartbeats 4000000 in
theorem sumd_nil (m : Nat → Nat) (hm : ∀ j, m j < 256) (w : World) (hp : ShaPkg w) :
    Calls Tryd.prog 64 #[.pointer none] w fun e w' => e = .returned (rootV (shaB m 0)) ∧ Below w.heap.size w w' := by
  obtain ⟨q, hq⟩ : ∃ q : Nat, q = 0 := ⟨0, rfl⟩
  obtain ⟨r, hr0⟩ : ∃ r : Nat, r = 0 := ⟨0, rfl⟩
  obtain ⟨y, hy0⟩ : ∃ y : Nat → Nat, y = fun _ => 0 := ⟨_, rfl⟩
  have HDIG := Lib.hid (show digF m 0 (fun _ => 0) = digG (Hs m q) y r (64 * q + r) by subst hq hr0 hy0; rfl)
  have hy : ∀ j, j < r → y j = m (64 * q + j) := fun j hj => absurd hj (by omega)
  have hr : r < 64 := by omega
  have hE : r < 56 := by omega
  have hm0 : shaB m 0 = shaB m (64 * q + r) := by rw [hq, hr0]
  rw [hm0]
  have HM0 := Lib.hid hm
  clear hy0
  obtain ⟨P, hPd⟩ : ∃ P, P = padF (64 * q + r) m := ⟨_, rfl⟩
  have hnb : nb (64 * q + r) = q + 1 := by unfold nb; omega
  have hP : ∀ j, P j < 256 := fun j => by rw [hPd]; exact padF_lt _ _ hm j
  have hHs : Hs P q = Hs m q := by rw [hPd]; exact Hs_pad m _ q (by omega)
  have hres : shaB m (64 * q + r) = rootOf (Hs P (q + 1)) := by rw [hPd, ← hnb]; rfl
  have hbase : ∀ j, j < 128 → (if j = r then Value.int .u8 128 else if 0 ≤ j ∧ j < 0 + r then u8v y (j - 0) else u8v (fun _ => 0) j) = u8v (fun j => if j < 64 - 8 ∨ 64 - 0 ≤ j ∧ j < 64 then P (64 * q + j) else 0) j := fun j hj => by
    simp only [u8v]
    rw [hPd]
    unfold padF
    rw [hnb]
    by_cases e : j = r
    · subst e; rw [if_pos rfl, if_pos (by omega), if_neg (by omega), if_pos rfl]; rfl
    · rw [if_neg e]
      by_cases e1 : j < r
      · rw [if_pos (by omega), if_pos (by omega), if_pos (by omega), Nat.sub_zero, hy j e1]
      · rw [if_neg (by omega)]
        by_cases e2 : j < 64 - 8
        · rw [if_pos (by omega), if_neg (by omega), if_neg (by omega), if_pos (by omega)]
        · rw [if_neg (by omega)]
  have hlast : ∀ k, k < 8 → 8 * (64 * q + r) % 18446744073709551616 / 2 ^ (8 * k) % 256 = P (64 * q + (64 - 1 - k)) := fun k hk => by
    rw [hPd]
    unfold padF
    rw [hnb, if_neg (by omega), if_neg (by omega), if_neg (by omega), show 64 * (q + 1) - 1 - (64 * q + (64 - 1 - k)) = k by omega]
  rw [hres]
  have HP := Lib.hid hp
  have HPl := Lib.hid hP
  have HHs := Lib.hid hHs
  have HBASE := Lib.hid hbase
  have HLAST := Lib.hid hlast
  clear hp hm hm0 hy hq hr0 hP hHs hbase hlast hres hPd hnb
  go_enter Tryd.func64, Tryd.ntmps64
  go_wp2_with (first
    | (refine wpList_alloc_as rfl 136 rfl (Array.replicate 128 (.int .u8 0)) (by kernel_rfl) ?_)
    | (go_at_call 62; refine (new_any _ (HP.out.below ((Below.refl _ _).alloc (Nat.le_refl _) _)) m).mono ?_; rintro e w3 ⟨g, rfl, hg3, hrow3, hbel3⟩; rw [HDIG.out] at hrow3; have H3 := Lib.hid ((((HS.nil w).allocB _ _ 24 32 _ (by rfl) (zero_at 32 (.int .u8 0)) rfl).below hbel3).add hrow3 (by simp at hg3; omega) (by simp at hg3 ⊢; omega)); have hgw : w.heap.size < g := (by simp at hg3; omega); clear hrow3 hbel3 hg3)
    | (refine wpList_load_part rfl 133 (.tmp 13) rfl g 0 8 (fun i => wv (Hs m q i)) rfl _ (by intro i hi; rw [H3.out.cell 0 (0 + i) rfl (show 0 + i < 74 by omega)]; unfold digG; rw [Nat.zero_add, if_pos hi]) Tryd.underlying133 rfl (by kernel_rfl) #[wv (Hs m q 0), wv (Hs m q 1), wv (Hs m q 2), wv (Hs m q 3), wv (Hs m q 4), wv (Hs m q 5), wv (Hs m q 6), wv (Hs m q 7)] rfl ?_))
  simp only [Act.put, List.setIfInBounds_toArray, List.set_cons_succ, List.set_cons_zero, alloc_sz]
  have hw3 : w.heap.size ≤ w3.heap.size := H3.out.size
  refine HS.go (w0 := w) (rows := [⟨w3.heap.size + 1, 136, 128, u8v fun _ => 0⟩, ⟨w3.heap.size, 133, 8, fun i => wv (Hs m q i)⟩, ⟨g, 135, 74, digG (Hs m q) y r (64 * q + r)⟩, ⟨w.heap.size, 24, 32, u8v fun _ => 0⟩])
    (by exact (H3.out.allocB _ _ 133 8 _ rfl (w8_at _) (by simp <;> omega)).allocB _ _ 136 128 _ (by rfl) (zero_at 128 (.int .u8 0)) (by simp <;> omega)) (fun w1 hs => ?_)
  have hg1 : g < w1.heap.size := hs.lt 2 rfl
  have c72 := hs.cell 2 72 rfl (by show 72 < 74; omega)
  rw [digG_72] at c72
  refine wp_region_factsS (l := [_, _, _, _, _, _, _, _, _]) (tl := [_]) (B := w1.heap.size) (w0 := w1) [SF.is (.slice (some ⟨w3.heap.size + 1, 0, none⟩) (128) (128)), SF.is (.pointer (some ⟨g, 0, none⟩)), SF.is (.pointer (some ⟨g, 0, none⟩)), SF.is (.pointer (some ⟨g, 8, none⟩)), SF.is (.pointer (some ⟨g, 0, none⟩)), SF.is (.pointer (some ⟨g, 0, none⟩)), SF.is (.pointer (some ⟨g, 72, none⟩)), SF.is (.int .i64 ((r : Nat) : Int)), SF.is (.slice (some ⟨g, 8, none⟩) (r) (64))] (by kernel_rfl) (by kernel_rfl) rfl (Nat.le_refl _) (Below.refl _ _) ⟨?_, ?_, ?_, ?_, ?_, ?_, ?_, ?_, ?_, trivial⟩ ?_
  · exact opOb_slc rfl rfl (OpK.tmp rfl) (OpKo.no) (OpKo.no) (fun w => cut_arr Tryd.underlying136 1 (by kernel_rfl) none none (0) (128) (.inl ⟨rfl, rfl⟩) (.inl ⟨rfl, rfl⟩) (by omega) (by omega) (by omega) (by omega) (by omega) (by omega))
  · exact (opOb_move _ rfl (.inl rfl) rfl)
  · exact opOb_nil _ rfl rfl (OpK.tmp rfl)
  · exact opOb_fld rfl rfl (OpK.tmp rfl) (fun w => by simp [go_sem])
  · exact (opOb_move _ rfl (.inl rfl) rfl)
  · exact opOb_nil _ rfl rfl (OpK.tmp rfl)
  · exact opOb_fld rfl rfl (OpK.tmp rfl) (fun w => by simp [go_sem])
  · exact opOb_ld rfl rfl (OpK.tmp rfl) (fun w' hb => run_ldint w' _ _ ((hb.cell (p := ⟨g, 72, none⟩) hg1).trans c72))
  · exact opOb_slc rfl rfl (OpK.tmp rfl) (OpKo.no) (OpKo.tmp rfl) (fun w => cut_arr Tryd.underlying132 1 (by kernel_rfl) none (some _) (0) (r) (.inl ⟨rfl, rfl⟩) (.inr rfl) (by omega) (by omega) (by omega) (by omega) (by omega) (by omega))
  · intro w' hb
    simp only [fin, SF.is, forall_eq]
    simp only [Act.put, List.setIfInBounds_toArray, List.set_cons_succ, List.set_cons_zero]
    have hs1 := hs.below hb
    have hrd : Rd w' w'.heap.size (some ⟨g, 8, none⟩) r (u8v y) := Rd.of_part (hs1.row 2 rfl) (show 8 + r ≤ 74 by omega) (fun i hi => digG_rest _ _ _ _ i (by omega))
    refine wp_copy_fn rfl Tryd.underlying39 (by kernel_rfl) (hs1.row 0 rfl) 0 128 128 hrd (fun _ _ => rfl) r (by omega) (show _ ≤ 128 by omega) rfl rfl (fun w2 hr2 hg2 => ?_)
    have hs2 := hs1.write 0 rfl hg2 hr2
    have cr := hs2.cell 0 r rfl (by show r < 128; omega)
    have fr := hs2.frozen 0 r rfl
    have HS2 := Lib.hid hs2
    clear hs hs1 hb hr2 hg2 hs2 hg1 hrd
    simp only [seqWp]
    refine wp_asg _ (.inl rfl) rfl ?_
    go_wp2_with fail
    go_loopw [29] (fun i wr => ∃ k : Nat, k ≤ 8 ∧ i = .int .i64 k ∧ HS w wr [⟨w3.heap.size + 1, 136, 128, u8v fun j => if j < 64 - 8 ∨ 64 - k ≤ j ∧ j < 64 then P (64 * q + j) else 0⟩, ⟨w3.heap.size, 133, 8, fun i => wv (Hs m q i)⟩, ⟨g, 135, 74, digG (Hs m q) y r (64 * q + r)⟩, ⟨w.heap.size, 24, 32, u8v fun _ => 0⟩]) (fun i _ => 8 - (intOf i).toNat)
    case atStart => exact ⟨0, by omega, rfl, (HS2.out.set 0 r rfl _).congr 0 rfl (fun j hj => HBASE.out j hj)⟩
    case round =>
      clear cr fr HS2
      obtain ⟨k, hk, rfl, hs⟩ := hrel
      have c73 := hs.cell 2 73 rfl (by show 73 < 74; omega)
      rw [digG_73] at c73
      by_cases hk8 : k < 8
      · have ck := hs.cell 0 (64 - 1 - k) rfl (by show 64 - 1 - k < 128; omega)
        have fk := hs.frozen 0 (64 - 1 - k) rfl
        have HSk := Lib.hid hs
        clear hs
        go_wp2_with fail
        go_roundw
        case rel =>
          refine ⟨k + 1, by omega, by go_num, ?_⟩
          rw [len_byte (64 * (q : Int) + r) (64 * q + r) k (by omega), HLAST.out k hk8]
          refine (HSk.out.set 0 (64 - 1 - k) rfl _).congr 0 rfl (fun j hj => ?_)
          by_cases e : j = 64 - 1 - k
          · subst e; rw [if_pos rfl]; simp only [u8v]; rw [if_pos (by omega)]
          · rw [if_neg e]; simp only [u8v]
            by_cases e2 : j < 64 - 8 ∨ 64 - k ≤ j ∧ j < 64
            · rw [if_pos e2, if_pos (by omega)]
            · rw [if_neg e2, if_neg (by omega)]
        case measure => simp [intOf]; omega
      · obtain rfl : k = 8 := by omega
        have HS3 := Lib.hid hs
        clear hs c73
        go_wp2_with fail
        have hs := HS3.out
        refine (mix_any (w3.heap.size) 0 64 128 wr.heap.size _ 133 8 (fun i => wv (Hs m q i)) (Hs m q) (blk P q) wr (hs.row 1 rfl) (Nat.le_refl _) (fun i _ => by rw [Nat.zero_add]) (fun i => HPl.out _) (Rd.of_part (hs.row 0 rfl) (show 0 + 64 ≤ 128 by decide) (fun i hi => by simp only [u8v]; rw [if_pos (by omega), Nat.zero_add]; rfl)) (Nat.le_refl _) (Nat.le_refl _) (by omega) (HP.out.below (hs.out (by simp <;> omega))).round).mono ?_
        rintro e w4 ⟨rfl, hr4, hg4⟩
        have hs4 := (hs.write 1 rfl hg4 hr4).congr 1 rfl (g := fun i => wv (Hs P (q + 1) i)) (fun j hj => by rw [if_pos (by omega), ← HHs.out]; rfl)
        have HS4 := Lib.hid hs4
        clear hs hr4 hg4 hs4 HS3
        simp only []
        go_wp2_with fail
        have hs := HS4.out
        refine (root_any (w3.heap.size) 0 (Hs P (q + 1)) w4 (fun i hi => by rw [Nat.zero_add]; exact hs.cell 1 i rfl hi)).mono ?_
        rintro e w6 ⟨rfl, hb⟩
        have hs6 := hs.below hb
        have HS6 := Lib.hid hs6
        have HR := Lib.hid (hs6.row 3 rfl)
        clear hs hb hs6 HS4
        simp only []
        go_wp2_with (refine wpList_store_arr rfl 24 (.tmp 2) (.tmp 53) rfl HR.out _ rfl rfl (size_arr _ _) (by kernel_rfl) (fun i hi => ⟨_, arr_at _ _ i hi, rfl⟩) ?_)
        have hend := HS6.out.setRow 3 rfl (arr 32 (u8v (rootOf (Hs P (q + 1))))) (size_arr _ _) _ (fun i hi => arr_at _ _ i hi)
        exact ret_rowIs rfl (hend.row 3 rfl) _ rfl Tryd.underlying24 rfl (by kernel_rfl) rfl ⟨rfl, hend.out (by simp; omega)⟩

theorem sumd_any (g len : Nat) (m : Nat → Nat) (w : World) (hd : Dig w g m len) (hm : ∀ j, m j < 256) (hp : ShaPkg w) :
    Calls Tryd.prog 64 #[.pointer (some ⟨g, 0, none⟩)] w fun e w' => e = .returned (rootV (shaB m len)) ∧ Below w.heap.size w w' := by
  obtain ⟨q, r, y, rfl, hr, hy, hy2, hrow⟩ := hd
  by_cases h : r < 56
  · exact sumd_64 g q r m y w hrow hy hm hr h hp
  · exact sumd_128 g q r m y w hrow hy hm hr (by omega) hp

set_option maxHeartbeats 400000 in
theorem write_nil (A : Option Addr) (n c : Nat) (w : World) : Calls Tryd.prog 63 #[.pointer none, .slice A n c] w fun e w' => e = .returned (.tuple #[]) ∧ w = w' := by
  go_enter Tryd.func63, Tryd.ntmps63
  go_wp2
  exact bodyPost_ret (v := .tuple #[]) (by simp [results, Tryd.results63, go_sem]) rfl ⟨rfl, rfl⟩
end Go.Proofs.YtjhgndnpihnidaaDoor
/- The walk of Two. (Printed by a program of mine.) -/
namespace Go.Proofs.YtjhgndnpihnidaaDoor
set_option maxRecDepth 40000
open Go.RowKit

theorem h0_at : ∀ i, i < 8 → (#[wv (h0 0), wv (h0 1), wv (h0 2), wv (h0 3), wv (h0 4), wv (h0 5), wv (h0 6), wv (h0 7)] : Array Value)[i]? = some (wv (h0 i)) := by
  intro i hi
  match i, hi with
  | 0, _ | 1, _ | 2, _ | 3, _ | 4, _ | 5, _ | 6, _ | 7, _ => rfl
theorem padOf (m : Nat → Nat) : ∀ i, i < 64 → (if i = 62 then 2 else if i = 0 then 128 else 0 : Nat) = blk (padF 64 m) 1 i := by
  intro i hi
  unfold blk padF
  rw [if_neg (show ¬ 64 * 1 + i < 64 by omega)]
  by_cases e : i = 0
  · subst e; simp
  · rw [if_neg (show ¬ 64 * 1 + i = 64 by omega), if_neg (show ¬ i = 0 from e)]
    by_cases e2 : i = 62
    · subst e2; decide
    · rw [if_neg e2]
      by_cases e3 : i = 63
      · subst e3; decide
      · by_cases e4 : 64 * 1 + i < 64 * nb 64 - 8
        · rw [if_pos e4]
        · rw [if_neg e4]
          have : i = 56 ∨ i = 57 ∨ i = 58 ∨ i = 59 ∨ i = 60 ∨ i = 61 := by
            have : nb 64 = 2 := rfl
            omega
          rcases this with rfl | rfl | rfl | rfl | rfl | rfl <;> decide

set_option maxHeartbeats 2000000 in
theorem two_any (x y : Nat → Nat) (hx : ∀ i, x i < 256) (hy : ∀ i, y i < 256) (w : World) (hp : ShaPkg w) :
    Calls Tryd.prog 58 #[rootV x, rootV y] w fun e w' => e = .returned (rootV (shaB (catN 32 x y) 64)) ∧ Below w.heap.size w w' := by
  have HP := Lib.hid hp
  clear hp
  obtain ⟨M, hMd⟩ : ∃ M, M = padF 64 (catN 32 x y) := ⟨_, rfl⟩
  have hM : ∀ i, M i < 256 := fun i => by rw [hMd]; exact padF_lt _ _ (catN_lt hx hy) i
  have hres : shaB (catN 32 x y) 64 = rootOf (Hs M 2) := by rw [hMd]; rfl
  have pad_cells : ∀ f : Nat → Value, (∀ j, j < 64 → f j = .int .u8 0) → ∀ j, j < 64 → (if j = 62 then .int .u8 2 else if j = 0 then .int .u8 128 else f j) = u8v (blk M 1) j := fun f hf j hj => by
    rw [hMd, hf j hj]; show _ = Value.int .u8 ((blk _ 1 j : Nat) : Int)
    rw [← padOf (catN 32 x y) j hj]
    by_cases e : j = 62
    · subst e; rfl
    · rw [if_neg e, if_neg e]
      by_cases e2 : j = 0
      · subst e2; rfl
      · rw [if_neg e2, if_neg e2]; rfl
  have both_cells : ∀ f : Nat → Value, ∀ j, j < 64 → (if 32 ≤ j ∧ j < 32 + 32 then u8v y (j - 32) else if 0 ≤ j ∧ j < 0 + 32 then u8v x (j - 0) else f j) = u8v (blk M 0) j := fun f j hj => by
    have hb : blk M 0 j = catN 32 x y j := by
      rw [hMd]; unfold blk padF; rw [if_pos (by omega), show 64 * 0 + j = j by omega]
    show _ = Value.int .u8 ((blk M 0 j : Nat) : Int)
    rw [hb]
    unfold catN
    by_cases e : j < 32
    · rw [if_neg (by omega), if_pos (by omega), if_pos e]; rfl
    · rw [if_pos (by omega), if_neg e]
  rw [hres]
  have HB := Lib.hid both_cells
  have HD := Lib.hid pad_cells
  clear both_cells pad_cells hres hMd
  go_enter Tryd.func58, Tryd.ntmps58
  go_wp2
  refine HS.go (w0 := w) (rows := [⟨w.heap.size + 4, 132, 64, u8v fun _ => 0⟩, ⟨w.heap.size + 3, 132, 64, u8v fun _ => 0⟩, ⟨w.heap.size + 2, 24, 32, u8v fun _ => 0⟩, ⟨w.heap.size + 1, 24, 32, u8v y⟩, ⟨w.heap.size, 24, 32, u8v x⟩])
    (by
      have h := (((((HS.nil w).alloc (arr 32 (u8v x)) 24 32 _ (size_arr _ _) (arr_at _ _)).alloc (arr 32 (u8v y)) 24 32 _ (size_arr _ _) (arr_at _ _)).alloc (Array.replicate 32 (.int .u8 0)) 24 32 _ (by simp) (zero_at 32 _)).alloc (Array.replicate 64 (.int .u8 0)) 132 64 _ (by simp) (zero_at 64 _)).alloc (Array.replicate 64 (.int .u8 0)) 132 64 _ (by simp) (zero_at 64 _)
      simp only [alloc_sz] at h
      exact h) (fun wr hs => ?_)
  refine wp_region_factsS (l := [_, _]) (tl := []) (B := wr.heap.size) (w0 := wr) [SF.is (.slice (some ⟨w.heap.size + 3, 0, none⟩) (32) (64)), SF.is (.slice (some ⟨w.heap.size, 0, none⟩) (32) (32))] (by kernel_rfl) (by kernel_rfl) rfl (Nat.le_refl _) (Below.refl _ _) ⟨?_, ?_, trivial⟩ ?_
  · exact opOb_slc rfl rfl (OpK.tmp rfl) (OpKo.no) (OpKo.const) (fun w => cut_arr Tryd.underlying132 1 (by kernel_rfl) none (some _) (0) (32) (.inl ⟨rfl, rfl⟩) (.inr rfl) (by omega) (by omega) (by omega) (by omega) (by omega) (by omega))
  · exact opOb_slc rfl rfl (OpK.tmp rfl) (OpKo.no) (OpKo.no) (fun w => cut_arr Tryd.underlying24 1 (by kernel_rfl) none none (0) (32) (.inl ⟨rfl, rfl⟩) (.inl ⟨rfl, rfl⟩) (by omega) (by omega) (by omega) (by omega) (by omega) (by omega))
  · intro w' hb
    simp only [fin, SF.is, forall_eq]
    simp only [Act.put, List.setIfInBounds_toArray, List.set_cons_succ, List.set_cons_zero]
    have hs1 := hs.below hb
    refine wp_copy_fn rfl Tryd.underlying39 (by kernel_rfl) (hs1.row 1 rfl) 0 32 64 (Rd.of_row (hs1.row 4 rfl) (Nat.le_refl _) (hs1.lt 4 rfl)) (fun _ _ => rfl) 32 rfl (show _ ≤ 64 by decide) rfl rfl (fun w1 hr hg => ?_)
    have hs2 := hs1.write 1 rfl hg hr
    clear hs hs1 hb hr hg
    simp only [seqWp]
    have HS2 := Lib.hid hs2
    clear hs2
    go_wp2_with fail
    have hs := HS2.out
    clear HS2
    refine wp_region_factsS (l := [_, _]) (tl := []) (B := w1.heap.size) (w0 := w1) [SF.is (.slice (some ⟨w.heap.size + 3, 32, none⟩) (32) (32)), SF.is (.slice (some ⟨w.heap.size + 1, 0, none⟩) (32) (32))] (by kernel_rfl) (by kernel_rfl) rfl (Nat.le_refl _) (Below.refl _ _) ⟨?_, ?_, trivial⟩ ?_
    · exact opOb_slc rfl rfl (OpK.tmp rfl) (OpKo.const) (OpKo.no) (fun w => cut_arr Tryd.underlying132 1 (by kernel_rfl) (some _) none (32) (64) (.inr rfl) (.inl ⟨rfl, rfl⟩) (by omega) (by omega) (by omega) (by omega) (by omega) (by omega))
    · exact opOb_slc rfl rfl (OpK.tmp rfl) (OpKo.no) (OpKo.no) (fun w => cut_arr Tryd.underlying24 1 (by kernel_rfl) none none (0) (32) (.inl ⟨rfl, rfl⟩) (.inl ⟨rfl, rfl⟩) (by omega) (by omega) (by omega) (by omega) (by omega) (by omega))
    · intro w' hb
      simp only [fin, SF.is, forall_eq]
      simp only [Act.put, List.setIfInBounds_toArray, List.set_cons_succ, List.set_cons_zero]
      have hs1 := hs.below hb
      refine wp_copy_fn rfl Tryd.underlying39 (by kernel_rfl) (hs1.row 1 rfl) 32 32 32 (Rd.of_row (hs1.row 3 rfl) (Nat.le_refl _) (hs1.lt 3 rfl)) (fun _ _ => rfl) 32 rfl (show _ ≤ 64 by decide) rfl rfl (fun w2 hr hg => ?_)
      have hs2 := hs1.write 1 rfl hg hr
      have hsz2 : w.heap.size ≤ w2.heap.size := hs2.size
      clear hs hs1 hb hr hg
      simp only [seqWp]
      have HS2 := Lib.hid hs2
      have c0 := hs2.cell 0 0 rfl (by omega)
      have c62 := hs2.cell 0 62 rfl (by omega)
      have f0 := hs2.frozen 0 0 rfl
      have f62 := hs2.frozen 0 62 rfl
      clear hs2
      go_wp2_with (first
        | (refine wpList_load_part rfl 127 (.global 0) rfl 0 0 8 (fun i => wv (h0 i)) rfl _ (by intro i hi; rw [Nat.zero_add]; exact (HP.out.below (((HS2.out.set 0 0 rfl _).set 0 62 rfl _).out (by simp))).start i hi) Tryd.underlying127 rfl (by kernel_rfl) #[wv (h0 0), wv (h0 1), wv (h0 2), wv (h0 3), wv (h0 4), wv (h0 5), wv (h0 6), wv (h0 7)] rfl ?_))
      refine HS.goC (w0 := w) (rows := [⟨w2.heap.size, 133, 8, fun i => wv (h0 i)⟩, ⟨w.heap.size + 4, 132, 64, u8v (blk M 1)⟩, ⟨w.heap.size + 3, 132, 64, u8v (blk M 0)⟩, ⟨w.heap.size + 2, 24, 32, u8v fun _ => 0⟩, ⟨w.heap.size + 1, 24, 32, u8v y⟩, ⟨w.heap.size, 24, 32, u8v x⟩])
        (by exact ((((HS2.out.set 0 0 rfl _).set 0 62 rfl _).congr 0 rfl (g := u8v (blk M 1)) (fun j hj => HD.out _ (fun _ _ => rfl) j hj)).congr 1 rfl (g := u8v (blk M 0)) (fun j hj => HB.out _ j hj)).allocB _ _ _ 8 _ rfl h0_at (by simp)) (fun w3 hs => ?_)
      have hpk := HP.out.below (hs.out (by simp [hsz2]))
      have HP3 := Lib.hid hpk
      refine (mix_any w2.heap.size 0 64 64 w3.heap.size _ 133 8 (fun i => wv (h0 i)) h0 (blk M 0) w3 (hs.row 0 rfl) (Nat.le_refl _) (fun i _ => by rw [Nat.zero_add]) (fun i => hM _) (Rd.of_row (hs.row 2 rfl) (Nat.le_refl _) (hs.lt 2 rfl)) (Nat.le_refl _) (Nat.le_refl _) (by omega) hpk.round).mono ?_
      rintro e w4 ⟨rfl, hr, hg⟩
      have hs4 := (hs.write 0 rfl hg hr).congr 0 rfl (g := fun i => wv (Hs M 1 i)) (fun j hj => by rw [if_pos (by omega)]; rfl)
      have HS4 := Lib.hid hs4
      have HP4 := Lib.hid (HP.out.below (hs4.out (by simp [hsz2])))
      clear hs hr hg hs4 hpk
      simp only []
      go_wp2_with fail
      have hs := HS4.out
      have hpk := HP4.out
      refine (mix_any w2.heap.size 0 64 64 w4.heap.size _ 133 8 (fun i => wv (Hs M 1 i)) (Hs M 1) (blk M 1) w4 (hs.row 0 rfl) (Nat.le_refl _) (fun i _ => by rw [Nat.zero_add]) (fun i => hM _) (Rd.of_row (hs.row 1 rfl) (Nat.le_refl _) (hs.lt 1 rfl)) (Nat.le_refl _) (Nat.le_refl _) (by omega) hpk.round).mono ?_
      rintro e w5 ⟨rfl, hr, hg⟩
      have hs5 := (hs.write 0 rfl hg hr).congr 0 rfl (g := fun i => wv (Hs M 2 i)) (fun j hj => by rw [if_pos (by omega)]; rfl)
      have HS5 := Lib.hid hs5
      clear hs hr hg hs5 hpk HS4
      simp only []
      go_wp2_with fail
      have hs := HS5.out
      refine (root_any w2.heap.size 0 (Hs M 2) w5 (fun i hi => by rw [Nat.zero_add]; exact hs.cell 0 i rfl hi)).mono ?_
      rintro e w6 ⟨rfl, hb⟩
      have hs6 := hs.below hb
      have HS6 := Lib.hid hs6
      have HR := Lib.hid (hs6.row 3 rfl)
      clear hs hb hs6 HS5
      simp only []
      go_wp2_with (refine wpList_store_arr rfl 24 (.tmp 4) (.tmp 21) rfl HR.out _ rfl rfl (size_arr _ _) (by kernel_rfl) (fun i hi => ⟨_, arr_at _ _ i hi, rfl⟩) ?_)
      have hend := HS6.out.setRow 3 rfl (arr 32 (u8v (rootOf (Hs M 2)))) (size_arr _ _) _ (fun i hi => arr_at _ _ i hi)
      exact ret_rowIs rfl (hend.row 3 rfl) _ rfl Tryd.underlying24 rfl (by kernel_rfl) rfl ⟨rfl, hend.out (by simp [hsz2])⟩
end Go.Proofs.YtjhgndnpihnidaaDoor
/- Copies of a digest. -/
namespace Go.Proofs.YtjhgndnpihnidaaDoor
set_option maxRecDepth 40000
open Go.RowKit
set_option maxHeartbeats 400000 in
theorem copy_nil (w : World) : Calls Tryd.prog 91 #[.pointer none] w fun e w' => e = .returned (.pointer none) ∧ w = w' := by
  go_enter Tryd.func91, Tryd.ntmps91
  go_wp2
  go_ret
  exact ⟨rfl, rfl⟩

theorem one_digG (H : Nat → W32) (y : Nat → Nat) (r a : Nat) : ∀ i, i < 74 → ∃ v, (arr 74 (digG H y r a))[i]? = some v ∧ v.oneCell' = true := fun i hi => ⟨_, arr_at _ _ i hi, by
  unfold digG
  by_cases e1 : i < 8
  · rw [if_pos e1]; rfl
  · by_cases e2 : i < 72
    · rw [if_neg e1, if_pos e2]; rfl
    · rw [if_neg e1, if_neg e2]; split <;> rfl⟩
set_option maxHeartbeats 1000000 in
theorem copy_any (g len : Nat) (m : Nat → Nat) (w : World) (hd : Dig w g m len) :
    Calls Tryd.prog 91 #[.pointer (some ⟨g, 0, none⟩)] w fun e w' => ∃ g', e = .returned (.pointer (some ⟨g', 0, none⟩)) ∧ w.heap.size ≤ g' ∧ Dig w' g' m len ∧ Below w.heap.size w w' := by
  obtain ⟨q, r, y, rfl, hr, hy, hy2, hrow⟩ := hd
  have HX := Lib.hid (heap_arr hrow)
  have HY := Lib.hid hy
  have HY2 := Lib.hid hy2
  clear hrow hy hy2
  have HZ := Lib.hid ((HS.nil w).allocB _ (zeroOf Tryd.prog 135) 135 74 (fun i => (zeroOf Tryd.prog 135).getD i undef) (by kernel_rfl) (fun i hi => get_getD _ i (by rw [show (zeroOf Tryd.prog 135).size = 74 by kernel_rfl]; exact hi)) rfl)
  go_enter Tryd.func91, Tryd.ntmps91
  go_wp2_with (first
    | (refine wpList_load_row rfl 135 (.tmp 7) rfl g rfl 135 _ _ _ HX.out Tryd.underlying135 rfl (by kernel_rfl) ?_)
    | (refine wpList_alloc_as rfl 135 rfl (zeroOf Tryd.prog 135) (by kernel_rfl) ?_)
    | (refine wpList_store_arr rfl 135 (.tmp 3) (.tmp 8) rfl (HZ.out.row 0 rfl) _ rfl rfl (size_arr _ _) (by kernel_rfl) (one_digG _ _ _ _) ?_))
  have hend := HZ.out.setRow 0 rfl (arr 74 (digG (Hs m q) y r (64 * q + r))) (size_arr _ _) _ (fun i hi => arr_at _ _ i hi)
  go_ret
  exact ⟨w.heap.size, rfl, Nat.le_refl _, ⟨q, r, y, rfl, hr, HY.out, HY2.out, hend.row 0 rfl⟩, hend.out (by simp)⟩
end Go.Proofs.YtjhgndnpihnidaaDoor
/- The walk of Sum. -/
namespace Go.Proofs.YtjhgndnpihnidaaDoor
set_option maxRecDepth 40000
open Go.RowKit

set_option maxHeartbeats 2000000 in
theorem sum_any (n c : Nat) (A : Option Addr) (x : Nat → Nat) (w : World) (hb : Rd w w.heap.size A n (u8v x)) (hx : ∀ i, x i < 256) (hn : n ≤ 140737488355328) (hnc : n ≤ c) (hp : ShaPkg w) :
    Calls Tryd.prog 65 #[.slice A n c] w fun e w' => e = .returned (rootV (shaB x n)) ∧ Below w.heap.size w w' := by
  have HP := Lib.hid hp
  have hlt := hp.lt
  have HB := Lib.hid hb
  have HX := Lib.hid hx
  have H0 := Lib.hid ((HS.nil w).allocB _ _ 24 32 _ (by rfl) (zero_at 32 (.int .u8 0)) rfl)
  have HZ := Lib.hid (H0.out.allocB (w.heap.size + 1) (zeroOf Tryd.prog 135) 135 74 (fun i => (zeroOf Tryd.prog 135).getD i undef) (by kernel_rfl) (fun i hi => get_getD _ i (by rw [show (zeroOf Tryd.prog 135).size = 74 by kernel_rfl]; exact hi)) (by simp))
  clear hp hb hx
  go_enter Tryd.func65, Tryd.ntmps65
  go_wp2_with (first
    | (refine wpList_load_part rfl 127 (.global 0) rfl 0 0 8 (fun i => wv (h0 i)) rfl _ (by intro i hi; rw [Nat.zero_add]; exact (HP.out.below (H0.out.out (by simp))).start i hi) Tryd.underlying127 rfl (by kernel_rfl) #[wv (h0 0), wv (h0 1), wv (h0 2), wv (h0 3), wv (h0 4), wv (h0 5), wv (h0 6), wv (h0 7)] rfl ?_)
    | (refine wpList_build_as rfl 135 #[(0, .tmp 4)] rfl [(0, agg8')] rfl _ (built_dig x) ?_)
    | (refine wpList_alloc_at rfl 135 rfl (zeroOf Tryd.prog 135) (by kernel_rfl) (w.heap.size + 1) (by simp) ?_)
    | (refine wpList_store_arr rfl 135 (.tmp 3) (.tmp 5) rfl (HZ.out.row 0 rfl) _ rfl rfl (size_arr _ _) (by kernel_rfl) (one_digG (Hs x 0) (fun _ => 0) 0 0) ?_))
  have HZ2 := Lib.hid (HZ.out.setRow 0 rfl (arr 74 (digF x 0 (fun _ => 0))) (size_arr _ _) _ (fun i hi => arr_at _ _ i hi))
  refine HS.goC (w0 := w) (rows := _) HZ2.out (fun w1 hs => ?_)
  have hsz := hs.size
  have hbel := hs.out (by simp)
  refine (write_any (w.heap.size + 1) 0 n c A x x w1 (dig_new x (hs.row 0 rfl)) ((HB.out.below hbel).more hsz) (HB.out.apt (Nat.le_succ _)) HX.out HX.out hn hnc (HP.out.below hbel) ⟨by omega, by omega⟩).mono ?_
  rintro e w2 ⟨rfl, hd, hg⟩
  have hx2 : ∀ i, i < 0 + n → catN 0 x x i = x i := fun i _ => by unfold catN; rw [if_neg (by omega), Nat.sub_zero]
  have hd2 := hd.congr hx2
  rw [Nat.zero_add] at hd2
  obtain ⟨q, r, y, h1, h2, h3, h4, hr⟩ := hd2
  have hs2 := hs.write 0 rfl hg hr
  have HS2 := Lib.hid hs2
  have hd3 : Dig w2 (w.heap.size + 1) x n := ⟨q, r, y, h1, h2, h3, h4, hr⟩
  have HD := Lib.hid hd3
  clear hs hd hg hr hs2 hd3 hx2 h1 h3 h4 hbel
  simp only []
  go_wp2_with fail
  refine (sumd_any (w.heap.size + 1) n x w2 HD.out HX.out (HP.out.below (HS2.out.out (by simp)))).mono ?_
  rintro e w3 ⟨rfl, hb⟩
  have hs3 := HS2.out.below hb
  have HS3 := Lib.hid hs3
  have HR := Lib.hid (hs3.row 1 rfl)
  clear hs3 hb
  simp only []
  go_wp2_with (refine wpList_store_arr rfl 24 (.tmp 2) (.tmp 8) rfl HR.out _ rfl rfl (size_arr _ _) (by kernel_rfl) (fun i hi => ⟨_, arr_at _ _ i hi, rfl⟩) ?_)
  have hend := HS3.out.setRow 1 rfl (arr 32 (u8v (shaB x n))) (size_arr _ _) _ (fun i hi => arr_at _ _ i hi)
  exact ret_rowIs rfl (hend.row 1 rfl) _ rfl Tryd.underlying24 rfl (by kernel_rfl) rfl ⟨rfl, hend.out (by simp)⟩
end Go.Proofs.YtjhgndnpihnidaaDoor
/- rot of the reference, at each constant. (Printed by a program of mine.) -/
namespace Go.Proofs.YtjhgndnpihnidaaDoor
set_option maxRecDepth 40000
open Go.RowKit

set_option maxHeartbeats 400000 in
theorem rot_2 (x : W32) (w : World) : Calls Tryd.prog 86 #[wv x, .int .u64 2] w fun e w' => e = .returned (wv (rotr x 2)) ∧ w = w' := by
  have h1 := Lib.hid (show (x.toNat : Int) * (1073741824 : Int) % (4294967296 : Int) = (((x <<< 30).toNat : Nat) : Int) from u32_shl x 30)
  have h2 := Lib.hid (show (x.toNat : Int) / (4 : Int) = (((x >>> 2).toNat : Nat) : Int) from u32_shr x 2)
  have h3 := Lib.hid (u32_or (x >>> 2) (x <<< 30))
  go_enter Tryd.func86, Tryd.ntmps86
  go_wp2
  go_ret
  exact ⟨ret_int (by rw [h1.out, h2.out, h3.out]; rfl), rfl⟩

set_option maxHeartbeats 400000 in
theorem rot_6 (x : W32) (w : World) : Calls Tryd.prog 86 #[wv x, .int .u64 6] w fun e w' => e = .returned (wv (rotr x 6)) ∧ w = w' := by
  have h1 := Lib.hid (show (x.toNat : Int) * (67108864 : Int) % (4294967296 : Int) = (((x <<< 26).toNat : Nat) : Int) from u32_shl x 26)
  have h2 := Lib.hid (show (x.toNat : Int) / (64 : Int) = (((x >>> 6).toNat : Nat) : Int) from u32_shr x 6)
  have h3 := Lib.hid (u32_or (x >>> 6) (x <<< 26))
  go_enter Tryd.func86, Tryd.ntmps86
  go_wp2
  go_ret
  exact ⟨ret_int (by rw [h1.out, h2.out, h3.out]; rfl), rfl⟩

set_option maxHeartbeats 400000 in
theorem rot_7 (x : W32) (w : World) : Calls Tryd.prog 86 #[wv x, .int .u64 7] w fun e w' => e = .returned (wv (rotr x 7)) ∧ w = w' := by
  have h1 := Lib.hid (show (x.toNat : Int) * (33554432 : Int) % (4294967296 : Int) = (((x <<< 25).toNat : Nat) : Int) from u32_shl x 25)
  have h2 := Lib.hid (show (x.toNat : Int) / (128 : Int) = (((x >>> 7).toNat : Nat) : Int) from u32_shr x 7)
  have h3 := Lib.hid (u32_or (x >>> 7) (x <<< 25))
  go_enter Tryd.func86, Tryd.ntmps86
  go_wp2
  go_ret
  exact ⟨ret_int (by rw [h1.out, h2.out, h3.out]; rfl), rfl⟩

set_option maxHeartbeats 400000 in
theorem rot_11 (x : W32) (w : World) : Calls Tryd.prog 86 #[wv x, .int .u64 11] w fun e w' => e = .returned (wv (rotr x 11)) ∧ w = w' := by
  have h1 := Lib.hid (show (x.toNat : Int) * (2097152 : Int) % (4294967296 : Int) = (((x <<< 21).toNat : Nat) : Int) from u32_shl x 21)
  have h2 := Lib.hid (show (x.toNat : Int) / (2048 : Int) = (((x >>> 11).toNat : Nat) : Int) from u32_shr x 11)
  have h3 := Lib.hid (u32_or (x >>> 11) (x <<< 21))
  go_enter Tryd.func86, Tryd.ntmps86
  go_wp2
  go_ret
  exact ⟨ret_int (by rw [h1.out, h2.out, h3.out]; rfl), rfl⟩

set_option maxHeartbeats 400000 in
theorem rot_13 (x : W32) (w : World) : Calls Tryd.prog 86 #[wv x, .int .u64 13] w fun e w' => e = .returned (wv (rotr x 13)) ∧ w = w' := by
  have h1 := Lib.hid (show (x.toNat : Int) * (524288 : Int) % (4294967296 : Int) = (((x <<< 19).toNat : Nat) : Int) from u32_shl x 19)
  have h2 := Lib.hid (show (x.toNat : Int) / (8192 : Int) = (((x >>> 13).toNat : Nat) : Int) from u32_shr x 13)
  have h3 := Lib.hid (u32_or (x >>> 13) (x <<< 19))
  go_enter Tryd.func86, Tryd.ntmps86
  go_wp2
  go_ret
  exact ⟨ret_int (by rw [h1.out, h2.out, h3.out]; rfl), rfl⟩

set_option maxHeartbeats 400000 in
theorem rot_17 (x : W32) (w : World) : Calls Tryd.prog 86 #[wv x, .int .u64 17] w fun e w' => e = .returned (wv (rotr x 17)) ∧ w = w' := by
  have h1 := Lib.hid (show (x.toNat : Int) * (32768 : Int) % (4294967296 : Int) = (((x <<< 15).toNat : Nat) : Int) from u32_shl x 15)
  have h2 := Lib.hid (show (x.toNat : Int) / (131072 : Int) = (((x >>> 17).toNat : Nat) : Int) from u32_shr x 17)
  have h3 := Lib.hid (u32_or (x >>> 17) (x <<< 15))
  go_enter Tryd.func86, Tryd.ntmps86
  go_wp2
  go_ret
  exact ⟨ret_int (by rw [h1.out, h2.out, h3.out]; rfl), rfl⟩

set_option maxHeartbeats 400000 in
theorem rot_18 (x : W32) (w : World) : Calls Tryd.prog 86 #[wv x, .int .u64 18] w fun e w' => e = .returned (wv (rotr x 18)) ∧ w = w' := by
  have h1 := Lib.hid (show (x.toNat : Int) * (16384 : Int) % (4294967296 : Int) = (((x <<< 14).toNat : Nat) : Int) from u32_shl x 14)
  have h2 := Lib.hid (show (x.toNat : Int) / (262144 : Int) = (((x >>> 18).toNat : Nat) : Int) from u32_shr x 18)
  have h3 := Lib.hid (u32_or (x >>> 18) (x <<< 14))
  go_enter Tryd.func86, Tryd.ntmps86
  go_wp2
  go_ret
  exact ⟨ret_int (by rw [h1.out, h2.out, h3.out]; rfl), rfl⟩

set_option maxHeartbeats 400000 in
theorem rot_19 (x : W32) (w : World) : Calls Tryd.prog 86 #[wv x, .int .u64 19] w fun e w' => e = .returned (wv (rotr x 19)) ∧ w = w' := by
  have h1 := Lib.hid (show (x.toNat : Int) * (8192 : Int) % (4294967296 : Int) = (((x <<< 13).toNat : Nat) : Int) from u32_shl x 13)
  have h2 := Lib.hid (show (x.toNat : Int) / (524288 : Int) = (((x >>> 19).toNat : Nat) : Int) from u32_shr x 19)
  have h3 := Lib.hid (u32_or (x >>> 19) (x <<< 13))
  go_enter Tryd.func86, Tryd.ntmps86
  go_wp2
  go_ret
  exact ⟨ret_int (by rw [h1.out, h2.out, h3.out]; rfl), rfl⟩

set_option maxHeartbeats 400000 in
theorem rot_22 (x : W32) (w : World) : Calls Tryd.prog 86 #[wv x, .int .u64 22] w fun e w' => e = .returned (wv (rotr x 22)) ∧ w = w' := by
  have h1 := Lib.hid (show (x.toNat : Int) * (1024 : Int) % (4294967296 : Int) = (((x <<< 10).toNat : Nat) : Int) from u32_shl x 10)
  have h2 := Lib.hid (show (x.toNat : Int) / (4194304 : Int) = (((x >>> 22).toNat : Nat) : Int) from u32_shr x 22)
  have h3 := Lib.hid (u32_or (x >>> 22) (x <<< 10))
  go_enter Tryd.func86, Tryd.ntmps86
  go_wp2
  go_ret
  exact ⟨ret_int (by rw [h1.out, h2.out, h3.out]; rfl), rfl⟩

set_option maxHeartbeats 400000 in
theorem rot_25 (x : W32) (w : World) : Calls Tryd.prog 86 #[wv x, .int .u64 25] w fun e w' => e = .returned (wv (rotr x 25)) ∧ w = w' := by
  have h1 := Lib.hid (show (x.toNat : Int) * (128 : Int) % (4294967296 : Int) = (((x <<< 7).toNat : Nat) : Int) from u32_shl x 7)
  have h2 := Lib.hid (show (x.toNat : Int) / (33554432 : Int) = (((x >>> 25).toNat : Nat) : Int) from u32_shr x 25)
  have h3 := Lib.hid (u32_or (x >>> 25) (x <<< 7))
  go_enter Tryd.func86, Tryd.ntmps86
  go_wp2
  go_ret
  exact ⟨ret_int (by rw [h1.out, h2.out, h3.out]; rfl), rfl⟩

end Go.Proofs.YtjhgndnpihnidaaDoor
/- More operations on words. -/
namespace Go.Proofs.YtjhgndnpihnidaaDoor
set_option maxRecDepth 40000
open Go.RowKit
section
variable {P : Program} {ops : Array Oper} {B : Nat} {w0 : World} {o : Oper} {lk : Tmp → SF} {ty rt : TypeId}
theorem opOb_nsub (a c d : Nat) {xo yo : Operand} (he : a = d + c) (hb : a ≤ 9223372036854775807) (hg : o.guard = none) (hop : o.op = .binOp .sub ty xo yo rt) (hx : OpK lk xo (.int .i64 (a : Int))) (hy : OpK lk yo (.int .i64 (c : Int))) : opOb P ops B w0 o (SF.is (.int .i64 (d : Int))) lk := by
  rw [show (d : Int) = (a : Int) - (c : Int) by omega]; exact opOb_isub a c (by omega) hg hop hx hy
theorem u32_not (x : W32) : bits .xor .u32 (if IntKind.u32.signed = true then -1 else IntKind.u32.max) (x.toNat : Int) = (((~~~x).toNat : Nat) : Int) := by
  have h : bits .xor .u32 ((BitVec.allOnes 32).toNat : Int) (x.toNat : Int) = _ := u32_xor (BitVec.allOnes 32) x
  rw [BitVec.allOnes_xor] at h
  exact h
theorem opOb_not (x : W32) {xo : Operand} (hg : o.guard = none) (hop : o.op = .unOp .xor ty xo) (hx : OpK lk xo (wv x)) : opOb P ops B w0 o (SF.is (wv (~~~x))) lk :=
  opOb_val _ hg fun a w _ hf => by
    have h1 := hx.eval hf (by rw [hop]; simp [Op.operands])
    unfold execOp
    rw [hop]
    simp only [h1, wv]
    rw [← u32_not]
    simp [go_sem]
end
theorem run_idx8a (w : World) (g o i : Nat) (hi : i < 8) : (Instr.indexAt 127 (.pointer (some ⟨g, o, none⟩)) (.int .i64 (i : Int))).run Tryd.prog w = .ok (.pointer (some ⟨g, o + i, none⟩)) w := by
  have hx : (i : Int) < 8 := by omega
  simp [go_sem, hx]
end Go.Proofs.YtjhgndnpihnidaaDoor
