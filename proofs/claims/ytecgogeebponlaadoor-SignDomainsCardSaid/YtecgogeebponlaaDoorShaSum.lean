/- The walks of the digest's Sum and Copy, and of Sum. (Printed by a program of mine.) -/
import Derived.Test.YtecgogeebponlaaDoorShaWrite
namespace Go.Proofs.YtecgogeebponlaaDoor
set_option maxRecDepth 40000
open Go.RowKit

theorem w8_at (H : Nat → W32) : ∀ i, i < 8 → (#[wv (H 0), wv (H 1), wv (H 2), wv (H 3), wv (H 4), wv (H 5), wv (H 6), wv (H 7)] : Array Value)[i]? = some (wv (H i)) := by
  intro i hi
  match i, hi with
  | 0, _ | 1, _ | 2, _ | 3, _ | 4, _ | 5, _ | 6, _ | 7, _ => rfl
theorem len_byte (A : Int) (a k : Nat) (h : A = (a : Int)) : IntKind.u64.wrap (A % 18446744073709551616 * 8) / 2 ^ (8 * k) % 256 = ((8 * a % 18446744073709551616 / 2 ^ (8 * k) % 256 : Nat) : Int) := by
  subst h
  rw [IntKind.wrap_u64, show (a : Int) % 18446744073709551616 * 8 % 18446744073709551616 = ((8 * a % 18446744073709551616 : Nat) : Int) by omega]
  generalize 8 * a % 18446744073709551616 = b
  simp

set_option maxHeartbeats 4000000 in
theorem sumd_64 (g q r : Nat) (m y : Nat → Nat) (w : World) (hrow : w.rowIs g 95 74 (digG (Hs m q) y r (64 * q + r))) (hy : ∀ j, j < r → y j = m (64 * q + j)) (hm : ∀ j, m j < 256) (hr : r < 64) (hE : r < 56) (hp : ShaPkg w) :
    Calls Tryd.prog 24 #[.pointer (some ⟨g, 0, none⟩)] w fun e w' => e = .returned (rootV (shaB m (64 * q + r))) ∧ Below w.heap.size w w' := by
  have hglt := hrow.lt
  have hs0 := HS.own hrow
  have hh : ∀ i, i < 8 → w.cell? ⟨g, 0 + i, none⟩ = some (wv (Hs m q i)) := fun i hi => by
    rw [Nat.zero_add, hrow.cell (show i < 74 by omega)]; unfold digG; rw [if_pos hi]
  have c72 := hs0.cell 0 72 rfl (by show 72 < 74; omega)
  have c73 := hs0.cell 0 73 rfl (by show 73 < 74; omega)
  rw [digG_72] at c72
  rw [digG_73] at c73
  obtain ⟨P, hPd⟩ : ∃ P, P = padF (64 * q + r) m := ⟨_, rfl⟩
  have hnb : nb (64 * q + r) = q + 1 := by unfold nb; omega
  have hP : ∀ j, P j < 256 := fun j => by rw [hPd]; exact padF_lt _ _ hm j
  have hHs : Hs P q = Hs m q := by rw [hPd]; exact Hs_pad m _ q (by omega)
  have hres : shaB m (64 * q + r) = rootOf (Hs P (q + 1)) := by rw [hPd, ← hnb]; rfl
  have hbase : ∀ j, j < 128 → (if j = r then Value.int .u8 128 else if 0 ≤ j ∧ j < 0 + r then u8v y (j - 0) else u8v (fun _ => 0) j) = u8v (fun j => if j < 64 - 8 ∨ 64 - 0 ≤ j ∧ j < 64 then P (64 * q + j) else 0) j := fun j hj => by
    simp only [u8v]
    rw [hPd]
    unfold padF
    rw [hnb]
    by_cases e : j = r
    · subst e; rw [if_pos rfl, if_pos (by omega), if_neg (by omega), if_pos rfl]; rfl
    · rw [if_neg e]
      by_cases e1 : j < r
      · rw [if_pos (by omega), if_pos (by omega), if_pos (by omega), Nat.sub_zero, hy j e1]
      · rw [if_neg (by omega)]
        by_cases e2 : j < 64 - 8
        · rw [if_pos (by omega), if_neg (by omega), if_neg (by omega), if_pos (by omega)]
        · rw [if_neg (by omega)]
  have hlast : ∀ k, k < 8 → 8 * (64 * q + r) % 18446744073709551616 / 2 ^ (8 * k) % 256 = P (64 * q + (64 - 1 - k)) := fun k hk => by
    rw [hPd]
    unfold padF
    rw [hnb, if_neg (by omega), if_neg (by omega), if_neg (by omega), show 64 * (q + 1) - 1 - (64 * q + (64 - 1 - k)) = k by omega]
  rw [hres]
  have HH := Lib.hid hh
  have C73 := Lib.hid c73
  have HP := Lib.hid hp
  have HROW := Lib.hid hrow
  have HPl := Lib.hid hP
  have HHs := Lib.hid hHs
  have HBASE := Lib.hid hbase
  have HLAST := Lib.hid hlast
  clear hrow hs0 hh hp hm hy hP hHs hbase hlast hres hPd hnb
  go_enter Tryd.func24, Tryd.ntmps24
  go_wp2_with (first
    | (refine wpList_alloc_as rfl 96 rfl (Array.replicate 128 (.int .u8 0)) (by kernel_rfl) ?_)
    | (refine wpList_load_part rfl 92 (.tmp 13) rfl g 0 8 (fun i => wv (Hs m q i)) rfl _ (by intro i hi; exact ((Below.refl w.heap.size w).alloc (Nat.le_refl _) _).cell (p := ⟨g, 0 + i, none⟩) hglt |>.trans (HH.out i hi)) Tryd.underlying92 rfl (by kernel_rfl) #[wv (Hs m q 0), wv (Hs m q 1), wv (Hs m q 2), wv (Hs m q 3), wv (Hs m q 4), wv (Hs m q 5), wv (Hs m q 6), wv (Hs m q 7)] rfl ?_))
  simp only [Act.put, List.setIfInBounds_toArray, List.set_cons_succ, List.set_cons_zero, alloc_sz]
  refine HS.go (w0 := w) (rows := [⟨w.heap.size + 2, 96, 128, u8v fun _ => 0⟩, ⟨w.heap.size + 1, 92, 8, fun i => wv (Hs m q i)⟩, ⟨w.heap.size, 24, 32, u8v fun _ => 0⟩])
    (by exact (((HS.nil w).allocB _ _ 24 32 _ (by rfl) (zero_at 32 (.int .u8 0)) rfl).allocB _ _ 92 8 _ rfl (w8_at _) (by simp)).allocB _ _ 96 128 _ (by rfl) (zero_at 128 (.int .u8 0)) (by simp)) (fun w1 hs => ?_)
  have hg1 : g < w1.heap.size := Nat.lt_of_lt_of_le hglt hs.size
  have hol : Below w.heap.size w w1 := hs.out (by simp)
  have c72b := (hol.cell (p := ⟨g, 72, none⟩) hglt).trans c72
  clear c72
  have c72 := c72b
  clear c72b
  refine wp_region_factsS (l := [_, _, _, _, _, _, _, _, _]) (tl := [_]) (B := w1.heap.size) (w0 := w1) [SF.is (.slice (some ⟨w.heap.size + 2, 0, none⟩) (128) (128)), SF.is (.pointer (some ⟨g, 0, none⟩)), SF.is (.pointer (some ⟨g, 0, none⟩)), SF.is (.pointer (some ⟨g, 8, none⟩)), SF.is (.pointer (some ⟨g, 0, none⟩)), SF.is (.pointer (some ⟨g, 0, none⟩)), SF.is (.pointer (some ⟨g, 72, none⟩)), SF.is (.int .i64 ((r : Nat) : Int)), SF.is (.slice (some ⟨g, 8, none⟩) (r) (64))] (by kernel_rfl) (by kernel_rfl) rfl (Nat.le_refl _) (Below.refl _ _) ⟨?_, ?_, ?_, ?_, ?_, ?_, ?_, ?_, ?_, trivial⟩ ?_
  · exact opOb_slc rfl rfl (OpK.tmp rfl) (OpKo.no) (OpKo.no) (fun w => cut_arr Tryd.underlying96 1 (by kernel_rfl) none none (0) (128) (.inl ⟨rfl, rfl⟩) (.inl ⟨rfl, rfl⟩) (by omega) (by omega) (by omega) (by omega) (by omega) (by omega))
  · exact (opOb_move _ rfl (.inl rfl) rfl)
  · exact opOb_nil _ rfl rfl (OpK.tmp rfl)
  · exact opOb_fld rfl rfl (OpK.tmp rfl) (fun w => by simp [go_sem])
  · exact (opOb_move _ rfl (.inl rfl) rfl)
  · exact opOb_nil _ rfl rfl (OpK.tmp rfl)
  · exact opOb_fld rfl rfl (OpK.tmp rfl) (fun w => by simp [go_sem])
  · exact opOb_ld rfl rfl (OpK.tmp rfl) (fun w' hb => run_ldint w' _ _ ((hb.cell (p := ⟨g, 72, none⟩) hg1).trans c72))
  · exact opOb_slc rfl rfl (OpK.tmp rfl) (OpKo.no) (OpKo.tmp rfl) (fun w => cut_arr Tryd.underlying93 1 (by kernel_rfl) none (some _) (0) (r) (.inl ⟨rfl, rfl⟩) (.inr rfl) (by omega) (by omega) (by omega) (by omega) (by omega) (by omega))
  · intro w' hb
    simp only [fin, SF.is, forall_eq]
    simp only [Act.put, List.setIfInBounds_toArray, List.set_cons_succ, List.set_cons_zero]
    have hs1 := hs.below hb
    have hrd : Rd w' w'.heap.size (some ⟨g, 8, none⟩) r (u8v y) := Rd.of_part (row_below HROW.out (hs1.out (by simp)) hglt) (show 8 + r ≤ 74 by omega) (fun i hi => digG_rest _ _ _ _ i (by omega))
    refine wp_copy_fn rfl Tryd.underlying39 (by kernel_rfl) (hs1.row 0 rfl) 0 128 128 hrd (fun _ _ => rfl) r (by omega) (show _ ≤ 128 by omega) rfl rfl (fun w2 hr2 hg2 => ?_)
    have hs2 := hs1.write 0 rfl hg2 hr2
    have cr := hs2.cell 0 r rfl (by show r < 128; omega)
    have fr := hs2.frozen 0 r rfl
    have HS2 := Lib.hid hs2
    have c73b := ((hs2.out (by simp)).cell (p := ⟨g, 73, none⟩) hglt).trans c73
    clear hs hs1 hb hr2 hg2 hs2 hg1 hol hrd c73
    simp only [seqWp]
    refine wp_asg _ (.inl rfl) rfl ?_
    go_wp2_with fail
    go_loopw [29] (fun i wr => ∃ k : Nat, k ≤ 8 ∧ i = .int .i64 k ∧ HS w wr [⟨w.heap.size + 2, 96, 128, u8v fun j => if j < 64 - 8 ∨ 64 - k ≤ j ∧ j < 64 then P (64 * q + j) else 0⟩, ⟨w.heap.size + 1, 92, 8, fun i => wv (Hs m q i)⟩, ⟨w.heap.size, 24, 32, u8v fun _ => 0⟩]) (fun i _ => 8 - (intOf i).toNat)
    case atStart => exact ⟨0, by omega, rfl, (HS2.out.set 0 r rfl _).congr 0 rfl (fun j hj => HBASE.out j hj)⟩
    case round =>
      clear cr fr c73b HS2
      obtain ⟨k, hk, rfl, hs⟩ := hrel
      have c73 := ((hs.out (by simp)).cell (p := ⟨g, 73, none⟩) hglt).trans C73.out
      by_cases hk8 : k < 8
      · have ck := hs.cell 0 (64 - 1 - k) rfl (by show 64 - 1 - k < 128; omega)
        have fk := hs.frozen 0 (64 - 1 - k) rfl
        have HSk := Lib.hid hs
        clear hs
        go_wp2_with fail
        go_roundw
        case rel =>
          refine ⟨k + 1, by omega, by go_num, ?_⟩
          rw [len_byte (64 * (q : Int) + r) (64 * q + r) k (by omega), HLAST.out k hk8]
          refine (HSk.out.set 0 (64 - 1 - k) rfl _).congr 0 rfl (fun j hj => ?_)
          by_cases e : j = 64 - 1 - k
          · subst e; rw [if_pos rfl]; simp only [u8v]; rw [if_pos (by omega)]
          · rw [if_neg e]; simp only [u8v]
            by_cases e2 : j < 64 - 8 ∨ 64 - k ≤ j ∧ j < 64
            · rw [if_pos e2, if_pos (by omega)]
            · rw [if_neg e2, if_neg (by omega)]
        case measure => simp [intOf]; omega
      · obtain rfl : k = 8 := by omega
        have HS3 := Lib.hid hs
        clear hs c73
        go_wp2_with fail
        have hs := HS3.out
        refine (mix_any (w.heap.size + 1) 0 64 128 wr.heap.size _ 92 8 (fun i => wv (Hs m q i)) (Hs m q) (blk P q) wr (hs.row 1 rfl) (Nat.le_refl _) (fun i _ => by rw [Nat.zero_add]) (fun i => HPl.out _) (Rd.of_part (hs.row 0 rfl) (show 0 + 64 ≤ 128 by decide) (fun i hi => by simp only [u8v]; rw [if_pos (by omega), Nat.zero_add]; rfl)) (Nat.le_refl _) (Nat.le_refl _) (by omega) (HP.out.below (hs.out (by simp))).round).mono ?_
        rintro e w4 ⟨rfl, hr4, hg4⟩
        have hs4 := (hs.write 1 rfl hg4 hr4).congr 1 rfl (g := fun i => wv (Hs P (q + 1) i)) (fun j hj => by rw [if_pos (by omega), ← HHs.out]; rfl)
        have HS4 := Lib.hid hs4
        clear hs hr4 hg4 hs4 HS3
        simp only []
        go_wp2_with fail
        have hs := HS4.out
        refine (root_any (w.heap.size + 1) 0 (Hs P (q + 1)) w4 (fun i hi => by rw [Nat.zero_add]; exact hs.cell 1 i rfl hi)).mono ?_
        rintro e w6 ⟨rfl, hb⟩
        have hs6 := hs.below hb
        have HS6 := Lib.hid hs6
        have HR := Lib.hid (hs6.row 2 rfl)
        clear hs hb hs6 HS4
        simp only []
        go_wp2_with (refine wpList_store_arr rfl 24 (.tmp 2) (.tmp 53) rfl HR.out _ rfl rfl (size_arr _ _) (by kernel_rfl) (fun i hi => ⟨_, arr_at _ _ i hi, rfl⟩) ?_)
        have hend := HS6.out.setRow 2 rfl (arr 32 (u8v (rootOf (Hs P (q + 1))))) (size_arr _ _) _ (fun i hi => arr_at _ _ i hi)
        exact ret_rowIs rfl (hend.row 2 rfl) _ rfl Tryd.underlying24 rfl (by kernel_rfl) rfl ⟨rfl, hend.out (by simp)⟩

set_option maxHeartbeats 4000000 in
theorem sumd_128 (g q r : Nat) (m y : Nat → Nat) (w : World) (hrow : w.rowIs g 95 74 (digG (Hs m q) y r (64 * q + r))) (hy : ∀ j, j < r → y j = m (64 * q + j)) (hm : ∀ j, m j < 256) (hr : r < 64) (hE : 56 ≤ r) (hp : ShaPkg w) :
    Calls Tryd.prog 24 #[.pointer (some ⟨g, 0, none⟩)] w fun e w' => e = .returned (rootV (shaB m (64 * q + r))) ∧ Below w.heap.size w w' := by
  have hglt := hrow.lt
  have hs0 := HS.own hrow
  have hh : ∀ i, i < 8 → w.cell? ⟨g, 0 + i, none⟩ = some (wv (Hs m q i)) := fun i hi => by
    rw [Nat.zero_add, hrow.cell (show i < 74 by omega)]; unfold digG; rw [if_pos hi]
  have c72 := hs0.cell 0 72 rfl (by show 72 < 74; omega)
  have c73 := hs0.cell 0 73 rfl (by show 73 < 74; omega)
  rw [digG_72] at c72
  rw [digG_73] at c73
  obtain ⟨P, hPd⟩ : ∃ P, P = padF (64 * q + r) m := ⟨_, rfl⟩
  have hnb : nb (64 * q + r) = q + 2 := by unfold nb; omega
  have hP : ∀ j, P j < 256 := fun j => by rw [hPd]; exact padF_lt _ _ hm j
  have hHs : Hs P q = Hs m q := by rw [hPd]; exact Hs_pad m _ q (by omega)
  have hres : shaB m (64 * q + r) = rootOf (Hs P (q + 2)) := by rw [hPd, ← hnb]; rfl
  have hbase : ∀ j, j < 128 → (if j = r then Value.int .u8 128 else if 0 ≤ j ∧ j < 0 + r then u8v y (j - 0) else u8v (fun _ => 0) j) = u8v (fun j => if j < 128 - 8 ∨ 128 - 0 ≤ j ∧ j < 128 then P (64 * q + j) else 0) j := fun j hj => by
    simp only [u8v]
    rw [hPd]
    unfold padF
    rw [hnb]
    by_cases e : j = r
    · subst e; rw [if_pos rfl, if_pos (by omega), if_neg (by omega), if_pos rfl]; rfl
    · rw [if_neg e]
      by_cases e1 : j < r
      · rw [if_pos (by omega), if_pos (by omega), if_pos (by omega), Nat.sub_zero, hy j e1]
      · rw [if_neg (by omega)]
        by_cases e2 : j < 128 - 8
        · rw [if_pos (by omega), if_neg (by omega), if_neg (by omega), if_pos (by omega)]
        · rw [if_neg (by omega)]
  have hlast : ∀ k, k < 8 → 8 * (64 * q + r) % 18446744073709551616 / 2 ^ (8 * k) % 256 = P (64 * q + (128 - 1 - k)) := fun k hk => by
    rw [hPd]
    unfold padF
    rw [hnb, if_neg (by omega), if_neg (by omega), if_neg (by omega), show 64 * (q + 2) - 1 - (64 * q + (128 - 1 - k)) = k by omega]
  rw [hres]
  have HH := Lib.hid hh
  have C73 := Lib.hid c73
  have HP := Lib.hid hp
  have HROW := Lib.hid hrow
  have HPl := Lib.hid hP
  have HHs := Lib.hid hHs
  have HBASE := Lib.hid hbase
  have HLAST := Lib.hid hlast
  clear hrow hs0 hh hp hm hy hP hHs hbase hlast hres hPd hnb
  go_enter Tryd.func24, Tryd.ntmps24
  go_wp2_with (first
    | (refine wpList_alloc_as rfl 96 rfl (Array.replicate 128 (.int .u8 0)) (by kernel_rfl) ?_)
    | (refine wpList_load_part rfl 92 (.tmp 13) rfl g 0 8 (fun i => wv (Hs m q i)) rfl _ (by intro i hi; exact ((Below.refl w.heap.size w).alloc (Nat.le_refl _) _).cell (p := ⟨g, 0 + i, none⟩) hglt |>.trans (HH.out i hi)) Tryd.underlying92 rfl (by kernel_rfl) #[wv (Hs m q 0), wv (Hs m q 1), wv (Hs m q 2), wv (Hs m q 3), wv (Hs m q 4), wv (Hs m q 5), wv (Hs m q 6), wv (Hs m q 7)] rfl ?_))
  simp only [Act.put, List.setIfInBounds_toArray, List.set_cons_succ, List.set_cons_zero, alloc_sz]
  refine HS.go (w0 := w) (rows := [⟨w.heap.size + 2, 96, 128, u8v fun _ => 0⟩, ⟨w.heap.size + 1, 92, 8, fun i => wv (Hs m q i)⟩, ⟨w.heap.size, 24, 32, u8v fun _ => 0⟩])
    (by exact (((HS.nil w).allocB _ _ 24 32 _ (by rfl) (zero_at 32 (.int .u8 0)) rfl).allocB _ _ 92 8 _ rfl (w8_at _) (by simp)).allocB _ _ 96 128 _ (by rfl) (zero_at 128 (.int .u8 0)) (by simp)) (fun w1 hs => ?_)
  have hg1 : g < w1.heap.size := Nat.lt_of_lt_of_le hglt hs.size
  have hol : Below w.heap.size w w1 := hs.out (by simp)
  have c72b := (hol.cell (p := ⟨g, 72, none⟩) hglt).trans c72
  clear c72
  have c72 := c72b
  clear c72b
  refine wp_region_factsS (l := [_, _, _, _, _, _, _, _, _]) (tl := [_]) (B := w1.heap.size) (w0 := w1) [SF.is (.slice (some ⟨w.heap.size + 2, 0, none⟩) (128) (128)), SF.is (.pointer (some ⟨g, 0, none⟩)), SF.is (.pointer (some ⟨g, 0, none⟩)), SF.is (.pointer (some ⟨g, 8, none⟩)), SF.is (.pointer (some ⟨g, 0, none⟩)), SF.is (.pointer (some ⟨g, 0, none⟩)), SF.is (.pointer (some ⟨g, 72, none⟩)), SF.is (.int .i64 ((r : Nat) : Int)), SF.is (.slice (some ⟨g, 8, none⟩) (r) (64))] (by kernel_rfl) (by kernel_rfl) rfl (Nat.le_refl _) (Below.refl _ _) ⟨?_, ?_, ?_, ?_, ?_, ?_, ?_, ?_, ?_, trivial⟩ ?_
  · exact opOb_slc rfl rfl (OpK.tmp rfl) (OpKo.no) (OpKo.no) (fun w => cut_arr Tryd.underlying96 1 (by kernel_rfl) none none (0) (128) (.inl ⟨rfl, rfl⟩) (.inl ⟨rfl, rfl⟩) (by omega) (by omega) (by omega) (by omega) (by omega) (by omega))
  · exact (opOb_move _ rfl (.inl rfl) rfl)
  · exact opOb_nil _ rfl rfl (OpK.tmp rfl)
  · exact opOb_fld rfl rfl (OpK.tmp rfl) (fun w => by simp [go_sem])
  · exact (opOb_move _ rfl (.inl rfl) rfl)
  · exact opOb_nil _ rfl rfl (OpK.tmp rfl)
  · exact opOb_fld rfl rfl (OpK.tmp rfl) (fun w => by simp [go_sem])
  · exact opOb_ld rfl rfl (OpK.tmp rfl) (fun w' hb => run_ldint w' _ _ ((hb.cell (p := ⟨g, 72, none⟩) hg1).trans c72))
  · exact opOb_slc rfl rfl (OpK.tmp rfl) (OpKo.no) (OpKo.tmp rfl) (fun w => cut_arr Tryd.underlying93 1 (by kernel_rfl) none (some _) (0) (r) (.inl ⟨rfl, rfl⟩) (.inr rfl) (by omega) (by omega) (by omega) (by omega) (by omega) (by omega))
  · intro w' hb
    simp only [fin, SF.is, forall_eq]
    simp only [Act.put, List.setIfInBounds_toArray, List.set_cons_succ, List.set_cons_zero]
    have hs1 := hs.below hb
    have hrd : Rd w' w'.heap.size (some ⟨g, 8, none⟩) r (u8v y) := Rd.of_part (row_below HROW.out (hs1.out (by simp)) hglt) (show 8 + r ≤ 74 by omega) (fun i hi => digG_rest _ _ _ _ i (by omega))
    refine wp_copy_fn rfl Tryd.underlying39 (by kernel_rfl) (hs1.row 0 rfl) 0 128 128 hrd (fun _ _ => rfl) r (by omega) (show _ ≤ 128 by omega) rfl rfl (fun w2 hr2 hg2 => ?_)
    have hs2 := hs1.write 0 rfl hg2 hr2
    have cr := hs2.cell 0 r rfl (by show r < 128; omega)
    have fr := hs2.frozen 0 r rfl
    have HS2 := Lib.hid hs2
    have c73b := ((hs2.out (by simp)).cell (p := ⟨g, 73, none⟩) hglt).trans c73
    clear hs hs1 hb hr2 hg2 hs2 hg1 hol hrd c73
    simp only [seqWp]
    refine wp_asg _ (.inl rfl) rfl ?_
    go_wp2_with fail
    go_loopw [29] (fun i wr => ∃ k : Nat, k ≤ 8 ∧ i = .int .i64 k ∧ HS w wr [⟨w.heap.size + 2, 96, 128, u8v fun j => if j < 128 - 8 ∨ 128 - k ≤ j ∧ j < 128 then P (64 * q + j) else 0⟩, ⟨w.heap.size + 1, 92, 8, fun i => wv (Hs m q i)⟩, ⟨w.heap.size, 24, 32, u8v fun _ => 0⟩]) (fun i _ => 8 - (intOf i).toNat)
    case atStart => exact ⟨0, by omega, rfl, (HS2.out.set 0 r rfl _).congr 0 rfl (fun j hj => HBASE.out j hj)⟩
    case round =>
      clear cr fr c73b HS2
      obtain ⟨k, hk, rfl, hs⟩ := hrel
      have c73 := ((hs.out (by simp)).cell (p := ⟨g, 73, none⟩) hglt).trans C73.out
      by_cases hk8 : k < 8
      · have ck := hs.cell 0 (128 - 1 - k) rfl (by show 128 - 1 - k < 128; omega)
        have fk := hs.frozen 0 (128 - 1 - k) rfl
        have HSk := Lib.hid hs
        clear hs
        go_wp2_with fail
        go_roundw
        case rel =>
          refine ⟨k + 1, by omega, by go_num, ?_⟩
          rw [len_byte (64 * (q : Int) + r) (64 * q + r) k (by omega), HLAST.out k hk8]
          refine (HSk.out.set 0 (128 - 1 - k) rfl _).congr 0 rfl (fun j hj => ?_)
          by_cases e : j = 128 - 1 - k
          · subst e; rw [if_pos rfl]; simp only [u8v]; rw [if_pos (by omega)]
          · rw [if_neg e]; simp only [u8v]
            by_cases e2 : j < 128 - 8 ∨ 128 - k ≤ j ∧ j < 128
            · rw [if_pos e2, if_pos (by omega)]
            · rw [if_neg e2, if_neg (by omega)]
        case measure => simp [intOf]; omega
      · obtain rfl : k = 8 := by omega
        have HS3 := Lib.hid hs
        clear hs c73
        go_wp2_with fail
        have hs := HS3.out
        refine (mix_any (w.heap.size + 1) 0 64 128 wr.heap.size _ 92 8 (fun i => wv (Hs m q i)) (Hs m q) (blk P q) wr (hs.row 1 rfl) (Nat.le_refl _) (fun i _ => by rw [Nat.zero_add]) (fun i => HPl.out _) (Rd.of_part (hs.row 0 rfl) (show 0 + 64 ≤ 128 by decide) (fun i hi => by simp only [u8v]; rw [if_pos (by omega), Nat.zero_add]; rfl)) (Nat.le_refl _) (Nat.le_refl _) (by omega) (HP.out.below (hs.out (by simp))).round).mono ?_
        rintro e w4 ⟨rfl, hr4, hg4⟩
        have hs4 := (hs.write 1 rfl hg4 hr4).congr 1 rfl (g := fun i => wv (Hs P (q + 1) i)) (fun j hj => by rw [if_pos (by omega), ← HHs.out]; rfl)
        have HS4 := Lib.hid hs4
        clear hs hr4 hg4 hs4 HS3
        simp only []
        go_wp2_with fail
        have hs := HS4.out
        refine (mix_any (w.heap.size + 1) 0 64 64 w4.heap.size _ 92 8 (fun i => wv (Hs P (q + 1) i)) (Hs P (q + 1)) (blk P (q + 1)) w4 (hs.row 1 rfl) (Nat.le_refl _) (fun i _ => by rw [Nat.zero_add]) (fun i => HPl.out _) (Rd.of_part (hs.row 0 rfl) (show 64 + 64 ≤ 128 by decide) (fun i hi => by simp only [u8v]; rw [if_pos (by omega)]; unfold blk; rw [show 64 * q + (64 + i) = 64 * (q + 1) + i by omega])) (Nat.le_refl _) (Nat.le_refl _) (by omega) (HP.out.below (hs.out (by simp))).round).mono ?_
        rintro e w5 ⟨rfl, hr5, hg5⟩
        have hs5 := (hs.write 1 rfl hg5 hr5).congr 1 rfl (g := fun i => wv (Hs P (q + 2) i)) (fun j hj => by rw [if_pos (by omega)]; rfl)
        have HS5 := Lib.hid hs5
        clear hs hr5 hg5 hs5 HS4
        simp only []
        go_wp2_with fail
        have hs := HS5.out
        refine (root_any (w.heap.size + 1) 0 (Hs P (q + 2)) w5 (fun i hi => by rw [Nat.zero_add]; exact hs.cell 1 i rfl hi)).mono ?_
        rintro e w6 ⟨rfl, hb⟩
        have hs6 := hs.below hb
        have HS6 := Lib.hid hs6
        have HR := Lib.hid (hs6.row 2 rfl)
        clear hs hb hs6 HS5
        simp only []
        go_wp2_with (refine wpList_store_arr rfl 24 (.tmp 2) (.tmp 53) rfl HR.out _ rfl rfl (size_arr _ _) (by kernel_rfl) (fun i hi => ⟨_, arr_at _ _ i hi, rfl⟩) ?_)
        have hend := HS6.out.setRow 2 rfl (arr 32 (u8v (rootOf (Hs P (q + 2))))) (size_arr _ _) _ (fun i hi => arr_at _ _ i hi)
        exact ret_rowIs rfl (hend.row 2 rfl) _ rfl Tryd.underlying24 rfl (by kernel_rfl) rfl ⟨rfl, hend.out (by simp)⟩

set_option maxHeartbeats 4000000 in
theorem sumd_nil (m : Nat → Nat) (hm : ∀ j, m j < 256) (w : World) (hp : ShaPkg w) :
    Calls Tryd.prog 24 #[.pointer none] w fun e w' => e = .returned (rootV (shaB m 0)) ∧ Below w.heap.size w w' := by
  obtain ⟨q, hq⟩ : ∃ q : Nat, q = 0 := ⟨0, rfl⟩
  obtain ⟨r, hr0⟩ : ∃ r : Nat, r = 0 := ⟨0, rfl⟩
  obtain ⟨y, hy0⟩ : ∃ y : Nat → Nat, y = fun _ => 0 := ⟨_, rfl⟩
  have HDIG := Lib.hid (show digF m 0 (fun _ => 0) = digG (Hs m q) y r (64 * q + r) by subst hq hr0 hy0; rfl)
  have hy : ∀ j, j < r → y j = m (64 * q + j) := fun j hj => absurd hj (by omega)
  have hr : r < 64 := by omega
  have hE : r < 56 := by omega
  have hm0 : shaB m 0 = shaB m (64 * q + r) := by rw [hq, hr0]
  rw [hm0]
  have HM0 := Lib.hid hm
  clear hy0
  obtain ⟨P, hPd⟩ : ∃ P, P = padF (64 * q + r) m := ⟨_, rfl⟩
  have hnb : nb (64 * q + r) = q + 1 := by unfold nb; omega
  have hP : ∀ j, P j < 256 := fun j => by rw [hPd]; exact padF_lt _ _ hm j
  have hHs : Hs P q = Hs m q := by rw [hPd]; exact Hs_pad m _ q (by omega)
  have hres : shaB m (64 * q + r) = rootOf (Hs P (q + 1)) := by rw [hPd, ← hnb]; rfl
  have hbase : ∀ j, j < 128 → (if j = r then Value.int .u8 128 else if 0 ≤ j ∧ j < 0 + r then u8v y (j - 0) else u8v (fun _ => 0) j) = u8v (fun j => if j < 64 - 8 ∨ 64 - 0 ≤ j ∧ j < 64 then P (64 * q + j) else 0) j := fun j hj => by
    simp only [u8v]
    rw [hPd]
    unfold padF
    rw [hnb]
    by_cases e : j = r
    · subst e; rw [if_pos rfl, if_pos (by omega), if_neg (by omega), if_pos rfl]; rfl
    · rw [if_neg e]
      by_cases e1 : j < r
      · rw [if_pos (by omega), if_pos (by omega), if_pos (by omega), Nat.sub_zero, hy j e1]
      · rw [if_neg (by omega)]
        by_cases e2 : j < 64 - 8
        · rw [if_pos (by omega), if_neg (by omega), if_neg (by omega), if_pos (by omega)]
        · rw [if_neg (by omega)]
  have hlast : ∀ k, k < 8 → 8 * (64 * q + r) % 18446744073709551616 / 2 ^ (8 * k) % 256 = P (64 * q + (64 - 1 - k)) := fun k hk => by
    rw [hPd]
    unfold padF
    rw [hnb, if_neg (by omega), if_neg (by omega), if_neg (by omega), show 64 * (q + 1) - 1 - (64 * q + (64 - 1 - k)) = k by omega]
  rw [hres]
  have HP := Lib.hid hp
  have HPl := Lib.hid hP
  have HHs := Lib.hid hHs
  have HBASE := Lib.hid hbase
  have HLAST := Lib.hid hlast
  clear hp hm hm0 hy hq hr0 hP hHs hbase hlast hres hPd hnb
  go_enter Tryd.func24, Tryd.ntmps24
  go_wp2_with (first
    | (refine wpList_alloc_as rfl 96 rfl (Array.replicate 128 (.int .u8 0)) (by kernel_rfl) ?_)
    | (go_at_call 22; refine (new_any _ (HP.out.below ((Below.refl _ _).alloc (Nat.le_refl _) _)) m).mono ?_; rintro e w3 ⟨g, rfl, hg3, hrow3, hbel3⟩; rw [HDIG.out] at hrow3; have H3 := Lib.hid ((((HS.nil w).allocB _ _ 24 32 _ (by rfl) (zero_at 32 (.int .u8 0)) rfl).below hbel3).add hrow3 (by simp at hg3; omega) (by simp at hg3 ⊢; omega)); have hgw : w.heap.size < g := (by simp at hg3; omega); clear hrow3 hbel3 hg3)
    | (refine wpList_load_part rfl 92 (.tmp 13) rfl g 0 8 (fun i => wv (Hs m q i)) rfl _ (by intro i hi; rw [H3.out.cell 0 (0 + i) rfl (show 0 + i < 74 by omega)]; unfold digG; rw [Nat.zero_add, if_pos hi]) Tryd.underlying92 rfl (by kernel_rfl) #[wv (Hs m q 0), wv (Hs m q 1), wv (Hs m q 2), wv (Hs m q 3), wv (Hs m q 4), wv (Hs m q 5), wv (Hs m q 6), wv (Hs m q 7)] rfl ?_))
  simp only [Act.put, List.setIfInBounds_toArray, List.set_cons_succ, List.set_cons_zero, alloc_sz]
  have hw3 : w.heap.size ≤ w3.heap.size := H3.out.size
  refine HS.go (w0 := w) (rows := [⟨w3.heap.size + 1, 96, 128, u8v fun _ => 0⟩, ⟨w3.heap.size, 92, 8, fun i => wv (Hs m q i)⟩, ⟨g, 95, 74, digG (Hs m q) y r (64 * q + r)⟩, ⟨w.heap.size, 24, 32, u8v fun _ => 0⟩])
    (by exact (H3.out.allocB _ _ 92 8 _ rfl (w8_at _) (by simp <;> omega)).allocB _ _ 96 128 _ (by rfl) (zero_at 128 (.int .u8 0)) (by simp <;> omega)) (fun w1 hs => ?_)
  have hg1 : g < w1.heap.size := hs.lt 2 rfl
  have c72 := hs.cell 2 72 rfl (by show 72 < 74; omega)
  rw [digG_72] at c72
  refine wp_region_factsS (l := [_, _, _, _, _, _, _, _, _]) (tl := [_]) (B := w1.heap.size) (w0 := w1) [SF.is (.slice (some ⟨w3.heap.size + 1, 0, none⟩) (128) (128)), SF.is (.pointer (some ⟨g, 0, none⟩)), SF.is (.pointer (some ⟨g, 0, none⟩)), SF.is (.pointer (some ⟨g, 8, none⟩)), SF.is (.pointer (some ⟨g, 0, none⟩)), SF.is (.pointer (some ⟨g, 0, none⟩)), SF.is (.pointer (some ⟨g, 72, none⟩)), SF.is (.int .i64 ((r : Nat) : Int)), SF.is (.slice (some ⟨g, 8, none⟩) (r) (64))] (by kernel_rfl) (by kernel_rfl) rfl (Nat.le_refl _) (Below.refl _ _) ⟨?_, ?_, ?_, ?_, ?_, ?_, ?_, ?_, ?_, trivial⟩ ?_
  · exact opOb_slc rfl rfl (OpK.tmp rfl) (OpKo.no) (OpKo.no) (fun w => cut_arr Tryd.underlying96 1 (by kernel_rfl) none none (0) (128) (.inl ⟨rfl, rfl⟩) (.inl ⟨rfl, rfl⟩) (by omega) (by omega) (by omega) (by omega) (by omega) (by omega))
  · exact (opOb_move _ rfl (.inl rfl) rfl)
  · exact opOb_nil _ rfl rfl (OpK.tmp rfl)
  · exact opOb_fld rfl rfl (OpK.tmp rfl) (fun w => by simp [go_sem])
  · exact (opOb_move _ rfl (.inl rfl) rfl)
  · exact opOb_nil _ rfl rfl (OpK.tmp rfl)
  · exact opOb_fld rfl rfl (OpK.tmp rfl) (fun w => by simp [go_sem])
  · exact opOb_ld rfl rfl (OpK.tmp rfl) (fun w' hb => run_ldint w' _ _ ((hb.cell (p := ⟨g, 72, none⟩) hg1).trans c72))
  · exact opOb_slc rfl rfl (OpK.tmp rfl) (OpKo.no) (OpKo.tmp rfl) (fun w => cut_arr Tryd.underlying93 1 (by kernel_rfl) none (some _) (0) (r) (.inl ⟨rfl, rfl⟩) (.inr rfl) (by omega) (by omega) (by omega) (by omega) (by omega) (by omega))
  · intro w' hb
    simp only [fin, SF.is, forall_eq]
    simp only [Act.put, List.setIfInBounds_toArray, List.set_cons_succ, List.set_cons_zero]
    have hs1 := hs.below hb
    have hrd : Rd w' w'.heap.size (some ⟨g, 8, none⟩) r (u8v y) := Rd.of_part (hs1.row 2 rfl) (show 8 + r ≤ 74 by omega) (fun i hi => digG_rest _ _ _ _ i (by omega))
    refine wp_copy_fn rfl Tryd.underlying39 (by kernel_rfl) (hs1.row 0 rfl) 0 128 128 hrd (fun _ _ => rfl) r (by omega) (show _ ≤ 128 by omega) rfl rfl (fun w2 hr2 hg2 => ?_)
    have hs2 := hs1.write 0 rfl hg2 hr2
    have cr := hs2.cell 0 r rfl (by show r < 128; omega)
    have fr := hs2.frozen 0 r rfl
    have HS2 := Lib.hid hs2
    clear hs hs1 hb hr2 hg2 hs2 hg1 hrd
    simp only [seqWp]
    refine wp_asg _ (.inl rfl) rfl ?_
    go_wp2_with fail
    go_loopw [29] (fun i wr => ∃ k : Nat, k ≤ 8 ∧ i = .int .i64 k ∧ HS w wr [⟨w3.heap.size + 1, 96, 128, u8v fun j => if j < 64 - 8 ∨ 64 - k ≤ j ∧ j < 64 then P (64 * q + j) else 0⟩, ⟨w3.heap.size, 92, 8, fun i => wv (Hs m q i)⟩, ⟨g, 95, 74, digG (Hs m q) y r (64 * q + r)⟩, ⟨w.heap.size, 24, 32, u8v fun _ => 0⟩]) (fun i _ => 8 - (intOf i).toNat)
    case atStart => exact ⟨0, by omega, rfl, (HS2.out.set 0 r rfl _).congr 0 rfl (fun j hj => HBASE.out j hj)⟩
    case round =>
      clear cr fr HS2
      obtain ⟨k, hk, rfl, hs⟩ := hrel
      have c73 := hs.cell 2 73 rfl (by show 73 < 74; omega)
      rw [digG_73] at c73
      by_cases hk8 : k < 8
      · have ck := hs.cell 0 (64 - 1 - k) rfl (by show 64 - 1 - k < 128; omega)
        have fk := hs.frozen 0 (64 - 1 - k) rfl
        have HSk := Lib.hid hs
        clear hs
        go_wp2_with fail
        go_roundw
        case rel =>
          refine ⟨k + 1, by omega, by go_num, ?_⟩
          rw [len_byte (64 * (q : Int) + r) (64 * q + r) k (by omega), HLAST.out k hk8]
          refine (HSk.out.set 0 (64 - 1 - k) rfl _).congr 0 rfl (fun j hj => ?_)
          by_cases e : j = 64 - 1 - k
          · subst e; rw [if_pos rfl]; simp only [u8v]; rw [if_pos (by omega)]
          · rw [if_neg e]; simp only [u8v]
            by_cases e2 : j < 64 - 8 ∨ 64 - k ≤ j ∧ j < 64
            · rw [if_pos e2, if_pos (by omega)]
            · rw [if_neg e2, if_neg (by omega)]
        case measure => simp [intOf]; omega
      · obtain rfl : k = 8 := by omega
        have HS3 := Lib.hid hs
        clear hs c73
        go_wp2_with fail
        have hs := HS3.out
        refine (mix_any (w3.heap.size) 0 64 128 wr.heap.size _ 92 8 (fun i => wv (Hs m q i)) (Hs m q) (blk P q) wr (hs.row 1 rfl) (Nat.le_refl _) (fun i _ => by rw [Nat.zero_add]) (fun i => HPl.out _) (Rd.of_part (hs.row 0 rfl) (show 0 + 64 ≤ 128 by decide) (fun i hi => by simp only [u8v]; rw [if_pos (by omega), Nat.zero_add]; rfl)) (Nat.le_refl _) (Nat.le_refl _) (by omega) (HP.out.below (hs.out (by simp <;> omega))).round).mono ?_
        rintro e w4 ⟨rfl, hr4, hg4⟩
        have hs4 := (hs.write 1 rfl hg4 hr4).congr 1 rfl (g := fun i => wv (Hs P (q + 1) i)) (fun j hj => by rw [if_pos (by omega), ← HHs.out]; rfl)
        have HS4 := Lib.hid hs4
        clear hs hr4 hg4 hs4 HS3
        simp only []
        go_wp2_with fail
        have hs := HS4.out
        refine (root_any (w3.heap.size) 0 (Hs P (q + 1)) w4 (fun i hi => by rw [Nat.zero_add]; exact hs.cell 1 i rfl hi)).mono ?_
        rintro e w6 ⟨rfl, hb⟩
        have hs6 := hs.below hb
        have HS6 := Lib.hid hs6
        have HR := Lib.hid (hs6.row 3 rfl)
        clear hs hb hs6 HS4
        simp only []
        go_wp2_with (refine wpList_store_arr rfl 24 (.tmp 2) (.tmp 53) rfl HR.out _ rfl rfl (size_arr _ _) (by kernel_rfl) (fun i hi => ⟨_, arr_at _ _ i hi, rfl⟩) ?_)
        have hend := HS6.out.setRow 3 rfl (arr 32 (u8v (rootOf (Hs P (q + 1))))) (size_arr _ _) _ (fun i hi => arr_at _ _ i hi)
        exact ret_rowIs rfl (hend.row 3 rfl) _ rfl Tryd.underlying24 rfl (by kernel_rfl) rfl ⟨rfl, hend.out (by simp; omega)⟩

theorem sumd_any (g len : Nat) (m : Nat → Nat) (w : World) (hd : Dig w g m len) (hm : ∀ j, m j < 256) (hp : ShaPkg w) :
    Calls Tryd.prog 24 #[.pointer (some ⟨g, 0, none⟩)] w fun e w' => e = .returned (rootV (shaB m len)) ∧ Below w.heap.size w w' := by
  obtain ⟨q, r, y, rfl, hr, hy, hy2, hrow⟩ := hd
  by_cases h : r < 56
  · exact sumd_64 g q r m y w hrow hy hm hr h hp
  · exact sumd_128 g q r m y w hrow hy hm hr (by omega) hp

set_option maxHeartbeats 400000 in
theorem write_nil (A : Option Addr) (n c : Nat) (w : World) : Calls Tryd.prog 23 #[.pointer none, .slice A n c] w fun e w' => e = .returned (.tuple #[]) ∧ w = w' := by
  go_enter Tryd.func23, Tryd.ntmps23
  go_wp2
  exact bodyPost_ret (v := .tuple #[]) (by simp [results, Tryd.results23, go_sem]) rfl ⟨rfl, rfl⟩
end Go.Proofs.YtecgogeebponlaaDoor
