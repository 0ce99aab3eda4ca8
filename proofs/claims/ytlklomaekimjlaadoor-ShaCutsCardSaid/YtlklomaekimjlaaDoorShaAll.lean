/- The walk of Sum. -/
import Derived.Test.YtlklomaekimjlaaDoorShaSum
import Derived.Test.YtlklomaekimjlaaDoorShaTwo
namespace Go.Proofs.YtlklomaekimjlaaDoor
open Go.RowKit

set_option maxHeartbeats 2000000 in
theorem sum_any (n c : Nat) (A : Option Addr) (x : Nat → Nat) (w : World) (hb : Rd w w.heap.size A n (u8v x)) (hx : ∀ i, x i < 256) (hn : n ≤ 140737488355328) (hnc : n ≤ c) (hp : ShaPkg w) :
    Calls Tryd.prog 9 #[.slice A n c] w fun e w' => e = .returned (rootV (shaB x n)) ∧ Below w.heap.size w w' := by
  have HP := Lib.hid hp
  have hlt := hp.lt
  have HB := Lib.hid hb
  have HX := Lib.hid hx
  have H0 := Lib.hid ((HS.nil w).allocB _ _ 24 32 _ (by rfl) (zero_at 32 (.int .u8 0)) rfl)
  have HZ := Lib.hid (H0.out.allocB (w.heap.size + 1) (zeroOf Tryd.prog 45) 45 74 (fun i => (zeroOf Tryd.prog 45).getD i undef) (by kernel_rfl) (fun i hi => get_getD _ i (by rw [show (zeroOf Tryd.prog 45).size = 74 by kernel_rfl]; exact hi)) (by simp))
  clear hp hb hx
  go_enter Tryd.func9, Tryd.ntmps9
  go_wp2_with (first
    | (refine wpList_load_part rfl 40 (.global 0) rfl 0 0 8 (fun i => wv (h0 i)) rfl _ (by intro i hi; rw [Nat.zero_add]; exact (HP.out.below (H0.out.out (by simp))).start i hi) Tryd.underlying40 rfl (by kernel_rfl) #[wv (h0 0), wv (h0 1), wv (h0 2), wv (h0 3), wv (h0 4), wv (h0 5), wv (h0 6), wv (h0 7)] rfl ?_)
    | (refine wpList_build_as rfl 45 #[(0, .tmp 4)] rfl [(0, agg8')] rfl _ (built_dig x) ?_)
    | (refine wpList_alloc_at rfl 45 rfl (zeroOf Tryd.prog 45) (by kernel_rfl) (w.heap.size + 1) (by simp) ?_)
    | (refine wpList_store_arr rfl 45 (.tmp 3) (.tmp 5) rfl (HZ.out.row 0 rfl) _ rfl rfl (size_arr _ _) (by kernel_rfl) (one_digG (Hs x 0) (fun _ => 0) 0 0) ?_))
  have HZ2 := Lib.hid (HZ.out.setRow 0 rfl (arr 74 (digF x 0 (fun _ => 0))) (size_arr _ _) _ (fun i hi => arr_at _ _ i hi))
  refine HS.goC (w0 := w) (rows := _) HZ2.out (fun w1 hs => ?_)
  have hsz := hs.size
  have hbel := hs.out (by simp)
  refine (write_any (w.heap.size + 1) 0 n c A x x w1 (dig_new x (hs.row 0 rfl)) ((HB.out.below hbel).more hsz) (HB.out.apt (Nat.le_succ _)) HX.out HX.out hn hnc (HP.out.below hbel) ⟨by omega, by omega⟩).mono ?_
  rintro e w2 ⟨rfl, hd, hg⟩
  have hx2 : ∀ i, i < 0 + n → catN 0 x x i = x i := fun i _ => by unfold catN; rw [if_neg (by omega), Nat.sub_zero]
  have hd2 := hd.congr hx2
  rw [Nat.zero_add] at hd2
  obtain ⟨q, r, y, h1, h2, h3, h4, hr⟩ := hd2
  have hs2 := hs.write 0 rfl hg hr
  have HS2 := Lib.hid hs2
  have hd3 : Dig w2 (w.heap.size + 1) x n := ⟨q, r, y, h1, h2, h3, h4, hr⟩
  have HD := Lib.hid hd3
  clear hs hd hg hr hs2 hd3 hx2 h1 h3 h4 hbel
  simp only []
  go_wp2_with fail
  refine (sumd_any (w.heap.size + 1) n x w2 HD.out HX.out (HP.out.below (HS2.out.out (by simp)))).mono ?_
  rintro e w3 ⟨rfl, hb⟩
  have hs3 := HS2.out.below hb
  have HS3 := Lib.hid hs3
  have HR := Lib.hid (hs3.row 1 rfl)
  clear hs3 hb
  simp only []
  go_wp2_with (refine wpList_store_arr rfl 24 (.tmp 2) (.tmp 8) rfl HR.out _ rfl rfl (size_arr _ _) (by kernel_rfl) (fun i hi => ⟨_, arr_at _ _ i hi, rfl⟩) ?_)
  have hend := HS3.out.setRow 1 rfl (arr 32 (u8v (shaB x n))) (size_arr _ _) _ (fun i hi => arr_at _ _ i hi)
  exact ret_rowIs rfl (hend.row 1 rfl) _ rfl Tryd.underlying24 rfl (by kernel_rfl) rfl ⟨rfl, hend.out (by simp)⟩
end Go.Proofs.YtlklomaekimjlaaDoor
