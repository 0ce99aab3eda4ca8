/- A part of what the proofs stand on: ShaWrite. -/
import Derived.Test.YtjmbgdldnnmipaaDoorGShu9
import Derived.Test.YtjmbgdldnnmipaaDoorGShu5
/- The walk of Write. (Printed by a program of mine.) -/
namespace Go.Proofs.YtjmbgdldnnmipaaDoor
set_option maxRecDepth 40000
open Go.RowKit

/-- A digest of the first len bytes of m. -/
def Dig (w : World) (g : Nat) (m : Nat → Nat) (len : Nat) : Prop :=
  ∃ q r y, len = 64 * q + r ∧ r < 64 ∧ (∀ j, j < r → y j = m (64 * q + j)) ∧ (∀ j, y j < 256) ∧ w.rowIs g 97 74 (digG (Hs m q) y r len)
theorem Dig.lt {w : World} {g : Nat} {m : Nat → Nat} {len : Nat} (h : Dig w g m len) : g < w.heap.size := by
  obtain ⟨_, _, _, _, _, _, _, h⟩ := h; exact h.lt
theorem Dig.of_block {w w' : World} {g : Nat} {m : Nat → Nat} {len : Nat} (h : Dig w g m len) (hb : w'.heap[g]? = w.heap[g]?) : Dig w' g m len := by
  obtain ⟨q, r, y, h1, h2, h3, h4, h5⟩ := h; exact ⟨q, r, y, h1, h2, h3, h4, h5.of_block hb⟩
theorem Dig.below {w w' : World} {g B : Nat} {m : Nat → Nat} {len : Nat} (h : Dig w g m len) (hb : Below B w w') (hg : g < B) : Dig w' g m len := h.of_block (hb.block g hg)
theorem Dig.congr {w : World} {g : Nat} {m m' : Nat → Nat} {len : Nat} (h : Dig w g m len) (e : ∀ i, i < len → m i = m' i) : Dig w g m' len := by
  obtain ⟨q, r, y, rfl, h2, h3, h4, h5⟩ := h
  exact ⟨q, r, y, rfl, h2, fun j hj => (h3 j hj).trans (e _ (by omega)), h4, by rw [← Hs_congr m m' q (fun i hi => e i (by omega))]; exact h5⟩
theorem dig_new (m : Nat → Nat) {w : World} {g : Nat} (h : w.rowIs g 97 74 (digF m 0 (fun _ => 0))) : Dig w g m 0 :=
  ⟨0, 0, fun _ => 0, rfl, by omega, fun j hj => absurd hj (by omega), fun _ => (by decide : 0 < 256), by rw [digF_G] at h; exact h⟩
theorem run_ldint (w : World) (a : Addr) (v : Int) (h : w.cell? a = some (.int .i64 v)) : (Instr.loadAt 3 (.pointer (some a))).run Tryd.prog w = .ok (.int .i64 v) w := by
  simp [go_sem, h]
theorem digG_72 (H : Nat → W32) (y : Nat → Nat) (r all : Nat) : digG H y r all 72 = .int .i64 (r : Int) := rfl
theorem digG_73 (H : Nat → W32) (y : Nat → Nat) (r all : Nat) : digG H y r all 73 = .int .u64 ((all % 18446744073709551616 : Nat) : Int) := rfl
theorem digG_all (H : Nat → W32) (y : Nat → Nat) (r a b : Nat) (v : Value) (hv : v = .int .u64 ((b % 18446744073709551616 : Nat) : Int)) : ∀ j, j < 74 → (if j = 73 then v else digG H y r a j) = digG H y r b j := fun j hj => by
  by_cases e : j = 73
  · subst e; rw [if_pos rfl, hv, digG_73]
  · rw [if_neg e]; unfold digG
    by_cases e1 : j < 8
    · rw [if_pos e1, if_pos e1]
    · by_cases e2 : j < 72
      · rw [if_neg e1, if_neg e1, if_pos e2, if_pos e2]
      · rw [if_neg e1, if_neg e1, if_neg e2, if_neg e2, if_pos (by omega), if_pos (by omega)]
theorem digG_n (H : Nat → W32) (y : Nat → Nat) (r r' a : Nat) (v : Value) (hv : v = .int .i64 (r' : Int)) : ∀ j, j < 74 → (if j = 72 then v else digG H y r a j) = digG H y r' a j := fun j hj => by
  by_cases e : j = 72
  · subst e; rw [if_pos rfl, hv, digG_72]
  · rw [if_neg e]; unfold digG
    by_cases e1 : j < 8
    · rw [if_pos e1, if_pos e1]
    · by_cases e2 : j < 72
      · rw [if_neg e1, if_neg e1, if_pos e2, if_pos e2]
      · rw [if_neg e1, if_neg e1, if_neg e2, if_neg e2, if_neg e, if_neg e]
/-- The rest with k bytes of x from place r on. -/
def layAt (r k : Nat) (x y : Nat → Nat) : Nat → Nat := fun j => if r ≤ j ∧ j < r + k then x (j - r) else y j
theorem layAt_lt {r k : Nat} {x y : Nat → Nat} (hx : ∀ i, x i < 256) (hy : ∀ i, y i < 256) (j : Nat) : layAt r k x y j < 256 := by
  unfold layAt; split
  · exact hx _
  · exact hy _
theorem digG_lay (H : Nat → W32) (x y : Nat → Nat) (r k n a o : Nat) (ho : o = 8 + r) (hk : r + k ≤ 64) : ∀ j, j < 74 → (if o ≤ j ∧ j < o + k then u8v x (j - o) else digG H y n a j) = digG H (layAt r k x y) n a j := fun j hj => by
  subst ho
  by_cases e : 8 + r ≤ j ∧ j < 8 + r + k
  · rw [if_pos e]; unfold digG layAt
    rw [if_neg (by omega), if_pos (by omega), if_pos (by omega), show j - 8 - r = j - (8 + r) by omega]
  · rw [if_neg e]; unfold digG layAt
    by_cases e1 : j < 8
    · rw [if_pos e1, if_pos e1]
    · by_cases e2 : j < 72
      · rw [if_neg e1, if_neg e1, if_pos e2, if_pos e2, if_neg (by omega)]
      · rw [if_neg e1, if_neg e1, if_neg e2, if_neg e2]
theorem digG_h (H H' : Nat → W32) (y : Nat → Nat) (n a : Nat) : ∀ j, j < 74 → (if 0 ≤ j ∧ j < 0 + 8 then wv (H' (j - 0)) else digG H y n a j) = digG H' y n a j := fun j hj => by
  unfold digG
  by_cases e1 : j < 8
  · rw [if_pos (by omega), if_pos e1]; rfl
  · rw [if_neg (by omega), if_neg e1, if_neg e1]
theorem all_add (a n : Nat) (_hn : n ≤ 140737488355328) : (((a % 18446744073709551616 : Nat) : Int) + (n : Int)) % 18446744073709551616 = (((a + n) % 18446744073709551616 : Nat) : Int) := by omega

theorem lay_cat (q r k : Nat) (m x y : Nat → Nat) (hy : ∀ j, j < r → y j = m (64 * q + j)) : ∀ j, j < r + k → layAt r k x y j = catN (64 * q + r) m x (64 * q + j) := fun j hj => by
  unfold layAt catN
  by_cases e : j < r
  · rw [if_neg (by omega), if_pos (by omega), hy j e]
  · rw [if_pos (by omega), if_neg (by omega), show 64 * q + j - (64 * q + r) = j - r by omega]
theorem Hs_cat (q r : Nat) (m x : Nat → Nat) : Hs m q = Hs (catN (64 * q + r) m x) q := Hs_congr _ _ q (fun i hi => by unfold catN; rw [if_pos (by omega)])
theorem digG_lo (H : Nat → W32) (y : Nat → Nat) (r a i : Nat) (h : i < 8) : digG H y r a (0 + i) = wv (H i) := by unfold digG; rw [Nat.zero_add, if_pos h]
theorem digG_rest (H : Nat → W32) (y : Nat → Nat) (r a i : Nat) (h : i < 64) : digG H y r a (8 + i) = u8v y i := by
  unfold digG; rw [if_neg (by omega), if_pos (by omega), show 8 + i - 8 = i by omega]
theorem ent_mix (vs : Array Value) (w : World) : (callFunc 41 vs).run Tryd.prog w = .ok (.enter 41 vs) w := by kernel_rfl

set_option maxHeartbeats 2000000 in
/-- What comes fits into the rest. -/
theorem write_small (g q r n c : Nat) (A : Option Addr) (m x y : Nat → Nat) (w : World)
    (hrow : w.rowIs g 97 74 (digG (Hs m q) y r (64 * q + r))) (hy : ∀ j, j < r → y j = m (64 * q + j)) (hy2 : ∀ j, y j < 256) (hr : r < 64) (hb : Rd w w.heap.size A n (u8v x)) (hA : Apt A n g) (hx : ∀ i, x i < 256) (_hm : ∀ i, m i < 256)
    (hn : n ≤ 140737488355328) (hnc : n ≤ c) (_hp : ShaPkg w) (_hg : 0 < g ∧ 1 < g) (hr0 : 0 < r) (hfit : r + n < 64) :
    Calls Tryd.prog 61 #[.pointer (some ⟨g, 0, none⟩), .slice A n c] w fun e w' => e = .returned (.tuple #[]) ∧ Dig w' g (catN (64 * q + r) m x) (64 * q + r + n) ∧ w.grownBy w' (some g) := by
  have hglt := hrow.lt
  have hs0 := HS.own hrow
  have c72 := hs0.cell 0 72 rfl (by show 72 < 74; omega)
  have c73 := hs0.cell 0 73 rfl (by show 73 < 74; omega)
  have f72 := hs0.frozen 0 72 rfl
  have f73 := hs0.frozen 0 73 rfl
  rw [digG_72] at c72
  rw [digG_73] at c73
  have hadd := all_add (64 * q + r) n hn
  have HS0 := Lib.hid hs0
  have HB := Lib.hid hb
  have HA := Lib.hid hA
  have HY := Lib.hid hy
  have HY2 := Lib.hid hy2
  have HX := Lib.hid hx
  have HADD := Lib.hid hadd
  clear hrow hs0 hb hA hy hy2 hx _hm _hp hadd
  go_enter Tryd.func61, Tryd.ntmps61
  go_wp2_with fail
  refine HS.go (w0 := w) (rows := [⟨g, 97, 74, digG (Hs m q) y r (64 * q + r + n)⟩]) (by exact (HS0.out.set 0 73 rfl _).congr 0 rfl (digG_all _ _ _ _ _ _ (by congr 1; first | omega | (rw [IntKind.wrap_u64]; omega)))) (fun w1 hs => ?_)
  have hg1 : g < w1.heap.size := hs.lt 0 rfl
  have c72 := hs.cell 0 72 rfl (by show 72 < 74; omega)
  rw [digG_72] at c72
  refine wp_region_factsS (l := [_, _, _, _, _, _, _, _, _]) (tl := [_]) (B := w1.heap.size) (w0 := w1) [SF.is (.pointer (some ⟨g, 0, none⟩)), SF.is (.pointer (some ⟨g, 0, none⟩)), SF.is (.pointer (some ⟨g, 8, none⟩)), SF.is (.pointer (some ⟨g, 0, none⟩)), SF.is (.pointer (some ⟨g, 0, none⟩)), SF.is (.pointer (some ⟨g, 72, none⟩)), SF.is (.int .i64 ((r : Nat) : Int)), SF.is (.slice (some ⟨g, 8 + r, none⟩) (64 - r) (64 - r)), SF.is (.slice (A) (n) (c))] (by kernel_rfl) (by kernel_rfl) rfl (Nat.le_refl _) (Below.refl _ _) ⟨?_, ?_, ?_, ?_, ?_, ?_, ?_, ?_, ?_, trivial⟩ ?_
  · exact (opOb_move _ rfl (.inl rfl) rfl)
  · exact opOb_nil _ rfl rfl (OpK.tmp rfl)
  · exact opOb_fld rfl rfl (OpK.tmp rfl) (fun w => by simp [go_sem])
  · exact (opOb_move _ rfl (.inl rfl) rfl)
  · exact opOb_nil _ rfl rfl (OpK.tmp rfl)
  · exact opOb_fld rfl rfl (OpK.tmp rfl) (fun w => by simp [go_sem])
  · exact opOb_ld rfl rfl (OpK.tmp rfl) (fun w' hb => run_ldint w' _ _ ((hb.cell (p := ⟨g, 72, none⟩) hg1).trans c72))
  · exact opOb_slc rfl rfl (OpK.tmp rfl) (OpKo.tmp rfl) (OpKo.no) (fun w => cut_arr Tryd.underlying62 1 (by kernel_rfl) (some _) none (r) (64) (.inr rfl) (.inl ⟨rfl, rfl⟩) (by omega) (by omega) (by omega) (by omega) (by omega) (by omega))
  · exact (opOb_move _ rfl (.inl rfl) rfl)
  · intro w' hb
    simp only [fin, SF.is, forall_eq]
    simp only [Act.put, List.setIfInBounds_toArray, List.set_cons_succ, List.set_cons_zero]
    have hs1 := hs.below hb
    refine wp_copy_fn rfl Tryd.underlying35 (by kernel_rfl) (hs1.row 0 rfl) (8 + r) (64 - r) (64 - r) (HB.out.hs hs1 (Nat.le_refl _) (fun h0 ad e => by simp; exact fun h => HA.out h0 ad e h.symm)) (fun _ _ => rfl) n (by omega) (show _ ≤ 74 by omega) rfl rfl (fun w2 hr2 hg2 => ?_)
    have hs2 := (hs1.write 0 rfl hg2 hr2).congr 0 rfl (digG_lay _ _ _ r n r _ _ rfl (by omega))
    have c72 := hs2.cell 0 72 rfl (by show 72 < 74; omega)
    rw [digG_72] at c72
    have f72 := hs2.frozen 0 72 rfl
    have HS2 := Lib.hid hs2
    clear hs hs1 hb hr2 hg2 hs2 hg1
    simp only [seqWp]
    refine wp_asg _ (.inl rfl) rfl ?_
    obtain ⟨A', hcut, -⟩ := cut_from (P := Tryd.prog) Tryd.underlying35 (by kernel_rfl) A n c n (Nat.le_refl _) hnc
    go_wp2_with fail
    have hs := (HS2.out.set 0 72 rfl _).congr 0 rfl (digG_n _ _ _ (r + n) _ _ rfl)
    exact bodyPost_ret (v := .tuple #[]) (by simp [results, Tryd.results61, go_sem]) rfl ⟨rfl, ⟨q, r + n, layAt r n x y, by omega, hfit, fun j hj => lay_cat q r n m x y HY.out j hj, fun j => layAt_lt HX.out HY2.out j, by rw [← Hs_cat]; exact hs.row 0 rfl⟩, hs.grown g (fun r hr => by simp at hr; subst hr; exact .inr rfl)⟩

set_option maxHeartbeats 4000000 in
/-- The rest is filled up, and more. -/
theorem write_fill (g q r n c : Nat) (A : Option Addr) (m x y : Nat → Nat) (w : World)
    (hrow : w.rowIs g 97 74 (digG (Hs m q) y r (64 * q + r))) (hy : ∀ j, j < r → y j = m (64 * q + j)) (hy2 : ∀ j, y j < 256) (hr : r < 64) (hb : Rd w w.heap.size A n (u8v x)) (hA : Apt A n g) (hx : ∀ i, x i < 256) (hm : ∀ i, m i < 256)
    (hn : n ≤ 140737488355328) (hnc : n ≤ c) (hp : ShaPkg w) (hg : 0 < g ∧ 1 < g) (hr0 : 0 < r) (hfit : 64 ≤ r + n) :
    Calls Tryd.prog 61 #[.pointer (some ⟨g, 0, none⟩), .slice A n c] w fun e w' => e = .returned (.tuple #[]) ∧ Dig w' g (catN (64 * q + r) m x) (64 * q + r + n) ∧ w.grownBy w' (some g) := by
  have hglt := hrow.lt
  have hs0 := HS.own hrow
  have c72 := hs0.cell 0 72 rfl (by show 72 < 74; omega)
  have c73 := hs0.cell 0 73 rfl (by show 73 < 74; omega)
  have f72 := hs0.frozen 0 72 rfl
  have f73 := hs0.frozen 0 73 rfl
  rw [digG_72] at c72
  rw [digG_73] at c73
  obtain ⟨M, hMd⟩ : ∃ M, M = catN (64 * q + r) m x := ⟨_, rfl⟩
  have hM : ∀ i, M i < 256 := fun i => by rw [hMd]; exact catN_lt hm hx i
  have HQ := Lib.hid (show Hs m q = Hs M q by rw [hMd]; exact Hs_cat q r m x)
  have HL := Lib.hid (show comp (Hs M q) (layAt r (64 - r) x y) = Hs M (q + 1) from comp_congr _ _ _ (fun i hi => by rw [hMd]; exact lay_cat q r (64 - r) m x y hy i (by omega)))
  have hxM : ∀ i, i < n → u8v x i = u8v (fun i => M (64 * q + r + i)) i := fun i _ => by
    simp only [u8v]
    rw [hMd]; unfold catN; rw [if_neg (by omega), show 64 * q + r + i - (64 * q + r) = i by omega]
  have HB := Lib.hid (hb.congr hxM)
  have HBx := Lib.hid hb
  have HA := Lib.hid hA
  have HY2 := Lib.hid hy2
  have HX := Lib.hid hx
  have HM := Lib.hid hM
  have HP := Lib.hid hp
  have HS0 := Lib.hid hs0
  rw [← hMd]
  clear hrow hs0 hb hA hy hy2 hx hm hp hxM hMd hM
  go_enter Tryd.func61, Tryd.ntmps61
  go_wp2_with fail
  refine HS.go (w0 := w) (rows := [⟨g, 97, 74, digG (Hs M q) y r (64 * q + r + n)⟩]) (by rw [← HQ.out]; exact (HS0.out.set 0 73 rfl _).congr 0 rfl (digG_all _ _ _ _ _ _ (by congr 1; first | omega | (rw [IntKind.wrap_u64]; omega)))) (fun w1 hs => ?_)
  have hg1 : g < w1.heap.size := hs.lt 0 rfl
  have c72 := hs.cell 0 72 rfl (by show 72 < 74; omega)
  rw [digG_72] at c72
  refine wp_region_factsS (l := [_, _, _, _, _, _, _, _, _]) (tl := [_]) (B := w1.heap.size) (w0 := w1) [SF.is (.pointer (some ⟨g, 0, none⟩)), SF.is (.pointer (some ⟨g, 0, none⟩)), SF.is (.pointer (some ⟨g, 8, none⟩)), SF.is (.pointer (some ⟨g, 0, none⟩)), SF.is (.pointer (some ⟨g, 0, none⟩)), SF.is (.pointer (some ⟨g, 72, none⟩)), SF.is (.int .i64 ((r : Nat) : Int)), SF.is (.slice (some ⟨g, 8 + r, none⟩) (64 - r) (64 - r)), SF.is (.slice (A) (n) (c))] (by kernel_rfl) (by kernel_rfl) rfl (Nat.le_refl _) (Below.refl _ _) ⟨?_, ?_, ?_, ?_, ?_, ?_, ?_, ?_, ?_, trivial⟩ ?_
  · exact (opOb_move _ rfl (.inl rfl) rfl)
  · exact opOb_nil _ rfl rfl (OpK.tmp rfl)
  · exact opOb_fld rfl rfl (OpK.tmp rfl) (fun w => by simp [go_sem])
  · exact (opOb_move _ rfl (.inl rfl) rfl)
  · exact opOb_nil _ rfl rfl (OpK.tmp rfl)
  · exact opOb_fld rfl rfl (OpK.tmp rfl) (fun w => by simp [go_sem])
  · exact opOb_ld rfl rfl (OpK.tmp rfl) (fun w' hb => run_ldint w' _ _ ((hb.cell (p := ⟨g, 72, none⟩) hg1).trans c72))
  · exact opOb_slc rfl rfl (OpK.tmp rfl) (OpKo.tmp rfl) (OpKo.no) (fun w => cut_arr Tryd.underlying62 1 (by kernel_rfl) (some _) none (r) (64) (.inr rfl) (.inl ⟨rfl, rfl⟩) (by omega) (by omega) (by omega) (by omega) (by omega) (by omega))
  · exact (opOb_move _ rfl (.inl rfl) rfl)
  · intro w' hb
    simp only [fin, SF.is, forall_eq]
    simp only [Act.put, List.setIfInBounds_toArray, List.set_cons_succ, List.set_cons_zero]
    have hs1 := hs.below hb
    refine wp_copy_fn rfl Tryd.underlying35 (by kernel_rfl) (hs1.row 0 rfl) (8 + r) (64 - r) (64 - r) (HBx.out.hs hs1 (Nat.le_refl _) (fun h0 ad e => by simp; exact fun h => HA.out h0 ad e h.symm)) (fun _ _ => rfl) (64 - r) (by omega) (show _ ≤ 74 by omega) rfl rfl (fun w2 hr2 hg2 => ?_)
    have hs2 := (hs1.write 0 rfl hg2 hr2).congr 0 rfl (digG_lay _ _ _ r (64 - r) r _ _ rfl (by omega))
    have c72 := hs2.cell 0 72 rfl (by show 72 < 74; omega)
    rw [digG_72] at c72
    have f72 := hs2.frozen 0 72 rfl
    have HS2 := Lib.hid hs2
    clear hs hs1 hb hr2 hg2 hs2 hg1
    simp only [seqWp]
    refine wp_asg _ (.inl rfl) rfl ?_
    obtain ⟨A', hcut, hcut2⟩ := cut_from (P := Tryd.prog) Tryd.underlying35 (by kernel_rfl) A n c (64 - r) (by omega) hnc
    have HC := Lib.hid hcut2
    clear hcut2
    have hge : ¬ ((r : Int) + ((64 - r : Nat) : Int)) < 64 := by omega
    go_wp2_with fail
    refine HS.go (w0 := w) (rows := [⟨g, 97, 74, digG (Hs M q) (layAt r (64 - r) x y) 64 (64 * q + r + n)⟩]) (by exact (HS2.out.set 0 72 rfl _).congr 0 rfl (digG_n _ _ _ 64 _ _ (by congr 1; omega))) (fun w3 hs => ?_)
    have hg1 : g < w3.heap.size := hs.lt 0 rfl
    refine wp_region_factsS (l := [_, _, _, _, _, _, _]) (tl := []) (B := w3.heap.size) (w0 := w3) [SF.is (.pointer (some ⟨g, 0, none⟩)), SF.is (.pointer (some ⟨g, 0, none⟩)), SF.is (.pointer (some ⟨g, 0, none⟩)), SF.is (.pointer (some ⟨g, 0, none⟩)), SF.is (.pointer (some ⟨g, 0, none⟩)), SF.is (.pointer (some ⟨g, 8, none⟩)), SF.is (.slice (some ⟨g, 8, none⟩) (64) (64))] (by kernel_rfl) (by kernel_rfl) rfl (Nat.le_refl _) (Below.refl _ _) ⟨?_, ?_, ?_, ?_, ?_, ?_, ?_, trivial⟩ ?_
    · exact (opOb_move _ rfl (.inl rfl) rfl)
    · exact opOb_nil _ rfl rfl (OpK.tmp rfl)
    · exact opOb_fld rfl rfl (OpK.tmp rfl) (fun w => by simp [go_sem])
    · exact (opOb_move _ rfl (.inl rfl) rfl)
    · exact opOb_nil _ rfl rfl (OpK.tmp rfl)
    · exact opOb_fld rfl rfl (OpK.tmp rfl) (fun w => by simp [go_sem])
    · exact opOb_slc rfl rfl (OpK.tmp rfl) (OpKo.no) (OpKo.no) (fun w => cut_arr Tryd.underlying62 1 (by kernel_rfl) none none (0) (64) (.inl ⟨rfl, rfl⟩) (.inl ⟨rfl, rfl⟩) (by omega) (by omega) (by omega) (by omega) (by omega) (by omega))
    · intro w' hb
      simp only [fin, SF.is, forall_eq]
      simp only [Act.put, List.setIfInBounds_toArray, List.set_cons_succ, List.set_cons_zero]
      have hs3 := hs.below hb
      refine wp_fn ent_mix #[.pointer (some ⟨g, 0, none⟩), .slice (some ⟨g, 8, none⟩) 64 64] rfl rfl ?_
      refine (mix_any g 0 64 64 w'.heap.size (some ⟨g, 8, none⟩) 97 74 _ (Hs M q) (layAt r (64 - r) x y) w' (hs3.row 0 rfl) (by decide) (fun i hi => digG_lo _ _ _ _ i hi) (fun i => layAt_lt HX.out HY2.out i) (Rd.of_part (hs3.row 0 rfl) (show 8 + 64 ≤ 74 by decide) (fun i hi => digG_rest _ _ _ _ i hi)) (Nat.le_refl _) (Nat.le_refl _) (by omega)
        (HP.out.keep fun b hb hb2 => hs3.block b hb (fun r hr => by simp at hr; subst hr; rcases hb2 with rfl | rfl <;> (show g ≠ _; omega))).round).mono ?_
      rintro e w4 ⟨rfl, hr4, hg4⟩
      have hs4 := (hs3.write 0 rfl hg4 hr4).congr 0 rfl (digG_h _ _ _ _ _)
      have HS4 := Lib.hid hs4
      have c72 := hs4.cell 0 72 rfl (by show 72 < 74; omega)
      rw [digG_72] at c72
      have f72 := hs4.frozen 0 72 rfl
      clear hs hs3 hb hr4 hg4 hs4 hg1
      refine ⟨_, rfl, ?_⟩
      simp only [seqWp]
      have HR0 := Lib.hid (show Rd w w.heap.size A' (n - (64 - r)) (u8v fun i => M (64 * (q + 1) + i)) from (HC.out.rd HB.out).congr (fun i _ => congrArg (fun k => Value.int .u8 ((M k : Nat) : Int)) (show 64 * q + r + (64 - r + i) = 64 * (q + 1) + i by omega)))
      have HA0 := Lib.hid (HC.out.apart HA.out)
      have HL2 := Lib.hid HL.out
      go_wp2_with fail
      go_loopw [1] (fun s wr => ∃ (Qn rem : Nat) (Aj : Option Addr) (cj : Nat) (z : Nat → Nat), s = .slice Aj rem cj ∧ 64 * Qn + rem = 64 * q + r + n ∧ rem ≤ cj ∧ rem ≤ 140737488355328 ∧ Rd w w.heap.size Aj rem (u8v fun i => M (64 * Qn + i)) ∧ Apt Aj rem g ∧ (∀ j, z j < 256) ∧ HS w wr [⟨g, 97, 74, digG (Hs M Qn) z 0 (64 * q + r + n)⟩]) (fun s _ => match s with | .slice _ k _ => k | _ => 0)
      case atStart => exact ⟨q + 1, n - (64 - r), A', c - (64 - r), layAt r (64 - r) x y, rfl, by omega, by omega, by omega, HR0.out, HA0.out, fun j => layAt_lt HX.out HY2.out j, by rw [← HL2.out]; exact (HS4.out.set 0 72 rfl _).congr 0 rfl (digG_n _ _ _ 0 _ _ rfl)⟩
      case round =>
        clear HS0
        obtain ⟨Qn, rem, Aj, cj, z, rfl, hrem, hrc, hrn, hbj, hAj, hz, hs⟩ := hrel
        by_cases h64 : 64 ≤ rem
        · have hg1 : g < wr.heap.size := hs.lt 0 rfl
          have HSr := Lib.hid hs
          have HBj := Lib.hid hbj
          have HAj := Lib.hid hAj
          have HZ := Lib.hid hz
          clear hs hbj hAj hz
          go_wp2_with fail
          have hs := HSr.out
          refine wp_region_factsS (l := [_, _, _, _, _]) (tl := []) (B := wr.heap.size) (w0 := wr) [SF.is (.pointer (some ⟨g, 0, none⟩)), SF.is (.pointer (some ⟨g, 0, none⟩)), SF.is (.pointer (some ⟨g, 0, none⟩)), SF.is (.slice (Aj) (rem) (cj)), SF.is (.slice (Aj) (64) (cj))] (by kernel_rfl) (by kernel_rfl) rfl (Nat.le_refl _) (Below.refl _ _) ⟨?_, ?_, ?_, ?_, ?_, trivial⟩ ?_
          · exact (opOb_move _ rfl (.inl rfl) rfl)
          · exact opOb_nil _ rfl rfl (OpK.tmp rfl)
          · exact opOb_fld rfl rfl (OpK.tmp rfl) (fun w => by simp [go_sem])
          · exact (opOb_move _ rfl (.inl rfl) rfl)
          · exact opOb_slc rfl rfl (OpK.tmp rfl) OpKo.no OpKo.const (fun w => cut_to Tryd.underlying35 (by kernel_rfl) Aj rem cj 64 (by omega) w)
          · intro w' hb
            simp only [fin, SF.is, forall_eq]
            simp only [Act.put, List.setIfInBounds_toArray, List.set_cons_succ, List.set_cons_zero]
            have hs3 := hs.below hb
            refine wp_fn ent_mix #[.pointer (some ⟨g, 0, none⟩), .slice Aj 64 cj] rfl rfl ?_
            refine (mix_any g 0 64 cj w.heap.size Aj 97 74 _ (Hs M Qn) (fun i => M (64 * Qn + i)) w' (hs3.row 0 rfl) (by decide) (fun i hi => digG_lo _ _ _ _ i hi) (fun i => HM.out _) ((HBj.out.short h64).hs hs3 (Nat.le_refl _) (fun _ ad e => by simp; exact fun h => HAj.out (by omega) ad e h.symm)) hs3.size (Nat.le_refl _) (by omega)
              (HP.out.keep fun b hb hb2 => hs3.block b hb (fun r hr => by simp at hr; subst hr; rcases hb2 with rfl | rfl <;> (show g ≠ _; omega))).round).mono ?_
            rintro e w4 ⟨rfl, hr4, hg4⟩
            have hs4 := (hs3.write 0 rfl hg4 hr4).congr 0 rfl (digG_h _ (Hs M (Qn + 1)) _ _ _)
            have HS4 := Lib.hid hs4
            clear hs hs3 hb hr4 hg4 hs4 hg1
            refine ⟨_, rfl, ?_⟩
            simp only [seqWp]
            obtain ⟨A2, hcut0, hcut2⟩ := cut_from (P := Tryd.prog) Tryd.underlying35 (by kernel_rfl) Aj rem cj 64 h64 hrc
            have hcut : ∀ w : World, (Instr.sliceAt 35 (.slice Aj rem cj) (some (.int .i64 64)) none none).run Tryd.prog w = .ok (.slice A2 (rem - 64) (cj - 64)) w := hcut0
            clear hcut0
            have HC := Lib.hid hcut2
            clear hcut2
            go_wp2_with fail
            go_roundw
            case rel => exact ⟨Qn + 1, rem - 64, A2, cj - 64, z, rfl, by omega, by omega, by omega, (HC.out.rd HBj.out).congr (fun i _ => congrArg (fun k => Value.int .u8 ((M k : Nat) : Int)) (show 64 * Qn + (64 + i) = 64 * (Qn + 1) + i by omega)), HC.out.apart HAj.out, HZ.out, HS4.out⟩
            case measure => show rem - 64 < rem; omega
        · have hg1 : g < wr.heap.size := hs.lt 0 rfl
          have HSr := Lib.hid hs
          have HBj := Lib.hid hbj
          have HAj := Lib.hid hAj
          have HZ := Lib.hid hz
          clear hs hbj hAj hz
          go_wp2_with (refine wpList_copy_fn rfl (.tmp 74) (.tmp 75) 35 35 rfl Tryd.underlying35 (by kernel_rfl) (HSr.out.row 0 rfl) 8 64 64 (HBj.out.hs HSr.out (Nat.le_refl _) (fun h0 ad e => by simp; exact fun h => HAj.out h0 ad e h.symm)) (fun _ _ => rfl) rem (by omega) (show _ ≤ 74 by omega) rfl rfl ?_; intro w5 hr5 hg5; have hs5 := (HSr.out.write 0 rfl hg5 hr5).congr 0 rfl (digG_lay _ (fun i => M (64 * Qn + i)) _ 0 rem _ _ _ rfl (by omega)); have c72 := hs5.cell 0 72 rfl (by show 72 < 74; omega); rw [digG_72] at c72; have f72 := hs5.frozen 0 72 rfl; have HS5 := Lib.hid hs5; clear hs5 hr5 hg5)
          have hs := (HS5.out.set 0 72 rfl _).congr 0 rfl (digG_n _ _ _ rem _ _ rfl)
          go_end0
          exact ⟨rfl, ⟨Qn, rem, layAt 0 rem (fun i => M (64 * Qn + i)) z, by omega, by omega, fun j hj => by unfold layAt; rw [if_pos (by omega)]; rfl, fun j => layAt_lt (fun i => HM.out _) HZ.out j, by rw [show 64 * q + r + n = 64 * q + r + n from rfl] at hs; exact hs.row 0 rfl⟩, hs.grown g (fun r hr => by simp at hr; subst hr; exact .inr rfl)⟩

set_option maxHeartbeats 4000000 in
/-- There is no rest. -/
theorem write_zero (g q r n c : Nat) (A : Option Addr) (m x y : Nat → Nat) (w : World)
    (hrow : w.rowIs g 97 74 (digG (Hs m q) y r (64 * q + r))) (hy : ∀ j, j < r → y j = m (64 * q + j)) (hy2 : ∀ j, y j < 256) (hr : r < 64) (hb : Rd w w.heap.size A n (u8v x)) (hA : Apt A n g) (hx : ∀ i, x i < 256) (hm : ∀ i, m i < 256)
    (hn : n ≤ 140737488355328) (hnc : n ≤ c) (hp : ShaPkg w) (hg : 0 < g ∧ 1 < g) (hr0 : r = 0) :
    Calls Tryd.prog 61 #[.pointer (some ⟨g, 0, none⟩), .slice A n c] w fun e w' => e = .returned (.tuple #[]) ∧ Dig w' g (catN (64 * q + r) m x) (64 * q + r + n) ∧ w.grownBy w' (some g) := by
  subst hr0
  have hglt := hrow.lt
  have hs0 := HS.own hrow
  have c72 := hs0.cell 0 72 rfl (by show 72 < 74; omega)
  have c73 := hs0.cell 0 73 rfl (by show 73 < 74; omega)
  have f72 := hs0.frozen 0 72 rfl
  have f73 := hs0.frozen 0 73 rfl
  rw [digG_72] at c72
  rw [digG_73] at c73
  obtain ⟨M, hMd⟩ : ∃ M, M = catN (64 * q + 0) m x := ⟨_, rfl⟩
  have hM : ∀ i, M i < 256 := fun i => by rw [hMd]; exact catN_lt hm hx i
  have HQ := Lib.hid (show Hs m q = Hs M q by rw [hMd]; exact Hs_cat q 0 m x)
  have hxM : ∀ i, i < n → u8v x i = u8v (fun i => M (64 * q + i)) i := fun i _ => by
    simp only [u8v]
    rw [hMd]; unfold catN; rw [if_neg (by omega), show 64 * q + i - (64 * q + 0) = i by omega]
  have HB := Lib.hid (hb.congr hxM)
  have HA := Lib.hid hA
  have HY2 := Lib.hid hy2
  have HM := Lib.hid hM
  have HP := Lib.hid hp
  have HS0 := Lib.hid hs0
  rw [← hMd]
  clear hrow hs0 hb hA hy hy2 hx hm hp hxM hMd hM
  go_enter Tryd.func61, Tryd.ntmps61
  go_wp2_with fail
  go_loopw [1] (fun s wr => ∃ (Qn rem : Nat) (Aj : Option Addr) (cj : Nat) (z : Nat → Nat), s = .slice Aj rem cj ∧ 64 * Qn + rem = 64 * q + 0 + n ∧ rem ≤ cj ∧ rem ≤ 140737488355328 ∧ Rd w w.heap.size Aj rem (u8v fun i => M (64 * Qn + i)) ∧ Apt Aj rem g ∧ (∀ j, z j < 256) ∧ HS w wr [⟨g, 97, 74, digG (Hs M Qn) z 0 (64 * q + 0 + n)⟩]) (fun s _ => match s with | .slice _ k _ => k | _ => 0)
  case atStart => exact ⟨q, n, A, c, y, rfl, by omega, by omega, by omega, HB.out, HA.out, HY2.out, by rw [← HQ.out]; exact (HS0.out.set 0 73 rfl _).congr 0 rfl (digG_all _ _ _ _ _ _ (by congr 1; first | omega | (rw [IntKind.wrap_u64]; omega)))⟩
  case round =>
    clear HS0
    obtain ⟨Qn, rem, Aj, cj, z, rfl, hrem, hrc, hrn, hbj, hAj, hz, hs⟩ := hrel
    by_cases h64 : 64 ≤ rem
    · have hg1 : g < wr.heap.size := hs.lt 0 rfl
      have HSr := Lib.hid hs
      have HBj := Lib.hid hbj
      have HAj := Lib.hid hAj
      have HZ := Lib.hid hz
      clear hs hbj hAj hz
      go_wp2_with fail
      have hs := HSr.out
      refine wp_region_factsS (l := [_, _, _, _, _]) (tl := []) (B := wr.heap.size) (w0 := wr) [SF.is (.pointer (some ⟨g, 0, none⟩)), SF.is (.pointer (some ⟨g, 0, none⟩)), SF.is (.pointer (some ⟨g, 0, none⟩)), SF.is (.slice (Aj) (rem) (cj)), SF.is (.slice (Aj) (64) (cj))] (by kernel_rfl) (by kernel_rfl) rfl (Nat.le_refl _) (Below.refl _ _) ⟨?_, ?_, ?_, ?_, ?_, trivial⟩ ?_
      · exact (opOb_move _ rfl (.inl rfl) rfl)
      · exact opOb_nil _ rfl rfl (OpK.tmp rfl)
      · exact opOb_fld rfl rfl (OpK.tmp rfl) (fun w => by simp [go_sem])
      · exact (opOb_move _ rfl (.inl rfl) rfl)
      · exact opOb_slc rfl rfl (OpK.tmp rfl) OpKo.no OpKo.const (fun w => cut_to Tryd.underlying35 (by kernel_rfl) Aj rem cj 64 (by omega) w)
      · intro w' hb
        simp only [fin, SF.is, forall_eq]
        simp only [Act.put, List.setIfInBounds_toArray, List.set_cons_succ, List.set_cons_zero]
        have hs3 := hs.below hb
        refine wp_fn ent_mix #[.pointer (some ⟨g, 0, none⟩), .slice Aj 64 cj] rfl rfl ?_
        refine (mix_any g 0 64 cj w.heap.size Aj 97 74 _ (Hs M Qn) (fun i => M (64 * Qn + i)) w' (hs3.row 0 rfl) (by decide) (fun i hi => digG_lo _ _ _ _ i hi) (fun i => HM.out _) ((HBj.out.short h64).hs hs3 (Nat.le_refl _) (fun _ ad e => by simp; exact fun h => HAj.out (by omega) ad e h.symm)) hs3.size (Nat.le_refl _) (by omega)
          (HP.out.keep fun b hb hb2 => hs3.block b hb (fun r hr => by simp at hr; subst hr; rcases hb2 with rfl | rfl <;> (show g ≠ _; omega))).round).mono ?_
        rintro e w4 ⟨rfl, hr4, hg4⟩
        have hs4 := (hs3.write 0 rfl hg4 hr4).congr 0 rfl (digG_h _ (Hs M (Qn + 1)) _ _ _)
        have HS4 := Lib.hid hs4
        clear hs hs3 hb hr4 hg4 hs4 hg1
        refine ⟨_, rfl, ?_⟩
        simp only [seqWp]
        obtain ⟨A2, hcut0, hcut2⟩ := cut_from (P := Tryd.prog) Tryd.underlying35 (by kernel_rfl) Aj rem cj 64 h64 hrc
        have hcut : ∀ w : World, (Instr.sliceAt 35 (.slice Aj rem cj) (some (.int .i64 64)) none none).run Tryd.prog w = .ok (.slice A2 (rem - 64) (cj - 64)) w := hcut0
        clear hcut0
        have HC := Lib.hid hcut2
        clear hcut2
        go_wp2_with fail
        go_roundw
        case rel => exact ⟨Qn + 1, rem - 64, A2, cj - 64, z, rfl, by omega, by omega, by omega, (HC.out.rd HBj.out).congr (fun i _ => congrArg (fun k => Value.int .u8 ((M k : Nat) : Int)) (show 64 * Qn + (64 + i) = 64 * (Qn + 1) + i by omega)), HC.out.apart HAj.out, HZ.out, HS4.out⟩
        case measure => show rem - 64 < rem; omega
    · have hg1 : g < wr.heap.size := hs.lt 0 rfl
      have HSr := Lib.hid hs
      have HBj := Lib.hid hbj
      have HAj := Lib.hid hAj
      have HZ := Lib.hid hz
      clear hs hbj hAj hz
      go_wp2_with (refine wpList_copy_fn rfl (.tmp 74) (.tmp 75) 35 35 rfl Tryd.underlying35 (by kernel_rfl) (HSr.out.row 0 rfl) 8 64 64 (HBj.out.hs HSr.out (Nat.le_refl _) (fun h0 ad e => by simp; exact fun h => HAj.out h0 ad e h.symm)) (fun _ _ => rfl) rem (by omega) (show _ ≤ 74 by omega) rfl rfl ?_; intro w5 hr5 hg5; have hs5 := (HSr.out.write 0 rfl hg5 hr5).congr 0 rfl (digG_lay _ (fun i => M (64 * Qn + i)) _ 0 rem _ _ _ rfl (by omega)); have c72 := hs5.cell 0 72 rfl (by show 72 < 74; omega); rw [digG_72] at c72; have f72 := hs5.frozen 0 72 rfl; have HS5 := Lib.hid hs5; clear hs5 hr5 hg5)
      have hs := (HS5.out.set 0 72 rfl _).congr 0 rfl (digG_n _ _ _ rem _ _ rfl)
      go_end0
      exact ⟨rfl, ⟨Qn, rem, layAt 0 rem (fun i => M (64 * Qn + i)) z, by omega, by omega, fun j hj => by unfold layAt; rw [if_pos (by omega)]; rfl, fun j => layAt_lt (fun i => HM.out _) HZ.out j, by rw [show 64 * q + 0 + n = 64 * q + 0 + n from rfl] at hs; exact hs.row 0 rfl⟩, hs.grown g (fun r hr => by simp at hr; subst hr; exact .inr rfl)⟩

theorem write_any (g len n c : Nat) (A : Option Addr) (m x : Nat → Nat) (w : World) (hd : Dig w g m len) (hb : Rd w w.heap.size A n (u8v x)) (hA : Apt A n g) (hx : ∀ i, x i < 256) (hm : ∀ i, m i < 256)
    (hn : n ≤ 140737488355328) (hnc : n ≤ c) (hp : ShaPkg w) (hg : 0 < g ∧ 1 < g) :
    Calls Tryd.prog 61 #[.pointer (some ⟨g, 0, none⟩), .slice A n c] w fun e w' => e = .returned (.tuple #[]) ∧ Dig w' g (catN len m x) (len + n) ∧ w.grownBy w' (some g) := by
  obtain ⟨q, r, y, rfl, hr, hy, hy2, hrow⟩ := hd
  by_cases h0 : r = 0
  · exact write_zero g q r n c A m x y w hrow hy hy2 hr hb hA hx hm hn hnc hp hg h0
  · by_cases h1 : r + n < 64
    · exact write_small g q r n c A m x y w hrow hy hy2 hr hb hA hx hm hn hnc hp hg (by omega) h1
    · exact write_fill g q r n c A m x y w hrow hy hy2 hr hb hA hx hm hn hnc hp hg (by omega) (by omega)
end Go.Proofs.YtjmbgdldnnmipaaDoor
