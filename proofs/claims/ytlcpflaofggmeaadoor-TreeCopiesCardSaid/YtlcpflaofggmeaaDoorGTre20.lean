/- A part of what the proofs stand on: TreeRef6. -/
import Derived.Test.YtlcpflaofggmeaaDoorGTre19
import Derived.Test.YtlcpflaofggmeaaDoorGTre17
/- The reference's trees: New and Set. (Printed by a program of mine.) -/
namespace Go.Proofs.YtlcpflaofggmeaaDoor
set_option maxRecDepth 40000
open Go.RowKit
/-- The cells of a reference's tree. -/
def rfF (l : Nat) (A : Option Addr) (n c : Nat) : Nat → Value := fun i => if i = 0 then .int .i64 (l : Int) else .slice A n c
/-- A reference's tree in memory, at p. -/
structure RM (w : World) (p l : Nat) (A : Option Addr) (n c : Nat) (x : Nat → Nat) : Prop where
  row : w.rowIs p 42 2 (rfF l A n c)
  rd : Rd w w.heap.size A (n * 32) (u8v x)
  cap : n ≤ c
  apart : ∀ b, OnA A b → b ≠ p
namespace TreeRef6
theorem rf_step (l : Nat) (A A' : Option Addr) (n n' c c' : Nat) : ∀ j, j < 2 → (if j = 1 then .slice A' n' c' else rfF l A n c j) = rfF l A' n' c' j := fun j hj => by
  unfold rfF
  by_cases h : j = 1
  · subst h; rfl
  · obtain rfl : j = 0 := by omega
    rfl
theorem rd_hs {w wz : World} {A : Option Addr} {m : Nat} {f : Nat → Value} {rows : List RowSpec} (h : Rd w w.heap.size A m f) (hz : HS w wz rows) (hne : ∀ r ∈ rows, w.heap.size ≤ r.b ∨ ∀ b, OnA A b → b ≠ r.b) : Rd wz w.heap.size A m f := fun h0 => by
  obtain ⟨ad, e, hb, hc⟩ := h h0
  refine ⟨ad, e, hb, fun i hi => ?_⟩
  rw [← hc i hi]
  refine World.cell?_of_block ?_
  rw [block_of_add]
  exact hz.block _ hb (fun r hr e2 => by
    rcases hne r hr with h1 | h1
    · omega
    · exact h1 _ ⟨ad, e, rfl⟩ e2.symm)
end TreeRef6
open TreeFn TreeMark TreeGet TreeNil TreeRef6 in
set_option maxHeartbeats 8000000 in
theorem rset_out (p l n c : Nat) (A : Option Addr) (x y : Nat → Nat) (i : Int) (w : World) (h : RM w p l A n c x) (hi : i < 0 ∨ (n : Int) ≤ i) :
    Calls Tryd.prog 20 #[.pointer (some ⟨p, 0, none⟩), .int .i64 i, rootV y] w fun r w' => r = .returned (.int .i64 1) ∧ Below w.heap.size w w' := by
  have HR := Lib.hid h
  have HS0 := Lib.hid (HS.nil w)
  have hpl := h.row.lt
  clear h
  by_cases h0 : i < 0
  · go_enter Tryd.func20, Tryd.ntmps20
    go_wp2_with (first
      | (refine wpList_boxL rfl 30 _ 5 rfl rfl HS0.out 32 (u8v y) rfl ?_; intro b5 w4 hb5 hc5 hs; have HS4 := Lib.hid hs; have hw4 : b5 < w4.heap.size := hs.lt 0 rfl; have hz4 : w.heap.size ≤ w4.heap.size := hs.size; clear hs)
      | (refine wpList_as rfl 8 rfl (.bool true) ?_ ?_; (· exact ex_bin rfl rfl rfl rfl (fun w => ltI0' i h0 w) _)))
    go_ret
    exact ⟨rfl, HS4.out.out (by simp; omega)⟩
  · obtain ⟨k, rfl⟩ : ∃ k : Nat, i = (k : Int) := ⟨i.toNat, by omega⟩
    have hk : n ≤ k := by omega
    clear hi h0
    go_enter Tryd.func20, Tryd.ntmps20
    go_wp2_with (first
      | (refine wpList_boxL rfl 30 _ 5 rfl rfl HS0.out 32 (u8v y) rfl ?_; intro b5 w4 hb5 hc5 hs; have HS4 := Lib.hid hs; have hw4 : b5 < w4.heap.size := hs.lt 0 rfl; have hz4 : w.heap.size ≤ w4.heap.size := hs.size; clear hs)
      | (refine wpList_as rfl 8 rfl (.bool false) ?_ ?_; (· exact ex_bin rfl rfl rfl rfl (fun w => ltI0 k w) _))
      | (refine wpList_asG rfl rfl rfl 14 rfl (.slice A n c) ?_ ?_; (· exact ex_ldSl rfl rfl Tryd.underlying22 ((row_below HR.out.row (HS4.out.out (by simp; omega)) hpl).cell (show 1 < 2 by omega)) rfl))
      | (refine wpList_asG rfl rfl rfl 16 rfl (.bool true) ?_ ?_; (· exact ex_bin rfl rfl rfl rfl (fun w => geI k n hk w) _)))
    go_ret
    exact ⟨rfl, HS4.out.out (by simp; omega)⟩
open TreeFn TreeMark TreeGet TreeNil TreeSt TreeRef6 in
set_option maxHeartbeats 8000000 in
theorem rset_in (p l n c k : Nat) (A : Option Addr) (x y : Nat → Nat) (w : World) (h : RM w p l A n c x) (hk : k < n) (hn : n ≤ 1073741824) :
    Calls Tryd.prog 20 #[.pointer (some ⟨p, 0, none⟩), .int .i64 (k : Int), rootV y] w fun r w' => ∃ A' c', r = .returned (.int .i64 0) ∧ RM w' p l A' n c' (setN x k y) ∧ w.grownBy w' (some p) ∧ ∀ b, OnA A' b → w.heap.size ≤ b := by
  have HR := Lib.hid h
  have HS0 := Lib.hid ((HS.nil w).take h.row (by simp))
  have HX : Hid (∀ (wz : World) (b : Nat), w.heap.size ≤ b → HS w wz [⟨b, 30, 32, u8v y⟩, ⟨p, 42, 2, rfF l A n c⟩] → Rd wz w.heap.size A (n * 32) (u8v x)) := Lib.hid (fun wz b hb hz => rd_hs HR.out.rd hz (by
    intro r hr
    rcases List.mem_cons.1 hr with rfl | hr
    · exact .inl hb
    · rcases List.mem_cons.1 hr with rfl | hr
      · exact .inr HR.out.apart
      · cases hr))
  have hpl := h.row.lt
  clear h
  go_enter Tryd.func20, Tryd.ntmps20
  go_upto_region 4 with (first
    | (refine wpList_boxL rfl 30 _ 5 rfl rfl HS0.out 32 (u8v y) rfl ?_; intro b5 w4 hb5 hc5 hs; have HS4 := Lib.hid hs; have hw4 : b5 < w4.heap.size := hs.lt 0 rfl; have hz4 : w.heap.size ≤ w4.heap.size := hs.size; clear hs)
    | (refine wpList_as rfl 8 rfl (.bool false) ?_ ?_; (· exact ex_bin rfl rfl rfl rfl (fun w => ltI0 k w) _))
    | (refine wpList_asG rfl rfl rfl 14 rfl (.slice A n c) ?_ ?_; (· exact ex_ldSl rfl rfl Tryd.underlying22 ((HS4.out.row 1 rfl).cell (show 1 < 2 by omega)) rfl))
    | (refine wpList_asG rfl rfl rfl 16 rfl (.bool false) ?_ ?_; (· exact ex_bin rfl rfl rfl rfl (fun w => geI' k n hk w) _))
    | (refine wpList_bs0L rfl 32 rfl run_bs0_R HS4.out ?_; intro b19 w5 hb19 hs ho; have HS5 := Lib.hid hs; have HO5 := Lib.hid ho; clear hs ho)
    | (refine wpList_as rfl 23 rfl (.slice A n c) ?_ ?_; (· exact ex_ldSl rfl rfl Tryd.underlying22 ((HS5.out.row 1 rfl).cell (show 1 < 2 by omega)) rfl))
    | (at_builtin; refine wpList_app0L rfl (.tmp 19) (.tmp 23) 22 w4.heap.size (z := .agg (Array.replicate 32 (.int .u8 0))) (k := 32) (bytes := 32) (by kernel_rfl) Tryd.underlying22 (by rfl) (by omega) rfl rfl HO5.out rfl (HX.out _ _ hb5 HS5.out) (fun _ _ => rfl) ⟨by omega, by omega⟩ (by have := HO5.out.base_le _ rfl; omega) HS5.out ?_; intro A6 c6 w6 ho hs; have HO6 := Lib.hid ho; have HS6 := Lib.hid hs; clear ho hs)
    | (refine ShufLawOps.wpList_st1 rfl 22 (.tmp 26) (.tmp 24) rfl HS6.out 1 rfl 1 (.slice A6 n c6) (StCopy.stSlR _ _ _) rfl rfl (show 1 < 2 by omega) (rfF l A6 n c6) (rf_step _ _ _ _ _ _ _) ?_; intro w7 hs hg; have HS7 := Lib.hid hs; have HO7 := Lib.hid (HO6.out.kept hg (fun ad e => by have := (HO6.out.base_le ad e).1; intro e2; injection e2 with e2; omega)); clear hs hg))
  obtain ⟨bl, hbl⟩ := own_some HO7.out (by omega)
  subst hbl
  refine wp_region_factsS (l := [_, _, _, _, _, _, _]) (tl := []) (B := w7.heap.size) (w0 := w7) [SF.is (.pointer (some ⟨p, 0, none⟩)), SF.is (.pointer (some ⟨p, 0, none⟩)), SF.is (.pointer (some ⟨p, 1, none⟩)), SF.is (.slice (some ⟨bl, 0, none⟩) (n) (c6)), SF.is (.int .i64 ((k : Nat) : Int)), SF.is (rootV y), SF.is (.pointer (some ⟨bl, k * 32, none⟩))] (by kernel_rfl) (by kernel_rfl) rfl (Nat.le_refl _) (Below.refl _ _) ⟨?_, ?_, ?_, ?_, ?_, ?_, ?_, trivial⟩ ?_
  · exact (opOb_move _ rfl (.inl rfl) rfl)
  · exact opOb_nil _ rfl rfl (OpK.tmp rfl)
  · exact opOb_fld rfl rfl (OpK.tmp rfl) (fun w => by simp [go_sem])
  · exact opOb_ld rfl rfl (OpK.tmp rfl) (fun w' hb => PickDraw.run_ldSl w' _ _ _ _ ((row_below (HS7.out.row 1 rfl) hb (HS7.out.lt 1 rfl)).cell (show 1 < 2 by omega)) Tryd.underlying22)
  · exact (opOb_move _ rfl (.inl rfl) rfl)
  · exact opOb_ld rfl rfl (OpK.tmp rfl) (fun w' hb => run_loadAt_rd w' ⟨b5, 0, none⟩ 32 30 _ (u8v y) (fun q hq => by rw [add_lit0]; exact (row_below (HS7.out.row 0 rfl) hb (HS7.out.lt 0 rfl)).cell hq) Tryd.underlying30 rfl (by kernel_rfl))
  · exact opOb_idx rfl rfl (OpK.tmp rfl) (OpK.tmp rfl) (fun w => TreeGet.idxR w bl n _ k hk)
  · intro w' hb
    simp only [fin, SF.is, forall_eq]
    simp only [Act.put, List.setIfInBounds_toArray, List.set_cons_succ, List.set_cons_zero]
    have HS8 := Lib.hid (HS7.out.below hb)
    have HO8 := Lib.hid (HO7.out.all hb)
    clear hb HS7 HO7 HS6 HO6 HS5 HO5 HS4 HS0
    refine wp_stPart 30 (.tmp 33) (.tmp 32) rfl HO8.out (k * 32) 32 (u8v y) rfl rfl (by kernel_rfl) (by omega) (fun _ _ => rfl) (u8v (setN x k y)) (set_u8 x y k _) ?_
    intro w9 ho hg
    have hlb := (HO8.out.base_le _ rfl)
    simp only at hlb
    have HS9 := Lib.hid (HS8.out.appO (A := some ⟨bl, 0, none⟩) hg (B := bl) (fun ad e => by injection e with e; rw [← e]; exact Nat.le_refl _) (by simp; omega))
    have HO9 := Lib.hid ho
    clear ho hg
    simp only [seqWp, Act.put]
    go_wp2_with fail
    go_ret
    exact ⟨some ⟨bl, 0, none⟩, c6, rfl, ⟨HS9.out.row 1 rfl, HO9.out.rd, HO9.out.cap, fun b ⟨ad, e, hb⟩ => by injection e with e; subst e; subst hb; show bl ≠ p; omega⟩, HS9.out.grown p (by simp; omega), fun b ⟨ad, e, hb⟩ => by injection e with e; subst e; subst hb; show w.heap.size ≤ bl; omega⟩
end Go.Proofs.YtlcpflaofggmeaaDoor
