/- Part 13 of what the proof of SignRoots stands on: SignGood, TreeRef, TreeZeros, TreeTree. -/
import Derived.Test.YtecgogeebponlaaDoorGSignRoots12
import Derived.Test.YtecgogeebponlaaDoorGSignRoots6
import Derived.Test.YtecgogeebponlaaDoorGSignRoots10
import Derived.Test.YtecgogeebponlaaDoorGSignRoots11
/- Is a root in a list? (Printed by a program of mine.) -/
namespace Go.Proofs.YtecgogeebponlaaDoor
set_option maxRecDepth 40000
open Go.RowKit
theorem Rd.cells {w : World} {B n : Nat} {ad : Addr} {f : Nat → Value} (h : Rd w B (some ad) n f) {i : Nat} (hi : i < n) : w.cell? (ad.add i) = some (f i) := by
  obtain ⟨ad', e, _, hc⟩ := h (by omega)
  injection e with e; subst e
  exact hc i hi
/-- Element j of the list is q. -/
def eqAt (x : Nat → Nat) (j : Nat) (q : Nat → Nat) : Prop := ∀ i, i < 32 → x (j * 32 + i) = q i
open Classical in
/-- q is one of the first n. -/
noncomputable def inB (x : Nat → Nat) (n : Nat) (q : Nat → Nat) : Bool := decide (∃ j, j < n ∧ eqAt x j q)
theorem inB_t {x q : Nat → Nat} {n j : Nat} (hj : j < n) (h : eqAt x j q) : inB x n q = true := @decide_eq_true _ (_) ⟨j, hj, h⟩
theorem inB_f {x q : Nat → Nat} {n : Nat} (h : ∀ j, j < n → ¬ eqAt x j q) : inB x n q = false := @decide_eq_false _ (_) fun ⟨j, hj, h1⟩ => h j hj h1
namespace SignGood
theorem eq_qx_t {x q : Nat → Nat} {j : Nat} (h : eqAt x j q) : decide (∀ i : Nat, i < 32 → ((q i : Nat) : Int) = ((x (j * 32 + i) : Nat) : Int)) = true := decide_eq_true fun i hi => by rw [h i hi]
theorem eq_qx_f {x q : Nat → Nat} {j : Nat} (h : ¬ eqAt x j q) : decide (∀ i : Nat, i < 32 → ((q i : Nat) : Int) = ((x (j * 32 + i) : Nat) : Int)) = false := decide_eq_false fun h2 => h fun i hi => by have := h2 i hi; omega
theorem eq_xq_t {x q : Nat → Nat} {j : Nat} (h : eqAt x j q) : decide (∀ i : Nat, i < 32 → ((x (j * 32 + i) : Nat) : Int) = ((q i : Nat) : Int)) = true := decide_eq_true fun i hi => by rw [h i hi]
theorem eq_xq_f {x q : Nat → Nat} {j : Nat} (h : ¬ eqAt x j q) : decide (∀ i : Nat, i < 32 → ((x (j * 32 + i) : Nat) : Int) = ((q i : Nat) : Int)) = false := decide_eq_false fun h2 => h fun i hi => by have := h2 i hi; omega
end SignGood
open SignGood in
set_option maxHeartbeats 4000000 in
theorem index_any (n c : Nat) (A : Option Addr) (x q : Nat → Nat) (w : World) (hb : Rd w w.heap.size A (n * 32) (u8v x)) (hn : n ≤ 9223372036854775807) :
    Calls Tryd.prog 47 #[.slice A n c, rootV q] w fun e w' => ∃ k : Int, e = .returned (.int .i64 k) ∧ decide ((0 : Int) ≤ k) = inB x n q ∧ Below w.heap.size w w' := by
  have HB := Lib.hid hb
  have HS0 := Lib.hid (HS.nil w)
  clear hb
  go_enter Tryd.func47, Tryd.ntmps47
  go_wp2_with (first
    | (refine wpList_boxL rfl 24 _ 3 rfl rfl HS0.out 32 (u8v q) rfl ?_; intro b3 w3 hb3 hc3 hs3; have HS3 := Lib.hid hs3; clear hs3))
  go_loopw [8] (fun i wr => ∃ j : Nat, i = .int .i64 (j : Int) ∧ j ≤ n ∧ (∀ j', j' < j → ¬ eqAt x j' q) ∧ HS w wr [⟨b3, 24, 32, u8v q⟩]) (fun i _ => n - (intOf i).toNat)
  case atStart => exact ⟨0, rfl, by omega, fun j' h => absurd h (by omega), HS3.out⟩
  case round =>
    clear HS3
    obtain ⟨j, rfl, hj, hno, hs⟩ := hrel
    have HN := Lib.hid hno
    have HSq := Lib.hid hs
    clear hno hs
    by_cases hjn : j < n
    · obtain ⟨ad, hA, hblk, _⟩ := HB.out (show 0 < n * 32 by omega)
      subst hA
      have HCL : Hid (∀ w', Below wr.heap.size wr w' → ∀ i, i < n * 32 → w'.cell? (ad.add i) = some (u8v x i)) := Lib.hid (fun w' hb i hi => (HB.out.below ((HSq.out.out (by simp; omega)).trans (hb.mono HSq.out.size))).cells hi)
      by_cases he : eqAt x j q
      · go_wp2_with fail
        refine wp_region_facts (B := wr.heap.size) (w0 := wr) [SF.is (rootV q), SF.is (.slice (some ad) (n) (c)), SF.is (.int .i64 ((j : Nat) : Int)), SF.is (.pointer (some (ad.add (j * 32)))), SF.is (rootV (fun i => x (j * 32 + i))), SF.is (.bool true)] (by kernel_rfl) (by kernel_rfl) rfl (Nat.le_refl _) (Below.refl _ _) ⟨?_, ?_, ?_, ?_, ?_, ?_, trivial⟩ ?_
        · exact opOb_ld rfl rfl (OpK.tmp rfl) (fun w' hb => ld_all (HSq.out.row 0 rfl) (HSq.out.row 0 rfl).lt Tryd.underlying24 rfl (by kernel_rfl) w' hb)
        · exact (opOb_move _ rfl (.inl rfl) rfl)
        · exact (opOb_move _ rfl (.inl rfl) rfl)
        · exact opOb_idx rfl rfl (OpK.tmp rfl) (OpK.tmp rfl) (fun w => run_idxZ w Tryd.underlying32 (by kernel_rfl) ad (by omega))
        · exact opOb_ld rfl rfl (OpK.tmp rfl) (fun w' hb => run_loadAt_rd w' (ad.add (j * 32)) 32 _ _ (u8v (fun i => x (j * 32 + i))) (fun i hi => by rw [add_add]; exact HCL.out w' hb (j * 32 + i) (by omega)) Tryd.underlying24 rfl (by kernel_rfl))
        · exact opOb_eqArr 5 32 .u8 (fun i => ((q i : Nat) : Int)) (fun i => (((fun i => x (j * 32 + i)) i : Nat) : Int)) true Tryd.underlying24 Tryd.underlying5 (by kernel_rfl) (by kernel_rfl) (eq_qx_t he) rfl rfl (OpK.tmp rfl) (OpK.tmp rfl)
        · intro w' hb
          simp only [fin, SF.is, forall_eq]
          simp only [Act.put, List.setIfInBounds_toArray, List.set_cons_succ, List.set_cons_zero]
          have hend := (HSq.out.out (by simp; omega)).trans (hb.mono HSq.out.size)
          go_wp2_with fail
          go_ret
          exact ⟨(j : Int), rfl, by rw [inB_t hjn he]; exact decide_eq_true (by omega), hend⟩
      · go_wp2_with fail
        refine wp_region_facts (B := wr.heap.size) (w0 := wr) [SF.is (rootV q), SF.is (.slice (some ad) (n) (c)), SF.is (.int .i64 ((j : Nat) : Int)), SF.is (.pointer (some (ad.add (j * 32)))), SF.is (rootV (fun i => x (j * 32 + i))), SF.is (.bool false)] (by kernel_rfl) (by kernel_rfl) rfl (Nat.le_refl _) (Below.refl _ _) ⟨?_, ?_, ?_, ?_, ?_, ?_, trivial⟩ ?_
        · exact opOb_ld rfl rfl (OpK.tmp rfl) (fun w' hb => ld_all (HSq.out.row 0 rfl) (HSq.out.row 0 rfl).lt Tryd.underlying24 rfl (by kernel_rfl) w' hb)
        · exact (opOb_move _ rfl (.inl rfl) rfl)
        · exact (opOb_move _ rfl (.inl rfl) rfl)
        · exact opOb_idx rfl rfl (OpK.tmp rfl) (OpK.tmp rfl) (fun w => run_idxZ w Tryd.underlying32 (by kernel_rfl) ad (by omega))
        · exact opOb_ld rfl rfl (OpK.tmp rfl) (fun w' hb => run_loadAt_rd w' (ad.add (j * 32)) 32 _ _ (u8v (fun i => x (j * 32 + i))) (fun i hi => by rw [add_add]; exact HCL.out w' hb (j * 32 + i) (by omega)) Tryd.underlying24 rfl (by kernel_rfl))
        · exact opOb_eqArr 5 32 .u8 (fun i => ((q i : Nat) : Int)) (fun i => (((fun i => x (j * 32 + i)) i : Nat) : Int)) false Tryd.underlying24 Tryd.underlying5 (by kernel_rfl) (by kernel_rfl) (eq_qx_f he) rfl rfl (OpK.tmp rfl) (OpK.tmp rfl)
        · intro w' hb
          simp only [fin, SF.is, forall_eq]
          simp only [Act.put, List.setIfInBounds_toArray, List.set_cons_succ, List.set_cons_zero]
          have HS2 := Lib.hid (HSq.out.below hb)
          go_wp2_with fail
          go_roundw
          case rel => exact ⟨j + 1, by go_num, by omega, fun j' h => by
            by_cases e : j' = j
            · subst e; exact he
            · exact HN.out j' (by omega), HS2.out⟩
          case measure => simp [intOf]; omega
    · obtain rfl : j = n := by omega
      have hend := HSq.out.out (by simp; omega)
      go_wp2_with fail
      go_ret
      exact ⟨-1, rfl, by rw [inB_f HN.out]; rfl, hend⟩
theorem contains_any (n c : Nat) (A : Option Addr) (x q : Nat → Nat) (w : World) (hb : Rd w w.heap.size A (n * 32) (u8v x)) (hn : n ≤ 9223372036854775807) :
    Calls Tryd.prog 39 #[.slice A n c, rootV q] w fun e w' => e = .returned (.bool (inB x n q)) ∧ Below w.heap.size w w' := by
  have HB := Lib.hid hb
  have HS0 := Lib.hid (HS.nil w)
  clear hb
  go_enter Tryd.func39, Tryd.ntmps39
  go_wp2_with (first
    | (refine wpList_boxL rfl 24 _ 3 rfl rfl HS0.out 32 (u8v q) rfl ?_; intro b3 w3 hb3 hc3 hs3; have HS3 := Lib.hid hs3; clear hs3)
    | (refine wpList_load_rd rfl 24 _ rfl 32 _ Tryd.underlying24 rfl (by kernel_rfl) ⟨b3, 0, none⟩ rfl (u8v q) (fun i hi => by rw [add_lit0]; exact HS3.out.cell 0 i rfl hi) ?_)
    | (go_at_call 47; refine (index_any n c A x q _ ((HB.out.below (HS3.out.out (by simp; omega))).more HS3.out.size) hn).mono ?_; rintro e w5 ⟨k, rfl, hk, hb5⟩; have HE := Lib.hid ((HS3.out.out (by simp; omega)).trans (hb5.mono HS3.out.size)); have HK := Lib.hid hk; clear hk hb5))
  go_ret
  exact ⟨ret_bool HK.out, HE.out⟩
theorem good_look (n c : Nat) (A : Option Addr) (x q : Nat → Nat) (w : World) (hb : Rd w w.heap.size A (n * 32) (u8v x)) (hn : n ≤ 9223372036854775807) :
    Calls Tryd.prog 19 #[rootV q, .slice A n c] w fun e w' => e = .returned (.bool (!inB x n q)) ∧ Below w.heap.size w w' := by
  have HB := Lib.hid hb
  have HS0 := Lib.hid (HS.nil w)
  clear hb
  go_enter Tryd.func19, Tryd.ntmps19
  go_wp2_with (first
    | (refine wpList_boxL rfl 24 _ 2 rfl rfl HS0.out 32 (u8v q) rfl ?_; intro b3 w3 hb3 hc3 hs3; have HS3 := Lib.hid hs3; clear hs3)
    | (refine wpList_load_rd rfl 24 _ rfl 32 _ Tryd.underlying24 rfl (by kernel_rfl) ⟨b3, 0, none⟩ rfl (u8v q) (fun i hi => by rw [add_lit0]; exact HS3.out.cell 0 i rfl hi) ?_)
    | (go_at_call 39; refine (contains_any n c A x q _ ((HB.out.below (HS3.out.out (by simp; omega))).more HS3.out.size) hn).mono ?_; rintro e w5 ⟨rfl, hb5⟩; have HE := Lib.hid ((HS3.out.out (by simp; omega)).trans (hb5.mono HS3.out.size)); clear hb5))
  go_ret
  exact ⟨rfl, HE.out⟩
open SignGood in
set_option maxHeartbeats 4000000 in
theorem good_ref (n c : Nat) (A : Option Addr) (x q : Nat → Nat) (w : World) (hb : Rd w w.heap.size A (n * 32) (u8v x)) (hn : n ≤ 9223372036854775807) :
    Calls Tryd.prog 20 #[rootV q, .slice A n c] w fun e w' => e = .returned (.bool (!inB x n q)) ∧ Below w.heap.size w w' := by
  have HB := Lib.hid hb
  have HS0 := Lib.hid (HS.nil w)
  clear hb
  go_enter Tryd.func20, Tryd.ntmps20
  go_wp2_with (first
    | (refine wpList_boxL rfl 24 _ 2 rfl rfl HS0.out 32 (u8v q) rfl ?_; intro b3 w3 hb3 hc3 hs3; have HS3 := Lib.hid hs3; clear hs3))
  go_loopw [5] (fun i wr => ∃ j : Nat, i = .int .i64 (j : Int) ∧ j ≤ n ∧ (∀ j', j' < j → ¬ eqAt x j' q) ∧ HS w wr [⟨b3, 24, 32, u8v q⟩]) (fun i _ => n - (intOf i).toNat)
  case atStart => exact ⟨0, rfl, by omega, fun j' h => absurd h (by omega), HS3.out⟩
  case round =>
    clear HS3
    obtain ⟨j, rfl, hj, hno, hs⟩ := hrel
    have HN := Lib.hid hno
    have HSq := Lib.hid hs
    clear hno hs
    by_cases hjn : j < n
    · obtain ⟨ad, hA, hblk, _⟩ := HB.out (show 0 < n * 32 by omega)
      subst hA
      have HCL : Hid (∀ w', Below wr.heap.size wr w' → ∀ i, i < n * 32 → w'.cell? (ad.add i) = some (u8v x i)) := Lib.hid (fun w' hb i hi => (HB.out.below ((HSq.out.out (by simp; omega)).trans (hb.mono HSq.out.size))).cells hi)
      by_cases he : eqAt x j q
      · go_wp2_with fail
        refine wp_region_facts (B := wr.heap.size) (w0 := wr) [SF.is (.slice (some ad) (n) (c)), SF.is (.int .i64 ((j : Nat) : Int)), SF.is (.pointer (some (ad.add (j * 32)))), SF.is (rootV (fun i => x (j * 32 + i))), SF.is (rootV q), SF.is (.bool true)] (by kernel_rfl) (by kernel_rfl) rfl (Nat.le_refl _) (Below.refl _ _) ⟨?_, ?_, ?_, ?_, ?_, ?_, trivial⟩ ?_
        · exact (opOb_move _ rfl (.inl rfl) rfl)
        · exact (opOb_move _ rfl (.inl rfl) rfl)
        · exact opOb_idx rfl rfl (OpK.tmp rfl) (OpK.tmp rfl) (fun w => run_idxZ w Tryd.underlying32 (by kernel_rfl) ad (by omega))
        · exact opOb_ld rfl rfl (OpK.tmp rfl) (fun w' hb => run_loadAt_rd w' (ad.add (j * 32)) 32 _ _ (u8v (fun i => x (j * 32 + i))) (fun i hi => by rw [add_add]; exact HCL.out w' hb (j * 32 + i) (by omega)) Tryd.underlying24 rfl (by kernel_rfl))
        · exact opOb_ld rfl rfl (OpK.tmp rfl) (fun w' hb => ld_all (HSq.out.row 0 rfl) (HSq.out.row 0 rfl).lt Tryd.underlying24 rfl (by kernel_rfl) w' hb)
        · exact opOb_eqArr 5 32 .u8 (fun i => (((fun i => x (j * 32 + i)) i : Nat) : Int)) (fun i => ((q i : Nat) : Int)) true Tryd.underlying24 Tryd.underlying5 (by kernel_rfl) (by kernel_rfl) (eq_xq_t he) rfl rfl (OpK.tmp rfl) (OpK.tmp rfl)
        · intro w' hb
          simp only [fin, SF.is, forall_eq]
          simp only [Act.put, List.setIfInBounds_toArray, List.set_cons_succ, List.set_cons_zero]
          have hend := (HSq.out.out (by simp; omega)).trans (hb.mono HSq.out.size)
          go_wp2_with fail
          go_ret
          exact ⟨ret_bool (by rw [inB_t hjn he]; rfl), hend⟩
      · go_wp2_with fail
        refine wp_region_facts (B := wr.heap.size) (w0 := wr) [SF.is (.slice (some ad) (n) (c)), SF.is (.int .i64 ((j : Nat) : Int)), SF.is (.pointer (some (ad.add (j * 32)))), SF.is (rootV (fun i => x (j * 32 + i))), SF.is (rootV q), SF.is (.bool false)] (by kernel_rfl) (by kernel_rfl) rfl (Nat.le_refl _) (Below.refl _ _) ⟨?_, ?_, ?_, ?_, ?_, ?_, trivial⟩ ?_
        · exact (opOb_move _ rfl (.inl rfl) rfl)
        · exact (opOb_move _ rfl (.inl rfl) rfl)
        · exact opOb_idx rfl rfl (OpK.tmp rfl) (OpK.tmp rfl) (fun w => run_idxZ w Tryd.underlying32 (by kernel_rfl) ad (by omega))
        · exact opOb_ld rfl rfl (OpK.tmp rfl) (fun w' hb => run_loadAt_rd w' (ad.add (j * 32)) 32 _ _ (u8v (fun i => x (j * 32 + i))) (fun i hi => by rw [add_add]; exact HCL.out w' hb (j * 32 + i) (by omega)) Tryd.underlying24 rfl (by kernel_rfl))
        · exact opOb_ld rfl rfl (OpK.tmp rfl) (fun w' hb => ld_all (HSq.out.row 0 rfl) (HSq.out.row 0 rfl).lt Tryd.underlying24 rfl (by kernel_rfl) w' hb)
        · exact opOb_eqArr 5 32 .u8 (fun i => (((fun i => x (j * 32 + i)) i : Nat) : Int)) (fun i => ((q i : Nat) : Int)) false Tryd.underlying24 Tryd.underlying5 (by kernel_rfl) (by kernel_rfl) (eq_xq_f he) rfl rfl (OpK.tmp rfl) (OpK.tmp rfl)
        · intro w' hb
          simp only [fin, SF.is, forall_eq]
          simp only [Act.put, List.setIfInBounds_toArray, List.set_cons_succ, List.set_cons_zero]
          have HS2 := Lib.hid (HSq.out.below hb)
          go_wp2_with fail
          go_roundw
          case rel => exact ⟨j + 1, by go_num, by omega, fun j' h => by
            by_cases e : j' = j
            · subst e; exact he
            · exact HN.out j' (by omega), HS2.out⟩
          case measure => simp [intOf]; omega
    · obtain rfl : j = n := by omega
      have hend := HSq.out.out (by simp; omega)
      go_wp2_with fail
      go_ret
      exact ⟨ret_bool (by rw [inB_f HN.out]; rfl), hend⟩
theorem sroot_look (x y : Nat → Nat) (hx : ∀ i, x i < 256) (hy : ∀ i, y i < 256) (w : World) (hp : ShaPkg w) :
    Calls Tryd.prog 13 #[rootV x, rootV y] w fun e w' => e = .returned (rootV (shaB (catN 32 x y) 64)) ∧ Below w.heap.size w w' := by
  have HP := Lib.hid hp
  have HX := Lib.hid hx
  have HY := Lib.hid hy
  have HS0 := Lib.hid (HS.nil w)
  clear hp hx hy
  go_enter Tryd.func13, Tryd.ntmps13
  go_wp2_with (first
    | (refine wpList_boxL rfl 24 _ 2 rfl rfl HS0.out 32 (u8v x) rfl ?_; intro b2 w2 hb2 hc2 hs2; have HS2 := Lib.hid hs2; clear hs2)
    | (refine wpList_boxL rfl 24 _ 3 rfl rfl HS2.out 32 (u8v y) rfl ?_; intro b3 w3 hb3 hc3 hs3; have HS3 := Lib.hid hs3; clear hs3)
    | (refine wpList_allocL rfl 24 4 rfl rfl HS3.out (Array.replicate 32 (.int .u8 0)) (by kernel_rfl) 32 (u8v fun _ => 0) (by rfl) (zero_at 32 (.int .u8 0)) ?_; intro b4 w4 hb4 hc4 hs4; have HS4 := Lib.hid hs4; clear hs4)
    | (refine wpList_load_rd rfl 24 _ rfl 32 _ Tryd.underlying24 rfl (by kernel_rfl) ⟨b2, 0, none⟩ rfl (u8v x) (fun i hi => by rw [add_lit0]; exact HS4.out.cell 2 i rfl hi) ?_)
    | (refine wpList_load_rd rfl 24 _ rfl 32 _ Tryd.underlying24 rfl (by kernel_rfl) ⟨b3, 0, none⟩ rfl (u8v y) (fun i hi => by rw [add_lit0]; exact HS4.out.cell 1 i rfl hi) ?_)
    | (go_at_call 29; refine (two_any x y HX.out HY.out _ (HP.out.below (HS4.out.out (by simp; omega)))).mono ?_; rintro e w5 ⟨rfl, hb5⟩; have HS5 := Lib.hid (HS4.out.below hb5); clear hb5)
    | (refine wpList_storeH rfl 24 (.tmp 4) (.tmp 7) rfl HS5.out 0 rfl (u8v (shaB (catN 32 x y) 64)) rfl rfl (by kernel_rfl) (fun _ _ => rfl) ?_; intro wy hs; have HZ := Lib.hid hs; clear hs))
  exact ret_rowIs rfl (HZ.out.row 0 rfl) _ rfl Tryd.underlying24 rfl (by kernel_rfl) rfl ⟨rfl, HZ.out.out (by simp; omega)⟩
theorem sroot_ref (x y : Nat → Nat) (hx : ∀ i, x i < 256) (hy : ∀ i, y i < 256) (w : World) (hp : RefPkg w) :
    Calls Tryd.prog 14 #[rootV x, rootV y] w fun e w' => e = .returned (rootV (shaB (catN 32 x y) 64)) ∧ Below w.heap.size w w' := by
  have HP := Lib.hid hp
  have HX := Lib.hid hx
  have HY := Lib.hid hy
  have HS0 := Lib.hid (HS.nil w)
  clear hp hx hy
  go_enter Tryd.func14, Tryd.ntmps14
  go_wp2_with (first
    | (refine wpList_boxL rfl 24 _ 2 rfl rfl HS0.out 32 (u8v x) rfl ?_; intro b2 w2 hb2 hc2 hs2; have HS2 := Lib.hid hs2; clear hs2)
    | (refine wpList_boxL rfl 24 _ 3 rfl rfl HS2.out 32 (u8v y) rfl ?_; intro b3 w3 hb3 hc3 hs3; have HS3 := Lib.hid hs3; clear hs3)
    | (refine wpList_allocL rfl 24 4 rfl rfl HS3.out (Array.replicate 32 (.int .u8 0)) (by kernel_rfl) 32 (u8v fun _ => 0) (by rfl) (zero_at 32 (.int .u8 0)) ?_; intro b4 w4 hb4 hc4 hs4; have HS4 := Lib.hid hs4; clear hs4)
    | (refine wpList_load_rd rfl 24 _ rfl 32 _ Tryd.underlying24 rfl (by kernel_rfl) ⟨b2, 0, none⟩ rfl (u8v x) (fun i hi => by rw [add_lit0]; exact HS4.out.cell 2 i rfl hi) ?_)
    | (refine wpList_load_rd rfl 24 _ rfl 32 _ Tryd.underlying24 rfl (by kernel_rfl) ⟨b3, 0, none⟩ rfl (u8v y) (fun i hi => by rw [add_lit0]; exact HS4.out.cell 1 i rfl hi) ?_)
    | (go_at_call 30; refine (refTwo_any x y HX.out HY.out _ (HP.out.below (HS4.out.out (by simp; omega)))).mono ?_; rintro e w5 ⟨rfl, hb5⟩; have HS5 := Lib.hid (HS4.out.below hb5); clear hb5)
    | (refine wpList_storeH rfl 24 (.tmp 4) (.tmp 7) rfl HS5.out 0 rfl (u8v (shaB (catN 32 x y) 64)) rfl rfl (by kernel_rfl) (fun _ _ => rfl) ?_; intro wy hs; have HZ := Lib.hid hs; clear hs))
  exact ret_rowIs rfl (HZ.out.row 0 rfl) _ rfl Tryd.underlying24 rfl (by kernel_rfl) rfl ⟨rfl, HZ.out.out (by simp; omega)⟩
end Go.Proofs.YtecgogeebponlaaDoor
/- Zero roots and depths, by the reference. -/
namespace Go.Proofs.YtecgogeebponlaaDoor
set_option maxRecDepth 40000
open Go.RowKit
/-- The least d with l ≤ 2^d. -/
def dep (l : Nat) : Nat := if l ≤ 1 then 0 else Nat.log2 (l - 1) + 1
theorem dep_ge (l : Nat) : l ≤ 2 ^ dep l := by
  unfold dep
  by_cases h : l ≤ 1
  · rw [if_pos h]; simpa using h
  · rw [if_neg h]
    have := Nat.lt_log2_self (n := l - 1)
    omega
theorem dep_lt {l e : Nat} (h : e < dep l) : 2 ^ e < l := by
  unfold dep at h
  by_cases h1 : l ≤ 1
  · rw [if_pos h1] at h; omega
  · rw [if_neg h1] at h
    have h2 := Nat.log2_self_le (n := l - 1) (by omega)
    have h3 : 2 ^ e ≤ 2 ^ Nat.log2 (l - 1) := Nat.pow_le_pow_right (by omega) (by omega)
    omega
theorem dep_le {l k : Nat} (h : l ≤ 2 ^ k) : dep l ≤ k := by
  rcases Nat.lt_or_ge k (dep l) with h1 | h1
  · have := dep_lt h1; omega
  · exact h1
/-- The zero root of depth k. -/
def zrN : Nat → Nat → Nat
  | 0 => fun _ => 0
  | k + 1 => shaB (catN 32 (zrN k) (zrN k)) 64
theorem zrN_lt (k : Nat) : ∀ i, zrN k i < 256 := by
  cases k with
  | zero => intro i; show 0 < 256; omega
  | succ k => exact fun i => shaB_lt _ _ i
/-- The list of zero roots. -/
def zrL : Nat → Nat := fun i => zrN (i / 32) (i % 32)
theorem zrL_at (k q : Nat) (hq : q < 32) : zrL (k * 32 + q) = zrN k q := by
  unfold zrL
  rw [show (k * 32 + q) / 32 = k by omega, show (k * 32 + q) % 32 = q by omega]
namespace TreeRef
theorem shl1 (d : Nat) (hd : d < 63) (w : World) : (binOp .shl 3 (.int .i64 1) (.int .u64 (d : Int))).run Tryd.prog w = .ok (.int .i64 ((2 ^ d : Nat) : Int)) w := by
  have h1 : 2 ^ d ≤ 2 ^ 62 := Nat.pow_le_pow_right (by omega) (by omega)
  have h2 : ((2 ^ d : Nat) : Int) ≤ 4611686018427387904 := by have : (2 : Nat) ^ 62 = 4611686018427387904 := by decide
                                                              omega
  have h0 : (0 : Int) ≤ ((2 ^ d : Nat) : Int) := Int.natCast_nonneg _
  have e : ((2 ^ d : Nat) : Int) = (2 : Int) ^ d := by simp
  rw [e] at h2 h0
  simp [go_sem, IntKind.wrap, IntKind.bits, IntKind.signed]
  generalize (2 : Int) ^ d = y at h2 h0
  rw [Int.emod_eq_of_lt h0 (by omega), if_neg (by omega)]
theorem cvu (m : Nat) (hm : m < 9223372036854775808) (w : World) : (convert 3 70 (.int .i64 (m:Int))).run Tryd.prog w = .ok (.int .u64 (m:Int)) w := by
  simp [go_sem, IntKind.wrap, IntKind.bits, IntKind.signed]; omega
end TreeRef
theorem ex_bin {P : Program} {o : Oper} {a : Act} {b : BinOp} {ty rt : TypeId} {x y : Operand} {u v r : Value} (hne : (b matches .eql | .neq) = false) (ho : o.op = .binOp b ty x y rt) (hx : a.eval x = u) (hy : a.eval y = v) (hr : ∀ w, (binOp b ty u v).run P w = .ok r w) : ∀ w, (execOp a.eval o).run P w = .ok (.value r) w := fun w => by
  unfold execOp
  rw [ho]
  simp only [hx, hy]
  cases b <;> simp at hne <;> simp [eqGuard, hr]
theorem ex_cnv {P : Program} {o : Oper} {a : Act} {s d : TypeId} {x : Operand} {u r : Value} (ho : o.op = .convert s d x) (hx : a.eval x = u) (hr : ∀ w, (convert s d u).run P w = .ok r w) : ∀ w, (execOp a.eval o).run P w = .ok (.value r) w := fun w => by
  unfold execOp
  rw [ho]
  simp only [hx]
  simp [hr w]
open TreeRef in
set_option maxHeartbeats 1000000 in
theorem depth_ref (l : Nat) (hl : l ≤ 1099511627776) (w : World) : Calls Tryd.prog 50 #[.int .i64 (l : Int)] w fun e w' => e = .returned (.int .i64 (dep l : Int)) ∧ w' = w := by
  have hd40 : dep l ≤ 40 := dep_le (k := 40) (by omega)
  go_enter Tryd.func50, Tryd.ntmps50
  go_wp2_with fail
  go_loopw [3] (fun i wr => ∃ d : Nat, i = .int .i64 (d : Int) ∧ d ≤ dep l ∧ wr = w) (fun i _ => 41 - (intOf i).toNat)
  case atStart => exact ⟨0, rfl, by omega, rfl⟩
  case round =>
    obtain ⟨d, rfl, hd, rfl⟩ := hrel
    obtain ⟨p, hp⟩ : ∃ p, p = 2 ^ d := ⟨_, rfl⟩
    have HP := Lib.hid hp
    by_cases hlt : d < dep l
    · have hpl : p < l := by rw [hp]; exact dep_lt hlt
      clear hp
      go_wp2_with (refine wpList_as rfl 6 rfl (.int .i64 (p : Int)) ?_ ?_; (· rw [HP.out]; exact ex_bin rfl rfl rfl rfl (fun w => shl1 d (by omega) w) _))
      go_roundw
      case rel => exact ⟨d + 1, by go_num, by omega, trivial⟩
      case measure => simp [intOf]; omega
    · obtain rfl : d = dep l := by omega
      have hpl : l ≤ p := by rw [hp]; exact dep_ge l
      clear hp
      go_wp2_with (refine wpList_as rfl 6 rfl (.int .i64 (p : Int)) ?_ ?_; (· rw [HP.out]; exact ex_bin rfl rfl rfl rfl (fun w => shl1 _ (by omega) w) _))
      go_ret
      exact ⟨rfl, rfl⟩
end Go.Proofs.YtecgogeebponlaaDoor
/- The zero roots, by the reference. (Printed by a program of mine.) -/
namespace Go.Proofs.YtecgogeebponlaaDoor
set_option maxRecDepth 40000
open Go.RowKit
namespace TreeZeros
theorem ent_two (vs : Array Value) (w : World) : (callFunc 30 vs).run Tryd.prog w = .ok (.enter 30 vs) w := by kernel_rfl
theorem sub1 (m : Nat) (h : 1 ≤ m) (hm : m ≤ 9223372036854775807) (w : World) : (binOp .sub 3 (.int .i64 (m : Int)) (.int .i64 1)).run Tryd.prog w = .ok (.int .i64 ((m - 1 : Nat) : Int)) w := by
  rw [show ((m - 1 : Nat) : Int) = (m : Int) - 1 by omega]
  simp [go_sem, IntKind.wrap, IntKind.bits, IntKind.signed]
  omega
theorem cat_z {m : Nat} : ∀ i, i < (m + 1) * 32 → catF (m * 32) (u8v zrL) (u8v (zrN m)) i = u8v zrL i := fun i hi => by
  simp only [catF, u8v]
  split
  · rfl
  · rename_i h
    have := zrL_at m (i - m * 32) (by omega)
    rw [show m * 32 + (i - m * 32) = i by omega] at this
    rw [this]
end TreeZeros
open TreeZeros in
set_option maxHeartbeats 4000000 in
theorem zeros_ref (d : Nat) (hd : d ≤ 40) (w : World) (hp : RefPkg w) :
    Calls Tryd.prog 51 #[.int .i64 (d : Int)] w fun e w' => ∃ A c, e = .returned (.slice A (d + 1) c) ∧ OwnZ w' w.heap.size 24 32 A (d + 1) c (u8v zrL) ∧ Below w.heap.size w w' := by
  have HP := Lib.hid hp
  have HS0 := Lib.hid (HS.nil w)
  clear hp
  go_enter Tryd.func51, Tryd.ntmps51
  go_wp2_with (first
    | (refine wpList_build_as rfl 24 #[] rfl [] rfl (arr 32 (u8v fun _ => 0)) (by kernel_rfl) ?_)
    | (refine wpList_bs1 rfl Tryd.underlying32 (z := 32) (by kernel_rfl) (by omega) (by omega) (v0 := .agg (Array.replicate 32 (.int .u8 0))) (by kernel_rfl) _ rfl (u8v fun _ => 0) rfl HS0.out ?_; intro b5 w5 hb5 hc5 hs5; have HS5 := Lib.hid hs5; clear hs5))
  go_loopw [3] (fun v wr => ∃ (m : Nat) (A : Option Addr) (c : Nat), v = .slice A m c ∧ 1 ≤ m ∧ m ≤ d + 1 ∧ OwnZ wr w.heap.size 24 32 A m c (u8v zrL) ∧ Below w.heap.size w wr) (fun v _ => match v with | .slice _ m _ => 100 - m | _ => 0)
  case atStart => exact ⟨1, some ⟨b5, 0, none⟩, 1, rfl, by omega, by omega, (OwnZ.of_row (m := 1) (HS5.out.row 0 rfl) hb5 (by unfold maxLen; omega)).congr (fun i hi => by rw [← Nat.zero_add i]; have := zrL_at 0 i (by omega); simp only [u8v]; rw [show 0 + i = 0 * 32 + i by omega, this]; rfl), HS5.out.out (by simp; omega)⟩
  case round =>
    obtain ⟨m, A, c, rfl, hm1, hm, ho, hbw⟩ := hrel
    have HO := Lib.hid ho
    have HW := Lib.hid hbw
    have hsz := hbw.size
    clear ho hbw
    by_cases hmd : m ≤ d
    · obtain ⟨ad, hA, _, _⟩ := HO.out.rd (show 0 < m * 32 by omega)
      subst hA
      have HCL : Hid (∀ w', Below wr.heap.size wr w' → ∀ i, i < m * 32 → w'.cell? (ad.add i) = some (u8v zrL i)) := Lib.hid (fun w' hb i hi => (HO.out.rd.below hb).cells hi)
      have HZ := Lib.hid (show Ending.returned (rootV (shaB (catN 32 (zrN (m - 1)) (zrN (m - 1))) 64)) = .returned (rootV (zrN m)) by obtain ⟨q, rfl⟩ : ∃ q, m = q + 1 := ⟨m - 1, by omega⟩; rfl)
      go_wp2_with fail
      refine wp_region_factsS (l := [_, _, _, _, _, _, _, _, _, _, _, _, _, _, _]) (tl := [_]) (B := wr.heap.size) (w0 := wr) [SF.is (.slice (some ad) (m) (c)), SF.is (.slice (some ad) (m) (c)), SF.is (.slice (some ad) (m) (c)), SF.is (.int .i64 ((m : Nat) : Int)), SF.is (.int .i64 ((m - 1 : Nat) : Int)), SF.is (.pointer (some (ad.add ((m - 1) * 32)))), SF.is (rootV (zrN (m - 1))), SF.is (.slice (some ad) (m) (c)), SF.is (.slice (some ad) (m) (c)), SF.is (.int .i64 ((m : Nat) : Int)), SF.is (.int .i64 ((m - 1 : Nat) : Int)), SF.is (.pointer (some (ad.add ((m - 1) * 32)))), SF.is (rootV (zrN (m - 1))), SF.is (rootV (zrN m)), SF.rdZ 1 32 (u8v (zrN m))] (by kernel_rfl) (by kernel_rfl) rfl (Nat.le_refl _) (Below.refl _ _) ⟨?_, ?_, ?_, ?_, ?_, ?_, ?_, ?_, ?_, ?_, ?_, ?_, ?_, ?_, ?_, trivial⟩ ?_
      · exact (opOb_move _ rfl (.inl rfl) rfl)
      · exact (opOb_move _ rfl (.inl rfl) rfl)
      · exact (opOb_move _ rfl (.inl rfl) rfl)
      · exact opOb_len Tryd.underlying32 rfl rfl (OpK.tmp rfl)
      · exact opOb_bin rfl rfl rfl (OpK.tmp rfl) OpK.const (fun w => sub1 m (by omega) (by omega) w)
      · exact opOb_idx rfl rfl (OpK.tmp rfl) (OpK.tmp rfl) (fun w => run_idxZ w Tryd.underlying32 (by kernel_rfl) ad (by omega))
      · exact opOb_ld rfl rfl (OpK.tmp rfl) (fun w' hb => run_loadAt_rd w' (ad.add ((m - 1) * 32)) 32 _ _ (u8v (zrN (m - 1))) (fun i hi => by rw [add_add, HCL.out w' hb ((m - 1) * 32 + i) (by omega)]; simp only [u8v]; rw [zrL_at _ _ hi]) Tryd.underlying24 rfl (by kernel_rfl))
      · exact (opOb_move _ rfl (.inl rfl) rfl)
      · exact (opOb_move _ rfl (.inl rfl) rfl)
      · exact opOb_len Tryd.underlying32 rfl rfl (OpK.tmp rfl)
      · exact opOb_bin rfl rfl rfl (OpK.tmp rfl) OpK.const (fun w => sub1 m (by omega) (by omega) w)
      · exact opOb_idx rfl rfl (OpK.tmp rfl) (OpK.tmp rfl) (fun w => run_idxZ w Tryd.underlying32 (by kernel_rfl) ad (by omega))
      · exact opOb_ld rfl rfl (OpK.tmp rfl) (fun w' hb => run_loadAt_rd w' (ad.add ((m - 1) * 32)) 32 _ _ (u8v (zrN (m - 1))) (fun i hi => by rw [add_add, HCL.out w' hb ((m - 1) * 32 + i) (by omega)]; simp only [u8v]; rw [zrL_at _ _ hi]) Tryd.underlying24 rfl (by kernel_rfl))
      · exact opOb_fn2 ent_two rfl rfl (OpK.tmp rfl) (OpK.tmp rfl) (fun w' hb => (refTwo_any (zrN (m - 1)) (zrN (m - 1)) (zrN_lt _) (zrN_lt _) w' (HP.out.below (HW.out.trans (hb.mono HW.out.size)))).mono fun e w'' ⟨he, hb2⟩ => ⟨_, he.trans HZ.out, rfl, hb2⟩)
      · exact opOb_bs1Z Tryd.underlying32 (z := 32) (by kernel_rfl) (by omega) (by omega) (v0 := .agg (Array.replicate 32 (.int .u8 0))) (by kernel_rfl) rfl rfl (u8v (zrN m)) (OpK.tmp rfl)
      · intro w' hb
        simp only [fin, SF.is, SF.rdZ, forall_eq]
        simp only [Act.put, List.setIfInBounds_toArray, List.set_cons_succ, List.set_cons_zero]
        rintro _ ⟨A24, c24, rfl, hr24⟩
        have hw' := HW.out.trans (hb.mono HW.out.size)
        have ho' := HO.out.all hb
        refine wp_appZ w' (.tmp 10) (.tmp 24) 32 w.heap.size (z := .agg (Array.replicate 32 (.int .u8 0))) (k := 32) (bytes := 32) (by kernel_rfl) Tryd.underlying32 (by rfl) (by omega) rfl (m + 1) (u8v zrL) rfl rfl ho' hr24 (fun _ _ => rfl) rfl cat_z ⟨by omega, by omega⟩ hw'.size ?_
        intro A25 c25 w25 ho25 hg25 _
        have HB := Lib.hid (below_app hw' hg25 hw'.size (fun ad e => (HO.out.base_le ad e).1))
        have HO2 := Lib.hid ho25
        clear ho25 hg25 hr24 ho' hw' hb
        refine wp_asg (.slice A25 (m + 1) c25) (.inl rfl) rfl ?_
        simp only [seqWp, Act.put, List.setIfInBounds_toArray, List.set_cons_succ, List.set_cons_zero]
        go_wp2_with fail
        go_roundw
        case rel => exact ⟨m + 1, A25, c25, rfl, by omega, by omega, HO2.out, HB.out⟩
        case measure => show 100 - (m + 1) < 100 - m; omega
    · obtain rfl : m = d + 1 := by omega
      go_wp2_with fail
      go_ret
      exact ⟨A, c, rfl, HO.out, HW.out⟩
end Go.Proofs.YtecgogeebponlaaDoor
/- The root of a tree of chunks, by the reference. (Printed by a program of mine.) -/
namespace Go.Proofs.YtecgogeebponlaaDoor
set_option maxRecDepth 40000
open Go.RowKit
/-- The root of n chunks in a tree of depth d. -/
def treeN : Nat → Nat → (Nat → Nat) → Nat → Nat
  | 0, n, x => if n = 0 then zrN 0 else x
  | d + 1, n, x => if n = 0 then zrN (d + 1) else shaB (catN 32 (treeN d (min (2 ^ d) n) x) (treeN d (n - min (2 ^ d) n) (fun i => x (min (2 ^ d) n * 32 + i)))) 64
theorem treeN_lt {x : Nat → Nat} (hx : ∀ i, x i < 256) (d n : Nat) : ∀ i, treeN d n x i < 256 := by
  intro i
  cases d with
  | zero => unfold treeN; split; exact zrN_lt _ _; exact hx _
  | succ d => unfold treeN; split; exact zrN_lt _ _; exact shaB_lt _ _ _
theorem treeN_zero (d : Nat) (x : Nat → Nat) : treeN d 0 x = zrN d := by cases d <;> rfl
theorem treeN_leaf (n : Nat) (x : Nat → Nat) (hn : n ≠ 0) : treeN 0 n x = x := by unfold treeN; rw [if_neg hn]
theorem treeN_succ (d n h : Nat) (x : Nat → Nat) (hn : n ≠ 0) (hh : min (2 ^ d) n = h) : treeN (d + 1) n x = shaB (catN 32 (treeN d h x) (treeN d (n - h) (fun i => x (h * 32 + i)))) 64 := by
  subst hh
  rw [treeN, if_neg hn]
theorem subd (d : Nat) (hd : d ≤ 1000) (w : World) : (binOp .sub 3 (.int .i64 ((d + 1 : Nat) : Int)) (.int .i64 1)).run Tryd.prog w = .ok (.int .i64 (d : Int)) w := by
  have := TreeZeros.sub1 (d + 1) (by omega) (by omega) w
  rw [show d + 1 - 1 = d by omega] at this
  exact this
namespace TreeTree
theorem ent_tree (vs : Array Value) (w : World) : (callFunc 49 vs).run Tryd.prog w = .ok (.enter 49 vs) w := by kernel_rfl
theorem ent_two (vs : Array Value) (w : World) : (callFunc 30 vs).run Tryd.prog w = .ok (.enter 30 vs) w := by kernel_rfl
end TreeTree
open TreeTree in
set_option maxHeartbeats 8000000 in
theorem tree_ref : ∀ (d n c : Nat) (A : Option Addr) (x : Nat → Nat) (m cz : Nat) (Z : Option Addr) (w : World), d < m → d ≤ 40 → n ≤ c → Rd w w.heap.size A (n * 32) (u8v x) → (∀ i, x i < 256) → Rd w w.heap.size Z (m * 32) (u8v zrL) → n ≤ 4611686018427387904 → RefPkg w →
    Calls Tryd.prog 49 #[.slice A n c, .int .i64 (d : Int), .slice Z m cz] w fun e w' => e = .returned (rootV (treeN d n x)) ∧ Below w.heap.size w w' := by
  intro d
  induction d with
  | zero =>
    intro n c A x m cz Z w hdm _ hnc hb hx hz hn hp
    have HX := Lib.hid hb
    have HS0 := Lib.hid (HS.nil w)
    by_cases hn0 : n = 0
    · subst hn0
      obtain ⟨ad, hZ, _, _⟩ := hz (by omega)
      subst hZ
      have HZ := Lib.hid hz
      clear hb hx hz hp
      go_enter Tryd.func49, Tryd.ntmps49
      go_wp2_with (first
      | (refine wpList_allocL rfl 24 6 rfl rfl HS0.out (Array.replicate 32 (.int .u8 0)) (by kernel_rfl) 32 (u8v fun _ => 0) (by rfl) (zero_at 32 (.int .u8 0)) ?_; intro b6 w6 hb6 hc6 hs6; have HS6 := Lib.hid hs6; clear hs6)
      | (refine wpList_load_rd rfl 24 _ rfl 32 _ Tryd.underlying24 rfl (by kernel_rfl) (ad.add (0 * 32)) rfl (u8v (zrN 0)) (fun q hq => by rw [add_add]; exact ((HZ.out.below (HS6.out.out (by simp; omega))).cells (by omega)).trans (congrArg some (by simp only [u8v]; rw [zrL_at 0 q hq]))) ?_)
      | (refine wpList_storeH rfl 24 (.tmp 6) (.tmp 14) rfl HS6.out 0 rfl (u8v (zrN 0)) rfl rfl (by kernel_rfl) (fun _ _ => rfl) ?_; intro wy hs; have HY := Lib.hid hs; clear hs))
      exact ret_rowIs rfl (HY.out.row 0 rfl) _ rfl Tryd.underlying24 rfl (by kernel_rfl) rfl ⟨by rw [treeN_zero], HY.out.out (by simp; omega)⟩
    · obtain ⟨ad, hA, _, _⟩ := hb (by omega)
      subst hA
      clear hb hx hz hp
      go_enter Tryd.func49, Tryd.ntmps49
      go_wp2_with (first
      | (refine wpList_allocL rfl 24 6 rfl rfl HS0.out (Array.replicate 32 (.int .u8 0)) (by kernel_rfl) 32 (u8v fun _ => 0) (by rfl) (zero_at 32 (.int .u8 0)) ?_; intro b6 w6 hb6 hc6 hs6; have HS6 := Lib.hid hs6; clear hs6)
      | (refine wpList_load_rd rfl 24 _ rfl 32 _ Tryd.underlying24 rfl (by kernel_rfl) (ad.add (0)) rfl (u8v x) (fun q hq => by rw [add_add]; exact ((HX.out.below (HS6.out.out (by simp; omega))).cells (by omega)).trans (congrArg some (by rw [Nat.zero_add]))) ?_)
      | (refine wpList_storeH rfl 24 (.tmp 6) (.tmp 19) rfl HS6.out 0 rfl (u8v x) rfl rfl (by kernel_rfl) (fun _ _ => rfl) ?_; intro wy hs; have HY := Lib.hid hs; clear hs))
      exact ret_rowIs rfl (HY.out.row 0 rfl) _ rfl Tryd.underlying24 rfl (by kernel_rfl) rfl ⟨by rw [treeN_leaf n x hn0], HY.out.out (by simp; omega)⟩
  | succ d ih =>
    intro n c A x m cz Z w hdm hd40 hnc hb hx hz hn hp
    have HP := Lib.hid hp
    have HX := Lib.hid hb
    have HXl := Lib.hid hx
    have HZ := Lib.hid hz
    have HS0 := Lib.hid (HS.nil w)
    by_cases hn0 : n = 0
    · subst hn0
      obtain ⟨ad, hZ, _, _⟩ := hz (by omega)
      subst hZ
      clear hb hx hz hp ih
      go_enter Tryd.func49, Tryd.ntmps49
      go_wp2_with (first
      | (refine wpList_allocL rfl 24 6 rfl rfl HS0.out (Array.replicate 32 (.int .u8 0)) (by kernel_rfl) 32 (u8v fun _ => 0) (by rfl) (zero_at 32 (.int .u8 0)) ?_; intro b6 w6 hb6 hc6 hs6; have HS6 := Lib.hid hs6; clear hs6)
      | (refine wpList_load_rd rfl 24 _ rfl 32 _ Tryd.underlying24 rfl (by kernel_rfl) (ad.add ((d + 1) * 32)) rfl (u8v (zrN (d + 1))) (fun q hq => by rw [add_add]; exact ((HZ.out.below (HS6.out.out (by simp; omega))).cells (by omega)).trans (congrArg some (by simp only [u8v]; rw [zrL_at (d + 1) q hq]))) ?_)
      | (refine wpList_storeH rfl 24 (.tmp 6) (.tmp 14) rfl HS6.out 0 rfl (u8v (zrN (d + 1))) rfl rfl (by kernel_rfl) (fun _ _ => rfl) ?_; intro wy hs; have HY := Lib.hid hs; clear hs))
      exact ret_rowIs rfl (HY.out.row 0 rfl) _ rfl Tryd.underlying24 rfl (by kernel_rfl) rfl ⟨by rw [treeN_zero], HY.out.out (by simp; omega)⟩
    · obtain ⟨p, hp2⟩ : ∃ p, p = 2 ^ d := ⟨_, rfl⟩
      have HPw := Lib.hid hp2
      by_cases hpn : p ≤ n
      · have hmin : min (2 ^ d) n = p := by omega
        clear hb hx hz hp hp2
        go_enter Tryd.func49, Tryd.ntmps49
        have hh : p ≤ n := by omega
        obtain ⟨A2, hct⟩ := cut_fromZ (P := Tryd.prog) Tryd.underlying32 (z := 32) (by kernel_rfl) (by omega) A n c p hh hnc
        have HCt := Lib.hid hct
        clear hct
        go_wp2_with (first
          | (refine wpList_allocL rfl 24 6 rfl rfl HS0.out (Array.replicate 32 (.int .u8 0)) (by kernel_rfl) 32 (u8v fun _ => 0) (by rfl) (zero_at 32 (.int .u8 0)) ?_; intro b6 w6 hb6 hc6 hs6; have HS6 := Lib.hid hs6; clear hs6)
          | (refine wpList_as rfl 21 rfl (.int .i64 (d : Int)) ?_ ?_; (· exact ex_bin rfl rfl rfl rfl (fun w => subd d (by omega) w) _))
          | (refine wpList_as rfl 23 rfl (.int .i64 (p : Int)) ?_ ?_; (· rw [HPw.out]; exact ex_bin rfl rfl rfl rfl (fun w => TreeRef.shl1 d (by omega) w) _)))
        have HW6 := Lib.hid (HS6.out.out (by simp; omega))
        refine wp_region_factsS (l := [_, _, _, _, _, _, _, _, _, _, _, _, _, _, _]) (tl := []) (B := w6.heap.size) (w0 := w6) [SF.is (.slice (A) (n) (c)), SF.is (.int .i64 ((p : Nat) : Int)), SF.is (.slice (A) (p) (c)), SF.is (.int .i64 ((d + 1 : Nat) : Int)), SF.is (.int .i64 ((d : Nat) : Int)), SF.is (.slice (Z) (m) (cz)), SF.is (rootV (treeN d p x)), SF.is (.slice (A) (n) (c)), SF.is (.int .i64 ((p : Nat) : Int)), SF.is (.slice (A2) (n - p) (c - p)), SF.is (.int .i64 ((d + 1 : Nat) : Int)), SF.is (.int .i64 ((d : Nat) : Int)), SF.is (.slice (Z) (m) (cz)), SF.is (rootV (treeN d (n - p) (fun i => x (p * 32 + i)))), SF.is (rootV (shaB (catN 32 (treeN d p x) (treeN d (n - p) (fun i => x (p * 32 + i)))) 64))] (by kernel_rfl) (by kernel_rfl) rfl (Nat.le_refl _) (Below.refl _ _) ⟨?_, ?_, ?_, ?_, ?_, ?_, ?_, ?_, ?_, ?_, ?_, ?_, ?_, ?_, ?_, trivial⟩ ?_
        · exact (opOb_move _ rfl (.inl rfl) rfl)
        · exact (opOb_move _ rfl (.inl rfl) rfl)
        · exact opOb_slc rfl rfl (OpK.tmp rfl) OpKo.no (OpKo.tmp rfl) (fun w => cut_toZ (z := 32) Tryd.underlying32 (by kernel_rfl) A n c p (by omega) w)
        · exact (opOb_move _ rfl (.inl rfl) rfl)
        · exact opOb_bin rfl rfl rfl (OpK.tmp rfl) OpK.const (fun w => subd d (by omega) w)
        · exact (opOb_move _ rfl (.inl rfl) rfl)
        · exact opOb_fn3 ent_tree rfl rfl (OpK.tmp rfl) (OpK.tmp rfl) (OpK.tmp rfl) (fun w' hb => (ih p c A x m cz Z w' (by omega) (by omega) (by omega) (((HX.out.below (HW6.out.trans (hb.mono HW6.out.size))).more (Nat.le_trans HW6.out.size hb.size)).short (by omega)) (fun i => HXl.out _) ((HZ.out.below (HW6.out.trans (hb.mono HW6.out.size))).more (Nat.le_trans HW6.out.size hb.size)) (by omega) (HP.out.below (HW6.out.trans (hb.mono HW6.out.size)))).mono fun e w'' ⟨he, hb2⟩ => ⟨_, he, rfl, hb2⟩)
        · exact (opOb_move _ rfl (.inl rfl) rfl)
        · exact (opOb_move _ rfl (.inl rfl) rfl)
        · exact opOb_slc rfl rfl (OpK.tmp rfl) (OpKo.tmp rfl) OpKo.no (fun w => HCt.out.1 w)
        · exact (opOb_move _ rfl (.inl rfl) rfl)
        · exact opOb_bin rfl rfl rfl (OpK.tmp rfl) OpK.const (fun w => subd d (by omega) w)
        · exact (opOb_move _ rfl (.inl rfl) rfl)
        · exact opOb_fn3 ent_tree rfl rfl (OpK.tmp rfl) (OpK.tmp rfl) (OpK.tmp rfl) (fun w' hb => (ih (n - p) (c - p) A2 (fun i => x (p * 32 + i)) m cz Z w' (by omega) (by omega) (by omega) (HCt.out.2 w' _ (u8v x) ((HX.out.below (HW6.out.trans (hb.mono HW6.out.size))).more (Nat.le_trans HW6.out.size hb.size))) (fun i => HXl.out _) ((HZ.out.below (HW6.out.trans (hb.mono HW6.out.size))).more (Nat.le_trans HW6.out.size hb.size)) (by omega) (HP.out.below (HW6.out.trans (hb.mono HW6.out.size)))).mono fun e w'' ⟨he, hb2⟩ => ⟨_, he, rfl, hb2⟩)
        · exact opOb_fn2 ent_two rfl rfl (OpK.tmp rfl) (OpK.tmp rfl) (fun w' hb => (refTwo_any (treeN d p x) (treeN d (n - p) (fun i => x (p * 32 + i))) (treeN_lt HXl.out _ _) (treeN_lt (fun i => HXl.out _) _ _) w' (HP.out.below (HW6.out.trans (hb.mono HW6.out.size)))).mono fun e w'' ⟨he, hb2⟩ => ⟨_, he, rfl, hb2⟩)
        · intro w' hb
          simp only [fin, SF.is, forall_eq]
          simp only [Act.put, List.setIfInBounds_toArray, List.set_cons_succ, List.set_cons_zero]
          have hs := HS6.out.below hb
          refine wp_storeL 24 (.tmp 6) (.tmp 44) rfl hs 0 rfl (u8v (shaB (catN 32 (treeN d p x) (treeN d (n - p) (fun i => x (p * 32 + i)))) 64)) rfl rfl (by kernel_rfl) (fun _ _ => rfl) ?_
          clear hs hb
          intro wy hs
          have HY := Lib.hid hs
          clear hs
          simp only [seqWp]
          go_wp2_with fail
          exact ret_rowIs rfl (HY.out.row 0 rfl) _ rfl Tryd.underlying24 rfl (by kernel_rfl) rfl ⟨by rw [treeN_succ d n p x hn0 hmin], HY.out.out (by simp; omega)⟩
      · have hmin : min (2 ^ d) n = n := by omega
        clear hb hx hz hp hp2
        go_enter Tryd.func49, Tryd.ntmps49
        have hh : n ≤ n := by omega
        obtain ⟨A2, hct⟩ := cut_fromZ (P := Tryd.prog) Tryd.underlying32 (z := 32) (by kernel_rfl) (by omega) A n c n hh hnc
        have HCt := Lib.hid hct
        clear hct
        go_wp2_with (first
          | (refine wpList_allocL rfl 24 6 rfl rfl HS0.out (Array.replicate 32 (.int .u8 0)) (by kernel_rfl) 32 (u8v fun _ => 0) (by rfl) (zero_at 32 (.int .u8 0)) ?_; intro b6 w6 hb6 hc6 hs6; have HS6 := Lib.hid hs6; clear hs6)
          | (refine wpList_as rfl 21 rfl (.int .i64 (d : Int)) ?_ ?_; (· exact ex_bin rfl rfl rfl rfl (fun w => subd d (by omega) w) _))
          | (refine wpList_as rfl 23 rfl (.int .i64 (p : Int)) ?_ ?_; (· rw [HPw.out]; exact ex_bin rfl rfl rfl rfl (fun w => TreeRef.shl1 d (by omega) w) _)))
        have HW6 := Lib.hid (HS6.out.out (by simp; omega))
        refine wp_region_factsS (l := [_, _, _, _, _, _, _, _, _, _, _, _, _, _, _]) (tl := []) (B := w6.heap.size) (w0 := w6) [SF.is (.slice (A) (n) (c)), SF.is (.int .i64 ((n : Nat) : Int)), SF.is (.slice (A) (n) (c)), SF.is (.int .i64 ((d + 1 : Nat) : Int)), SF.is (.int .i64 ((d : Nat) : Int)), SF.is (.slice (Z) (m) (cz)), SF.is (rootV (treeN d n x)), SF.is (.slice (A) (n) (c)), SF.is (.int .i64 ((n : Nat) : Int)), SF.is (.slice (A2) (n - n) (c - n)), SF.is (.int .i64 ((d + 1 : Nat) : Int)), SF.is (.int .i64 ((d : Nat) : Int)), SF.is (.slice (Z) (m) (cz)), SF.is (rootV (treeN d (n - n) (fun i => x (n * 32 + i)))), SF.is (rootV (shaB (catN 32 (treeN d n x) (treeN d (n - n) (fun i => x (n * 32 + i)))) 64))] (by kernel_rfl) (by kernel_rfl) rfl (Nat.le_refl _) (Below.refl _ _) ⟨?_, ?_, ?_, ?_, ?_, ?_, ?_, ?_, ?_, ?_, ?_, ?_, ?_, ?_, ?_, trivial⟩ ?_
        · exact (opOb_move _ rfl (.inl rfl) rfl)
        · exact (opOb_move _ rfl (.inl rfl) rfl)
        · exact opOb_slc rfl rfl (OpK.tmp rfl) OpKo.no (OpKo.tmp rfl) (fun w => cut_toZ (z := 32) Tryd.underlying32 (by kernel_rfl) A n c n (by omega) w)
        · exact (opOb_move _ rfl (.inl rfl) rfl)
        · exact opOb_bin rfl rfl rfl (OpK.tmp rfl) OpK.const (fun w => subd d (by omega) w)
        · exact (opOb_move _ rfl (.inl rfl) rfl)
        · exact opOb_fn3 ent_tree rfl rfl (OpK.tmp rfl) (OpK.tmp rfl) (OpK.tmp rfl) (fun w' hb => (ih n c A x m cz Z w' (by omega) (by omega) (by omega) (((HX.out.below (HW6.out.trans (hb.mono HW6.out.size))).more (Nat.le_trans HW6.out.size hb.size)).short (by omega)) (fun i => HXl.out _) ((HZ.out.below (HW6.out.trans (hb.mono HW6.out.size))).more (Nat.le_trans HW6.out.size hb.size)) (by omega) (HP.out.below (HW6.out.trans (hb.mono HW6.out.size)))).mono fun e w'' ⟨he, hb2⟩ => ⟨_, he, rfl, hb2⟩)
        · exact (opOb_move _ rfl (.inl rfl) rfl)
        · exact (opOb_move _ rfl (.inl rfl) rfl)
        · exact opOb_slc rfl rfl (OpK.tmp rfl) (OpKo.tmp rfl) OpKo.no (fun w => HCt.out.1 w)
        · exact (opOb_move _ rfl (.inl rfl) rfl)
        · exact opOb_bin rfl rfl rfl (OpK.tmp rfl) OpK.const (fun w => subd d (by omega) w)
        · exact (opOb_move _ rfl (.inl rfl) rfl)
        · exact opOb_fn3 ent_tree rfl rfl (OpK.tmp rfl) (OpK.tmp rfl) (OpK.tmp rfl) (fun w' hb => (ih (n - n) (c - n) A2 (fun i => x (n * 32 + i)) m cz Z w' (by omega) (by omega) (by omega) (HCt.out.2 w' _ (u8v x) ((HX.out.below (HW6.out.trans (hb.mono HW6.out.size))).more (Nat.le_trans HW6.out.size hb.size))) (fun i => HXl.out _) ((HZ.out.below (HW6.out.trans (hb.mono HW6.out.size))).more (Nat.le_trans HW6.out.size hb.size)) (by omega) (HP.out.below (HW6.out.trans (hb.mono HW6.out.size)))).mono fun e w'' ⟨he, hb2⟩ => ⟨_, he, rfl, hb2⟩)
        · exact opOb_fn2 ent_two rfl rfl (OpK.tmp rfl) (OpK.tmp rfl) (fun w' hb => (refTwo_any (treeN d n x) (treeN d (n - n) (fun i => x (n * 32 + i))) (treeN_lt HXl.out _ _) (treeN_lt (fun i => HXl.out _) _ _) w' (HP.out.below (HW6.out.trans (hb.mono HW6.out.size)))).mono fun e w'' ⟨he, hb2⟩ => ⟨_, he, rfl, hb2⟩)
        · intro w' hb
          simp only [fin, SF.is, forall_eq]
          simp only [Act.put, List.setIfInBounds_toArray, List.set_cons_succ, List.set_cons_zero]
          have hs := HS6.out.below hb
          refine wp_storeL 24 (.tmp 6) (.tmp 44) rfl hs 0 rfl (u8v (shaB (catN 32 (treeN d n x) (treeN d (n - n) (fun i => x (n * 32 + i)))) 64)) rfl rfl (by kernel_rfl) (fun _ _ => rfl) ?_
          clear hs hb
          intro wy hs
          have HY := Lib.hid hs
          clear hs
          simp only [seqWp]
          go_wp2_with fail
          exact ret_rowIs rfl (HY.out.row 0 rfl) _ rfl Tryd.underlying24 rfl (by kernel_rfl) rfl ⟨by rw [treeN_succ d n n x hn0 hmin], HY.out.out (by simp; omega)⟩
end Go.Proofs.YtecgogeebponlaaDoor
