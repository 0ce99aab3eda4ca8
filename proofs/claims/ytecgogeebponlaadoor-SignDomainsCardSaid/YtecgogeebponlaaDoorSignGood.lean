/- Is a root in a list? (Printed by a program of mine.) -/
import Derived.Test.YtecgogeebponlaaDoorPtr
import Derived.Test.YtecgogeebponlaaDoorEq2
import Derived.Test.YtecgogeebponlaaDoorShaAll
import Derived.Test.YtecgogeebponlaaDoorShaRef2
namespace Go.Proofs.YtecgogeebponlaaDoor
set_option maxRecDepth 40000
open Go.RowKit
theorem Rd.cells {w : World} {B n : Nat} {ad : Addr} {f : Nat → Value} (h : Rd w B (some ad) n f) {i : Nat} (hi : i < n) : w.cell? (ad.add i) = some (f i) := by
  obtain ⟨ad', e, _, hc⟩ := h (by omega)
  injection e with e; subst e
  exact hc i hi
/-- Element j of the list is q. -/
def eqAt (x : Nat → Nat) (j : Nat) (q : Nat → Nat) : Prop := ∀ i, i < 32 → x (j * 32 + i) = q i
open Classical in
/-- q is one of the first n. -/
noncomputable def inB (x : Nat → Nat) (n : Nat) (q : Nat → Nat) : Bool := decide (∃ j, j < n ∧ eqAt x j q)
theorem inB_t {x q : Nat → Nat} {n j : Nat} (hj : j < n) (h : eqAt x j q) : inB x n q = true := @decide_eq_true _ (_) ⟨j, hj, h⟩
theorem inB_f {x q : Nat → Nat} {n : Nat} (h : ∀ j, j < n → ¬ eqAt x j q) : inB x n q = false := @decide_eq_false _ (_) fun ⟨j, hj, h1⟩ => h j hj h1
namespace SignGood
theorem eq_qx_t {x q : Nat → Nat} {j : Nat} (h : eqAt x j q) : decide (∀ i : Nat, i < 32 → ((q i : Nat) : Int) = ((x (j * 32 + i) : Nat) : Int)) = true := decide_eq_true fun i hi => by rw [h i hi]
theorem eq_qx_f {x q : Nat → Nat} {j : Nat} (h : ¬ eqAt x j q) : decide (∀ i : Nat, i < 32 → ((q i : Nat) : Int) = ((x (j * 32 + i) : Nat) : Int)) = false := decide_eq_false fun h2 => h fun i hi => by have := h2 i hi; omega
theorem eq_xq_t {x q : Nat → Nat} {j : Nat} (h : eqAt x j q) : decide (∀ i : Nat, i < 32 → ((x (j * 32 + i) : Nat) : Int) = ((q i : Nat) : Int)) = true := decide_eq_true fun i hi => by rw [h i hi]
theorem eq_xq_f {x q : Nat → Nat} {j : Nat} (h : ¬ eqAt x j q) : decide (∀ i : Nat, i < 32 → ((x (j * 32 + i) : Nat) : Int) = ((q i : Nat) : Int)) = false := decide_eq_false fun h2 => h fun i hi => by have := h2 i hi; omega
end SignGood
open SignGood in
set_option maxHeartbeats 4000000 in
theorem index_any (n c : Nat) (A : Option Addr) (x q : Nat → Nat) (w : World) (hb : Rd w w.heap.size A (n * 32) (u8v x)) (hn : n ≤ 9223372036854775807) :
    Calls Tryd.prog 47 #[.slice A n c, rootV q] w fun e w' => ∃ k : Int, e = .returned (.int .i64 k) ∧ decide ((0 : Int) ≤ k) = inB x n q ∧ Below w.heap.size w w' := by
  have HB := Lib.hid hb
  have HS0 := Lib.hid (HS.nil w)
  clear hb
  go_enter Tryd.func47, Tryd.ntmps47
  go_wp2_with (first
    | (refine wpList_boxL rfl 24 _ 3 rfl rfl HS0.out 32 (u8v q) rfl ?_; intro b3 w3 hb3 hc3 hs3; have HS3 := Lib.hid hs3; clear hs3))
  go_loopw [8] (fun i wr => ∃ j : Nat, i = .int .i64 (j : Int) ∧ j ≤ n ∧ (∀ j', j' < j → ¬ eqAt x j' q) ∧ HS w wr [⟨b3, 24, 32, u8v q⟩]) (fun i _ => n - (intOf i).toNat)
  case atStart => exact ⟨0, rfl, by omega, fun j' h => absurd h (by omega), HS3.out⟩
  case round =>
    clear HS3
    obtain ⟨j, rfl, hj, hno, hs⟩ := hrel
    have HN := Lib.hid hno
    have HSq := Lib.hid hs
    clear hno hs
    by_cases hjn : j < n
    · obtain ⟨ad, hA, hblk, _⟩ := HB.out (show 0 < n * 32 by omega)
      subst hA
      have HCL : Hid (∀ w', Below wr.heap.size wr w' → ∀ i, i < n * 32 → w'.cell? (ad.add i) = some (u8v x i)) := Lib.hid (fun w' hb i hi => (HB.out.below ((HSq.out.out (by simp; omega)).trans (hb.mono HSq.out.size))).cells hi)
      by_cases he : eqAt x j q
      · go_wp2_with fail
        refine wp_region_facts (B := wr.heap.size) (w0 := wr) [SF.is (rootV q), SF.is (.slice (some ad) (n) (c)), SF.is (.int .i64 ((j : Nat) : Int)), SF.is (.pointer (some (ad.add (j * 32)))), SF.is (rootV (fun i => x (j * 32 + i))), SF.is (.bool true)] (by kernel_rfl) (by kernel_rfl) rfl (Nat.le_refl _) (Below.refl _ _) ⟨?_, ?_, ?_, ?_, ?_, ?_, trivial⟩ ?_
        · exact opOb_ld rfl rfl (OpK.tmp rfl) (fun w' hb => ld_all (HSq.out.row 0 rfl) (HSq.out.row 0 rfl).lt Tryd.underlying24 rfl (by kernel_rfl) w' hb)
        · exact (opOb_move _ rfl (.inl rfl) rfl)
        · exact (opOb_move _ rfl (.inl rfl) rfl)
        · exact opOb_idx rfl rfl (OpK.tmp rfl) (OpK.tmp rfl) (fun w => run_idxZ w Tryd.underlying32 (by kernel_rfl) ad (by omega))
        · exact opOb_ld rfl rfl (OpK.tmp rfl) (fun w' hb => run_loadAt_rd w' (ad.add (j * 32)) 32 _ _ (u8v (fun i => x (j * 32 + i))) (fun i hi => by rw [add_add]; exact HCL.out w' hb (j * 32 + i) (by omega)) Tryd.underlying24 rfl (by kernel_rfl))
        · exact opOb_eqArr 5 32 .u8 (fun i => ((q i : Nat) : Int)) (fun i => (((fun i => x (j * 32 + i)) i : Nat) : Int)) true Tryd.underlying24 Tryd.underlying5 (by kernel_rfl) (by kernel_rfl) (eq_qx_t he) rfl rfl (OpK.tmp rfl) (OpK.tmp rfl)
        · intro w' hb
          simp only [fin, SF.is, forall_eq]
          simp only [Act.put, List.setIfInBounds_toArray, List.set_cons_succ, List.set_cons_zero]
          have hend := (HSq.out.out (by simp; omega)).trans (hb.mono HSq.out.size)
          go_wp2_with fail
          go_ret
          exact ⟨(j : Int), rfl, by rw [inB_t hjn he]; exact decide_eq_true (by omega), hend⟩
      · go_wp2_with fail
        refine wp_region_facts (B := wr.heap.size) (w0 := wr) [SF.is (rootV q), SF.is (.slice (some ad) (n) (c)), SF.is (.int .i64 ((j : Nat) : Int)), SF.is (.pointer (some (ad.add (j * 32)))), SF.is (rootV (fun i => x (j * 32 + i))), SF.is (.bool false)] (by kernel_rfl) (by kernel_rfl) rfl (Nat.le_refl _) (Below.refl _ _) ⟨?_, ?_, ?_, ?_, ?_, ?_, trivial⟩ ?_
        · exact opOb_ld rfl rfl (OpK.tmp rfl) (fun w' hb => ld_all (HSq.out.row 0 rfl) (HSq.out.row 0 rfl).lt Tryd.underlying24 rfl (by kernel_rfl) w' hb)
        · exact (opOb_move _ rfl (.inl rfl) rfl)
        · exact (opOb_move _ rfl (.inl rfl) rfl)
        · exact opOb_idx rfl rfl (OpK.tmp rfl) (OpK.tmp rfl) (fun w => run_idxZ w Tryd.underlying32 (by kernel_rfl) ad (by omega))
        · exact opOb_ld rfl rfl (OpK.tmp rfl) (fun w' hb => run_loadAt_rd w' (ad.add (j * 32)) 32 _ _ (u8v (fun i => x (j * 32 + i))) (fun i hi => by rw [add_add]; exact HCL.out w' hb (j * 32 + i) (by omega)) Tryd.underlying24 rfl (by kernel_rfl))
        · exact opOb_eqArr 5 32 .u8 (fun i => ((q i : Nat) : Int)) (fun i => (((fun i => x (j * 32 + i)) i : Nat) : Int)) false Tryd.underlying24 Tryd.underlying5 (by kernel_rfl) (by kernel_rfl) (eq_qx_f he) rfl rfl (OpK.tmp rfl) (OpK.tmp rfl)
        · intro w' hb
          simp only [fin, SF.is, forall_eq]
          simp only [Act.put, List.setIfInBounds_toArray, List.set_cons_succ, List.set_cons_zero]
          have HS2 := Lib.hid (HSq.out.below hb)
          go_wp2_with fail
          go_roundw
          case rel => exact ⟨j + 1, by go_num, by omega, fun j' h => by
            by_cases e : j' = j
            · subst e; exact he
            · exact HN.out j' (by omega), HS2.out⟩
          case measure => simp [intOf]; omega
    · obtain rfl : j = n := by omega
      have hend := HSq.out.out (by simp; omega)
      go_wp2_with fail
      go_ret
      exact ⟨-1, rfl, by rw [inB_f HN.out]; rfl, hend⟩
theorem contains_any (n c : Nat) (A : Option Addr) (x q : Nat → Nat) (w : World) (hb : Rd w w.heap.size A (n * 32) (u8v x)) (hn : n ≤ 9223372036854775807) :
    Calls Tryd.prog 39 #[.slice A n c, rootV q] w fun e w' => e = .returned (.bool (inB x n q)) ∧ Below w.heap.size w w' := by
  have HB := Lib.hid hb
  have HS0 := Lib.hid (HS.nil w)
  clear hb
  go_enter Tryd.func39, Tryd.ntmps39
  go_wp2_with (first
    | (refine wpList_boxL rfl 24 _ 3 rfl rfl HS0.out 32 (u8v q) rfl ?_; intro b3 w3 hb3 hc3 hs3; have HS3 := Lib.hid hs3; clear hs3)
    | (refine wpList_load_rd rfl 24 _ rfl 32 _ Tryd.underlying24 rfl (by kernel_rfl) ⟨b3, 0, none⟩ rfl (u8v q) (fun i hi => by rw [add_lit0]; exact HS3.out.cell 0 i rfl hi) ?_)
    | (go_at_call 47; refine (index_any n c A x q _ ((HB.out.below (HS3.out.out (by simp; omega))).more HS3.out.size) hn).mono ?_; rintro e w5 ⟨k, rfl, hk, hb5⟩; have HE := Lib.hid ((HS3.out.out (by simp; omega)).trans (hb5.mono HS3.out.size)); have HK := Lib.hid hk; clear hk hb5))
  go_ret
  exact ⟨ret_bool HK.out, HE.out⟩
theorem good_look (n c : Nat) (A : Option Addr) (x q : Nat → Nat) (w : World) (hb : Rd w w.heap.size A (n * 32) (u8v x)) (hn : n ≤ 9223372036854775807) :
    Calls Tryd.prog 19 #[rootV q, .slice A n c] w fun e w' => e = .returned (.bool (!inB x n q)) ∧ Below w.heap.size w w' := by
  have HB := Lib.hid hb
  have HS0 := Lib.hid (HS.nil w)
  clear hb
  go_enter Tryd.func19, Tryd.ntmps19
  go_wp2_with (first
    | (refine wpList_boxL rfl 24 _ 2 rfl rfl HS0.out 32 (u8v q) rfl ?_; intro b3 w3 hb3 hc3 hs3; have HS3 := Lib.hid hs3; clear hs3)
    | (refine wpList_load_rd rfl 24 _ rfl 32 _ Tryd.underlying24 rfl (by kernel_rfl) ⟨b3, 0, none⟩ rfl (u8v q) (fun i hi => by rw [add_lit0]; exact HS3.out.cell 0 i rfl hi) ?_)
    | (go_at_call 39; refine (contains_any n c A x q _ ((HB.out.below (HS3.out.out (by simp; omega))).more HS3.out.size) hn).mono ?_; rintro e w5 ⟨rfl, hb5⟩; have HE := Lib.hid ((HS3.out.out (by simp; omega)).trans (hb5.mono HS3.out.size)); clear hb5))
  go_ret
  exact ⟨rfl, HE.out⟩
open SignGood in
set_option maxHeartbeats 4000000 in
theorem good_ref (n c : Nat) (A : Option Addr) (x q : Nat → Nat) (w : World) (hb : Rd w w.heap.size A (n * 32) (u8v x)) (hn : n ≤ 9223372036854775807) :
    Calls Tryd.prog 20 #[rootV q, .slice A n c] w fun e w' => e = .returned (.bool (!inB x n q)) ∧ Below w.heap.size w w' := by
  have HB := Lib.hid hb
  have HS0 := Lib.hid (HS.nil w)
  clear hb
  go_enter Tryd.func20, Tryd.ntmps20
  go_wp2_with (first
    | (refine wpList_boxL rfl 24 _ 2 rfl rfl HS0.out 32 (u8v q) rfl ?_; intro b3 w3 hb3 hc3 hs3; have HS3 := Lib.hid hs3; clear hs3))
  go_loopw [5] (fun i wr => ∃ j : Nat, i = .int .i64 (j : Int) ∧ j ≤ n ∧ (∀ j', j' < j → ¬ eqAt x j' q) ∧ HS w wr [⟨b3, 24, 32, u8v q⟩]) (fun i _ => n - (intOf i).toNat)
  case atStart => exact ⟨0, rfl, by omega, fun j' h => absurd h (by omega), HS3.out⟩
  case round =>
    clear HS3
    obtain ⟨j, rfl, hj, hno, hs⟩ := hrel
    have HN := Lib.hid hno
    have HSq := Lib.hid hs
    clear hno hs
    by_cases hjn : j < n
    · obtain ⟨ad, hA, hblk, _⟩ := HB.out (show 0 < n * 32 by omega)
      subst hA
      have HCL : Hid (∀ w', Below wr.heap.size wr w' → ∀ i, i < n * 32 → w'.cell? (ad.add i) = some (u8v x i)) := Lib.hid (fun w' hb i hi => (HB.out.below ((HSq.out.out (by simp; omega)).trans (hb.mono HSq.out.size))).cells hi)
      by_cases he : eqAt x j q
      · go_wp2_with fail
        refine wp_region_facts (B := wr.heap.size) (w0 := wr) [SF.is (.slice (some ad) (n) (c)), SF.is (.int .i64 ((j : Nat) : Int)), SF.is (.pointer (some (ad.add (j * 32)))), SF.is (rootV (fun i => x (j * 32 + i))), SF.is (rootV q), SF.is (.bool true)] (by kernel_rfl) (by kernel_rfl) rfl (Nat.le_refl _) (Below.refl _ _) ⟨?_, ?_, ?_, ?_, ?_, ?_, trivial⟩ ?_
        · exact (opOb_move _ rfl (.inl rfl) rfl)
        · exact (opOb_move _ rfl (.inl rfl) rfl)
        · exact opOb_idx rfl rfl (OpK.tmp rfl) (OpK.tmp rfl) (fun w => run_idxZ w Tryd.underlying32 (by kernel_rfl) ad (by omega))
        · exact opOb_ld rfl rfl (OpK.tmp rfl) (fun w' hb => run_loadAt_rd w' (ad.add (j * 32)) 32 _ _ (u8v (fun i => x (j * 32 + i))) (fun i hi => by rw [add_add]; exact HCL.out w' hb (j * 32 + i) (by omega)) Tryd.underlying24 rfl (by kernel_rfl))
        · exact opOb_ld rfl rfl (OpK.tmp rfl) (fun w' hb => ld_all (HSq.out.row 0 rfl) (HSq.out.row 0 rfl).lt Tryd.underlying24 rfl (by kernel_rfl) w' hb)
        · exact opOb_eqArr 5 32 .u8 (fun i => (((fun i => x (j * 32 + i)) i : Nat) : Int)) (fun i => ((q i : Nat) : Int)) true Tryd.underlying24 Tryd.underlying5 (by kernel_rfl) (by kernel_rfl) (eq_xq_t he) rfl rfl (OpK.tmp rfl) (OpK.tmp rfl)
        · intro w' hb
          simp only [fin, SF.is, forall_eq]
          simp only [Act.put, List.setIfInBounds_toArray, List.set_cons_succ, List.set_cons_zero]
          have hend := (HSq.out.out (by simp; omega)).trans (hb.mono HSq.out.size)
          go_wp2_with fail
          go_ret
          exact ⟨ret_bool (by rw [inB_t hjn he]; rfl), hend⟩
      · go_wp2_with fail
        refine wp_region_facts (B := wr.heap.size) (w0 := wr) [SF.is (.slice (some ad) (n) (c)), SF.is (.int .i64 ((j : Nat) : Int)), SF.is (.pointer (some (ad.add (j * 32)))), SF.is (rootV (fun i => x (j * 32 + i))), SF.is (rootV q), SF.is (.bool false)] (by kernel_rfl) (by kernel_rfl) rfl (Nat.le_refl _) (Below.refl _ _) ⟨?_, ?_, ?_, ?_, ?_, ?_, trivial⟩ ?_
        · exact (opOb_move _ rfl (.inl rfl) rfl)
        · exact (opOb_move _ rfl (.inl rfl) rfl)
        · exact opOb_idx rfl rfl (OpK.tmp rfl) (OpK.tmp rfl) (fun w => run_idxZ w Tryd.underlying32 (by kernel_rfl) ad (by omega))
        · exact opOb_ld rfl rfl (OpK.tmp rfl) (fun w' hb => run_loadAt_rd w' (ad.add (j * 32)) 32 _ _ (u8v (fun i => x (j * 32 + i))) (fun i hi => by rw [add_add]; exact HCL.out w' hb (j * 32 + i) (by omega)) Tryd.underlying24 rfl (by kernel_rfl))
        · exact opOb_ld rfl rfl (OpK.tmp rfl) (fun w' hb => ld_all (HSq.out.row 0 rfl) (HSq.out.row 0 rfl).lt Tryd.underlying24 rfl (by kernel_rfl) w' hb)
        · exact opOb_eqArr 5 32 .u8 (fun i => (((fun i => x (j * 32 + i)) i : Nat) : Int)) (fun i => ((q i : Nat) : Int)) false Tryd.underlying24 Tryd.underlying5 (by kernel_rfl) (by kernel_rfl) (eq_xq_f he) rfl rfl (OpK.tmp rfl) (OpK.tmp rfl)
        · intro w' hb
          simp only [fin, SF.is, forall_eq]
          simp only [Act.put, List.setIfInBounds_toArray, List.set_cons_succ, List.set_cons_zero]
          have HS2 := Lib.hid (HSq.out.below hb)
          go_wp2_with fail
          go_roundw
          case rel => exact ⟨j + 1, by go_num, by omega, fun j' h => by
            by_cases e : j' = j
            · subst e; exact he
            · exact HN.out j' (by omega), HS2.out⟩
          case measure => simp [intOf]; omega
    · obtain rfl : j = n := by omega
      have hend := HSq.out.out (by simp; omega)
      go_wp2_with fail
      go_ret
      exact ⟨ret_bool (by rw [inB_f HN.out]; rfl), hend⟩
theorem sroot_look (x y : Nat → Nat) (hx : ∀ i, x i < 256) (hy : ∀ i, y i < 256) (w : World) (hp : ShaPkg w) :
    Calls Tryd.prog 13 #[rootV x, rootV y] w fun e w' => e = .returned (rootV (shaB (catN 32 x y) 64)) ∧ Below w.heap.size w w' := by
  have HP := Lib.hid hp
  have HX := Lib.hid hx
  have HY := Lib.hid hy
  have HS0 := Lib.hid (HS.nil w)
  clear hp hx hy
  go_enter Tryd.func13, Tryd.ntmps13
  go_wp2_with (first
    | (refine wpList_boxL rfl 24 _ 2 rfl rfl HS0.out 32 (u8v x) rfl ?_; intro b2 w2 hb2 hc2 hs2; have HS2 := Lib.hid hs2; clear hs2)
    | (refine wpList_boxL rfl 24 _ 3 rfl rfl HS2.out 32 (u8v y) rfl ?_; intro b3 w3 hb3 hc3 hs3; have HS3 := Lib.hid hs3; clear hs3)
    | (refine wpList_allocL rfl 24 4 rfl rfl HS3.out (Array.replicate 32 (.int .u8 0)) (by kernel_rfl) 32 (u8v fun _ => 0) (by rfl) (zero_at 32 (.int .u8 0)) ?_; intro b4 w4 hb4 hc4 hs4; have HS4 := Lib.hid hs4; clear hs4)
    | (refine wpList_load_rd rfl 24 _ rfl 32 _ Tryd.underlying24 rfl (by kernel_rfl) ⟨b2, 0, none⟩ rfl (u8v x) (fun i hi => by rw [add_lit0]; exact HS4.out.cell 2 i rfl hi) ?_)
    | (refine wpList_load_rd rfl 24 _ rfl 32 _ Tryd.underlying24 rfl (by kernel_rfl) ⟨b3, 0, none⟩ rfl (u8v y) (fun i hi => by rw [add_lit0]; exact HS4.out.cell 1 i rfl hi) ?_)
    | (go_at_call 29; refine (two_any x y HX.out HY.out _ (HP.out.below (HS4.out.out (by simp; omega)))).mono ?_; rintro e w5 ⟨rfl, hb5⟩; have HS5 := Lib.hid (HS4.out.below hb5); clear hb5)
    | (refine wpList_storeH rfl 24 (.tmp 4) (.tmp 7) rfl HS5.out 0 rfl (u8v (shaB (catN 32 x y) 64)) rfl rfl (by kernel_rfl) (fun _ _ => rfl) ?_; intro wy hs; have HZ := Lib.hid hs; clear hs))
  exact ret_rowIs rfl (HZ.out.row 0 rfl) _ rfl Tryd.underlying24 rfl (by kernel_rfl) rfl ⟨rfl, HZ.out.out (by simp; omega)⟩
theorem sroot_ref (x y : Nat → Nat) (hx : ∀ i, x i < 256) (hy : ∀ i, y i < 256) (w : World) (hp : RefPkg w) :
    Calls Tryd.prog 14 #[rootV x, rootV y] w fun e w' => e = .returned (rootV (shaB (catN 32 x y) 64)) ∧ Below w.heap.size w w' := by
  have HP := Lib.hid hp
  have HX := Lib.hid hx
  have HY := Lib.hid hy
  have HS0 := Lib.hid (HS.nil w)
  clear hp hx hy
  go_enter Tryd.func14, Tryd.ntmps14
  go_wp2_with (first
    | (refine wpList_boxL rfl 24 _ 2 rfl rfl HS0.out 32 (u8v x) rfl ?_; intro b2 w2 hb2 hc2 hs2; have HS2 := Lib.hid hs2; clear hs2)
    | (refine wpList_boxL rfl 24 _ 3 rfl rfl HS2.out 32 (u8v y) rfl ?_; intro b3 w3 hb3 hc3 hs3; have HS3 := Lib.hid hs3; clear hs3)
    | (refine wpList_allocL rfl 24 4 rfl rfl HS3.out (Array.replicate 32 (.int .u8 0)) (by kernel_rfl) 32 (u8v fun _ => 0) (by rfl) (zero_at 32 (.int .u8 0)) ?_; intro b4 w4 hb4 hc4 hs4; have HS4 := Lib.hid hs4; clear hs4)
    | (refine wpList_load_rd rfl 24 _ rfl 32 _ Tryd.underlying24 rfl (by kernel_rfl) ⟨b2, 0, none⟩ rfl (u8v x) (fun i hi => by rw [add_lit0]; exact HS4.out.cell 2 i rfl hi) ?_)
    | (refine wpList_load_rd rfl 24 _ rfl 32 _ Tryd.underlying24 rfl (by kernel_rfl) ⟨b3, 0, none⟩ rfl (u8v y) (fun i hi => by rw [add_lit0]; exact HS4.out.cell 1 i rfl hi) ?_)
    | (go_at_call 30; refine (refTwo_any x y HX.out HY.out _ (HP.out.below (HS4.out.out (by simp; omega)))).mono ?_; rintro e w5 ⟨rfl, hb5⟩; have HS5 := Lib.hid (HS4.out.below hb5); clear hb5)
    | (refine wpList_storeH rfl 24 (.tmp 4) (.tmp 7) rfl HS5.out 0 rfl (u8v (shaB (catN 32 x y) 64)) rfl rfl (by kernel_rfl) (fun _ _ => rfl) ?_; intro wy hs; have HZ := Lib.hid hs; clear hs))
  exact ret_rowIs rfl (HZ.out.row 0 rfl) _ rfl Tryd.underlying24 rfl (by kernel_rfl) rfl ⟨rfl, HZ.out.out (by simp; omega)⟩
end Go.Proofs.YtecgogeebponlaaDoor
