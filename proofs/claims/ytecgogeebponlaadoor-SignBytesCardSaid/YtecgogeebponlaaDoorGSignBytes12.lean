/- Part 12 of what the proof of SignBytes stands on: SignGood, Guard, SignAwake, Ord, SignQuest, LookWalks, LookSums. -/
import Derived.Test.YtecgogeebponlaaDoorGSignBytes11
import Derived.Test.YtecgogeebponlaaDoorGSignBytes9
import Derived.Test.YtecgogeebponlaaDoorGSignBytes7
import Derived.Test.YtecgogeebponlaaDoorGSignBytes10
import Derived.RegionTactic
import Derived.Test.YtecgogeebponlaaDoorGSignBytes3
import Derived.Test.YtecgogeebponlaaDoorGSignBytes1
import Derived.Test.YtecgogeebponlaaDoorGSignBytes2
import Derived.Lib.Hide
import Derived.ProofKit
import Derived.Deep.DeepCutAuto
import Derived.Deep.Light
import Derived.Deep.QuietTactic
import Derived.BigQuiet
/- Is a root in a list? (Printed by a program of mine.) -/
namespace Go.Proofs.YtecgogeebponlaaDoor
set_option maxRecDepth 40000
open Go.RowKit
theorem Rd.cells {w : World} {B n : Nat} {ad : Addr} {f : Nat → Value} (h : Rd w B (some ad) n f) {i : Nat} (hi : i < n) : w.cell? (ad.add i) = some (f i) := by
  obtain ⟨ad', e, _, hc⟩ := h (by omega)
  injection e with e; subst e
  exact hc i hi
/-- Element j of the list is q. -/
def eqAt (x : Nat → Nat) (j : Nat) (q : Nat → Nat) : Prop := ∀ i, i < 32 → x (j * 32 + i) = q i
open Classical in
/-- q is one of the first n. -/
noncomputable def inB (x : Nat → Nat) (n : Nat) (q : Nat → Nat) : Bool := decide (∃ j, j < n ∧ eqAt x j q)
theorem inB_t {x q : Nat → Nat} {n j : Nat} (hj : j < n) (h : eqAt x j q) : inB x n q = true := @decide_eq_true _ (_) ⟨j, hj, h⟩
theorem inB_f {x q : Nat → Nat} {n : Nat} (h : ∀ j, j < n → ¬ eqAt x j q) : inB x n q = false := @decide_eq_false _ (_) fun ⟨j, hj, h1⟩ => h j hj h1
namespace SignGood
theorem eq_qx_t {x q : Nat → Nat} {j : Nat} (h : eqAt x j q) : decide (∀ i : Nat, i < 32 → ((q i : Nat) : Int) = ((x (j * 32 + i) : Nat) : Int)) = true := decide_eq_true fun i hi => by rw [h i hi]
theorem eq_qx_f {x q : Nat → Nat} {j : Nat} (h : ¬ eqAt x j q) : decide (∀ i : Nat, i < 32 → ((q i : Nat) : Int) = ((x (j * 32 + i) : Nat) : Int)) = false := decide_eq_false fun h2 => h fun i hi => by have := h2 i hi; omega
theorem eq_xq_t {x q : Nat → Nat} {j : Nat} (h : eqAt x j q) : decide (∀ i : Nat, i < 32 → ((x (j * 32 + i) : Nat) : Int) = ((q i : Nat) : Int)) = true := decide_eq_true fun i hi => by rw [h i hi]
theorem eq_xq_f {x q : Nat → Nat} {j : Nat} (h : ¬ eqAt x j q) : decide (∀ i : Nat, i < 32 → ((x (j * 32 + i) : Nat) : Int) = ((q i : Nat) : Int)) = false := decide_eq_false fun h2 => h fun i hi => by have := h2 i hi; omega
end SignGood
open SignGood in
set_option maxHeartbeats 4000000 in
theorem index_any (n c : Nat) (A : Option Addr) (x q : Nat → Nat) (w : World) (hb : Rd w w.heap.size A (n * 32) (u8v x)) (hn : n ≤ 9223372036854775807) :
    Calls Tryd.prog 47 #[.slice A n c, rootV q] w fun e w' => ∃ k : Int, e = .returned (.int .i64 k) ∧ decide ((0 : Int) ≤ k) = inB x n q ∧ Below w.heap.size w w' := by
  have HB := Lib.hid hb
  have HS0 := Lib.hid (HS.nil w)
  clear hb
  go_enter Tryd.func47, Tryd.ntmps47
  go_wp2_with (first
    | (refine wpList_boxL rfl 24 _ 3 rfl rfl HS0.out 32 (u8v q) rfl ?_; intro b3 w3 hb3 hc3 hs3; have HS3 := Lib.hid hs3; clear hs3))
  go_loopw [8] (fun i wr => ∃ j : Nat, i = .int .i64 (j : Int) ∧ j ≤ n ∧ (∀ j', j' < j → ¬ eqAt x j' q) ∧ HS w wr [⟨b3, 24, 32, u8v q⟩]) (fun i _ => n - (intOf i).toNat)
  case atStart => exact ⟨0, rfl, by omega, fun j' h => absurd h (by omega), HS3.out⟩
  case round =>
    clear HS3
    obtain ⟨j, rfl, hj, hno, hs⟩ := hrel
    have HN := Lib.hid hno
    have HSq := Lib.hid hs
    clear hno hs
    by_cases hjn : j < n
    · obtain ⟨ad, hA, hblk, _⟩ := HB.out (show 0 < n * 32 by omega)
      subst hA
      have HCL : Hid (∀ w', Below wr.heap.size wr w' → ∀ i, i < n * 32 → w'.cell? (ad.add i) = some (u8v x i)) := Lib.hid (fun w' hb i hi => (HB.out.below ((HSq.out.out (by simp; omega)).trans (hb.mono HSq.out.size))).cells hi)
      by_cases he : eqAt x j q
      · go_wp2_with fail
        refine wp_region_facts (B := wr.heap.size) (w0 := wr) [SF.is (rootV q), SF.is (.slice (some ad) (n) (c)), SF.is (.int .i64 ((j : Nat) : Int)), SF.is (.pointer (some (ad.add (j * 32)))), SF.is (rootV (fun i => x (j * 32 + i))), SF.is (.bool true)] (by kernel_rfl) (by kernel_rfl) rfl (Nat.le_refl _) (Below.refl _ _) ⟨?_, ?_, ?_, ?_, ?_, ?_, trivial⟩ ?_
        · exact opOb_ld rfl rfl (OpK.tmp rfl) (fun w' hb => ld_all (HSq.out.row 0 rfl) (HSq.out.row 0 rfl).lt Tryd.underlying24 rfl (by kernel_rfl) w' hb)
        · exact (opOb_move _ rfl (.inl rfl) rfl)
        · exact (opOb_move _ rfl (.inl rfl) rfl)
        · exact opOb_idx rfl rfl (OpK.tmp rfl) (OpK.tmp rfl) (fun w => run_idxZ w Tryd.underlying32 (by kernel_rfl) ad (by omega))
        · exact opOb_ld rfl rfl (OpK.tmp rfl) (fun w' hb => run_loadAt_rd w' (ad.add (j * 32)) 32 _ _ (u8v (fun i => x (j * 32 + i))) (fun i hi => by rw [add_add]; exact HCL.out w' hb (j * 32 + i) (by omega)) Tryd.underlying24 rfl (by kernel_rfl))
        · exact opOb_eqArr 5 32 .u8 (fun i => ((q i : Nat) : Int)) (fun i => (((fun i => x (j * 32 + i)) i : Nat) : Int)) true Tryd.underlying24 Tryd.underlying5 (by kernel_rfl) (by kernel_rfl) (eq_qx_t he) rfl rfl (OpK.tmp rfl) (OpK.tmp rfl)
        · intro w' hb
          simp only [fin, SF.is, forall_eq]
          simp only [Act.put, List.setIfInBounds_toArray, List.set_cons_succ, List.set_cons_zero]
          have hend := (HSq.out.out (by simp; omega)).trans (hb.mono HSq.out.size)
          go_wp2_with fail
          go_ret
          exact ⟨(j : Int), rfl, by rw [inB_t hjn he]; exact decide_eq_true (by omega), hend⟩
      · go_wp2_with fail
        refine wp_region_facts (B := wr.heap.size) (w0 := wr) [SF.is (rootV q), SF.is (.slice (some ad) (n) (c)), SF.is (.int .i64 ((j : Nat) : Int)), SF.is (.pointer (some (ad.add (j * 32)))), SF.is (rootV (fun i => x (j * 32 + i))), SF.is (.bool false)] (by kernel_rfl) (by kernel_rfl) rfl (Nat.le_refl _) (Below.refl _ _) ⟨?_, ?_, ?_, ?_, ?_, ?_, trivial⟩ ?_
        · exact opOb_ld rfl rfl (OpK.tmp rfl) (fun w' hb => ld_all (HSq.out.row 0 rfl) (HSq.out.row 0 rfl).lt Tryd.underlying24 rfl (by kernel_rfl) w' hb)
        · exact (opOb_move _ rfl (.inl rfl) rfl)
        · exact (opOb_move _ rfl (.inl rfl) rfl)
        · exact opOb_idx rfl rfl (OpK.tmp rfl) (OpK.tmp rfl) (fun w => run_idxZ w Tryd.underlying32 (by kernel_rfl) ad (by omega))
        · exact opOb_ld rfl rfl (OpK.tmp rfl) (fun w' hb => run_loadAt_rd w' (ad.add (j * 32)) 32 _ _ (u8v (fun i => x (j * 32 + i))) (fun i hi => by rw [add_add]; exact HCL.out w' hb (j * 32 + i) (by omega)) Tryd.underlying24 rfl (by kernel_rfl))
        · exact opOb_eqArr 5 32 .u8 (fun i => ((q i : Nat) : Int)) (fun i => (((fun i => x (j * 32 + i)) i : Nat) : Int)) false Tryd.underlying24 Tryd.underlying5 (by kernel_rfl) (by kernel_rfl) (eq_qx_f he) rfl rfl (OpK.tmp rfl) (OpK.tmp rfl)
        · intro w' hb
          simp only [fin, SF.is, forall_eq]
          simp only [Act.put, List.setIfInBounds_toArray, List.set_cons_succ, List.set_cons_zero]
          have HS2 := Lib.hid (HSq.out.below hb)
          go_wp2_with fail
          go_roundw
          case rel => exact ⟨j + 1, by go_num, by omega, fun j' h => by
            by_cases e : j' = j
            · subst e; exact he
            · exact HN.out j' (by omega), HS2.out⟩
          case measure => simp [intOf]; omega
    · obtain rfl : j = n := by omega
      have hend := HSq.out.out (by simp; omega)
      go_wp2_with fail
      go_ret
      exact ⟨-1, rfl, by rw [inB_f HN.out]; rfl, hend⟩
theorem contains_any (n c : Nat) (A : Option Addr) (x q : Nat → Nat) (w : World) (hb : Rd w w.heap.size A (n * 32) (u8v x)) (hn : n ≤ 9223372036854775807) :
    Calls Tryd.prog 39 #[.slice A n c, rootV q] w fun e w' => e = .returned (.bool (inB x n q)) ∧ Below w.heap.size w w' := by
  have HB := Lib.hid hb
  have HS0 := Lib.hid (HS.nil w)
  clear hb
  go_enter Tryd.func39, Tryd.ntmps39
  go_wp2_with (first
    | (refine wpList_boxL rfl 24 _ 3 rfl rfl HS0.out 32 (u8v q) rfl ?_; intro b3 w3 hb3 hc3 hs3; have HS3 := Lib.hid hs3; clear hs3)
    | (refine wpList_load_rd rfl 24 _ rfl 32 _ Tryd.underlying24 rfl (by kernel_rfl) ⟨b3, 0, none⟩ rfl (u8v q) (fun i hi => by rw [add_lit0]; exact HS3.out.cell 0 i rfl hi) ?_)
    | (go_at_call 47; refine (index_any n c A x q _ ((HB.out.below (HS3.out.out (by simp; omega))).more HS3.out.size) hn).mono ?_; rintro e w5 ⟨k, rfl, hk, hb5⟩; have HE := Lib.hid ((HS3.out.out (by simp; omega)).trans (hb5.mono HS3.out.size)); have HK := Lib.hid hk; clear hk hb5))
  go_ret
  exact ⟨ret_bool HK.out, HE.out⟩
theorem good_look (n c : Nat) (A : Option Addr) (x q : Nat → Nat) (w : World) (hb : Rd w w.heap.size A (n * 32) (u8v x)) (hn : n ≤ 9223372036854775807) :
    Calls Tryd.prog 19 #[rootV q, .slice A n c] w fun e w' => e = .returned (.bool (!inB x n q)) ∧ Below w.heap.size w w' := by
  have HB := Lib.hid hb
  have HS0 := Lib.hid (HS.nil w)
  clear hb
  go_enter Tryd.func19, Tryd.ntmps19
  go_wp2_with (first
    | (refine wpList_boxL rfl 24 _ 2 rfl rfl HS0.out 32 (u8v q) rfl ?_; intro b3 w3 hb3 hc3 hs3; have HS3 := Lib.hid hs3; clear hs3)
    | (refine wpList_load_rd rfl 24 _ rfl 32 _ Tryd.underlying24 rfl (by kernel_rfl) ⟨b3, 0, none⟩ rfl (u8v q) (fun i hi => by rw [add_lit0]; exact HS3.out.cell 0 i rfl hi) ?_)
    | (go_at_call 39; refine (contains_any n c A x q _ ((HB.out.below (HS3.out.out (by simp; omega))).more HS3.out.size) hn).mono ?_; rintro e w5 ⟨rfl, hb5⟩; have HE := Lib.hid ((HS3.out.out (by simp; omega)).trans (hb5.mono HS3.out.size)); clear hb5))
  go_ret
  exact ⟨rfl, HE.out⟩
open SignGood in
set_option maxHeartbeats 4000000 in
theorem good_ref (n c : Nat) (A : Option Addr) (x q : Nat → Nat) (w : World) (hb : Rd w w.heap.size A (n * 32) (u8v x)) (hn : n ≤ 9223372036854775807) :
    Calls Tryd.prog 20 #[rootV q, .slice A n c] w fun e w' => e = .returned (.bool (!inB x n q)) ∧ Below w.heap.size w w' := by
  have HB := Lib.hid hb
  have HS0 := Lib.hid (HS.nil w)
  clear hb
  go_enter Tryd.func20, Tryd.ntmps20
  go_wp2_with (first
    | (refine wpList_boxL rfl 24 _ 2 rfl rfl HS0.out 32 (u8v q) rfl ?_; intro b3 w3 hb3 hc3 hs3; have HS3 := Lib.hid hs3; clear hs3))
  go_loopw [5] (fun i wr => ∃ j : Nat, i = .int .i64 (j : Int) ∧ j ≤ n ∧ (∀ j', j' < j → ¬ eqAt x j' q) ∧ HS w wr [⟨b3, 24, 32, u8v q⟩]) (fun i _ => n - (intOf i).toNat)
  case atStart => exact ⟨0, rfl, by omega, fun j' h => absurd h (by omega), HS3.out⟩
  case round =>
    clear HS3
    obtain ⟨j, rfl, hj, hno, hs⟩ := hrel
    have HN := Lib.hid hno
    have HSq := Lib.hid hs
    clear hno hs
    by_cases hjn : j < n
    · obtain ⟨ad, hA, hblk, _⟩ := HB.out (show 0 < n * 32 by omega)
      subst hA
      have HCL : Hid (∀ w', Below wr.heap.size wr w' → ∀ i, i < n * 32 → w'.cell? (ad.add i) = some (u8v x i)) := Lib.hid (fun w' hb i hi => (HB.out.below ((HSq.out.out (by simp; omega)).trans (hb.mono HSq.out.size))).cells hi)
      by_cases he : eqAt x j q
      · go_wp2_with fail
        refine wp_region_facts (B := wr.heap.size) (w0 := wr) [SF.is (.slice (some ad) (n) (c)), SF.is (.int .i64 ((j : Nat) : Int)), SF.is (.pointer (some (ad.add (j * 32)))), SF.is (rootV (fun i => x (j * 32 + i))), SF.is (rootV q), SF.is (.bool true)] (by kernel_rfl) (by kernel_rfl) rfl (Nat.le_refl _) (Below.refl _ _) ⟨?_, ?_, ?_, ?_, ?_, ?_, trivial⟩ ?_
        · exact (opOb_move _ rfl (.inl rfl) rfl)
        · exact (opOb_move _ rfl (.inl rfl) rfl)
        · exact opOb_idx rfl rfl (OpK.tmp rfl) (OpK.tmp rfl) (fun w => run_idxZ w Tryd.underlying32 (by kernel_rfl) ad (by omega))
        · exact opOb_ld rfl rfl (OpK.tmp rfl) (fun w' hb => run_loadAt_rd w' (ad.add (j * 32)) 32 _ _ (u8v (fun i => x (j * 32 + i))) (fun i hi => by rw [add_add]; exact HCL.out w' hb (j * 32 + i) (by omega)) Tryd.underlying24 rfl (by kernel_rfl))
        · exact opOb_ld rfl rfl (OpK.tmp rfl) (fun w' hb => ld_all (HSq.out.row 0 rfl) (HSq.out.row 0 rfl).lt Tryd.underlying24 rfl (by kernel_rfl) w' hb)
        · exact opOb_eqArr 5 32 .u8 (fun i => (((fun i => x (j * 32 + i)) i : Nat) : Int)) (fun i => ((q i : Nat) : Int)) true Tryd.underlying24 Tryd.underlying5 (by kernel_rfl) (by kernel_rfl) (eq_xq_t he) rfl rfl (OpK.tmp rfl) (OpK.tmp rfl)
        · intro w' hb
          simp only [fin, SF.is, forall_eq]
          simp only [Act.put, List.setIfInBounds_toArray, List.set_cons_succ, List.set_cons_zero]
          have hend := (HSq.out.out (by simp; omega)).trans (hb.mono HSq.out.size)
          go_wp2_with fail
          go_ret
          exact ⟨ret_bool (by rw [inB_t hjn he]; rfl), hend⟩
      · go_wp2_with fail
        refine wp_region_facts (B := wr.heap.size) (w0 := wr) [SF.is (.slice (some ad) (n) (c)), SF.is (.int .i64 ((j : Nat) : Int)), SF.is (.pointer (some (ad.add (j * 32)))), SF.is (rootV (fun i => x (j * 32 + i))), SF.is (rootV q), SF.is (.bool false)] (by kernel_rfl) (by kernel_rfl) rfl (Nat.le_refl _) (Below.refl _ _) ⟨?_, ?_, ?_, ?_, ?_, ?_, trivial⟩ ?_
        · exact (opOb_move _ rfl (.inl rfl) rfl)
        · exact (opOb_move _ rfl (.inl rfl) rfl)
        · exact opOb_idx rfl rfl (OpK.tmp rfl) (OpK.tmp rfl) (fun w => run_idxZ w Tryd.underlying32 (by kernel_rfl) ad (by omega))
        · exact opOb_ld rfl rfl (OpK.tmp rfl) (fun w' hb => run_loadAt_rd w' (ad.add (j * 32)) 32 _ _ (u8v (fun i => x (j * 32 + i))) (fun i hi => by rw [add_add]; exact HCL.out w' hb (j * 32 + i) (by omega)) Tryd.underlying24 rfl (by kernel_rfl))
        · exact opOb_ld rfl rfl (OpK.tmp rfl) (fun w' hb => ld_all (HSq.out.row 0 rfl) (HSq.out.row 0 rfl).lt Tryd.underlying24 rfl (by kernel_rfl) w' hb)
        · exact opOb_eqArr 5 32 .u8 (fun i => (((fun i => x (j * 32 + i)) i : Nat) : Int)) (fun i => ((q i : Nat) : Int)) false Tryd.underlying24 Tryd.underlying5 (by kernel_rfl) (by kernel_rfl) (eq_xq_f he) rfl rfl (OpK.tmp rfl) (OpK.tmp rfl)
        · intro w' hb
          simp only [fin, SF.is, forall_eq]
          simp only [Act.put, List.setIfInBounds_toArray, List.set_cons_succ, List.set_cons_zero]
          have HS2 := Lib.hid (HSq.out.below hb)
          go_wp2_with fail
          go_roundw
          case rel => exact ⟨j + 1, by go_num, by omega, fun j' h => by
            by_cases e : j' = j
            · subst e; exact he
            · exact HN.out j' (by omega), HS2.out⟩
          case measure => simp [intOf]; omega
    · obtain rfl : j = n := by omega
      have hend := HSq.out.out (by simp; omega)
      go_wp2_with fail
      go_ret
      exact ⟨ret_bool (by rw [inB_f HN.out]; rfl), hend⟩
theorem sroot_look (x y : Nat → Nat) (hx : ∀ i, x i < 256) (hy : ∀ i, y i < 256) (w : World) (hp : ShaPkg w) :
    Calls Tryd.prog 13 #[rootV x, rootV y] w fun e w' => e = .returned (rootV (shaB (catN 32 x y) 64)) ∧ Below w.heap.size w w' := by
  have HP := Lib.hid hp
  have HX := Lib.hid hx
  have HY := Lib.hid hy
  have HS0 := Lib.hid (HS.nil w)
  clear hp hx hy
  go_enter Tryd.func13, Tryd.ntmps13
  go_wp2_with (first
    | (refine wpList_boxL rfl 24 _ 2 rfl rfl HS0.out 32 (u8v x) rfl ?_; intro b2 w2 hb2 hc2 hs2; have HS2 := Lib.hid hs2; clear hs2)
    | (refine wpList_boxL rfl 24 _ 3 rfl rfl HS2.out 32 (u8v y) rfl ?_; intro b3 w3 hb3 hc3 hs3; have HS3 := Lib.hid hs3; clear hs3)
    | (refine wpList_allocL rfl 24 4 rfl rfl HS3.out (Array.replicate 32 (.int .u8 0)) (by kernel_rfl) 32 (u8v fun _ => 0) (by rfl) (zero_at 32 (.int .u8 0)) ?_; intro b4 w4 hb4 hc4 hs4; have HS4 := Lib.hid hs4; clear hs4)
    | (refine wpList_load_rd rfl 24 _ rfl 32 _ Tryd.underlying24 rfl (by kernel_rfl) ⟨b2, 0, none⟩ rfl (u8v x) (fun i hi => by rw [add_lit0]; exact HS4.out.cell 2 i rfl hi) ?_)
    | (refine wpList_load_rd rfl 24 _ rfl 32 _ Tryd.underlying24 rfl (by kernel_rfl) ⟨b3, 0, none⟩ rfl (u8v y) (fun i hi => by rw [add_lit0]; exact HS4.out.cell 1 i rfl hi) ?_)
    | (go_at_call 29; refine (two_any x y HX.out HY.out _ (HP.out.below (HS4.out.out (by simp; omega)))).mono ?_; rintro e w5 ⟨rfl, hb5⟩; have HS5 := Lib.hid (HS4.out.below hb5); clear hb5)
    | (refine wpList_storeH rfl 24 (.tmp 4) (.tmp 7) rfl HS5.out 0 rfl (u8v (shaB (catN 32 x y) 64)) rfl rfl (by kernel_rfl) (fun _ _ => rfl) ?_; intro wy hs; have HZ := Lib.hid hs; clear hs))
  exact ret_rowIs rfl (HZ.out.row 0 rfl) _ rfl Tryd.underlying24 rfl (by kernel_rfl) rfl ⟨rfl, HZ.out.out (by simp; omega)⟩
theorem sroot_ref (x y : Nat → Nat) (hx : ∀ i, x i < 256) (hy : ∀ i, y i < 256) (w : World) (hp : RefPkg w) :
    Calls Tryd.prog 14 #[rootV x, rootV y] w fun e w' => e = .returned (rootV (shaB (catN 32 x y) 64)) ∧ Below w.heap.size w w' := by
  have HP := Lib.hid hp
  have HX := Lib.hid hx
  have HY := Lib.hid hy
  have HS0 := Lib.hid (HS.nil w)
  clear hp hx hy
  go_enter Tryd.func14, Tryd.ntmps14
  go_wp2_with (first
    | (refine wpList_boxL rfl 24 _ 2 rfl rfl HS0.out 32 (u8v x) rfl ?_; intro b2 w2 hb2 hc2 hs2; have HS2 := Lib.hid hs2; clear hs2)
    | (refine wpList_boxL rfl 24 _ 3 rfl rfl HS2.out 32 (u8v y) rfl ?_; intro b3 w3 hb3 hc3 hs3; have HS3 := Lib.hid hs3; clear hs3)
    | (refine wpList_allocL rfl 24 4 rfl rfl HS3.out (Array.replicate 32 (.int .u8 0)) (by kernel_rfl) 32 (u8v fun _ => 0) (by rfl) (zero_at 32 (.int .u8 0)) ?_; intro b4 w4 hb4 hc4 hs4; have HS4 := Lib.hid hs4; clear hs4)
    | (refine wpList_load_rd rfl 24 _ rfl 32 _ Tryd.underlying24 rfl (by kernel_rfl) ⟨b2, 0, none⟩ rfl (u8v x) (fun i hi => by rw [add_lit0]; exact HS4.out.cell 2 i rfl hi) ?_)
    | (refine wpList_load_rd rfl 24 _ rfl 32 _ Tryd.underlying24 rfl (by kernel_rfl) ⟨b3, 0, none⟩ rfl (u8v y) (fun i hi => by rw [add_lit0]; exact HS4.out.cell 1 i rfl hi) ?_)
    | (go_at_call 30; refine (refTwo_any x y HX.out HY.out _ (HP.out.below (HS4.out.out (by simp; omega)))).mono ?_; rintro e w5 ⟨rfl, hb5⟩; have HS5 := Lib.hid (HS4.out.below hb5); clear hb5)
    | (refine wpList_storeH rfl 24 (.tmp 4) (.tmp 7) rfl HS5.out 0 rfl (u8v (shaB (catN 32 x y) 64)) rfl rfl (by kernel_rfl) (fun _ _ => rfl) ?_; intro wy hs; have HZ := Lib.hid hs; clear hs))
  exact ret_rowIs rfl (HZ.out.row 0 rfl) _ rfl Tryd.underlying24 rfl (by kernel_rfl) rfl ⟨rfl, HZ.out.out (by simp; omega)⟩
end Go.Proofs.YtecgogeebponlaaDoor
/- Steps whose guard says yes. -/
namespace Go.Proofs.YtecgogeebponlaaDoor
set_option maxRecDepth 40000
open Go.RowKit
section
variable {P : Program}
theorem wpList_asG {ops : Array Oper} {rest : List Oper} {o : Oper} {a : Act} {w : World} {Q : Exit → Act → World → Prop} {j : Nat} {want : Bool} {dd : Tmp} (hg : o.guard = some (j, want)) (hj : (ops[j]?).bind (·.dst) = some dd) (hv : a.tmps[dd]? = some (.bool want)) (d : Tmp) (_hd : o.dst = some d) (v : Value) (h : (execOp a.eval o).run P w = .ok (.value v) w) (hK : wpList P ops Q rest (a.put o.dst v) w) : wpList P ops Q (o :: rest) a w :=
  wpList_guarded hg hj hv fun _ hK' => by
    unfold Oper.wp
    rw [h]
    exact hK' _ _ hK
theorem wpList_bs1G {ops : Array Oper} {rest : List Oper} {o : Oper} {a : Act} {w w0 : World} {Q : Exit → Act → World → Prop} {rows : List RowSpec} {j : Nat} {want : Bool} {dd : Tmp} (hg : o.guard = some (j, want)) (hj : (ops[j]?).bind (·.dst) = some dd) (hv : a.tmps[dd]? = some (.bool want)) {t e : TypeId} {z : Nat} (ht : P.underlying t = some (.slice e)) (hz : (P.info? e).map (·.size) = some z) (hlen : z ≤ 16777216) (h0 : 0 < z) {v0 : Value} (hzero : (P.info? e).bind (·.zero) = some v0)
    (x : Operand) (ho : o.op = .buildSlice t 1 #[(0, x)]) (f : Nat → Value) (hx : a.eval x = .agg (arr z f)) (h : HS w0 w rows)
    (hK : ∀ b w', w0.heap.size ≤ b → w.heap.size ≤ b → HS w0 w' (⟨b, e, z, f⟩ :: rows) → wpList P ops Q rest (a.put o.dst (.slice (some ⟨b, 0, none⟩) 1 1)) w') : wpList P ops Q (o :: rest) a w :=
  wpList_guarded hg hj hv fun _ hK' => by
    have hr := run_bsN (P := P) w (t := t) (len := 1) ht hz (by omega) (by omega) hzero #[(0, .agg (arr z f))] f (fun g => by
      rw [show (#[((0 : Nat), Value.agg (arr z f))] : Array (Nat × Value)).toList = [(0, .agg (arr z f))] from rfl, fill_step z (1 * z) 0 f g [] (by omega)]
      show some _ = some _
      exact congrArg some (arr_congr fun i hi => by rw [if_pos (by omega)]; simp))
    rw [Nat.one_mul] at hr
    have hrun : (execOp a.eval o).run P w = .ok (.value (.slice (some ⟨w.heap.size, 0, none⟩) 1 1)) (w.alloc (.cells (arr z f) e)) := by
      unfold execOp
      rw [ho]
      simp only [List.map_toArray, List.map_cons, List.map_nil, hx]
      simp [hr]
    unfold Oper.wp
    rw [hrun]
    exact hK' _ _ (hK _ _ h.size (Nat.le_refl _) (h.alloc (arr z f) e z f (size_arr _ _) (fun i hi => arr_at _ _ i hi)))
end
end Go.Proofs.YtecgogeebponlaaDoor
/- The program is awake: its fixed answers in chapter 16. -/
namespace Go.Proofs.YtecgogeebponlaaDoor
set_option maxRecDepth 40000
open Go.RowKit
namespace SignAwake
abbrev D3 : Nat → Nat := domN 3 (fun _ => 0) (fun _ => 0)
theorem z64 : shaB (fun _ => 0) 64 0 = 245 := by kernel_rfl
theorem d0 : u8v D3 0 = .int .u8 3 := by
  show Value.int .u8 ((leB 3 0 : Nat) : Int) = _
  rw [show leB 3 0 = 3 by decide]; rfl
theorem d4 : u8v D3 4 = .int .u8 245 := by
  show Value.int .u8 ((shaB (catN 32 (padN 4 fun _ => 0) fun _ => 0) 64 0 : Nat) : Int) = _
  rw [shaB_congr (m' := fun _ => 0) (fun i _ => by unfold catN padN; split <;> (try split) <;> rfl), z64]; rfl
theorem s0 : shaB (catN 32 (fun _ => 0) (fun _ => 0)) 64 0 = 245 := by
  rw [shaB_congr (m' := fun _ => 0) (fun i _ => by unfold catN; split <;> rfl), z64]
theorem idx0 (X : Nat → Nat) (w : World) : (Instr.index 24 (rootV X) (.int .i64 0)).run Tryd.prog w = .ok (.int .u8 ((X 0 : Nat) : Int)) w := by kernel_rfl
theorem idx_op {o : Oper} {a : Act} {x : Operand} (X : Nat → Nat) (w : World) (ho : o.op = .index 24 x (.const (.int .i64 0))) (hx : a.eval x = rootV X) : (execOp a.eval o).run Tryd.prog w = .ok (.value (.int .u8 ((X 0 : Nat) : Int))) w := by
  unfold execOp
  rw [ho]
  simp only [hx]
  have h : a.eval (.const (.int .i64 0)) = .int .i64 0 := rfl
  simp [h, idx0]
theorem idx245 {o : Oper} {a : Act} {x : Operand} (w : World) (ho : o.op = .index 24 x (.const (.int .i64 0))) (hx : a.eval x = rootV (shaB (catN 32 (fun _ => 0) (fun _ => 0)) 64)) : (execOp a.eval o).run Tryd.prog w = .ok (.value (.int .u8 245)) w := by
  have h := idx_op _ w ho hx
  rw [s0] at h
  exact h
theorem one_in : inB D3 1 D3 = true := inB_t (j := 0) (by omega) (fun i _ => by rw [show 0 * 32 + i = i by omega])
end SignAwake
open SignAwake in
set_option maxHeartbeats 4000000 in
theorem awake_any (w : World) (hp : ShaPkg w) : Calls Tryd.prog 7 #[] w fun e w' => e = .returned (.bool true) ∧ Below w.heap.size w w' := by
  have HP := Lib.hid hp
  have HS0 := Lib.hid (HS.nil w)
  obtain ⟨D, hD⟩ : ∃ D, D = D3 := ⟨_, rfl⟩
  have HD := Lib.hid (show domN 3 (fun _ => 0) (fun _ => 0) = D from hD.symm)
  have d0' := Lib.hid (show u8v D 0 = .int .u8 3 by rw [hD]; exact d0)
  have d4' := Lib.hid (show u8v D 4 = .int .u8 245 by rw [hD]; exact d4)
  have D1 := Lib.hid (show inB D 1 D = true by rw [hD]; exact one_in)
  clear hp hD
  have tok1 := Tok.mk 1
  go_enter Tryd.func7, Tryd.ntmps7
  go_wp2_with (first
    | (go_at_call 11; refine (deposits_look _ HP.out).mono ?_; rintro e w1 ⟨rfl, hb1⟩; rw [HD.out]; have HS1 := Lib.hid (HS0.out.below hb1); clear hb1)
    | (refine wpList_allocL rfl 24 1 rfl rfl HS1.out (Array.replicate 32 (.int .u8 0)) (by kernel_rfl) 32 (u8v fun _ => 0) (by rfl) (zero_at 32 (.int .u8 0)) ?_; intro b2 w2 hb2 hc2 hs2; have HS2 := Lib.hid hs2; clear hs2)
    | (refine wpList_storeH rfl 24 (.tmp 1) (.tmp 2) rfl HS2.out 0 rfl (u8v D) rfl rfl (by kernel_rfl) (fun _ _ => rfl) ?_; intro w3 hs; have c0 := (hs.cell 0 0 rfl (by show 0 < 32; omega)).trans (congrArg some d0'.out); have c4 := (hs.cell 0 4 rfl (by show 4 < 32; omega)).trans (congrArg some d4'.out); have HS3 := Lib.hid hs; clear hs)
    | (have hx : Tok 1 := (by assumption); refine wpList_load_rdG rfl rfl rfl 24 _ rfl 32 _ Tryd.underlying24 rfl (by kernel_rfl) ⟨b2, 0, none⟩ rfl (u8v D) (fun i hi => by rw [add_lit0]; exact HS3.out.cell 0 i rfl hi) ?_; clear hx)
    | (go_at_call 19; have hx : Tok 1 := (by assumption); clear hx tok1; refine (good_look 0 0 none (fun _ => 0) D _ Rd.none_ (by omega)).mono ?_; rintro e w4 ⟨rfl, hb4⟩; rw [inB_f (fun j h => absurd h (by omega))]; have HS4 := Lib.hid (HS3.out.below hb4); clear hb4; have tok2 := Tok.mk 2)
    | (have hx : Tok 2 := (by assumption); refine wpList_load_rdG rfl rfl rfl 24 _ rfl 32 _ Tryd.underlying24 rfl (by kernel_rfl) ⟨b2, 0, none⟩ rfl (u8v D) (fun i hi => by rw [add_lit0]; exact HS4.out.cell 0 i rfl hi) ?_; clear hx)
    | (have hx : Tok 2 := (by assumption); refine wpList_bs1G rfl rfl rfl Tryd.underlying32 (z := 32) (by kernel_rfl) (by omega) (by omega) (v0 := .agg (Array.replicate 32 (.int .u8 0))) (by kernel_rfl) _ rfl (u8v D) rfl HS4.out ?_; clear hx; intro b5 w5 hb5 hc5 hs5; have HS5 := Lib.hid hs5; clear hs5)
    | (go_at_call 19; have hx : Tok 2 := (by assumption); clear hx tok2; refine (good_look 1 1 (some ⟨b5, 0, none⟩) D D _ (Rd.of_row (HS5.out.row 0 rfl) (by show 1 * 32 ≤ 32; omega) (HS5.out.lt 0 rfl)) (by omega)).mono ?_; rintro e w6 ⟨rfl, hb6⟩; rw [D1.out]; have HS6 := Lib.hid (HS5.out.below hb6); clear hb6)
    | (go_at_call 13; refine (sroot_look (fun _ => 0) (fun _ => 0) (fun _ => by omega) (fun _ => by omega) _ (HP.out.below (HS6.out.out (by simp; omega)))).mono ?_; rintro e w7 ⟨rfl, hb7⟩; have HS7 := Lib.hid (HS6.out.below hb7); clear hb7)
    | (refine wpList_asG rfl rfl rfl 26 rfl (.int .u8 245) ?_ ?_; (· exact idx245 _ rfl rfl)))
  go_ret
  exact ⟨rfl, HS7.out.out (by simp; omega)⟩
end Go.Proofs.YtecgogeebponlaaDoor
/- A region that draws its order, walked by hand: what yields its value in whatever world comes first, then the rest in the one order that is left. -/
namespace Go.Proofs.YtecgogeebponlaaDoor
set_option maxRecDepth 40000
open Go.RowKit
section
variable {P : Program} {ops : Array Oper} {Q : Exit → Act → World → Prop} {md : Region.Mode}
theorem ord_enter {n id : Nat} {a : Act} {w : World} (hm : P.follows .mixedOrders = true) (hn : ops.size = n) (h : wpAny P .any ops Q n (Array.replicate n false) a w.drew) : (Code.region id ops true).wp P Q a w := by
  subst hn
  exact wp_region_any hm h
/-- The one operation that is ready. -/
theorem ord_step {i fuel : Nat} {o : Oper} {listed : Array Bool} {a : Act} {w : World} (hi : ops.toList[i]? = some o) (hr : Region.ready md ops listed = [i]) (hg : o.guard = none)
    (h : ∀ K : Act → World → Prop, (∀ a w, wpAny P md ops Q fuel (listed.setIfInBounds i true) a w → K a w) → o.wp P a w K Q) : wpAny P md ops Q (fuel + 1) listed a w :=
  wpAny_ready (rs := [i]) hr (by simp) (AllReady.cons (by rw [← Array.getElem?_toList]; exact hi) (fun K hK => by rw [if_pos (by simp [Region.wanted, hg])]; exact h K hK) AllReady.nil)
theorem ord_take {i fuel : Nat} {o : Oper} (v : Value) {listed : Array Bool} {a : Act} {w : World} (hi : ops.toList[i]? = some o) (hs : Region.noSelect ops = true) (hf : Region.free md ops listed i = true) (hr : (Region.ready md ops listed).contains i = true) (hg : o.guard = none)
    (hQ : ∀ c a w, Q (.panic c) (a.put o.dst v) w → Q (.panic c) a w) (hy : ∀ w, (execOp a.eval o).run P w = .ok (.value v) w)
    (h : wpAny P md ops Q fuel (listed.setIfInBounds i true) (a.put o.dst v) w) : wpAny P md ops Q (fuel + 1) listed a w :=
  wpAny_take (by rw [← Array.getElem?_toList]; exact hi) hs hf hr hQ (Or.inl ⟨by simp [Region.wanted, hg], hy⟩) h
variable {o : Oper} {a : Act}
theorem ex_move {x : Operand} {v : Value} (ho : o.op = .move x ∨ o.op = .assign x) (hx : a.eval x = v) : ∀ w, (execOp a.eval o).run P w = .ok (.value v) w := fun w => by
  unfold execOp
  rcases ho with ho | ho <;> (rw [ho]; simp only [hx]; simp)
theorem ex_slice {t : TypeId} {x : Operand} {lo hi : Option Operand} {v sv : Value} {l h : Option Value} (ho : o.op = .slice t x lo hi none) (hx : a.eval x = v) (hl : lo.map a.eval = l) (hh : hi.map a.eval = h) (hr : ∀ w, (Instr.sliceAt t v l h none).run P w = .ok sv w) : ∀ w, (execOp a.eval o).run P w = .ok (.value sv) w := fun w => by
  unfold execOp
  rw [ho]
  simp only [hx]
  rw [show lo.map (fun y => a.eval y) = l from hl, show hi.map (fun y => a.eval y) = h from hh]
  simp [hr w]
theorem ex_idx {t : TypeId} {x i : Operand} {v u p : Value} (ho : o.op = .indexAddr t x i) (hx : a.eval x = v) (hi : a.eval i = u) (hr : ∀ w, (Instr.indexAt t v u).run P w = .ok p w) : ∀ w, (execOp a.eval o).run P w = .ok (.value p) w := fun w => by
  unfold execOp
  rw [ho]
  simp only [hx, hi]
  simp [hr w]
theorem ex_fld {t : TypeId} {x : Operand} {k : Nat} {v p : Value} (ho : o.op = .fieldAddr t x k) (hx : a.eval x = v) (hr : ∀ w, (Instr.fieldAt t v k).run P w = .ok p w) : ∀ w, (execOp a.eval o).run P w = .ok (.value p) w := fun w => by
  unfold execOp
  rw [ho]
  simp only [hx]
  simp [hr w]
theorem ex_nil {x : Operand} {ad : Addr} (ho : o.op = .nilCheck x) (hx : a.eval x = .pointer (some ad)) : ∀ w, (execOp a.eval o).run P w = .ok (.value (.pointer (some ad))) w := fun w => by
  unfold execOp
  rw [ho]
  simp only [hx]
  simp [go_sem]
end
end Go.Proofs.YtecgogeebponlaaDoor
/- Questions, by the program and by the reference. (Printed by a program of mine.) -/
namespace Go.Proofs.YtecgogeebponlaaDoor
set_option maxRecDepth 40000
open Go.RowKit
/-- The bytes that a question is the sum of: n keys, a root, a signature. -/
def quN (n : Nat) (x r s : Nat → Nat) : Nat → Nat := catN (n * 48 + 32) (catN (n * 48) x r) s
theorem quN_lt {n : Nat} {x r s : Nat → Nat} (hx : ∀ i, x i < 256) (hr : ∀ i, r i < 256) (hs : ∀ i, s i < 256) : ∀ i, quN n x r s i < 256 := catN_lt (catN_lt hx hr) hs
namespace SignQuest
theorem q1 {n : Nat} {x r s : Nat → Nat} {j : Nat} (hj : j < n) : ∀ i, i < j * 48 + 48 → catN (j * 48) (quN n x r s) (fun q => x (j * 48 + q)) i = (quN n x r s) i := fun i hi => by
  unfold quN
  have h1 : j * 48 + 48 ≤ n * 48 := by omega
  have e : ∀ k, k < n * 48 → catN (n * 48 + 32) (catN (n * 48) x r) s k = x k := fun k hk => by unfold catN; rw [if_pos (by omega), if_pos hk]
  rw [e i (by omega)]
  unfold catN
  by_cases h : i < j * 48
  · rw [if_pos h, if_pos (by omega), if_pos (by omega)]
  · rw [if_neg h]; show x (j * 48 + (i - j * 48)) = x i; rw [show j * 48 + (i - j * 48) = i by omega]
theorem q2 {n : Nat} {x r s : Nat → Nat} : ∀ i, i < n * 48 + 32 → catN (n * 48) (quN n x r s) r i = (quN n x r s) i := fun i hi => by
  unfold quN catN
  by_cases h : i < n * 48
  · rw [if_pos h, if_pos hi, if_pos h]
  · rw [if_neg h, if_pos hi, if_neg h]
theorem q3 {n : Nat} {x r s : Nat → Nat} : ∀ i, i < n * 48 + 32 + 96 → catN (n * 48 + 32) (quN n x r s) s i = (quN n x r s) i := fun i _ => by
  unfold quN catN
  by_cases h : i < n * 48 + 32
  · rw [if_pos h, if_pos h]
  · rw [if_neg h, if_neg h]
theorem q0 {n : Nat} {x r s : Nat → Nat} : ∀ i, i < n * 48 → x i = (quN n x r s) i := fun i hi => by
  unfold quN catN; rw [if_pos (by omega), if_pos hi]
theorem f1 {n : Nat} {x r s : Nat → Nat} {j : Nat} (hj : j < n) : ∀ i, i < (j + 1) * 48 → catF (j * 48) (u8v (quN n x r s)) (u8v fun q => x (j * 48 + q)) i = u8v (quN n x r s) i := fun i hi => by
  have := q1 (x := x) (r := r) (s := s) hj i (by omega)
  simp only [catF, u8v, catN] at this ⊢
  split
  · rfl
  · rename_i h; rw [if_neg h] at this; rw [this]
theorem f2 {n : Nat} {x r s : Nat → Nat} : ∀ i, i < n * 48 + 32 → catF (n * 48) (u8v (quN n x r s)) (u8v r) i = u8v (quN n x r s) i := fun i hi => by
  have := q2 (x := x) (r := r) (s := s) i hi
  simp only [catF, u8v, catN] at this ⊢
  split
  · rfl
  · rename_i h; rw [if_neg h] at this; rw [this]
theorem f3 {n : Nat} {x r s : Nat → Nat} : ∀ i, i < n * 48 + 32 + 96 → catF (n * 48 + 32) (u8v (quN n x r s)) (u8v s) i = u8v (quN n x r s) i := fun i hi => by
  have := q3 (x := x) (r := r) (s := s) i hi
  simp only [catF, u8v, catN] at this ⊢
  split
  · rfl
  · rename_i h; rw [if_neg h] at this; rw [this]
theorem u8_info : (Tryd.prog.info? 5).map (fun i => (i.zero, i.size, i.bytes)) = some (some (.int .u8 0), 1, 1) := by kernel_rfl
end SignQuest
open SignQuest in
set_option maxHeartbeats 4000000 in
theorem question_look (n c : Nat) (A : Option Addr) (x r s : Nat → Nat) (w : World) (hb : Rd w w.heap.size A (n * 48) (u8v x)) (hx : ∀ i, x i < 256) (hr : ∀ i, r i < 256) (hss : ∀ i, s i < 256) (hn : n * 48 ≤ 140737488355200) (hp : ShaPkg w) :
    Calls Tryd.prog 17 #[.slice A n c, rootV r, .agg (arr 96 (u8v s))] w fun e w' => e = .returned (rootV (shaB (quN n x r s) (n * 48 + 32 + 96))) ∧ Below w.heap.size w w' := by
  have HP := Lib.hid hp
  have HB := Lib.hid hb
  have HX := Lib.hid hx
  have HR := Lib.hid hr
  have HSg := Lib.hid hss
  have HM := Lib.hid (quN_lt (n := n) hx hr hss)
  have HS0 := Lib.hid (HS.nil w)
  have hlt := hp.lt
  clear hp hb hx hr hss
  go_enter Tryd.func17, Tryd.ntmps17
  go_wp2_with (first
    | (refine wpList_boxL rfl 24 _ 4 rfl rfl HS0.out 32 (u8v r) rfl ?_; intro b4 w4 hb4 hc4 hs4; have HS4 := Lib.hid hs4; clear hs4)
    | (refine wpList_boxL rfl 56 _ 5 rfl rfl HS4.out 96 (u8v s) rfl ?_; intro b5 w5 hb5 hc5 hs5; have HS5 := Lib.hid hs5; clear hs5)
    | (refine wpList_allocL rfl 24 6 rfl rfl HS5.out (Array.replicate 32 (.int .u8 0)) (by kernel_rfl) 32 (u8v fun _ => 0) (by rfl) (zero_at 32 (.int .u8 0)) ?_; intro b6 w6 hb6 hc6 hs6; have HS6 := Lib.hid hs6; clear hs6)
    | (go_at_call 22; refine (new_any _ (HP.out.below (HS6.out.out (by simp; omega))) (quN n x r s)).mono ?_; rintro e w7 ⟨g, rfl, hg7, hrow7, hbel7⟩; have hgw : w6.heap.size ≤ g := hg7; have HD7 := Lib.hid (dig_new (quN n x r s) hrow7); have HS7 := Lib.hid (HS6.out.below hbel7); clear hrow7 hbel7))
  have hne : ∀ r' ∈ ([⟨b6, 24, 32, u8v fun _ => 0⟩, ⟨b5, 56, 96, u8v s⟩, ⟨b4, 24, 32, u8v r⟩] : List RowSpec), r'.b ≠ g := by
    have l6 := HS6.out.lt 0 rfl
    have l5 := HS6.out.lt 1 rfl
    have l4 := HS6.out.lt 2 rfl
    simp; omega
  have hgW : w.heap.size ≤ g := Nat.le_trans HS6.out.size hgw
  have HNe := Lib.hid hne
  clear hne
  go_loopw [13] (fun i wr => ∃ j : Nat, i = .int .i64 (j : Int) ∧ j ≤ n ∧ Dig wr g (quN n x r s) (j * 48) ∧ HS w wr [⟨b6, 24, 32, u8v fun _ => 0⟩, ⟨b5, 56, 96, u8v s⟩, ⟨b4, 24, 32, u8v r⟩]) (fun i _ => n - (intOf i).toNat)
  case atStart => exact ⟨0, rfl, by omega, by rw [Nat.zero_mul]; exact HD7.out, HS7.out⟩
  case round =>
    clear HD7 HS7
    obtain ⟨j, rfl, hj, hd, hs⟩ := hrel
    have HD := Lib.hid hd
    have HSr := Lib.hid hs
    clear hd hs
    by_cases hjn : j < n
    · obtain ⟨ad, hA, hblk, _⟩ := HB.out (show 0 < n * 48 by omega)
      subst hA
      have HC := Lib.hid (HB.out.below (HSr.out.out (by simp; omega)))
      have HN := Lib.hid (HS.nil wr)
      have hgl := HD.out.lt
      go_wp2_with (first
        | (refine wpList_load_rd rfl 44 _ rfl 48 _ Tryd.underlying44 rfl (by kernel_rfl) (ad.add (j * 48)) rfl (u8v fun q => x (j * 48 + q)) (fun q hq => by rw [add_add]; exact HC.out.cells (by omega)) ?_)
        | (refine wpList_allocL rfl 44 9 rfl rfl HN.out (Array.replicate 48 (.int .u8 0)) (by kernel_rfl) 48 (u8v fun _ => 0) (by rfl) (zero_at 48 (.int .u8 0)) ?_; intro b9 w9 hb9 hc9 hs9; have HS9 := Lib.hid hs9; clear hs9)
        | (refine wpList_storeH rfl 44 (.tmp 9) (.tmp 16) rfl HS9.out 0 rfl (u8v fun q => x (j * 48 + q)) rfl rfl (by kernel_rfl) (fun _ _ => rfl) ?_; intro wa hs; have HA := Lib.hid hs; clear hs)
        | (go_at_call 23
           refine (write_any g (j * 48) 48 48 (some ⟨b9, 0, none⟩) (quN n x r s) (fun q => x (j * 48 + q)) _ (HD.out.below (HA.out.out (by simp; omega)) hgl) (Rd.of_row (HA.out.row 0 rfl) (Nat.le_refl _) (HA.out.lt 0 rfl)) (fun _ ad e => by injection e with e; subst e; show b9 ≠ g; omega) (fun i => HX.out _) HM.out (by omega) (Nat.le_refl _) (HP.out.below ((HSr.out.below (HA.out.out (by simp; omega))).out (by simp; omega))) ⟨by omega, by omega⟩).mono ?_
           rintro e wb ⟨rfl, hd, hg⟩; have HDb := Lib.hid (hd.congr (q1 hjn)); have HSb := Lib.hid ((HSr.out.below (HA.out.out (by simp; omega))).other hg hgW HNe.out); clear hd hg))
      go_roundw
      case rel => exact ⟨j + 1, by go_num, by omega, by rw [show (j + 1) * 48 = j * 48 + 48 by omega]; exact HDb.out, HSb.out⟩
      case measure => simp [intOf]; omega
    · obtain rfl : j = n := by omega
      have hgl := HD.out.lt
      have tok1 := Tok.mk 1
      go_wp2_with (first
        | (go_at_call 23; have hx : Tok 1 := (by assumption); clear hx tok1
           refine (write_any g (j * 48) 32 32 (some ⟨b4, 0, none⟩) (quN j x r s) r _ HD.out (Rd.of_row (HSr.out.row 2 rfl) (Nat.le_refl _) (HSr.out.lt 2 rfl)) (fun _ ad e => by injection e with e; subst e; exact HNe.out _ (List.mem_of_getElem? (i := 2) rfl)) HR.out HM.out (by omega) (Nat.le_refl _) (HP.out.below (HSr.out.out (by simp; omega))) ⟨by omega, by omega⟩).mono ?_
           rintro e wb ⟨rfl, hd, hg⟩; have HDb := Lib.hid (hd.congr q2); have HSb := Lib.hid (HSr.out.other hg hgW HNe.out); clear hd hg; have tok2 := Tok.mk 2)
        | (go_at_call 23; have hx : Tok 2 := (by assumption); clear hx tok2
           refine (write_any g (j * 48 + 32) 96 96 (some ⟨b5, 0, none⟩) (quN j x r s) s _ HDb.out (Rd.of_row (HSb.out.row 1 rfl) (Nat.le_refl _) (HSb.out.lt 1 rfl)) (fun _ ad e => by injection e with e; subst e; exact HNe.out _ (List.mem_of_getElem? (i := 1) rfl)) HSg.out HM.out (by omega) (Nat.le_refl _) (HP.out.below (HSb.out.out (by simp; omega))) ⟨by omega, by omega⟩).mono ?_
           rintro e wc ⟨rfl, hd, hg⟩; have HDc := Lib.hid (hd.congr q3); have HSc := Lib.hid (HSb.out.other hg hgW HNe.out); clear hd hg)
        | (go_at_call 24; refine (sumd_any g (j * 48 + 32 + 96) (quN j x r s) _ HDc.out HM.out (HP.out.below (HSc.out.out (by simp; omega)))).mono ?_; rintro e wd ⟨rfl, hbd⟩; have HSd := Lib.hid (HSc.out.below hbd); clear hbd)
        | (refine wpList_storeH rfl 24 (.tmp 6) (.tmp 28) rfl HSd.out 0 rfl (u8v (shaB (quN j x r s) (j * 48 + 32 + 96))) rfl rfl (by kernel_rfl) (fun _ _ => rfl) ?_; intro we hs; have HZ := Lib.hid hs; clear hs))
      exact ret_rowIs rfl (HZ.out.row 0 rfl) _ rfl Tryd.underlying24 rfl (by kernel_rfl) rfl ⟨rfl, HZ.out.out (by simp; omega)⟩
open SignQuest in
set_option maxHeartbeats 4000000 in
theorem question_ref (n c : Nat) (A : Option Addr) (x r s : Nat → Nat) (w : World) (hb : Rd w w.heap.size A (n * 48) (u8v x)) (hx : ∀ i, x i < 256) (hr : ∀ i, r i < 256) (hss : ∀ i, s i < 256) (hn : n * 48 ≤ 140737488355000) (hp : RefPkg w) :
    Calls Tryd.prog 18 #[.slice A n c, rootV r, .agg (arr 96 (u8v s))] w fun e w' => e = .returned (rootV (shaB (quN n x r s) (n * 48 + 32 + 96))) ∧ Below w.heap.size w w' := by
  have HP := Lib.hid hp
  have HB := Lib.hid hb
  have HM := Lib.hid (quN_lt (n := n) hx hr hss)
  have HS0 := Lib.hid (HS.nil w)
  clear hp hb hx hr hss
  go_enter Tryd.func18, Tryd.ntmps18
  go_wp2_with (first
    | (refine wpList_boxL rfl 24 _ 4 rfl rfl HS0.out 32 (u8v r) rfl ?_; intro b4 w4 hb4 hc4 hs4; have HS4 := Lib.hid hs4; clear hs4)
    | (refine wpList_boxL rfl 56 _ 5 rfl rfl HS4.out 96 (u8v s) rfl ?_; intro b5 w5 hb5 hc5 hs5; have HS5 := Lib.hid hs5; clear hs5)
    | (refine wpList_allocL rfl 24 6 rfl rfl HS5.out (Array.replicate 32 (.int .u8 0)) (by kernel_rfl) 32 (u8v fun _ => 0) (by rfl) (zero_at 32 (.int .u8 0)) ?_; intro b6 w6 hb6 hc6 hs6; have HS6 := Lib.hid hs6; clear hs6))
  have h6w := HS6.out.size
  have l6 := HS6.out.lt 0 rfl
  have l5 := HS6.out.lt 1 rfl
  have l4 := HS6.out.lt 2 rfl
  go_loopw [7, 8] (fun v i wr => ∃ (j : Nat) (C : Option Addr) (cC : Nat), v = .slice C (j * 48) cC ∧ i = .int .i64 (j : Int) ∧ j ≤ n ∧ Own wr w6.heap.size 5 C (j * 48) cC (u8v (quN n x r s)) ∧ Below w6.heap.size w6 wr) (fun _ i _ => n - (intOf i).toNat)
  case atStart => exact ⟨0, none, 0, rfl, rfl, by omega, Own.nil _ _ _ _, Below.refl _ _⟩
  case round =>
    obtain ⟨j, C, cC, rfl, rfl, hj, ho, hbw⟩ := hrel
    have HO := Lib.hid ho
    have HW := Lib.hid hbw
    have hsz := hbw.size
    clear ho hbw
    by_cases hjn : j < n
    · obtain ⟨ad, hA, hblk, _⟩ := HB.out (show 0 < n * 48 by omega)
      subst hA
      have HC := Lib.hid (HB.out.below ((HS6.out.out (by simp; omega)).trans (HW.out.mono h6w)))
      go_wp2_with (first
        | (refine wpList_as rfl 19 rfl (.slice (some (ad.add (j * 48))) 48 48) ?_ ?_; (· exact ex_slice rfl rfl rfl rfl (fun w => by simp [Instr.sliceAt, go_sem, run_underlying Tryd.underlying44]) _))
        | (at_builtin; refine wpList_app _ (.tmp 15) (.tmp 19) 39 w6.heap.size u8_info Tryd.underlying39 rfl rfl rfl ((j + 1) * 48) (u8v (quN n x r s)) rfl rfl HO.out (fun _ => ⟨ad.add (j * 48), rfl, by rw [add_blk]; exact hblk, fun q hq => by rw [add_add]; exact HC.out.cells (by omega)⟩ : Rd _ w.heap.size _ 48 (u8v fun q => x (j * 48 + q))) (fun _ _ => rfl) (by omega) (f1 hjn) ⟨by omega, by omega⟩ hsz ?_; intro A20 c20 w20 ho20 hg20 ha20; have HO20 := Lib.hid ho20; have HB20 := Lib.hid (below_app HW.out hg20 hsz (fun ad e => (HO.out.base_le ad e).1)); clear ho20 hg20 ha20))
      go_roundw
      case rel => exact ⟨j + 1, A20, c20, rfl, by go_num, by omega, HO20.out, HB20.out⟩
      case measure => simp [intOf]; omega
    · obtain rfl : j = n := by omega
      go_wp2_with fail
      have hwd : Below w6.heap.size w6 wr.drew := ⟨HW.out.os, HW.out.tape, HW.out.output, HW.out.size, HW.out.block⟩
      have hod : Own wr.drew w6.heap.size 5 C (j * 48) cC (u8v (quN j x r s)) := HO.out
      have hsd : w6.heap.size ≤ wr.drew.heap.size := hsz
      refine ord_enter (n := 7) (by kernel_rfl) (by kernel_rfl) ?_
      generalize wr.drew = wv at hwd hod hsd ⊢
      clear HW HO hsz
      refine ord_take (i := 0) (.slice C (j * 48) cC) rfl (by kernel_rfl) (by kernel_rfl) (by kernel_rfl) rfl (fun _ _ _ h => h) (ex_move (.inl rfl) rfl) ?_
      refine ord_take (i := 1) (.slice (some ⟨b4, 0, none⟩) 32 32) rfl (by kernel_rfl) (by kernel_rfl) (by kernel_rfl) rfl (fun _ _ _ h => h) (ex_slice rfl rfl rfl rfl (fun w => cut_arr Tryd.underlying24 1 (by kernel_rfl) none none 0 32 (.inl ⟨rfl, rfl⟩) (.inl ⟨rfl, rfl⟩) (by omega) (by omega) (by omega) (by omega) (by omega) (by omega))) ?_
      refine ord_take (i := 3) (.slice (some ⟨b5, 0, none⟩) 96 96) rfl (by kernel_rfl) (by kernel_rfl) (by kernel_rfl) rfl (fun _ _ _ h => h) (ex_slice rfl rfl rfl rfl (fun w => cut_arr Tryd.underlying56 1 (by kernel_rfl) none none 0 96 (.inl ⟨rfl, rfl⟩) (.inl ⟨rfl, rfl⟩) (by omega) (by omega) (by omega) (by omega) (by omega) (by omega))) ?_
      simp only [Act.put, List.setIfInBounds_toArray, List.set_cons_succ, List.set_cons_zero]
      refine ord_step (i := 2) rfl (by kernel_rfl) rfl (fun K hK => ?_)
      have hs := HS6.out.below hwd
      refine wp_app wv (.tmp 21) (.tmp 22) 39 rfl w6.heap.size 5 _ _ 1 Tryd.underlying39 (info_parts u8_info).choose_spec.1 (info_parts u8_info).choose_spec.2.1 (info_parts u8_info).choose_spec.2.2.1 (info_parts u8_info).choose_spec.2.2.2 rfl rfl rfl hod (Rd.of_row (hs.row 2 rfl) (Nat.le_refl _) (hs.lt 2 rfl)) (fun _ _ => rfl) ⟨by show j * 48 + 32 ≤ _; omega, by show (j * 48 + 32) * 1 ≤ _; omega⟩ hsd ?_
      intro A23 c23 wa ho hg _
      have hwa := below_app hwd hg hsd (fun ad e => (hod.base_le ad e).1)
      have hoa := ho.congr f2
      clear ho hg hs hwd hod hsd
      refine hK _ _ ?_
      clear hK
      simp only [Act.put, List.setIfInBounds_toArray, List.set_cons_succ, List.set_cons_zero]
      refine ord_step (i := 4) rfl (by kernel_rfl) rfl (fun K hK => ?_)
      have hs := HS6.out.below hwa
      refine wp_app wa (.tmp 23) (.tmp 24) 39 rfl w6.heap.size 5 _ _ 1 Tryd.underlying39 (info_parts u8_info).choose_spec.1 (info_parts u8_info).choose_spec.2.1 (info_parts u8_info).choose_spec.2.2.1 (info_parts u8_info).choose_spec.2.2.2 rfl rfl rfl hoa (Rd.of_row (hs.row 1 rfl) (Nat.le_refl _) (hs.lt 1 rfl)) (fun _ _ => rfl) ⟨by show j * 48 + 32 + 96 ≤ _; omega, by show (j * 48 + 32 + 96) * 1 ≤ _; omega⟩ hwa.size ?_
      intro A25 c25 wb ho hg _
      have hwb := below_app hwa hg hwa.size (fun ad e => (hoa.base_le ad e).1)
      have hob := ho.congr f3
      clear ho hg hs hwa hoa
      refine hK _ _ ?_
      clear hK
      simp only [Act.put, List.setIfInBounds_toArray, List.set_cons_succ, List.set_cons_zero]
      refine ord_step (i := 5) rfl (by kernel_rfl) rfl (fun K hK => ?_)
      have hs := HS6.out.below hwb
      refine wp_fn ent_refSum #[.slice A25 (j * 48 + 32 + 96) c25] rfl rfl ?_
      refine (refSum_any (j * 48 + 32 + 96) c25 A25 (quN j x r s) wb hob.rd HM.out (by omega) (HP.out.below (hs.out (by simp; omega)))).mono ?_
      rintro e wc ⟨rfl, hbc⟩
      have hsc := hs.below hbc
      clear hs hbc hob hwb
      refine ⟨_, rfl, hK _ _ ?_⟩
      clear hK
      simp only [Act.put, List.setIfInBounds_toArray, List.set_cons_succ, List.set_cons_zero]
      refine ord_step (i := 6) rfl (by kernel_rfl) rfl (fun K hK => ?_)
      refine wp_storeL 24 (.tmp 6) (.tmp 26) rfl hsc 0 rfl (u8v (shaB (quN j x r s) (j * 48 + 32 + 96))) rfl rfl (by kernel_rfl) (fun _ _ => rfl) ?_
      clear hsc
      intro wd hs
      have HZ := Lib.hid hs
      clear hs
      refine hK _ _ (wpAny_done (by kernel_rfl) ?_ _)
      clear hK
      simp only [Act.put]
      go_wp2_with fail
      exact ret_rowIs rfl (HZ.out.row 0 rfl) _ rfl Tryd.underlying24 rfl (by kernel_rfl) rfl ⟨rfl, HZ.out.out (by simp; omega)⟩
end Go.Proofs.YtecgogeebponlaaDoor
/- The functions of package look, and of its reference. -/
namespace Go.Proofs.YtecgogeebponlaaDoor
set_option maxRecDepth 40000
open Go.RowKit

def actB (a e x : Nat) : Bool := decide (a ≤ e ∧ e < x)
theorem actB_t {a e x : Nat} (h : (a : Int) ≤ (e : Int)) : decide (e < x) = actB a e x := by
  unfold actB; exact decide_eq_decide.2 (by omega)
theorem actB_f {a e x : Nat} (h : (e : Int) < (a : Int)) : false = actB a e x := by
  unfold actB; exact (decide_eq_false (by omega)).symm
def slshB (s : Bool) (a e x : Nat) : Bool := !s && actB a e x
/-- May it be an epoch of a validator? -/
def epB (e : Nat) : Bool := decide (e = 18446744073709551615 ∨ e < 2199023255552)
theorem epoch_any (e : Nat) (w : World) : Calls Tryd.prog 25 #[.int .u64 (e : Int)] w fun r w' => r = .returned (.bool (epB e)) ∧ w' = w := by
  by_cases h1 : e = 18446744073709551615
  · have h : ((e : Int) == 18446744073709551615) = true := by rw [beq_iff_eq]; omega
    go_enter Tryd.func25, Tryd.ntmps25
    go_wp2
    go_ret
    exact ⟨ret_bool (decide_eq_true (.inl h1)).symm, rfl⟩
  · have h : ((e : Int) == 18446744073709551615) = false := by rw [beq_eq_false_iff_ne]; omega
    have h2 : decide ((e : Int) < 2199023255552) = epB e := decide_eq_decide.2 (by omega)
    have H1 := Lib.hid h2
    clear h1 h2
    go_enter Tryd.func25, Tryd.ntmps25
    go_wp2
    go_ret
    exact ⟨ret_bool H1.out, rfl⟩

/-- No number above a bound, nor their sum. -/
def sumTo (z : Nat → Nat) : Nat → Nat
  | 0 => 0
  | n + 1 => sumTo z n + z n
theorem sumTo_le {z : Nat → Nat} {n m : Nat} (h : n ≤ m) : sumTo z n ≤ sumTo z m := by
  induction h with
  | refl => exact Nat.le_refl _
  | step _ ih => exact Nat.le_trans ih (Nat.le_add_right _ _)
def sumB (z : Nat → Nat) (n : Nat) : Bool := decide (sumTo z n ≤ 144115188075855872)
theorem sumB_f {z : Nat → Nat} {n k u : Nat} (h : sumTo z (k + 1) = u) (hu : 144115188075855872 < u) (hk : k < n) : false = sumB z n := by
  have := sumTo_le (z := z) (show k + 1 ≤ n from hk)
  exact (decide_eq_false (by omega)).symm
theorem sum_any (A : Option Addr) (n c : Nat) (z : Nat → Nat) (w : World) (B : Nat) (hr : Rd w B A n (fun i => .int .u64 ((z i : Nat) : Int))) (hz : ∀ i, i < n → z i < 18446744073709551616) (hn : n ≤ maxLen) :
    Calls Tryd.prog 26 #[.slice A n c] w fun r w' => r = .returned (.bool (sumB z n)) ∧ w' = w := by
  have HR := Lib.hid hr
  have HZ := Lib.hid hz
  unfold maxLen at hn
  clear hr hz
  go_enter Tryd.func26, Tryd.ntmps26
  go_wp2_with fail
  go_loopw [3, 4] (fun t i wr => ∃ k : Nat, t = .int .u64 ((sumTo z k : Nat) : Int) ∧ i = .int .i64 (k : Int) ∧ k ≤ n ∧ sumTo z k ≤ 144115188075855872 ∧ wr = w) (fun _ i _ => n - (intOf i).toNat)
  case atStart => exact ⟨0, rfl, rfl, Nat.zero_le _, Nat.zero_le _, rfl⟩
  case round =>
    obtain ⟨k, rfl, rfl, hk, hs, rfl⟩ := hrel
    by_cases h1 : k < n
    · obtain ⟨ad, rfl, hb, hc⟩ := HR.out.at_ h1
      have hzk := HZ.out k h1
      have hst : sumTo z (k + 1) = sumTo z k + z k := rfl
      generalize z k = y at *
      generalize sumTo z k = t at *
      have HST := Lib.hid hst
      clear hst
      by_cases h2 : y ≤ 144115188075855872
      · by_cases h3 : t + y ≤ 144115188075855872
        · go_wp2_with fail
          go_roundw
          case rel => exact ⟨k + 1, by rw [HST.out]; go_num, by go_num, by omega, by rw [HST.out]; exact h3, True.intro⟩
          case measure => simp [intOf]; omega
        · go_wp2_with fail
          go_ret
          exact ⟨ret_bool (sumB_f HST.out (by omega) h1), rfl⟩
      · go_wp2_with fail
        go_ret
        exact ⟨ret_bool (sumB_f HST.out (by omega) h1), rfl⟩
    · obtain rfl : n = k := by omega
      go_wp2_with fail
      go_ret
      exact ⟨ret_bool (decide_eq_true hs).symm, rfl⟩

def sameB (x y : Nat → Nat) (n m : Nat) : Bool := decide (n = m ∧ ∀ i, i < n → x i = y i)
end Go.Proofs.YtecgogeebponlaaDoor
/- The sums of package look, and of its reference. -/
namespace Go.Proofs.YtecgogeebponlaaDoor
set_option maxRecDepth 40000
open Go.RowKit

/-- The validators of a state that lies as F. -/
structure VOk (w : World) (B : Nat) (F : Nat → Value) (A : Option Addr) (n c : Nat) (V : Nat → Value) : Prop where
  f : F 721 = .slice A n c
  rd : Rd w B A (n * 86) V
  sc : ∀ i, i < n → Sc (fun q => V (i * 86 + q)) 73
  le : n ≤ maxLen
theorem StOk.vok {w : World} {B : Nat} {s : StV} (h : StOk w B s) : VOk w B s.F s.aV s.nV s.cV s.V := ⟨h.f11, h.rV, h.scV, by have := h.lV; omega⟩
section
variable {w w' : World} {B : Nat} {F : Nat → Value} {A : Option Addr} {n c : Nat} {V : Nat → Value}
theorem VOk.below (h : VOk w B F A n c V) (hb : Below B w w') : VOk w' B F A n c V := ⟨h.f, h.rd.below hb, h.sc, h.le⟩
theorem VOk.more {B' : Nat} (h : VOk w B F A n c V) (hB : B ≤ B') : VOk w B' F A n c V := ⟨h.f, h.rd.more hB, h.sc, h.le⟩
theorem VOk.at_ (h : VOk w B F A n c V) {i : Nat} (hi : i < n) : ∃ ad, A = some ad ∧ ad.block < B ∧ (∀ q, q < 86 → w.cell? ((ad.add (i * 86)).add q) = some (V (i * 86 + q))) ∧ ∀ q, 0 < q → q < 86 → w.cell? ⟨(ad.add (i * 86)).block, (ad.add (i * 86)).off + q, none⟩ = some (V (i * 86 + q)) := by
  obtain ⟨ad, e, hb, hc⟩ := h.rd (by omega)
  have h1 : ∀ q, q < 86 → w.cell? ((ad.add (i * 86)).add q) = some (V (i * 86 + q)) := fun q hq => by
    rw [add_of_add]
    exact hc _ (by omega)
  refine ⟨ad, e, hb, h1, fun q h0 hq => ?_⟩
  rw [← h1 q hq]
  congr 1
  generalize ad.add (i * 86) = b
  unfold Addr.add
  rw [if_neg (by omega)]
end
def effF (V : Nat → Value) (i : Nat) : Nat := nat (V (i * 86 + 80))
/-- What the validator at an index weighs. -/
def wt (V : Nat → Value) (n j : Nat) : Nat := if j < n then effF V j else 0
def totB (t : Nat) : Nat := if t < 1000000000 then 1000000000 else t
theorem totB_max (t : Nat) : ((totB t : Nat) : Int) = if ((t : Nat) : Int) < 1000000000 then 1000000000 else ((t : Nat) : Int) := by
  unfold totB
  by_cases h : t < 1000000000
  · rw [if_pos h, if_pos (by omega)]; rfl
  · rw [if_neg h, if_neg (by omega)]
theorem sumTo_small {z : Nat → Nat} {k : Nat} (h : ∀ i, i < k → z i ≤ 32000000000) : sumTo z k ≤ k * 32000000000 := by
  induction k with
  | zero => exact Nat.zero_le _
  | succ k ih =>
    have h1 := ih fun i hi => h i (by omega)
    have h2 := h k (Nat.lt_succ_self k)
    show sumTo z k + z k ≤ _
    omega
theorem wt_le {V : Nat → Value} {n : Nat} (h : ∀ i, i < n → effF V i ≤ 32000000000) (j : Nat) : wt V n j ≤ 32000000000 := by
  unfold wt
  split
  · exact h j ‹_›
  · exact Nat.zero_le _

def isAct (V : Nat → Value) (e i : Nat) : Bool := actB (nat (V (i * 86 + 83))) e (nat (V (i * 86 + 84)))
def aw (V : Nat → Value) (e i : Nat) : Nat := if isAct V e i then effF V i else 0
def ac (V : Nat → Value) (e i : Nat) : Nat := if isAct V e i then 1 else 0
def actIx (V : Nat → Value) (e n : Nat) : List Nat := (List.range n).filter (isAct V e)
def ax (V : Nat → Value) (e n : Nat) : Nat → Nat := fun j => (actIx V e n).getD j 0
theorem actIx_t {V : Nat → Value} {e n : Nat} (h : isAct V e n = true) : actIx V e (n + 1) = actIx V e n ++ [n] := by
  unfold actIx; rw [List.range_succ, List.filter_append]; simp [h]
theorem actIx_f {V : Nat → Value} {e n : Nat} (h : isAct V e n = false) : actIx V e (n + 1) = actIx V e n := by
  unfold actIx; rw [List.range_succ, List.filter_append]; simp [h]
theorem actIx_len (V : Nat → Value) (e n : Nat) : (actIx V e n).length = sumTo (ac V e) n := by
  induction n with
  | zero => rfl
  | succ n ih =>
    show _ = sumTo (ac V e) n + ac V e n
    cases h : isAct V e n with
    | true => rw [actIx_t h, List.length_append, ih]; simp [ac, h]
    | false => rw [actIx_f h, ih]; simp [ac, h]
theorem actIx_le (V : Nat → Value) (e n : Nat) : (actIx V e n).length ≤ n := by
  have := List.length_filter_le (isAct V e) (List.range n)
  simpa [actIx] using this
theorem actIx_lt {V : Nat → Value} {e n j : Nat} (h : j ∈ actIx V e n) : j < n := by
  unfold actIx at h; exact List.mem_range.1 (List.mem_filter.1 h).1
theorem ax_lt {V : Nat → Value} {e n j : Nat} (h : j < (actIx V e n).length) : ax V e n j < n := by
  refine actIx_lt (V := V) (e := e) ?_
  unfold ax
  rw [show (actIx V e n).getD j 0 = (actIx V e n)[j] by simp [List.getD, h]]
  exact List.getElem_mem h
theorem sumTo_congr {y z : Nat → Nat} {n : Nat} (h : ∀ i, i < n → y i = z i) : sumTo y n = sumTo z n := by
  induction n with
  | zero => rfl
  | succ n ih => show sumTo y n + y n = sumTo z n + z n; rw [ih fun i hi => h i (by omega), h n (by omega)]
theorem sumTo_ax (V : Nat → Value) (e : Nat) {N : Nat} : ∀ n, n ≤ N → sumTo (fun k => wt V N (ax V e n k)) (actIx V e n).length = sumTo (aw V e) n
  | 0, _ => rfl
  | n + 1, h => by
    have ih := sumTo_ax V e (N := N) n (by omega)
    show _ = sumTo (aw V e) n + aw V e n
    cases hc : isAct V e n with
    | true =>
      have e1 : (actIx V e (n + 1)).length = (actIx V e n).length + 1 := by rw [actIx_t hc, List.length_append]; rfl
      rw [e1]
      show sumTo _ (actIx V e n).length + wt V N (ax V e (n + 1) (actIx V e n).length) = _
      have e2 : ax V e (n + 1) (actIx V e n).length = n := by unfold ax; rw [actIx_t hc]; simp [List.getD]
      rw [e2, ← ih]
      refine congr (congrArg _ (sumTo_congr fun i hi => ?_)) ?_
      · congr 1
        unfold ax
        rw [actIx_t hc]
        simp only [List.getD]
        rw [List.getElem?_append_left hi]
      · simp only [wt, aw, hc, if_true]; rw [if_pos (show n < N by omega)]
    | false =>
      have e1 : ax V e (n + 1) = ax V e n := by unfold ax; rw [actIx_f hc]
      rw [e1, actIx_f hc, ih]
      simp [aw, hc]
theorem ax_cat {V : Nat → Value} {e n : Nat} (h : isAct V e n = true) : ∀ i, i < (actIx V e n).length + 1 → catF (actIx V e n).length (fun j => .int .u64 ((ax V e n j : Nat) : Int)) (fun _ => .int .u64 ((n : Nat) : Int)) i = .int .u64 ((ax V e (n + 1) i : Nat) : Int) := fun i hi => by
  unfold catF ax
  rw [actIx_t h]
  simp only [List.getD]
  by_cases h1 : i < (actIx V e n).length
  · rw [if_pos h1, List.getElem?_append_left h1]
  · rw [if_neg h1, List.getElem?_append_right (by omega), show i - (actIx V e n).length = 0 by omega]; simp
end Go.Proofs.YtecgogeebponlaaDoor
