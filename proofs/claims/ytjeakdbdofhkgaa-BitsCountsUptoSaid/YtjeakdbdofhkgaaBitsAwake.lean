/- awake of layer 4 returns true. -/
import Derived.Test.YtjeakdbdofhkgaaBitsRef
namespace Go.Proofs.Ytjeakdbdofhkgaa
open Go.RowKit

/-- Bytes of a row to a string that is known. -/
theorem conv_row (w : World) {g n : Nat} {x : Nat → Bool} {m c : Nat} (h : w.rowIs g 5 n (laid x m)) : (convert 25 9 (.slice (some ⟨g, 0, none⟩) n c)).run Try.prog w = .ok (.string (strF n (byteOf x m))) w :=
  run_convert_rd w _ _ 5 Try.underlying25 Try.underlying5 Try.underlying9 (byteOf x m) (Rd.of_row h (Nat.le_refl _) h.lt)

set_option maxHeartbeats 1000000 in
theorem awake_any (w : World) : Calls Try.prog 7 #[] w fun e w' => e = .returned (.bool true) ∧ Below w.heap.size w w' := by
  have Hr := Lib.hid (fun W B A h hB => readList_any B 1 1 8 A (fun _ => 13) W h hB (by intro _; omega) (by omega) (by omega))
  have E1 : rlErr (fun _ => 13) 1 8 = 0 := by decide
  have E2 : rlLen (fun _ => 13) 1 8 = 3 := by decide
  rw [E1, E2] at Hr
  clear E1 E2
  have b0 : bitOf (fun _ => 13) 0 = true := by decide
  have b1 : bitOf (fun _ => 13) 1 = false := by decide
  have b2 : bitOf (fun _ => 13) 2 = true := by decide
  have S1 := Lib.hid (show strF ((3 + 7) / 8) (byteOf (fun i => decide (i ≠ 1)) 3) = ⟨#[5]⟩ by decide)
  have S2 := Lib.hid (show strF (0 / 8 + 1) (byteOf (fun i => decide (i < 0) && false || decide (i = 0)) (0 + 1)) = ⟨#[1]⟩ by decide)
  have C2 := Lib.hid (show count (bitOf fun _ => 13) 3 = 2 by decide)
  have B2 := Lib.hid b2
  have L3 := Lib.hid (fun W => Rd.lit W #[.bool true, .bool false, .bool true] 4 3 (fun i => .bool (decide (i ≠ 1))) (fun i hi => by
    match i, hi with
    | 0, _ => rfl
    | 1, _ => rfl
    | 2, _ => rfl))
  clear b0 b1 b2
  go_enter Try.func7, Try.ntmps7
  go_wp2_with (first
    | (go_at_call 14; refine (Hr.out _ (w.heap.size + 1) _ ((Rd.one _ _ _).congr (fun _ _ => rfl)) (by simp)).mono ?_; rintro e w1 ⟨A, c, rfl, hnc, hrd, hbel⟩; obtain ⟨ad, rfl, hb, hc⟩ := hrd.at_ (k := 2) (by omega); clear hc; have H1 := Lib.hid (And.intro hrd hbel); clear hrd hbel)
    | (go_at_call 10; refine (vector_any _ 3 _ _ (fun i => decide (i ≠ 1)) _ (L3.out _) (by simp) (by omega)).mono ?_; rintro e w2 ⟨g, rfl, hg, hrow, hbel2⟩; have hcv := conv_row w2 (c := (3 + 7) / 8) hrow; rw [S1.out] at hcv; have H2 := Lib.hid (And.intro hrow hbel2); clear hrow hbel2)
    | (go_at_call 9; refine (list_any 0 0 _ none (fun _ => false) _ Rd.none_ (Nat.zero_le _) (by omega)).mono ?_; rintro e w3 ⟨g3, rfl, hg3, hrow3, hbel3⟩; have hcv3 := conv_row w3 (c := 0 / 8 + 1) hrow3; rw [S2.out] at hcv3; have R3 : Rd w3 w1.heap.size (some ad) 3 (fun i => .bool (bitOf (fun _ => 13) i)) := ((H1.out.1.alloc (Nat.le_refl _) _).below (H2.out.2.mono (by simp))).below (hbel3.mono (Nat.le_trans (by simp) H2.out.2.size)); have hc3 : w3.cell? ⟨ad.block, ad.off + 2, none⟩ = some (.bool true) := (R3.cell_ (k := 2) (by omega)).trans (congrArg some (congrArg Value.bool B2.out)); have HR3 := Lib.hid R3; have H3 := Lib.hid (And.intro hrow3 hbel3); clear hrow3 hbel3 R3)
    | (go_at_call 11; refine (count_any w1.heap.size 3 _ (some ad) (bitOf fun _ => 13) _ HR3.out (by omega)).mono ?_; rw [C2.out]; rintro e w4 ⟨rfl, rfl⟩))
  go_ret
  have b1 : Below w.heap.size w w1 := ((Below.refl _ w).alloc (Nat.le_refl _) _).trans (H1.out.2.mono (by simp))
  have b2 : Below w.heap.size w w2 := (b1.alloc b1.size _).trans (H2.out.2.mono (by have := b1.size; simp; omega))
  exact ⟨rfl, b2.trans (H3.out.2.mono b2.size)⟩
end Go.Proofs.Ytjeakdbdofhkgaa
