/- The walk of Two. (Printed by a program of mine.) -/
import Derived.Test.YtjphchcjneofhaaDoorShaDig
import Derived.Test.YtjphchcjneofhaaDoorTail
namespace Go.Proofs.YtjphchcjneofhaaDoor
open Go.RowKit

theorem h0_at : ∀ i, i < 8 → (#[wv (h0 0), wv (h0 1), wv (h0 2), wv (h0 3), wv (h0 4), wv (h0 5), wv (h0 6), wv (h0 7)] : Array Value)[i]? = some (wv (h0 i)) := by
  intro i hi
  match i, hi with
  | 0, _ | 1, _ | 2, _ | 3, _ | 4, _ | 5, _ | 6, _ | 7, _ => rfl
theorem padOf (m : Nat → Nat) : ∀ i, i < 64 → (if i = 62 then 2 else if i = 0 then 128 else 0 : Nat) = blk (padF 64 m) 1 i := by
  intro i hi
  unfold blk padF
  rw [if_neg (show ¬ 64 * 1 + i < 64 by omega)]
  by_cases e : i = 0
  · subst e; simp
  · rw [if_neg (show ¬ 64 * 1 + i = 64 by omega), if_neg (show ¬ i = 0 from e)]
    by_cases e2 : i = 62
    · subst e2; decide
    · rw [if_neg e2]
      by_cases e3 : i = 63
      · subst e3; decide
      · by_cases e4 : 64 * 1 + i < 64 * nb 64 - 8
        · rw [if_pos e4]
        · rw [if_neg e4]
          have : i = 56 ∨ i = 57 ∨ i = 58 ∨ i = 59 ∨ i = 60 ∨ i = 61 := by
            have : nb 64 = 2 := rfl
            omega
          rcases this with rfl | rfl | rfl | rfl | rfl | rfl <;> decide

end Go.Proofs.YtjphchcjneofhaaDoor
