/- Functions of package word, and of its reference. -/
import Derived.Test.YtjphchcjneofhaaDoorLookWalks
namespace Go.Proofs.YtjphchcjneofhaaDoor
open Go.RowKit
section
variable {P : Program}
/-- The lesser of two whole numbers. -/
theorem wpList_min {ops : Array Oper} {rest : List Oper} {o : Oper} {a : Act} {w : World} {Q : Exit → Act → World → Prop} (hgd : o.guard = none) {x y : Operand} {ts : Array TypeId} (ho : o.op = .call { callee := .builtin .min, args := #[x, y], argTypes := ts })
    (k : IntKind) (i j m : Int) (hx : a.eval x = .int k i) (hy : a.eval y = .int k j) (hm : m = if j < i then j else i) (hK : wpList P ops Q rest (a.put o.dst (.int k m)) w) : wpList P ops Q (o :: rest) a w :=
  wpList_plain hgd fun _ hK' => by
    have hrun : (execOp a.eval o).run P w = .ok (.value (.int k m)) w := by
      unfold execOp
      subst hm
      simp only [ho, resolve, invoke, builtin, Sem.run_bind, Sem.run_pure, Result.andThen_ok, List.map_toArray, List.map_cons, List.map_nil, hx, hy]
      simp [Builtin.min_, Builtin.min2, go_sem]
    unfold Oper.wp
    rw [hrun]
    exact hK' _ _ hK
end
/-- a less b, or 0. -/
theorem less_look (a b : Nat) (ha : a ≤ 9223372036854775807) (hb : b ≤ 9223372036854775807) (w : World) : Calls Tryd.prog 18 #[.int .u64 (a : Int), .int .u64 (b : Int)] w fun r w' => r = .returned (.int .u64 ((a - b : Nat) : Int)) ∧ w' = w := by
  by_cases h : b < a
  · have HM := Lib.hid (show (b : Int) = if (b : Int) < (a : Int) then (b : Int) else (a : Int) by rw [if_pos (by omega)])
    have HS := Lib.hid (show ((a - b : Nat) : Int) = (a : Int) - (b : Int) by omega)
    go_enter Tryd.func18, Tryd.ntmps18
    go_wp2_with (refine wpList_min rfl rfl .u64 _ _ _ rfl rfl HM.out ?_)
    go_ret
    rw [HS.out]
    exact ⟨rfl, rfl⟩
  · have HM := Lib.hid (show (a : Int) = if (b : Int) < (a : Int) then (b : Int) else (a : Int) by rw [if_neg (by omega)])
    have HS := Lib.hid (show (a - b : Nat) = 0 by omega)
    go_enter Tryd.func18, Tryd.ntmps18
    go_wp2_with (refine wpList_min rfl rfl .u64 _ _ _ rfl rfl HM.out ?_)
    go_ret
    rw [HS.out]
    exact ⟨by first | rfl | simp, rfl⟩
theorem less_ref (a b : Nat) (ha : a ≤ 9223372036854775807) (hb : b ≤ 9223372036854775807) (w : World) : Calls Tryd.prog 19 #[.int .u64 (a : Int), .int .u64 (b : Int)] w fun r w' => r = .returned (.int .u64 ((a - b : Nat) : Int)) ∧ w' = w := by
  by_cases h : (a : Int) < (b : Int)
  · have HS := Lib.hid (show (a - b : Nat) = 0 by omega)
    go_enter Tryd.func19, Tryd.ntmps19
    go_wp2_with fail
    go_ret
    rw [HS.out]
    exact ⟨rfl, rfl⟩
  · have HS := Lib.hid (show ((a - b : Nat) : Int) = (a : Int) - (b : Int) by omega)
    go_enter Tryd.func19, Tryd.ntmps19
    go_wp2_with fail
    go_ret
    rw [HS.out]
    exact ⟨rfl, rfl⟩
end Go.Proofs.YtjphchcjneofhaaDoor
