/- Comparisons of bools and numbers in a region shown operation by operation. -/
import Derived.Test.YtecgogeebponlaaDoorBox
namespace Go.Proofs.YtecgogeebponlaaDoor
set_option maxRecDepth 40000
open Go.RowKit
section
variable {P : Program} {ops : Array Oper} {B : Nat} {w0 : World} {o : Oper} {lk : Tmp → SF} {ty rt : TypeId}
theorem opOb_neBool {xo yo : Operand} (b : Bool) (hu : P.underlying ty = some .bool) (hg : o.guard = none) (hop : o.op = .binOp .neq ty xo yo rt) (hx : OpK lk xo (.bool b)) (hy : OpK lk yo (.bool b)) : opOb P ops B w0 o (SF.is (.bool false)) lk :=
  opOb_val _ hg fun a w _ hf => by
    have h1 := hx.eval hf (by rw [hop]; simp [Op.operands])
    have h2 := hy.eval hf (by rw [hop]; simp [Op.operands])
    unfold execOp
    rw [hop]
    simp only [h1, h2]
    cases b <;> simp [eqGuard, go_sem, hu]
theorem opOb_eqSame {xo yo : Operand} (k : IntKind) (x : Int) (hg : o.guard = none) (hop : o.op = .binOp .eql ty xo yo rt) (hx : OpK lk xo (.int k x)) (hy : OpK lk yo (.int k x)) : opOb P ops B w0 o (SF.is (.bool true)) lk :=
  opOb_val _ hg fun a w _ hf => by
    have h1 := hx.eval hf (by rw [hop]; simp [Op.operands])
    have h2 := hy.eval hf (by rw [hop]; simp [Op.operands])
    unfold execOp
    rw [hop]
    simp only [h1, h2]
    simp [eqGuard, go_sem]
theorem opOb_neSame {xo yo : Operand} (k : IntKind) (x : Int) (hg : o.guard = none) (hop : o.op = .binOp .neq ty xo yo rt) (hx : OpK lk xo (.int k x)) (hy : OpK lk yo (.int k x)) : opOb P ops B w0 o (SF.is (.bool false)) lk :=
  opOb_val _ hg fun a w _ hf => by
    have h1 := hx.eval hf (by rw [hop]; simp [Op.operands])
    have h2 := hy.eval hf (by rw [hop]; simp [Op.operands])
    unfold execOp
    rw [hop]
    simp only [h1, h2]
    simp [eqGuard, go_sem]
end
end Go.Proofs.YtecgogeebponlaaDoor
