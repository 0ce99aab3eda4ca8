/- Inequality of arrays of integers; a pointer against nil, in a region that draws its order. -/
import Derived.Test.YtecgogeebponlaaDoorEq
import Derived.Laws.Pointers
namespace Go.Proofs.YtecgogeebponlaaDoor
set_option maxRecDepth 40000
open Go.RowKit
section
variable {P : Program}
theorem run_neArr {ty rt e : TypeId} {n : Nat} {k : IntKind} {f g : Nat → Int} {b : Bool} {xo yo : Operand} {o : Oper} {a : Act} (w : World) (hop : o.op = .binOp .neq ty xo yo rt) (hu : P.underlying ty = some (.array n e)) (he : P.underlying e = some (.int k)) (hz : (P.info? e).map (·.size) = some 1) (hq : P.eqGuardType P.depth ty = false)
    (hx : a.eval xo = .agg (arr n fun i => .int k (f i))) (hy : a.eval yo = .agg (arr n fun i => .int k (g i))) (hb : decide (∀ i, i < n → f i = g i) = !b) : (execOp a.eval o).run P w = .ok (.value (.bool b)) w := by
  unfold execOp
  rw [hop]
  simp only [hx, hy]
  simp [eqGuard, hq, binOp, run_equal_arr w ty e n k f g hu he hz, hb]
theorem wpList_neArr {w : World} {ops : Array Oper} {rest : List Oper} {o : Oper} {a : Act} {Q : Exit → Act → World → Prop} {ty rt : TypeId} {xo yo : Operand} (hgd : o.guard = none) (hop : o.op = .binOp .neq ty xo yo rt) (e : TypeId) (n : Nat) (k : IntKind) (f g : Nat → Int) (b : Bool) (hu : P.underlying ty = some (.array n e)) (he : P.underlying e = some (.int k)) (hz : (P.info? e).map (·.size) = some 1) (hq : P.eqGuardType P.depth ty = false)
    (hx : a.eval xo = .agg (arr n fun i => .int k (f i))) (hy : a.eval yo = .agg (arr n fun i => .int k (g i))) (hb : decide (∀ i, i < n → f i = g i) = !b)
    (hK : wpList P ops Q rest (a.put o.dst (.bool b)) w) : wpList P ops Q (o :: rest) a w :=
  wpList_plain hgd fun _ hK' => by
    unfold Oper.wp
    rw [run_neArr w hop hu he hz hq hx hy hb]
    exact hK' _ _ hK
section
variable {ops : Array Oper} {B : Nat} {w0 : World} {o : Oper} {lk : Tmp → SF} {ty rt : TypeId}
theorem opOb_neArr {xo yo : Operand} (e : TypeId) (n : Nat) (k : IntKind) (f g : Nat → Int) (b : Bool) (hu : P.underlying ty = some (.array n e)) (he : P.underlying e = some (.int k)) (hz : (P.info? e).map (·.size) = some 1) (hq : P.eqGuardType P.depth ty = false) (hb : decide (∀ i, i < n → f i = g i) = !b)
    (hg : o.guard = none) (hop : o.op = .binOp .neq ty xo yo rt) (hx : OpK lk xo (.agg (arr n fun i => .int k (f i)))) (hy : OpK lk yo (.agg (arr n fun i => .int k (g i)))) : opOb P ops B w0 o (SF.is (.bool b)) lk :=
  opOb_val _ hg fun a w _ hf => run_neArr w hop hu he hz hq (hx.eval hf (by rw [hop]; simp [Op.operands])) (hy.eval hf (by rw [hop]; simp [Op.operands])) hb
theorem opOb_eqNil {xo : Operand} (q : Addr) (hu : P.underlying ty = some (.pointer (P.pointee ty)))
    (hg : o.guard = none) (hop : o.op = .binOp .eql ty xo (.const (.pointer none)) rt) (hx : OpK lk xo (.pointer (some q))) : opOb P ops B w0 o (SF.is (.bool false)) lk :=
  opOb_val _ hg fun a w _ hf => by
    have h1 := hx.eval hf (by rw [hop]; simp [Op.operands])
    unfold execOp
    rw [hop]
    have h2 : a.eval (.const (.pointer none)) = .pointer none := rfl
    have h3 := run_eql_pointer_nil w ty (some q) hu
    simp only [h1, h2]
    simp [eqGuard, h3]
end
end
end Go.Proofs.YtecgogeebponlaaDoor
