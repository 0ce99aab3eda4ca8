/- More operations on words. -/
import Derived.Test.YtecgogeebponlaaDoorShaIdx
namespace Go.Proofs.YtecgogeebponlaaDoor
set_option maxRecDepth 40000
open Go.RowKit
section
variable {P : Program} {ops : Array Oper} {B : Nat} {w0 : World} {o : Oper} {lk : Tmp → SF} {ty rt : TypeId}
theorem opOb_nsub (a c d : Nat) {xo yo : Operand} (he : a = d + c) (hb : a ≤ 9223372036854775807) (hg : o.guard = none) (hop : o.op = .binOp .sub ty xo yo rt) (hx : OpK lk xo (.int .i64 (a : Int))) (hy : OpK lk yo (.int .i64 (c : Int))) : opOb P ops B w0 o (SF.is (.int .i64 (d : Int))) lk := by
  rw [show (d : Int) = (a : Int) - (c : Int) by omega]; exact opOb_isub a c (by omega) hg hop hx hy
theorem u32_not (x : W32) : bits .xor .u32 (if IntKind.u32.signed = true then -1 else IntKind.u32.max) (x.toNat : Int) = (((~~~x).toNat : Nat) : Int) := by
  have h : bits .xor .u32 ((BitVec.allOnes 32).toNat : Int) (x.toNat : Int) = _ := u32_xor (BitVec.allOnes 32) x
  rw [BitVec.allOnes_xor] at h
  exact h
theorem opOb_not (x : W32) {xo : Operand} (hg : o.guard = none) (hop : o.op = .unOp .xor ty xo) (hx : OpK lk xo (wv x)) : opOb P ops B w0 o (SF.is (wv (~~~x))) lk :=
  opOb_val _ hg fun a w _ hf => by
    have h1 := hx.eval hf (by rw [hop]; simp [Op.operands])
    unfold execOp
    rw [hop]
    simp only [h1, wv]
    rw [← u32_not]
    simp [go_sem]
end
theorem run_idx8a (w : World) (g o i : Nat) (hi : i < 8) : (Instr.indexAt 91 (.pointer (some ⟨g, o, none⟩)) (.int .i64 (i : Int))).run Tryd.prog w = .ok (.pointer (some ⟨g, o + i, none⟩)) w := by
  have hx : (i : Int) < 8 := by omega
  simp [go_sem, hx]
end Go.Proofs.YtecgogeebponlaaDoor
