/- A state of zeros. -/
import Derived.Test.YtecgogeebponlaaDoorLookSt
namespace Go.Proofs.YtecgogeebponlaaDoor
set_option maxRecDepth 40000
open Go.RowKit
noncomputable def pl49 : List (Nat × Nat) := match Tryd.prog.underlying 49 with
  | some (.struct fs) => (fs.toList.mapM fun f => (Tryd.prog.info? f.type).map fun i => (f.offset, i.size)).getD []
  | _ => []
noncomputable def z49 : Array Value := zeroOf Tryd.prog 49
theorem z49_size : z49.size = 1957 := by kernel_rfl
theorem z49_33 : z49.getD 33 undef = .int .u64 0 := by kernel_rfl
theorem z49_one : z49.toList.all (·.oneCell') = true := by kernel_rfl
theorem built49 (parts : List (Nat × Value)) : Tryd.prog.built 49 parts = Instr.fill (fun x => pl49.toArray[x]?) z49 parts := by kernel_rfl
theorem fill_cell {place : Nat → Option (Nat × Nat)} {cells : Array Value} {i off : Nat} {v : Value} {rest : List (Nat × Value)} (hp : place i = some (off, 1)) (hv : v.cells = #[v]) (ho : off < cells.size) : Instr.fill place cells ((i, v) :: rest) = Instr.fill place (cells.setIfInBounds off v) rest := by
  conv => lhs; unfold Instr.fill
  simp only [hp, hv]
  rw [if_neg (by simp; omega)]
  simp [Array.zipIdx]
end Go.Proofs.YtecgogeebponlaaDoor
