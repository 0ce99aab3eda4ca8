/- Indices, loads and stores of package sha's arrays. -/
import Derived.Test.YtecgogeebponlaaDoorWordOps
namespace Go.Proofs.YtecgogeebponlaaDoor
set_option maxRecDepth 40000
open Go.RowKit
section
theorem run_idx_slice (w : World) (ad : Addr) (n c i : Nat) (hi : i < n) : (Instr.indexAt 39 (.slice (some ad) n c) (.int .i64 (i : Int))).run Tryd.prog w = .ok (.pointer (some (ad.add i))) w := by
  have hx : (0 : Int) ≤ (i : Int) ∧ (i : Int) < (n : Int) := by omega
  simp [go_sem, hi]
theorem run_idx16 (w : World) (g o i : Nat) (hi : i < 16) : (Instr.indexAt 103 (.pointer (some ⟨g, o, none⟩)) (.int .i64 (i : Int))).run Tryd.prog w = .ok (.pointer (some ⟨g, o + i, none⟩)) w := by
  have hx : (i : Int) < 16 := by omega
  simp [go_sem, hx]
theorem run_idx64 (w : World) (g o i : Nat) (hi : i < 64) : (Instr.indexAt 105 (.pointer (some ⟨g, o, none⟩)) (.int .i64 (i : Int))).run Tryd.prog w = .ok (.pointer (some ⟨g, o + i, none⟩)) w := by
  have hx : (i : Int) < 64 := by omega
  simp [go_sem, hx]
theorem run_idx8 (w : World) (g o i : Nat) (hi : i < 8) : (Instr.indexAt 92 (.pointer (some ⟨g, o, none⟩)) (.int .i64 (i : Int))).run Tryd.prog w = .ok (.pointer (some ⟨g, o + i, none⟩)) w := by
  have hx : (i : Int) < 8 := by omega
  simp [go_sem, hx]
theorem run_ld32 (w : World) (a : Addr) (x : W32) (h : w.cell? a = some (wv x)) : (Instr.loadAt 90 (.pointer (some a))).run Tryd.prog w = .ok (wv x) w := by
  simp [go_sem, h]
theorem run_ld8 (w : World) (a : Addr) (b : Nat) (h : w.cell? a = some (.int .u8 (b : Int))) : (Instr.loadAt 5 (.pointer (some a))).run Tryd.prog w = .ok (.int .u8 (b : Int)) w := by
  simp [go_sem, h]
theorem run_st32 (w : World) (a : Addr) (x : W32) (y : Value) (h : w.cell? a = some y) (hf : w.frozen? a = false) : (Instr.storeAt 90 (.pointer (some a)) (wv x)).run Tryd.prog w = .ok () (w.setCell a (wv x)) := by
  simp [go_sem, h, hf]
end
end Go.Proofs.YtecgogeebponlaaDoor
