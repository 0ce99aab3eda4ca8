/- Arguments that came in, as functions of the index. -/
import Derived.Test.YtecgogeebponlaaDoorLib
import Derived.ProofKit
import Derived.OpenShut
import Derived.ShutString
import Derived.SizedLaws
import Derived.JoinedCond
import Derived.Deep.Grids
namespace Go.Proofs.YtecgogeebponlaaDoor
set_option maxRecDepth 40000
open Go.RowKit Go.ChangeShapes Go.WideShapes Go.ChangeAt

theorem cell_lt {w : World} {a : Addr} {v : Value} (h : w.cell? a = some v) : a.block < w.heap.size := by
  rcases Nat.lt_or_ge a.block w.heap.size with hl | hl
  · exact hl
  · exfalso
    unfold World.cell? at h
    rw [Array.getElem?_eq_none hl] at h
    simp at h

theorem rd_of {w : World} {x : Addr} {n : Nat} {f : Nat → Value} (h : ∀ i, i < n → w.cell? (x.add i) = some (f i)) : Rd w w.heap.size (some x) n f := fun hn =>
  ⟨x, rfl, by have := cell_lt (h 0 hn); rwa [block_of_add] at this, h⟩

theorem wf_u8 {n : Int} (h : (Lit.int .u8 n).wf = true) : 0 ≤ n ∧ n < 256 := by
  simp [Lit.wf, IntKind.min, IntKind.max, IntKind.signed, IntKind.bits] at h; omega
theorem wf_u64 {n : Int} (h : (Lit.int .u64 n).wf = true) : 0 ≤ n ∧ n < 18446744073709551616 := by
  simp [Lit.wf, IntKind.min, IntKind.max, IntKind.signed, IntKind.bits] at h; omega
theorem wf_i64 {n : Int} (h : (Lit.int .i64 n).wf = true) : -9223372036854775808 ≤ n ∧ n ≤ 9223372036854775807 := by
  simp [Lit.wf, IntKind.min, IntKind.max, IntKind.signed, IntKind.bits] at h; omega

/-- A slice of integers of an unsigned kind. -/
theorem rd_ints {w : World} {x : Addr} {len : Nat} {k : IntKind} {M : Nat} {zs : List Int} (hwf : ∀ n ∈ zs, 0 ≤ n ∧ n < M) (hl : len ≤ zs.length) (h : ∀ i, i < zs.length → w.cell? (x.add i) = some (.int k (zs.getD i 0))) (hM : 0 < M) :
    ∃ z : Nat → Nat, Rd w w.heap.size (some x) len (fun i => .int k ((z i : Nat) : Int)) ∧ ∀ i, z i < M := by
  have hz : ∀ i, 0 ≤ zs.getD i 0 ∧ zs.getD i 0 < M := by
    intro i
    by_cases hi : i < zs.length
    · have := hwf zs[i] (List.getElem_mem hi)
      simpa [List.getD, hi] using this
    · simp [List.getD, hi, hM]
  refine ⟨fun i => (zs.getD i 0).toNat, rd_of fun i hi => ?_, fun i => by have := hz i; show (zs.getD i 0).toNat < M; omega⟩
  rw [h i (by omega)]
  have := hz i
  simp only [Int.toNat_of_nonneg this.1]
end Go.Proofs.YtecgogeebponlaaDoor
