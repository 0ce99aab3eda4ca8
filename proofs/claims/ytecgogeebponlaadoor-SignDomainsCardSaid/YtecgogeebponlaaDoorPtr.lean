/- In drawn regions: slices of elements of many cells, and where an element lies. -/
import Derived.Test.YtecgogeebponlaaDoorOwnZ
import Derived.Test.YtecgogeebponlaaDoorLawOps
namespace Go.Proofs.YtecgogeebponlaaDoor
set_option maxRecDepth 40000
open Go.RowKit
/-- A slice of n elements of z cells that reads as f. -/
def SF.rdZ (n z : Nat) (f : Nat → Value) : SF := ⟨fun v w => ∃ A c, v = .slice A n c ∧ Rd w w.heap.size A (n * z) f, fun _ _ _ ⟨A, c, e, h⟩ hb => ⟨A, c, e, (h.below hb).more hb.size⟩⟩
theorem add_blk (ad : Addr) (i : Nat) : (ad.add i).block = ad.block := by unfold Addr.add; split <;> rfl
theorem add_add (ad : Addr) (m n : Nat) : (ad.add m).add n = ad.add (m + n) := by
  unfold Addr.add
  by_cases hm : m = 0
  · subst hm; simp
  · by_cases hn : n = 0
    · subst hn; simp [hm]
    · simp [hm, hn, Nat.add_assoc]
/-- A pointer to n cells that read as f. -/
def SF.ptr (n : Nat) (f : Nat → Value) : SF := ⟨fun v w => ∃ ad : Addr, v = .pointer (some ad) ∧ ad.block < w.heap.size ∧ ∀ i, i < n → w.cell? (ad.add i) = some (f i), fun _ w w' ⟨ad, e, h, hc⟩ hb => ⟨ad, e, Nat.lt_of_lt_of_le h hb.size, fun i hi => by
  rw [hb.cell (p := ad.add i) (by rw [add_blk]; exact h)]; exact hc i hi⟩⟩
section
variable {P : Program} {ops : Array Oper} {B : Nat} {w0 : World} {o : Oper} {lk : Tmp → SF} {ty : TypeId}
theorem run_idxZ (w : World) {t e : TypeId} {z n c k : Nat} (hu : P.underlying t = some (.slice e)) (hz : (P.info? e).map (·.size) = some z) (ad : Addr) (hk : k < n) : (Instr.indexAt t (.slice (some ad) n c) (.int .i64 (k : Int))).run P w = .ok (.pointer (some (ad.add (k * z)))) w := by
  unfold Instr.indexAt
  simp [run_underlying hu, sizeOf_run hz, go_sem, asIntOf, hk]
theorem opOb_idxZ {x : Tmp} {i : Operand} {e : TypeId} {n z k : Nat} {f : Nat → Value} (f' : Nat → Value) (hf' : ∀ q, q < z → f (k * z + q) = f' q) (hu : P.underlying ty = some (.slice e)) (hz : (P.info? e).map (·.size) = some z) (h0 : 0 < z) (hk : k < n) (hg : o.guard = none) (hop : o.op = .indexAddr ty (.tmp x) i) (hx : lk x = SF.rdZ n z f) (hi : OpK lk i (.int .i64 (k : Int))) :
    opOb P ops B w0 o (SF.ptr z f') lk :=
  opOb_of hg fun a w _ hf => by
    have h1 := hf x (by rw [hop]; simp [Op.operands])
    rw [hx] at h1
    obtain ⟨A, c, e1, h1⟩ := h1
    have h2 := hi.eval hf (by rw [hop]; simp [Op.operands])
    have hkz : k * z + z ≤ n * z := by rw [← Nat.succ_mul]; exact Nat.mul_le_mul_right _ hk
    obtain ⟨ad, rfl, hb, hc⟩ := h1 (by omega)
    have h1' : a.eval (.tmp x) = .slice (some ad) n c := (getD_eq _ _).trans e1
    have hrun : (execOp a.eval o).run P w = .ok (.value (.pointer (some (ad.add (k * z))))) w := by
      unfold execOp
      rw [hop]
      simp only [h1', h2]
      simp [run_idxZ w hu hz ad hk]
    unfold Oper.wp
    rw [hrun]
    refine ⟨_, rfl, ⟨ad.add (k * z), rfl, by rw [add_blk]; exact hb, fun i hi => ?_⟩, Below.refl _ _⟩
    rw [add_add, ← hf' i hi]
    exact hc _ (by omega)
theorem opOb_ldP {x : Tmp} {n : Nat} {f : Nat → Value} {d : TypeDesc} (hu : P.underlying ty = some d) (hd : (match d with | .struct _ | .array _ _ => true | _ => false) = true) (hi : (P.info? ty).map (·.size) = some n) (hg : o.guard = none) (hop : o.op = .load ty (.tmp x)) (hx : lk x = SF.ptr n f) :
    opOb P ops B w0 o (SF.is (.agg (arr n f))) lk :=
  opOb_val _ hg fun a w _ hf => by
    have h1 := hf x (by rw [hop]; simp [Op.operands])
    rw [hx] at h1
    obtain ⟨ad, e1, hb, hc⟩ := h1
    have h1' : a.eval (.tmp x) = .pointer (some ad) := (getD_eq _ _).trans e1
    unfold execOp
    rw [hop]
    simp only [h1']
    simp [run_loadAt_rd w ad n ty d f hc hu hd hi]
end
end Go.Proofs.YtecgogeebponlaaDoor
