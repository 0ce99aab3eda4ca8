/- Slices that are written out, of elements of many cells. -/
import Derived.Test.YtecgogeebponlaaDoorOwnZ
namespace Go.Proofs.YtecgogeebponlaaDoor
set_option maxRecDepth 40000
open Go.RowKit
theorem fold_lay (off : Nat) : ∀ (l : List Value) (k : Nat) (cs : Array Value) (i : Nat), off + k + l.length ≤ cs.size →
    ((l.zipIdx k).foldl (fun cs p => cs.setIfInBounds (off + p.2) p.1) cs)[i]? = if off + k ≤ i ∧ i < off + k + l.length then l[i - (off + k)]? else cs[i]? := by
  intro l
  induction l with
  | nil => intro k cs i _; simp; omega
  | cons a l ih =>
    intro k cs i h
    simp only [List.length_cons] at h
    rw [List.zipIdx_cons, List.foldl_cons, ih (k + 1) _ i (by simp; omega)]
    by_cases h1 : i = off + k
    · subst h1
      rw [if_neg (by omega), if_pos (by simp)]
      simp [Array.getElem?_setIfInBounds]; omega
    · by_cases h2 : off + (k + 1) ≤ i ∧ i < off + (k + 1) + l.length
      · rw [if_pos h2, if_pos (by simp; omega), show i - (off + k) = (i - (off + (k + 1))) + 1 by omega]; simp
      · rw [if_neg h2, if_neg (by simp; omega)]
        simp [Array.getElem?_setIfInBounds]; omega
theorem fold_size (off : Nat) : ∀ (l : List Value) (k : Nat) (cs : Array Value), ((l.zipIdx k).foldl (fun cs p => cs.setIfInBounds (off + p.2) p.1) cs).size = cs.size := by
  intro l
  induction l with
  | nil => intro k cs; rfl
  | cons a l ih => intro k cs; rw [List.zipIdx_cons, List.foldl_cons, ih (k + 1)]; simp
theorem fill_step (z N i : Nat) (f g : Nat → Value) (rest : List (Nat × Value)) (h : i * z + z ≤ N) :
    Instr.fill (fun i => some (i * z, z)) (arr N g) ((i, .agg (arr z f)) :: rest) = Instr.fill (fun i => some (i * z, z)) (arr N (fun q => if i * z ≤ q ∧ q < i * z + z then f (q - i * z) else g q)) rest := by
  have hc : (Value.agg (arr z f)).cells = arr z f := rfl
  have key : ((arr z f).zipIdx.foldl (fun cs (p : Value × Nat) => cs.setIfInBounds (i * z + p.2) p.1) (arr N g)) = arr N (fun q => if i * z ≤ q ∧ q < i * z + z then f (q - i * z) else g q) := by
    rw [← Array.foldl_toList, Array.toList_zipIdx]
    refine arr_of _ N _ (by rw [fold_size, size_arr]) (fun q hq => ?_)
    rw [fold_lay (i * z) (arr z f).toList 0 (arr N g) q (by simp [size_arr]; omega)]
    have hl : (arr z f).toList.length = z := by simp [size_arr]
    rw [hl]
    by_cases h1 : i * z ≤ q ∧ q < i * z + z
    · rw [if_pos (by omega), if_pos h1, Array.getElem?_toList, Nat.add_zero, arr_at z f _ (by omega)]
    · rw [if_neg (by omega), if_neg h1, arr_at N g q hq]
  rw [Instr.fill]
  simp only [hc, size_arr]
  rw [if_neg (by simp; omega)]
  exact congrArg (fun cs => Instr.fill (fun i => some (i * z, z)) cs rest) key
section
variable {P : Program}
theorem run_bsN (w : World) {t e : TypeId} {z len : Nat} (ht : P.underlying t = some (.slice e)) (hz : (P.info? e).map (·.size) = some z) (hlen : len * z ≤ 16777216) (h0 : 0 < len * z) {v0 : Value} (hzero : (P.info? e).bind (·.zero) = some v0) (parts : Array (Nat × Value)) (F : Nat → Value)
    (hf : ∀ g, Instr.fill (fun i => some (i * z, z)) (arr (len * z) g) parts.toList = some (arr (len * z) F)) :
    (Instr.buildSlice t len parts).run P w = .ok (.slice (some ⟨w.heap.size, 0, none⟩) len len) (w.alloc (.cells (arr (len * z) F) e)) := by
  cases hq : P.info? e with
  | none => rw [hq] at hz; simp at hz
  | some i =>
    have hs : i.size = z := by rw [hq] at hz; simpa using hz
    have hv : i.zero = some v0 := by rw [hq] at hzero; simpa using hzero
    have hg : (Array.range (len * z)).map (fun x => v0.cells[x % v0.cells.size]!) = arr (len * z) (fun x => v0.cells[x % v0.cells.size]!) := by
      refine arr_of _ _ _ (by simp) (fun q hq => by simp [hq])
    unfold Instr.buildSlice
    have hf' := hf (fun x => v0.cells[x % v0.cells.size]!)
    rw [← hg] at hf'
    simp only [Sem.run_bind, run_underlying ht, sizeOf_run hz, Result.andThen_ok]
    rw [if_neg (by omega), if_neg (by omega)]
    have hzv : (zeroValue e).run P w = .ok v0 w := by simp [zeroValue, typeInfo, hq, hv, go_sem]
    simp only [Sem.run_bind, hzv, Result.andThen_ok, Sem.run_pure]
    rw [hf']
    simp [newRow, go_sem]
/-- []T{x}. -/
theorem wpList_bs1 {ops : Array Oper} {rest : List Oper} {o : Oper} {a : Act} {w w0 : World} {Q : Exit → Act → World → Prop} {rows : List RowSpec} (hgd : o.guard = none) {t e : TypeId} {z : Nat} (ht : P.underlying t = some (.slice e)) (hz : (P.info? e).map (·.size) = some z) (hlen : z ≤ 16777216) (h0 : 0 < z) {v0 : Value} (hzero : (P.info? e).bind (·.zero) = some v0)
    (x : Operand) (ho : o.op = .buildSlice t 1 #[(0, x)]) (f : Nat → Value) (hx : a.eval x = .agg (arr z f)) (h : HS w0 w rows)
    (hK : ∀ b w', w0.heap.size ≤ b → w.heap.size ≤ b → HS w0 w' (⟨b, e, z, f⟩ :: rows) → wpList P ops Q rest (a.put o.dst (.slice (some ⟨b, 0, none⟩) 1 1)) w') : wpList P ops Q (o :: rest) a w :=
  wpList_plain hgd fun _ hK' => by
    have hr := run_bsN (P := P) w (t := t) (len := 1) ht hz (by omega) (by omega) hzero #[(0, .agg (arr z f))] f (fun g => by
      rw [show (#[((0 : Nat), Value.agg (arr z f))] : Array (Nat × Value)).toList = [(0, .agg (arr z f))] from rfl, fill_step z (1 * z) 0 f g [] (by omega)]
      show some _ = some _
      exact congrArg some (arr_congr fun i hi => by rw [if_pos (by omega)]; simp))
    rw [Nat.one_mul] at hr
    have hrun : (execOp a.eval o).run P w = .ok (.value (.slice (some ⟨w.heap.size, 0, none⟩) 1 1)) (w.alloc (.cells (arr z f) e)) := by
      unfold execOp
      rw [ho]
      simp only [List.map_toArray, List.map_cons, List.map_nil, hx]
      simp [hr]
    unfold Oper.wp
    rw [hrun]
    exact hK' _ _ (hK _ _ h.size (Nat.le_refl _) (h.alloc (arr z f) e z f (size_arr _ _) (fun i hi => arr_at _ _ i hi)))
end
end Go.Proofs.YtecgogeebponlaaDoor
