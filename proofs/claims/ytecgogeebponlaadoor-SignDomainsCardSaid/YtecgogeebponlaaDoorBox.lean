/- Values of many cells: boxed, loaded from where they lie, kept in new variables. -/
import Derived.Test.YtecgogeebponlaaDoorEq2
namespace Go.Proofs.YtecgogeebponlaaDoor
set_option maxRecDepth 40000
open Go.RowKit
/-- A mark in the context: which of two alike calls comes next. -/
inductive Tok : Nat → Prop
  | mk (n : Nat) : Tok n
section
variable {P : Program}
theorem run_loadCells_rd (w : World) (ad : Addr) (n : Nat) (f : Nat → Value) (h : ∀ i, i < n → w.cell? (ad.add i) = some (f i)) : (loadCells ad n).run P w = .ok (arr n f) w := by
  have := run_loadCells_list (P := P) (w := w) ad ((List.range n).map f) (fun j v hj => by
    have hjl : j < n := by
      rcases Nat.lt_or_ge j n with h | h
      · exact h
      · simp [h] at hj
    rw [h j hjl]
    simp [hjl] at hj
    exact congrArg some hj)
  simpa [arr] using this
theorem run_loadAt_rd (w : World) (ad : Addr) (n : Nat) (ty : TypeId) (d : TypeDesc) (f : Nat → Value) (h : ∀ i, i < n → w.cell? (ad.add i) = some (f i)) (hu : P.underlying ty = some d) (hd : (match d with | .struct _ | .array _ _ => true | _ => false) = true) (hi : (P.info? ty).map (·.size) = some n) :
    (Instr.loadAt ty (.pointer (some ad))).run P w = .ok (.agg (arr n f)) w := by
  simp only [Instr.loadAt, Instr.sureAddr, Sem.run_bind, Sem.run_pure, Result.andThen]
  cases hq : P.info? ty with
  | none => rw [hq] at hi; simp at hi
  | some i =>
    have hs : i.size = n := by rw [hq] at hi; simpa using hi
    have hagg : (isAgg ty).run P w = .ok true w := by
      unfold isAgg
      rw [Sem.run_bind, run_underlying hu w]
      cases d <;> simp_all
    simp [loadVar, Sem.run_bind, hagg, sizeOf, typeInfo, hq, hs, run_loadCells_rd w ad n f h]
/-- A struct or an array is loaded from where it lies. -/
theorem wpList_load_rd {ops : Array Oper} {rest : List Oper} {o : Oper} {a : Act} {w : World} {Q : Exit → Act → World → Prop} (hgd : o.guard = none) (ty : TypeId) (x : Operand) (ho : o.op = .load ty x)
    (n : Nat) (d : TypeDesc) (hu : P.underlying ty = some d) (hd : (match d with | .struct _ | .array _ _ => true | _ => false) = true) (hi : (P.info? ty).map (·.size) = some n)
    (ad : Addr) (hx : a.eval x = .pointer (some ad)) (f : Nat → Value) (h : ∀ i, i < n → w.cell? (ad.add i) = some (f i)) (hK : wpList P ops Q rest (a.put o.dst (.agg (arr n f))) w) : wpList P ops Q (o :: rest) a w :=
  wpList_plain hgd fun _ hK' => by
    have hrun : (execOp a.eval o).run P w = .ok (.value (.agg (arr n f))) w := by
      unfold execOp
      rw [ho]
      simp only [hx]
      simp [run_loadAt_rd w ad n ty d f h hu hd hi]
    unfold Oper.wp
    rw [hrun]
    exact hK' _ _ hK
/-- An argument that is kept in memory. -/
theorem wpList_box {ops : Array Oper} {rest : List Oper} {o : Oper} {a : Act} {w : World} {Q : Exit → Act → World → Prop} (hgd : o.guard = none) (ty : TypeId) (x : Operand) (ho : o.op = .box ty x)
    (n : Nat) (f : Nat → Value) (hx : a.eval x = .agg (arr n f)) (hK : ∀ w', w'.rowIs w.heap.size ty n f → Below w.heap.size w w' → wpList P ops Q rest (a.put o.dst (.pointer (some ⟨w.heap.size, 0, none⟩))) w') : wpList P ops Q (o :: rest) a w :=
  wpList_plain hgd fun _ hK' => by
    have hrun : (execOp a.eval o).run P w = .ok (.value (.pointer (some ⟨w.heap.size, 0, none⟩))) (w.alloc (.cells (arr n f) ty)) := by
      unfold execOp
      rw [ho]
      simp only [hx]
      simp [Instr.box, newVar, Value.cells, go_sem]
    unfold Oper.wp
    rw [hrun]
    exact hK' _ _ (hK _ ⟨arr n f, heap_alloc_new w _, size_arr n f, fun i hi => arr_at n f i hi⟩ ((Below.refl _ _).alloc (Nat.le_refl _) _))
/-- The greater of two whole numbers. -/
theorem wpList_max {ops : Array Oper} {rest : List Oper} {o : Oper} {a : Act} {w : World} {Q : Exit → Act → World → Prop} (hgd : o.guard = none) {x y : Operand} {ts : Array TypeId} (ho : o.op = .call { callee := .builtin .max, args := #[x, y], argTypes := ts })
    (k : IntKind) (i j m : Int) (hx : a.eval x = .int k i) (hy : a.eval y = .int k j) (hm : m = if i < j then j else i) (hK : wpList P ops Q rest (a.put o.dst (.int k m)) w) : wpList P ops Q (o :: rest) a w :=
  wpList_plain hgd fun _ hK' => by
    have hrun : (execOp a.eval o).run P w = .ok (.value (.int k m)) w := by
      unfold execOp
      subst hm
      simp only [ho, resolve, invoke, builtin, Sem.run_bind, Sem.run_pure, Result.andThen_ok, List.map_toArray, List.map_cons, List.map_nil, hx, hy]
      simp [Builtin.max_, Builtin.max2, go_sem]
    unfold Oper.wp
    rw [hrun]
    exact hK' _ _ hK
/-- An operation whose guard says yes. -/
theorem wpList_guarded {ops : Array Oper} {rest : List Oper} {o : Oper} {a : Act} {w : World} {Q : Exit → Act → World → Prop} {j : Nat} {want : Bool} {d : Tmp} (hg : o.guard = some (j, want)) (hj : (ops[j]?).bind (·.dst) = some d) (hv : a.tmps[d]? = some (.bool want))
    (h : ∀ K : Act → World → Prop, (∀ a w, wpList P ops Q rest a w → K a w) → o.wp P a w K Q) : wpList P ops Q (o :: rest) a w :=
  wpList_step fun K hK => by
    rw [if_pos (by simp [Region.wanted, hg, yielded, hj, hv])]
    exact h K hK
/-- A slice expression whose guard says yes. -/
theorem wpList_sliceG {w : World} {ops : Array Oper} {rest : List Oper} {o : Oper} {a : Act} {Q : Exit → Act → World → Prop} {j : Nat} {want : Bool} {d : Tmp} (hg : o.guard = some (j, want)) (hj : (ops[j]?).bind (·.dst) = some d) (hv : a.tmps[d]? = some (.bool want)) (t : TypeId) (x : Operand) (lo hi : Option Operand) (ho : o.op = .slice t x lo hi none)
    {v sv : Value} {l h : Option Value} (hx : a.eval x = v) (hr : ∀ w, (Instr.sliceAt t v l h none).run P w = .ok sv w) (hl : lo.map a.eval = l) (hh : hi.map a.eval = h)
    (hK : wpList P ops Q rest (a.put o.dst sv) w) : wpList P ops Q (o :: rest) a w :=
  wpList_guarded hg hj hv fun _ hK' => by
    have hrun : (execOp a.eval o).run P w = .ok (.value sv) w := by
      unfold execOp
      rw [ho]
      simp only [hx]
      rw [show lo.map (fun y => a.eval y) = l from hl, show hi.map (fun y => a.eval y) = h from hh]
      simp [hr w]
    unfold Oper.wp
    rw [hrun]
    exact hK' _ _ hK
theorem wpList_load_rdG {ops : Array Oper} {rest : List Oper} {o : Oper} {a : Act} {w : World} {Q : Exit → Act → World → Prop} {j : Nat} {want : Bool} {dd : Tmp} (hg : o.guard = some (j, want)) (hj : (ops[j]?).bind (·.dst) = some dd) (hv : a.tmps[dd]? = some (.bool want)) (ty : TypeId) (x : Operand) (ho : o.op = .load ty x)
    (n : Nat) (d : TypeDesc) (hu : P.underlying ty = some d) (hd : (match d with | .struct _ | .array _ _ => true | _ => false) = true) (hi : (P.info? ty).map (·.size) = some n)
    (ad : Addr) (hx : a.eval x = .pointer (some ad)) (f : Nat → Value) (h : ∀ i, i < n → w.cell? (ad.add i) = some (f i)) (hK : wpList P ops Q rest (a.put o.dst (.agg (arr n f))) w) : wpList P ops Q (o :: rest) a w :=
  wpList_guarded hg hj hv fun _ hK' => by
    have hrun : (execOp a.eval o).run P w = .ok (.value (.agg (arr n f))) w := by
      unfold execOp
      rw [ho]
      simp only [hx]
      simp [run_loadAt_rd w ad n ty d f h hu hd hi]
    unfold Oper.wp
    rw [hrun]
    exact hK' _ _ hK
theorem ld_all {w1 : World} {B b : Nat} {T : TypeId} {n : Nat} {F : Nat → Value} (hr : w1.rowIs b T n F) (hb : b < B) {ty : TypeId} {d : TypeDesc} (hu : P.underlying ty = some d) (hd : (match d with | .struct _ | .array _ _ => true | _ => false) = true) (hi : (P.info? ty).map (·.size) = some n) :
    ∀ w', Below B w1 w' → (Instr.loadAt ty (.pointer (some ⟨b, 0, none⟩))).run P w' = .ok (.agg (arr n F)) w' := fun w' h =>
  run_loadAt_rd w' ⟨b, 0, none⟩ n ty d F (fun i hi => by rw [add_lit0]; exact (row_below hr h hb).cell hi) hu hd hi
section
variable {ops : Array Oper} {B : Nat} {w0 : World} {o : Oper} {lk : Tmp → SF} {F : SF}
/-- A call of a known value and a slice that reads as g. -/
theorem opOb_fnR {f : FuncId} (hent : ∀ vs w, (callFunc f vs).run P w = .ok (.enter f vs) w) {x y : Tmp} {v : Value} {n : Nat} {g : Nat → Value} {ts : Array TypeId} (hg : o.guard = none) (hop : o.op = .call { callee := .value (.func f), args := #[.tmp x, .tmp y], argTypes := ts })
    (hx : lk x = SF.is v) (hy : lk y = SF.rd n g) (hr : ∀ w A c, Below B w0 w → Rd w w.heap.size A n g → Calls P f #[v, .slice A n c] w fun e w' => ∃ v, e = .returned v ∧ F.F v w' ∧ Below w.heap.size w w') : opOb P ops B w0 o F lk :=
  opOb_call hg fun a w hb hf => by
    have h1 := hf x (by rw [hop]; simp [Op.operands, Call.operands])
    have h2 := hf y (by rw [hop]; simp [Op.operands, Call.operands])
    rw [hx] at h1
    rw [hy] at h2
    obtain ⟨A, c, e2, h2⟩ := h2
    have h1' : a.eval (.tmp x) = v := (getD_eq _ _).trans h1
    have h2' : a.eval (.tmp y) = .slice A n c := (getD_eq _ _).trans e2
    refine ⟨f, #[v, .slice A n c], ?_, hr w A c hb h2⟩
    unfold execOp
    rw [hop]
    simp only [resolve, List.map_toArray, List.map_cons, List.map_nil, h1', h2']
    simp [invoke, Deferred.ofValue, Act.eval, hent]
/-- A call of two such slices. -/
theorem opOb_fnRR {f : FuncId} (hent : ∀ vs w, (callFunc f vs).run P w = .ok (.enter f vs) w) {x y : Tmp} {n m : Nat} {g h : Nat → Value} {ts : Array TypeId} (hg : o.guard = none) (hop : o.op = .call { callee := .value (.func f), args := #[.tmp x, .tmp y], argTypes := ts })
    (hx : lk x = SF.rd n g) (hy : lk y = SF.rd m h) (hr : ∀ w A c A' c', Below B w0 w → Rd w w.heap.size A n g → Rd w w.heap.size A' m h → Calls P f #[.slice A n c, .slice A' m c'] w fun e w' => ∃ v, e = .returned v ∧ F.F v w' ∧ Below w.heap.size w w') : opOb P ops B w0 o F lk :=
  opOb_call hg fun a w hb hf => by
    have h1 := hf x (by rw [hop]; simp [Op.operands, Call.operands])
    have h2 := hf y (by rw [hop]; simp [Op.operands, Call.operands])
    rw [hx] at h1
    rw [hy] at h2
    obtain ⟨A, c, e1, h1⟩ := h1
    obtain ⟨A', c', e2, h2⟩ := h2
    have h1' : a.eval (.tmp x) = .slice A n c := (getD_eq _ _).trans e1
    have h2' : a.eval (.tmp y) = .slice A' m c' := (getD_eq _ _).trans e2
    refine ⟨f, #[.slice A n c, .slice A' m c'], ?_, hr w A c A' c' hb h1 h2⟩
    unfold execOp
    rw [hop]
    simp only [resolve, List.map_toArray, List.map_cons, List.map_nil, h1', h2']
    simp [invoke, Deferred.ofValue, Act.eval, hent]
theorem opOb_lenR {x : Tmp} {n : Nat} {g : Nat → Value} {t e : TypeId} (hu : P.underlying t = some (.slice e)) (hg : o.guard = none) (hop : o.op = .call { callee := .builtin .len, args := #[.tmp x], argTypes := #[t] }) (hx : lk x = SF.rd n g) : opOb P ops B w0 o (SF.is (.int .i64 (n : Int))) lk :=
  opOb_val _ hg fun a w _ hf => by
    have h1 := hf x (by rw [hop]; simp [Op.operands, Call.operands])
    rw [hx] at h1
    obtain ⟨A, c, e1, h1⟩ := h1
    have h1' : a.eval (.tmp x) = .slice A n c := (getD_eq _ _).trans e1
    unfold execOp
    simp only [hop, resolve, invoke, builtin, Sem.run_bind, Sem.run_pure, Result.andThen_ok, List.map_toArray, List.map_cons, List.map_nil, h1']
    simp [Builtin.len_, run_underlying hu, go_sem]
end
end
end Go.Proofs.YtecgogeebponlaaDoor
