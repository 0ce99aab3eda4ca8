/- A part of what the proofs stand on: Box, Step, OwnZ, BuildS, Guard, LawOps, Ptr, Ord. -/
import Derived.Test.YtlcpflaofggmeaaDoorGTre8
import Derived.Test.YtlcpflaofggmeaaDoorGTre2
import Derived.RegionTactic
/- Values of many cells: boxed, loaded from where they lie, kept in new variables. -/
namespace Go.Proofs.YtlcpflaofggmeaaDoor
set_option maxRecDepth 40000
open Go.RowKit
/-- A mark in the context: which of two alike calls comes next. -/
inductive Tok : Nat → Prop
  | mk (n : Nat) : Tok n
section
variable {P : Program}
theorem run_loadCells_rd (w : World) (ad : Addr) (n : Nat) (f : Nat → Value) (h : ∀ i, i < n → w.cell? (ad.add i) = some (f i)) : (loadCells ad n).run P w = .ok (arr n f) w := by
  have := run_loadCells_list (P := P) (w := w) ad ((List.range n).map f) (fun j v hj => by
    have hjl : j < n := by
      rcases Nat.lt_or_ge j n with h | h
      · exact h
      · simp [h] at hj
    rw [h j hjl]
    simp [hjl] at hj
    exact congrArg some hj)
  simpa [arr] using this
theorem run_loadAt_rd (w : World) (ad : Addr) (n : Nat) (ty : TypeId) (d : TypeDesc) (f : Nat → Value) (h : ∀ i, i < n → w.cell? (ad.add i) = some (f i)) (hu : P.underlying ty = some d) (hd : (match d with | .struct _ | .array _ _ => true | _ => false) = true) (hi : (P.info? ty).map (·.size) = some n) :
    (Instr.loadAt ty (.pointer (some ad))).run P w = .ok (.agg (arr n f)) w := by
  simp only [Instr.loadAt, Instr.sureAddr, Sem.run_bind, Sem.run_pure, Result.andThen]
  cases hq : P.info? ty with
  | none => rw [hq] at hi; simp at hi
  | some i =>
    have hs : i.size = n := by rw [hq] at hi; simpa using hi
    have hagg : (isAgg ty).run P w = .ok true w := by
      unfold isAgg
      rw [Sem.run_bind, run_underlying hu w]
      cases d <;> simp_all
    simp [loadVar, Sem.run_bind, hagg, sizeOf, typeInfo, hq, hs, run_loadCells_rd w ad n f h]
/-- A struct or an array is loaded from where it lies. -/
theorem wpList_load_rd {ops : Array Oper} {rest : List Oper} {o : Oper} {a : Act} {w : World} {Q : Exit → Act → World → Prop} (hgd : o.guard = none) (ty : TypeId) (x : Operand) (ho : o.op = .load ty x)
    (n : Nat) (d : TypeDesc) (hu : P.underlying ty = some d) (hd : (match d with | .struct _ | .array _ _ => true | _ => false) = true) (hi : (P.info? ty).map (·.size) = some n)
    (ad : Addr) (hx : a.eval x = .pointer (some ad)) (f : Nat → Value) (h : ∀ i, i < n → w.cell? (ad.add i) = some (f i)) (hK : wpList P ops Q rest (a.put o.dst (.agg (arr n f))) w) : wpList P ops Q (o :: rest) a w :=
  wpList_plain hgd fun _ hK' => by
    have hrun : (execOp a.eval o).run P w = .ok (.value (.agg (arr n f))) w := by
      unfold execOp
      rw [ho]
      simp only [hx]
      simp [run_loadAt_rd w ad n ty d f h hu hd hi]
    unfold Oper.wp
    rw [hrun]
    exact hK' _ _ hK
/-- An argument that is kept in memory. -/
theorem wpList_box {ops : Array Oper} {rest : List Oper} {o : Oper} {a : Act} {w : World} {Q : Exit → Act → World → Prop} (hgd : o.guard = none) (ty : TypeId) (x : Operand) (ho : o.op = .box ty x)
    (n : Nat) (f : Nat → Value) (hx : a.eval x = .agg (arr n f)) (hK : ∀ w', w'.rowIs w.heap.size ty n f → Below w.heap.size w w' → wpList P ops Q rest (a.put o.dst (.pointer (some ⟨w.heap.size, 0, none⟩))) w') : wpList P ops Q (o :: rest) a w :=
  wpList_plain hgd fun _ hK' => by
    have hrun : (execOp a.eval o).run P w = .ok (.value (.pointer (some ⟨w.heap.size, 0, none⟩))) (w.alloc (.cells (arr n f) ty)) := by
      unfold execOp
      rw [ho]
      simp only [hx]
      simp [Instr.box, newVar, Value.cells, go_sem]
    unfold Oper.wp
    rw [hrun]
    exact hK' _ _ (hK _ ⟨arr n f, heap_alloc_new w _, size_arr n f, fun i hi => arr_at n f i hi⟩ ((Below.refl _ _).alloc (Nat.le_refl _) _))
/-- The greater of two whole numbers. -/
theorem wpList_max {ops : Array Oper} {rest : List Oper} {o : Oper} {a : Act} {w : World} {Q : Exit → Act → World → Prop} (hgd : o.guard = none) {x y : Operand} {ts : Array TypeId} (ho : o.op = .call { callee := .builtin .max, args := #[x, y], argTypes := ts })
    (k : IntKind) (i j m : Int) (hx : a.eval x = .int k i) (hy : a.eval y = .int k j) (hm : m = if i < j then j else i) (hK : wpList P ops Q rest (a.put o.dst (.int k m)) w) : wpList P ops Q (o :: rest) a w :=
  wpList_plain hgd fun _ hK' => by
    have hrun : (execOp a.eval o).run P w = .ok (.value (.int k m)) w := by
      unfold execOp
      subst hm
      simp only [ho, resolve, invoke, builtin, Sem.run_bind, Sem.run_pure, Result.andThen_ok, List.map_toArray, List.map_cons, List.map_nil, hx, hy]
      simp [Builtin.max_, Builtin.max2, go_sem]
    unfold Oper.wp
    rw [hrun]
    exact hK' _ _ hK
/-- An operation whose guard says yes. -/
theorem wpList_guarded {ops : Array Oper} {rest : List Oper} {o : Oper} {a : Act} {w : World} {Q : Exit → Act → World → Prop} {j : Nat} {want : Bool} {d : Tmp} (hg : o.guard = some (j, want)) (hj : (ops[j]?).bind (·.dst) = some d) (hv : a.tmps[d]? = some (.bool want))
    (h : ∀ K : Act → World → Prop, (∀ a w, wpList P ops Q rest a w → K a w) → o.wp P a w K Q) : wpList P ops Q (o :: rest) a w :=
  wpList_step fun K hK => by
    rw [if_pos (by simp [Region.wanted, hg, yielded, hj, hv])]
    exact h K hK
/-- A slice expression whose guard says yes. -/
theorem wpList_sliceG {w : World} {ops : Array Oper} {rest : List Oper} {o : Oper} {a : Act} {Q : Exit → Act → World → Prop} {j : Nat} {want : Bool} {d : Tmp} (hg : o.guard = some (j, want)) (hj : (ops[j]?).bind (·.dst) = some d) (hv : a.tmps[d]? = some (.bool want)) (t : TypeId) (x : Operand) (lo hi : Option Operand) (ho : o.op = .slice t x lo hi none)
    {v sv : Value} {l h : Option Value} (hx : a.eval x = v) (hr : ∀ w, (Instr.sliceAt t v l h none).run P w = .ok sv w) (hl : lo.map a.eval = l) (hh : hi.map a.eval = h)
    (hK : wpList P ops Q rest (a.put o.dst sv) w) : wpList P ops Q (o :: rest) a w :=
  wpList_guarded hg hj hv fun _ hK' => by
    have hrun : (execOp a.eval o).run P w = .ok (.value sv) w := by
      unfold execOp
      rw [ho]
      simp only [hx]
      rw [show lo.map (fun y => a.eval y) = l from hl, show hi.map (fun y => a.eval y) = h from hh]
      simp [hr w]
    unfold Oper.wp
    rw [hrun]
    exact hK' _ _ hK
theorem wpList_load_rdG {ops : Array Oper} {rest : List Oper} {o : Oper} {a : Act} {w : World} {Q : Exit → Act → World → Prop} {j : Nat} {want : Bool} {dd : Tmp} (hg : o.guard = some (j, want)) (hj : (ops[j]?).bind (·.dst) = some dd) (hv : a.tmps[dd]? = some (.bool want)) (ty : TypeId) (x : Operand) (ho : o.op = .load ty x)
    (n : Nat) (d : TypeDesc) (hu : P.underlying ty = some d) (hd : (match d with | .struct _ | .array _ _ => true | _ => false) = true) (hi : (P.info? ty).map (·.size) = some n)
    (ad : Addr) (hx : a.eval x = .pointer (some ad)) (f : Nat → Value) (h : ∀ i, i < n → w.cell? (ad.add i) = some (f i)) (hK : wpList P ops Q rest (a.put o.dst (.agg (arr n f))) w) : wpList P ops Q (o :: rest) a w :=
  wpList_guarded hg hj hv fun _ hK' => by
    have hrun : (execOp a.eval o).run P w = .ok (.value (.agg (arr n f))) w := by
      unfold execOp
      rw [ho]
      simp only [hx]
      simp [run_loadAt_rd w ad n ty d f h hu hd hi]
    unfold Oper.wp
    rw [hrun]
    exact hK' _ _ hK
theorem ld_all {w1 : World} {B b : Nat} {T : TypeId} {n : Nat} {F : Nat → Value} (hr : w1.rowIs b T n F) (hb : b < B) {ty : TypeId} {d : TypeDesc} (hu : P.underlying ty = some d) (hd : (match d with | .struct _ | .array _ _ => true | _ => false) = true) (hi : (P.info? ty).map (·.size) = some n) :
    ∀ w', Below B w1 w' → (Instr.loadAt ty (.pointer (some ⟨b, 0, none⟩))).run P w' = .ok (.agg (arr n F)) w' := fun w' h =>
  run_loadAt_rd w' ⟨b, 0, none⟩ n ty d F (fun i hi => by rw [add_lit0]; exact (row_below hr h hb).cell hi) hu hd hi
section
variable {ops : Array Oper} {B : Nat} {w0 : World} {o : Oper} {lk : Tmp → SF} {F : SF}
/-- A call of a known value and a slice that reads as g. -/
theorem opOb_fnR {f : FuncId} (hent : ∀ vs w, (callFunc f vs).run P w = .ok (.enter f vs) w) {x y : Tmp} {v : Value} {n : Nat} {g : Nat → Value} {ts : Array TypeId} (hg : o.guard = none) (hop : o.op = .call { callee := .value (.func f), args := #[.tmp x, .tmp y], argTypes := ts })
    (hx : lk x = SF.is v) (hy : lk y = SF.rd n g) (hr : ∀ w A c, Below B w0 w → Rd w w.heap.size A n g → Calls P f #[v, .slice A n c] w fun e w' => ∃ v, e = .returned v ∧ F.F v w' ∧ Below w.heap.size w w') : opOb P ops B w0 o F lk :=
  opOb_call hg fun a w hb hf => by
    have h1 := hf x (by rw [hop]; simp [Op.operands, Call.operands])
    have h2 := hf y (by rw [hop]; simp [Op.operands, Call.operands])
    rw [hx] at h1
    rw [hy] at h2
    obtain ⟨A, c, e2, h2⟩ := h2
    have h1' : a.eval (.tmp x) = v := (getD_eq _ _).trans h1
    have h2' : a.eval (.tmp y) = .slice A n c := (getD_eq _ _).trans e2
    refine ⟨f, #[v, .slice A n c], ?_, hr w A c hb h2⟩
    unfold execOp
    rw [hop]
    simp only [resolve, List.map_toArray, List.map_cons, List.map_nil, h1', h2']
    simp [invoke, Deferred.ofValue, Act.eval, hent]
/-- A call of two such slices. -/
theorem opOb_fnRR {f : FuncId} (hent : ∀ vs w, (callFunc f vs).run P w = .ok (.enter f vs) w) {x y : Tmp} {n m : Nat} {g h : Nat → Value} {ts : Array TypeId} (hg : o.guard = none) (hop : o.op = .call { callee := .value (.func f), args := #[.tmp x, .tmp y], argTypes := ts })
    (hx : lk x = SF.rd n g) (hy : lk y = SF.rd m h) (hr : ∀ w A c A' c', Below B w0 w → Rd w w.heap.size A n g → Rd w w.heap.size A' m h → Calls P f #[.slice A n c, .slice A' m c'] w fun e w' => ∃ v, e = .returned v ∧ F.F v w' ∧ Below w.heap.size w w') : opOb P ops B w0 o F lk :=
  opOb_call hg fun a w hb hf => by
    have h1 := hf x (by rw [hop]; simp [Op.operands, Call.operands])
    have h2 := hf y (by rw [hop]; simp [Op.operands, Call.operands])
    rw [hx] at h1
    rw [hy] at h2
    obtain ⟨A, c, e1, h1⟩ := h1
    obtain ⟨A', c', e2, h2⟩ := h2
    have h1' : a.eval (.tmp x) = .slice A n c := (getD_eq _ _).trans e1
    have h2' : a.eval (.tmp y) = .slice A' m c' := (getD_eq _ _).trans e2
    refine ⟨f, #[.slice A n c, .slice A' m c'], ?_, hr w A c A' c' hb h1 h2⟩
    unfold execOp
    rw [hop]
    simp only [resolve, List.map_toArray, List.map_cons, List.map_nil, h1', h2']
    simp [invoke, Deferred.ofValue, Act.eval, hent]
theorem opOb_lenR {x : Tmp} {n : Nat} {g : Nat → Value} {t e : TypeId} (hu : P.underlying t = some (.slice e)) (hg : o.guard = none) (hop : o.op = .call { callee := .builtin .len, args := #[.tmp x], argTypes := #[t] }) (hx : lk x = SF.rd n g) : opOb P ops B w0 o (SF.is (.int .i64 (n : Int))) lk :=
  opOb_val _ hg fun a w _ hf => by
    have h1 := hf x (by rw [hop]; simp [Op.operands, Call.operands])
    rw [hx] at h1
    obtain ⟨A, c, e1, h1⟩ := h1
    have h1' : a.eval (.tmp x) = .slice A n c := (getD_eq _ _).trans e1
    unfold execOp
    simp only [hop, resolve, invoke, builtin, Sem.run_bind, Sem.run_pure, Result.andThen_ok, List.map_toArray, List.map_cons, List.map_nil, h1']
    simp [Builtin.len_, run_underlying hu, go_sem]
end
end
end Go.Proofs.YtlcpflaofggmeaaDoor
/- Steps of a walk whose world is a letter behind them. -/
namespace Go.Proofs.YtlcpflaofggmeaaDoor
set_option maxRecDepth 40000
open Go.RowKit
theorem add_litO (g o n : Nat) : (⟨g, o, none⟩ : Addr).add n = ⟨g, o + n, none⟩ := by unfold Addr.add; split <;> simp_all
section
variable {P : Program}
/-- A new variable of zero cells; its world is a letter. -/
theorem wpList_allocH {ops : Array Oper} {rest : List Oper} {o : Oper} {a : Act} {w w0 : World} {Q : Exit → Act → World → Prop} {rows : List RowSpec} (hgd : o.guard = none) (t : TypeId) (ho : o.op = .alloc t) (h : HS w0 w rows) (cs : Array Value)
    (hz : (P.info? t).bind (·.zero) = some (.agg cs)) (n : Nat) (f : Nat → Value) (hn : cs.size = n) (hc : ∀ i, i < n → cs[i]? = some (f i)) (hK : ∀ w', HS w0 w' (⟨w.heap.size, t, n, f⟩ :: rows) → wpList P ops Q rest (a.put o.dst (.pointer (some ⟨w.heap.size, 0, none⟩))) w') : wpList P ops Q (o :: rest) a w :=
  wpList_alloc_as hgd t ho cs hz (hK _ (h.alloc cs t n f hn hc))
/-- Two results, the first in memory. -/
theorem ret_rowTmp {fn : Func} {R : Ending → World → Prop} {a : Act} {w : World} {p q : Tmp} {ty : TypeId} (h : fn.results = #[.cell p ty, .tmp q]) {b : Nat} {t : TypeId} {n : Nat} {f : Nat → Value} (hr : w.rowIs b t n f) (d : TypeDesc) (v : Value)
    (hp : a.tmps.getD p undef = .pointer (some ⟨b, 0, none⟩)) (hq : a.tmps.getD q undef = v)
    (hu : P.underlying ty = some d) (hd : (match d with | .struct _ | .array _ _ => true | _ => false) = true) (hi : (P.info? ty).map (·.size) = some n) (hdf : a.defers = [])
    (hR : R (.returned (.tuple #[.agg (arr n f), v])) w) : bodyPost P fn R .ret a w := by
  refine bodyPost_ret (v := .tuple #[.agg (arr n f), v]) ?_ hdf hR
  have hp' : a.tmps[p]?.getD undef = .pointer (some ⟨b, 0, none⟩) := by simpa using hp
  have hq' : a.tmps[q]?.getD undef = v := by simpa using hq
  simp [results, h, hp', hq', asAddr, run_loadVar_row w b t ty (arr n f) (0, 0) d (heap_arr hr) hu hd (by rw [hi, size_arr])]
/-- A whole array is laid into row k; the world is a letter. -/
theorem wpList_storeH {ops : Array Oper} {rest : List Oper} {o : Oper} {a : Act} {w w0 : World} {Q : Exit → Act → World → Prop} {rows : List RowSpec} (hgd : o.guard = none) (ty : TypeId) (x y : Operand) (ho : o.op = .store ty x y) (h : HS w0 w rows) (k : Nat) {b : Nat} {t : TypeId} {n : Nat} {f : Nat → Value} (hk : rows[k]? = some ⟨b, t, n, f⟩)
    (g : Nat → Value) (hx : a.eval x = .pointer (some ⟨b, 0, none⟩)) (hy : a.eval y = .agg (arr n g)) (hi : (P.info? ty).map (·.size) = some n) (h1 : ∀ i, i < n → (g i).oneCell' = true)
    (hK : ∀ w', HS w0 w' (rows.set k ⟨b, t, n, g⟩) → wpList P ops Q rest (a.put o.dst undef) w') : wpList P ops Q (o :: rest) a w :=
  wpList_store_arr hgd ty x y ho (h.row k hk) (arr n g) hx hy (size_arr _ _) hi (fun i hi => ⟨_, arr_at _ _ i hi, h1 i hi⟩) (hK _ (h.setRow k hk (arr n g) (size_arr _ _) g (fun i hi => arr_at _ _ i hi)))
/-- An operation's value, said by the caller. -/
theorem wpList_as {ops : Array Oper} {rest : List Oper} {o : Oper} {a : Act} {w : World} {Q : Exit → Act → World → Prop} (hgd : o.guard = none) (d : Tmp) (_hd : o.dst = some d) (v : Value) (h : (execOp a.eval o).run P w = .ok (.value v) w) (hK : wpList P ops Q rest (a.put o.dst v) w) : wpList P ops Q (o :: rest) a w :=
  wpList_plain hgd fun _ hK' => by
    unfold Oper.wp
    rw [h]
    exact hK' _ _ hK
/-- A new variable of zero cells: its block and its world are letters. -/
theorem wp_allocL {o : Oper} {a : Act} {w w0 : World} {K : Act → World → Prop} {Q : Exit → Act → World → Prop} {rows : List RowSpec} (t : TypeId) (d : Tmp) (_hd : o.dst = some d) (ho : o.op = .alloc t) (h : HS w0 w rows) (cs : Array Value)
    (hz : (P.info? t).bind (·.zero) = some (.agg cs)) (n : Nat) (f : Nat → Value) (hn : cs.size = n) (hc : ∀ i, i < n → cs[i]? = some (f i)) (hK : ∀ b w', w0.heap.size ≤ b → w.heap.size ≤ b → HS w0 w' (⟨b, t, n, f⟩ :: rows) → K (a.put o.dst (.pointer (some ⟨b, 0, none⟩))) w') : o.wp P a w K Q := by
  have hr : (Instr.alloc t true (.tuple #[])).run P w = .ok (.pointer (some ⟨w.heap.size, 0, none⟩)) (w.alloc (.cells cs t)) := by
    cases hq : P.info? t with
    | none => rw [hq] at hz; simp at hz
    | some i =>
      rw [hq] at hz
      simp at hz
      simp [Instr.alloc, zeroValue, typeInfo, hq, hz, newVar, Value.cells, go_sem]
  unfold Oper.wp execOp
  simp only [ho, Sem.run_bind, hr, Result.andThen_ok, Sem.run_pure]
  exact hK _ _ h.size (Nat.le_refl _) (h.alloc cs t n f hn hc)
theorem wpList_allocL {ops : Array Oper} {rest : List Oper} {o : Oper} {a : Act} {w w0 : World} {Q : Exit → Act → World → Prop} {rows : List RowSpec} (hgd : o.guard = none) (t : TypeId) (d : Tmp) (hd : o.dst = some d) (ho : o.op = .alloc t) (h : HS w0 w rows) (cs : Array Value)
    (hz : (P.info? t).bind (·.zero) = some (.agg cs)) (n : Nat) (f : Nat → Value) (hn : cs.size = n) (hc : ∀ i, i < n → cs[i]? = some (f i)) (hK : ∀ b w', w0.heap.size ≤ b → w.heap.size ≤ b → HS w0 w' (⟨b, t, n, f⟩ :: rows) → wpList P ops Q rest (a.put o.dst (.pointer (some ⟨b, 0, none⟩))) w') : wpList P ops Q (o :: rest) a w :=
  wpList_plain hgd fun _ hK' => wp_allocL t d hd ho h cs hz n f hn hc fun b w' h1 h1' h2 => hK' _ _ (hK b w' h1 h1' h2)
/-- An argument that is kept: its block and its world are letters. -/
theorem wpList_boxL {ops : Array Oper} {rest : List Oper} {o : Oper} {a : Act} {w w0 : World} {Q : Exit → Act → World → Prop} {rows : List RowSpec} (hgd : o.guard = none) (ty : TypeId) (x : Operand) (d : Tmp) (_hd : o.dst = some d) (ho : o.op = .box ty x) (h : HS w0 w rows)
    (n : Nat) (f : Nat → Value) (hx : a.eval x = .agg (arr n f)) (hK : ∀ b w', w0.heap.size ≤ b → w.heap.size ≤ b → HS w0 w' (⟨b, ty, n, f⟩ :: rows) → wpList P ops Q rest (a.put o.dst (.pointer (some ⟨b, 0, none⟩))) w') : wpList P ops Q (o :: rest) a w :=
  wpList_box hgd ty x ho n f hx fun w' h1 h2 => hK _ w' h.size (Nat.le_refl _) ((h.below h2).add h1 h.size fun r hr => by have := (h.has r hr).lt; omega)
theorem wp_storeL {o : Oper} {a : Act} {w w0 : World} {K : Act → World → Prop} {Q : Exit → Act → World → Prop} {rows : List RowSpec} (ty : TypeId) (x y : Operand) (ho : o.op = .store ty x y) (h : HS w0 w rows) (k : Nat) {b : Nat} {t : TypeId} {n : Nat} {f : Nat → Value} (hk : rows[k]? = some ⟨b, t, n, f⟩)
    (g : Nat → Value) (hx : a.eval x = .pointer (some ⟨b, 0, none⟩)) (hy : a.eval y = .agg (arr n g)) (hi : (P.info? ty).map (·.size) = some n) (h1 : ∀ i, i < n → (g i).oneCell' = true)
    (hK : ∀ w', HS w0 w' (rows.set k ⟨b, t, n, g⟩) → K (a.put o.dst undef) w') : o.wp P a w K Q :=
  wp_sto_arr ho (h.row k hk) (arr n g) hx hy (size_arr _ _) hi (fun i hi => ⟨_, arr_at _ _ i hi, h1 i hi⟩) (hK _ (h.setRow k hk (arr n g) (size_arr _ _) g (fun i hi => arr_at _ _ i hi)))
/-- copy into a part of row k. -/
theorem wp_copyL {o : Oper} {a : Act} {w w0 : World} {K : Act → World → Prop} {Q : Exit → Act → World → Prop} {rows : List RowSpec} {d s : Operand} {dT sT elem : TypeId} (hop : o.op = .call { callee := .builtin .copy, args := #[d, s], argTypes := #[dT, sT] }) (hu : P.underlying dT = some (.slice elem)) (hs : (P.info? elem).map (·.size) = some 1)
    (h : HS w0 w rows) (k : Nat) {b : Nat} {t : TypeId} {N : Nat} {F : Nat → Value} (hk : rows[k]? = some ⟨b, t, N, F⟩) (off dLen dCap : Nat) {A : Option Addr} {sLen sCap B : Nat} {fs : Nat → Value} (hsrc : Rd w B A sLen fs) (h1 : ∀ i, i < sLen → (fs i).oneCell' = true) (n : Nat) (hn : n = min sLen dLen) (hfit : off + n ≤ N)
    (hd : a.eval d = .slice (some ⟨b, off, none⟩) dLen dCap) (hss : a.eval s = .slice A sLen sCap) (G : Nat → Value) (hG : ∀ j, j < N → (if off ≤ j ∧ j < off + n then fs (j - off) else F j) = G j)
    (hK : ∀ w1, HS w0 w1 (rows.set k ⟨b, t, N, G⟩) → K (a.put o.dst (.int .i64 (n : Int))) w1) : o.wp P a w K Q :=
  wp_copy_fn hop hu hs (h.row k hk) off dLen dCap hsrc h1 n hn hfit hd hss fun w1 hr hg => hK w1 (h.write k hk hg (hr.congr hG))
/-- Some rows are forgotten. -/
theorem HS.sub {w0 w : World} {rows rows' : List RowSpec} (h : HS w0 w rows) (hs : rows'.Sublist rows) (hr : ∀ r ∈ rows, w0.heap.size ≤ r.b) : HS w0 w rows' :=
  ⟨h.os, h.tape, h.output, h.size, fun k hk _ => h.block k hk (fun r hr' e => by
    have h1 := hr r hr'
    omega), fun r hr' => h.has r (hs.subset hr'), h.apart.sublist hs⟩
end
theorem row_ne {w : World} {b b' : Nat} {t t' : TypeId} {n n' : Nat} {f f' : Nat → Value} (h : w.rowIs b t n f) (h' : w.rowIs b' t' n' f') (hne : t ≠ t') : b ≠ b' := by
  rintro rfl
  obtain ⟨c, hc, _⟩ := h
  obtain ⟨c', hc', _⟩ := h'
  rw [hc] at hc'
  injection hc' with hc'
  injection hc' with _ h2
  exact hne h2
/-- A new variable. -/
def SF.new (base : Nat) (t : TypeId) (n : Nat) (f : Nat → Value) : SF := ⟨fun v w => ∃ b, v = .pointer (some ⟨b, 0, none⟩) ∧ base ≤ b ∧ w.rowIs b t n f, fun _ _ _ ⟨b, e, h1, h⟩ hb => ⟨b, e, h1, row_below h hb h.lt⟩⟩
section
variable {P : Program} {ops : Array Oper} {B : Nat} {w0 : World} {o : Oper} {lk : Tmp → SF}
theorem opOb_new (base : Nat) {t : TypeId} (hg : o.guard = none) (hop : o.op = .alloc t) (cs : Array Value) (hz : (P.info? t).bind (·.zero) = some (.agg cs)) (n : Nat) (f : Nat → Value) (hn : cs.size = n) (hc : ∀ i, i < n → cs[i]? = some (f i)) (hb : base ≤ w0.heap.size) : opOb P ops B w0 o (SF.new base t n f) lk :=
  opOb_of hg fun a w hbel hf => by
    have hr : (Instr.alloc t true (.tuple #[])).run P w = .ok (.pointer (some ⟨w.heap.size, 0, none⟩)) (w.alloc (.cells cs t)) := by
      cases hq : P.info? t with
      | none => rw [hq] at hz; simp at hz
      | some i =>
        rw [hq] at hz
        simp at hz
        simp [Instr.alloc, zeroValue, typeInfo, hq, hz, newVar, Value.cells, go_sem]
    unfold Oper.wp execOp
    simp only [hop, Sem.run_bind, hr, Result.andThen_ok, Sem.run_pure]
    have h0 := (HS.nil w).alloc cs t n f hn hc
    exact ⟨_, rfl, ⟨w.heap.size, rfl, Nat.le_trans hb hbel.size, h0.row 0 rfl⟩, h0.out (by simp)⟩
end
end Go.Proofs.YtlcpflaofggmeaaDoor
/- Rows of the call's own whose elements have z cells each: append of whatever reads as a function of its index. -/
namespace Go.Proofs.YtlcpflaofggmeaaDoor
set_option maxRecDepth 40000
open Go.RowKit
/-- The slice '.slice A n c' of elements of z cells is the call's own, and its cells read as f. -/
def OwnZ (w : World) (base : Nat) (e : TypeId) (z : Nat) (A : Option Addr) (n c : Nat) (f : Nat → Value) : Prop := w.ownsRow base e z (.slice A n c) n ((List.range (n * z)).map f)
section
variable {w w' : World} {base z n c : Nat} {e : TypeId} {A : Option Addr} {f f' : Nat → Value}
theorem OwnZ.nil (w : World) (base : Nat) (e : TypeId) (z : Nat) (f : Nat → Value) : OwnZ w base e z none 0 0 f := by
  have := World.ownsRow_nil w base e z
  unfold OwnZ
  simpa using this
theorem OwnZ.congr (h : OwnZ w base e z A n c f) (k : ∀ i, i < n * z → f i = f' i) : OwnZ w base e z A n c f' := by
  unfold OwnZ at *
  rwa [← List.map_congr_left (fun i hi => k i (List.mem_range.1 hi))]
theorem OwnZ.rd (h : OwnZ w base e z A n c f) : Rd w w.heap.size A (n * z) f := fun hn => by
  have hn' : 0 < n := by
    rcases Nat.eq_zero_or_pos n with h0 | h0
    · subst h0; simp at hn
    · exact h0
  obtain ⟨g, cap, hv, hb, hlt⟩ := World.ownsRow.form h hn'
  have hA : A = some ⟨g, 0, none⟩ := by injection hv
  subst hA
  refine ⟨_, rfl, hlt, fun i hi => ?_⟩
  have h2 : c = cap := by injection hv
  subst h2
  rw [add_lit0, World.ownsRow.cellAt h i hi]
  simp [hi]
theorem OwnZ.base_le (h : OwnZ w base e z A n c f) : ∀ ad, A = some ad → base ≤ ad.block ∧ ad.block < w.heap.size := by
  rintro ad rfl
  exact World.ownsRow.lt h _ rfl
theorem OwnZ.off (h : OwnZ w base e z A n c f) : ∀ ad, A = some ad → ad = ⟨ad.block, 0, none⟩ := by
  rintro ad rfl
  rcases h.2 with ⟨hv, _⟩ | ⟨g, cap, cur, hv, _⟩
  · injection hv with h1; cases h1
  · injection hv with h1; injection h1 with h1; rw [h1]
theorem OwnZ.cap (h : OwnZ w base e z A n c f) : n ≤ c := by
  rcases h.2 with ⟨hv, _⟩ | ⟨g, cap, cur, hv, _, _, hnc, _⟩
  · injection hv with _ h1 h2; omega
  · injection hv with _ h1 h2; omega
theorem OwnZ.capM (h : OwnZ w base e z A n c f) : c ≤ maxLen := by
  rcases h.2 with ⟨hv, _⟩ | ⟨g, cap, cur, hv, _, _, hnc, hm, _⟩
  · injection hv with _ h1 h2; omega
  · injection hv with _ h1 h2; omega
theorem OwnZ.kept {row : Option Nat} (h : OwnZ w base e z A n c f) (hg : w.grownBy w' row) (hne : ∀ ad, A = some ad → some ad.block ≠ row) : OwnZ w' base e z A n c f := by
  refine World.ownsRow.kept h hg ?_
  cases A with
  | none => exact .inl rfl
  | some ad => exact .inr (hne ad rfl)
theorem OwnZ.below {B : Nat} (h : OwnZ w base e z A n c f) (hb : Below B w w') (hB : ∀ ad, A = some ad → ad.block < B) : OwnZ w' base e z A n c f := by
  obtain ⟨h1, h2⟩ := h
  refine ⟨h1, ?_⟩
  rcases h2 with h2 | ⟨g, cap, cur, hv, hg, hh, r⟩
  · exact .inl h2
  · refine .inr ⟨g, cap, cur, hv, hg, ?_, r⟩
    have hA : A = some ⟨g, 0, none⟩ := by injection hv
    rw [hb.block g (hB _ hA)]
    exact hh
/-- All that lay there before stays. -/
theorem OwnZ.all (h : OwnZ w base e z A n c f) (hb : Below w.heap.size w w') : OwnZ w' base e z A n c f := h.below hb fun ad e => (h.base_le ad e).2
theorem OwnZ.mono {base' : Nat} (h : OwnZ w base e z A n c f) (hb : base' ≤ base) : OwnZ w base' e z A n c f :=
  ⟨h.1, h.2.imp id fun ⟨g, cap, cur, h1, h2, h3⟩ => ⟨g, cap, cur, h1, Nat.le_trans hb h2, h3⟩⟩
theorem OwnZ.of_row {g m : Nat} (h : w.rowIs g e (m * z) f) (hb : base ≤ g) (hm : m ≤ maxLen) : OwnZ w base e z (some ⟨g, 0, none⟩) m m f := by
  obtain ⟨cs, hh, hs, hc⟩ := h
  refine ⟨by simp, .inr ⟨g, m, cs, rfl, hb, hh, Nat.le_refl _, hm, by omega, ?_⟩⟩
  apply List.ext_getElem?
  intro i
  by_cases hi : i < m * z
  · simp [hi, hc i hi]
  · simp [List.getElem?_take, hi]
end
section
variable {P : Program} (w : World)
theorem run_appZ (base : Nat) (t ty e : TypeId) (i : TypeInfo) (z : Value) (k bytes : Nat) (ht : P.underlying t = some (.slice e)) (hi : P.info? e = some i) (hz : i.zero = some z)
    (hsize : i.size = k) (hby : i.bytes = bytes) (hzs : z.cells.size = k) (hk : 0 < k)
    {A C : Option Addr} {n c m cm B : Nat} {f g : Nat → Value} (hown : OwnZ w base e k A n c f) (hr : Rd w B C (m * k) g) (h1 : ∀ i, i < m * k → (g i).oneCell' = true)
    (hbytes : n + m ≤ 9223372036854775807 ∧ (n + m) * bytes ≤ 140737488355328) (hbase : base ≤ w.heap.size) :
    ∃ A' c' w', (Builtin.append_ #[t, t] ty #[.slice A n c, .slice C m cm]).run P w = .ok (.slice A' (n + m) c') w' ∧ OwnZ w' base e k A' (n + m) c' (catF (n * k) f g) ∧
      w.grownBy w' (A.map (·.block)) ∧ (∀ ad, A' = some ad → some ad.block = A.map (·.block) ∨ ad.block = w.heap.size) := by
  rcases C with _ | ad
  · have hm : m = 0 := by
      rcases Nat.eq_zero_or_pos m with h0 | h0
      · exact h0
      · obtain ⟨ad, h, _⟩ := hr (Nat.mul_pos h0 hk)
        cases h
    subst hm
    refine ⟨A, c, w, ?_, hown.congr (fun i hi => by simp [catF, hi]), World.grownBy.refl w _, fun ad h => .inl (by rw [h]; rfl)⟩
    rcases hown.2 with ⟨hv, h0⟩ | ⟨g', cap, cur, hv, _, _, hnc, _⟩
    · injection hv with h1 h2 h3; subst h1 h2 h3
      simp [Builtin.append_, run_underlying ht, sizeOf, typeInfo, hi, Builtin.lenOf, Builtin.firstCells]
    · injection hv with h1 h2 h3; subst h1 h3
      simp [Builtin.append_, run_underlying ht, sizeOf, typeInfo, hi, Builtin.lenOf, Builtin.firstCells, hnc, storeCells]
  · have hcells : ∀ j u, ((List.range (m * k)).map g)[j]? = some u → w.cell? (ad.add j) = some u := by
      intro j u hu
      have hj : j < m * k := by
        rcases Nat.lt_or_ge j (m * k) with h | h
        · exact h
        · simp [h] at hu
      obtain ⟨ad', h, _, hc⟩ := hr (by omega)
      injection h with h; subst h
      rw [hc j hj]
      simpa [hj] using hu
    obtain ⟨v', w', hrun, h2, h3, _, h5⟩ := run_append_own_at (P := P) w base t ty e i z k bytes ht hi hz hsize hby hzs hk (.slice A n c) n _ hown ad m cm ((List.range (m * k)).map g) (by simp) hcells
      (fun u hu => by obtain ⟨j, hj, rfl⟩ := List.mem_map.1 hu; exact h1 j (List.mem_range.1 hj)) (by unfold maxLen; omega) hbytes.2 hbase
    rw [catF_map, ← Nat.add_mul] at h2
    have hv : ∃ A' c', v' = .slice A' (n + m) c' := by
      rcases h2.2 with ⟨h, h0⟩ | ⟨g', cap, cur, h, _⟩
      · exact ⟨none, 0, by rw [h, h0]⟩
      · exact ⟨_, _, h⟩
    obtain ⟨A', c', rfl⟩ := hv
    have hb : Value.ownBlock (.slice A n c) = A.map (·.block) := by cases A <;> rfl
    rw [hb] at h3 h5
    refine ⟨A', c', w', hrun, h2, h3, ?_⟩
    rintro ad' rfl
    rcases h5 with h5 | h5
    · exact .inl h5
    · exact .inr (by simpa [Value.ownBlock] using h5)
theorem wp_appZ {o : Oper} {a : Act} {K : Act → World → Prop} {Q : Exit → Act → World → Prop} (s x : Operand) (t base : Nat) {e : TypeId} {z : Value} {k bytes : Nat}
    (hinfo : (P.info? e).map (fun i => (i.zero, i.size, i.bytes)) = some (some z, k, bytes)) (ht : P.underlying t = some (.slice e)) (hzs : z.cells.size = k) (hk : 0 < k)
    (ho : o.op = .call { callee := .builtin .append, args := #[s, x], argTypes := #[t, t] })
    (N : Nat) (F : Nat → Value)
    {A C : Option Addr} {n c m cm B : Nat} {f g : Nat → Value} (hs : a.eval s = .slice A n c) (hx : a.eval x = .slice C m cm) (hown : OwnZ w base e k A n c f) (hr : Rd w B C (m * k) g) (h1 : ∀ i, i < m * k → (g i).oneCell' = true)
    (hN : N = n + m) (hF : ∀ i, i < N * k → catF (n * k) f g i = F i)
    (hbytes : N ≤ 9223372036854775807 ∧ N * bytes ≤ 140737488355328) (hbase : base ≤ w.heap.size)
    (h : ∀ A' c' w', OwnZ w' base e k A' N c' F → w.grownBy w' (A.map (·.block)) → (∀ ad, A' = some ad → some ad.block = A.map (·.block) ∨ ad.block = w.heap.size) → K (a.put o.dst (.slice A' N c')) w') : o.wp P a w K Q := by
  have hi' : ∃ i, P.info? e = some i ∧ i.zero = some z ∧ i.size = k ∧ i.bytes = bytes := by
    cases hq : P.info? e with
    | none => rw [hq] at hinfo; simp at hinfo
    | some i => rw [hq] at hinfo; simp at hinfo; exact ⟨i, rfl, hinfo.1, hinfo.2.1, hinfo.2.2⟩
  obtain ⟨i, hi, hz, hsize, hby⟩ := hi'
  subst hN
  obtain ⟨A', c', w', hrun, h2, h3, h4⟩ := run_appZ (P := P) w base t o.type e i z k bytes ht hi hz hsize hby hzs hk (cm := cm) hown hr h1 hbytes hbase
  unfold Oper.wp execOp
  simp only [ho, resolve, invoke, builtin, Sem.run_bind, Sem.run_pure, Result.andThen_ok, List.map_toArray, List.map_cons, List.map_nil, hs, hx, hrun]
  exact h A' c' w' (h2.congr hF) h3 h4
/-- append, in a list of operations that don't draw. -/
theorem wpList_appZ {ops : Array Oper} {rest : List Oper} {o : Oper} {a : Act} {Q : Exit → Act → World → Prop} (s x : Operand) (t base : Nat) {e : TypeId} {z : Value} {k bytes : Nat}
    (hinfo : (P.info? e).map (fun i => (i.zero, i.size, i.bytes)) = some (some z, k, bytes)) (ht : P.underlying t = some (.slice e)) (hzs : z.cells.size = k) (hk : 0 < k)
    (hgd : o.guard = none) (ho : o.op = .call { callee := .builtin .append, args := #[s, x], argTypes := #[t, t] })
    (N : Nat) (F : Nat → Value)
    {A C : Option Addr} {n c m cm B : Nat} {f g : Nat → Value} (hs : a.eval s = .slice A n c) (hx : a.eval x = .slice C m cm) (hown : OwnZ w base e k A n c f) (hr : Rd w B C (m * k) g) (h1 : ∀ i, i < m * k → (g i).oneCell' = true)
    (hN : N = n + m) (hF : ∀ i, i < N * k → catF (n * k) f g i = F i)
    (hbytes : N ≤ 9223372036854775807 ∧ N * bytes ≤ 140737488355328) (hbase : base ≤ w.heap.size)
    (h : ∀ A' c' w', OwnZ w' base e k A' N c' F → w.grownBy w' (A.map (·.block)) → (∀ ad, A' = some ad → some ad.block = A.map (·.block) ∨ ad.block = w.heap.size) → wpList P ops Q rest (a.put o.dst (.slice A' N c')) w') :
    wpList P ops Q (o :: rest) a w :=
  wpList_plain hgd fun _ hK => wp_appZ w s x t base hinfo ht hzs hk ho N F hs hx hown hr h1 hN hF hbytes hbase fun A' c' w' h2 h3 h4 => hK _ _ (h A' c' w' h2 h3 h4)
end
end Go.Proofs.YtlcpflaofggmeaaDoor
/- Slices that are written out, of elements of many cells. -/
namespace Go.Proofs.YtlcpflaofggmeaaDoor
set_option maxRecDepth 40000
open Go.RowKit
theorem fold_lay (off : Nat) : ∀ (l : List Value) (k : Nat) (cs : Array Value) (i : Nat), off + k + l.length ≤ cs.size →
    ((l.zipIdx k).foldl (fun cs p => cs.setIfInBounds (off + p.2) p.1) cs)[i]? = if off + k ≤ i ∧ i < off + k + l.length then l[i - (off + k)]? else cs[i]? := by
  intro l
  induction l with
  | nil => intro k cs i _; simp; omega
  | cons a l ih =>
    intro k cs i h
    simp only [List.length_cons] at h
    rw [List.zipIdx_cons, List.foldl_cons, ih (k + 1) _ i (by simp; omega)]
    by_cases h1 : i = off + k
    · subst h1
      rw [if_neg (by omega), if_pos (by simp)]
      simp [Array.getElem?_setIfInBounds]; omega
    · by_cases h2 : off + (k + 1) ≤ i ∧ i < off + (k + 1) + l.length
      · rw [if_pos h2, if_pos (by simp; omega), show i - (off + k) = (i - (off + (k + 1))) + 1 by omega]; simp
      · rw [if_neg h2, if_neg (by simp; omega)]
        simp [Array.getElem?_setIfInBounds]; omega
theorem fold_size (off : Nat) : ∀ (l : List Value) (k : Nat) (cs : Array Value), ((l.zipIdx k).foldl (fun cs p => cs.setIfInBounds (off + p.2) p.1) cs).size = cs.size := by
  intro l
  induction l with
  | nil => intro k cs; rfl
  | cons a l ih => intro k cs; rw [List.zipIdx_cons, List.foldl_cons, ih (k + 1)]; simp
theorem fill_step (z N i : Nat) (f g : Nat → Value) (rest : List (Nat × Value)) (h : i * z + z ≤ N) :
    Instr.fill (fun i => some (i * z, z)) (arr N g) ((i, .agg (arr z f)) :: rest) = Instr.fill (fun i => some (i * z, z)) (arr N (fun q => if i * z ≤ q ∧ q < i * z + z then f (q - i * z) else g q)) rest := by
  have hc : (Value.agg (arr z f)).cells = arr z f := rfl
  have key : ((arr z f).zipIdx.foldl (fun cs (p : Value × Nat) => cs.setIfInBounds (i * z + p.2) p.1) (arr N g)) = arr N (fun q => if i * z ≤ q ∧ q < i * z + z then f (q - i * z) else g q) := by
    rw [← Array.foldl_toList, Array.toList_zipIdx]
    refine arr_of _ N _ (by rw [fold_size, size_arr]) (fun q hq => ?_)
    rw [fold_lay (i * z) (arr z f).toList 0 (arr N g) q (by simp [size_arr]; omega)]
    have hl : (arr z f).toList.length = z := by simp [size_arr]
    rw [hl]
    by_cases h1 : i * z ≤ q ∧ q < i * z + z
    · rw [if_pos (by omega), if_pos h1, Array.getElem?_toList, Nat.add_zero, arr_at z f _ (by omega)]
    · rw [if_neg (by omega), if_neg h1, arr_at N g q hq]
  rw [Instr.fill]
  simp only [hc, size_arr]
  rw [if_neg (by simp; omega)]
  exact congrArg (fun cs => Instr.fill (fun i => some (i * z, z)) cs rest) key
section
variable {P : Program}
theorem run_bsN (w : World) {t e : TypeId} {z len : Nat} (ht : P.underlying t = some (.slice e)) (hz : (P.info? e).map (·.size) = some z) (hlen : len * z ≤ 16777216) (h0 : 0 < len * z) {v0 : Value} (hzero : (P.info? e).bind (·.zero) = some v0) (parts : Array (Nat × Value)) (F : Nat → Value)
    (hf : ∀ g, Instr.fill (fun i => some (i * z, z)) (arr (len * z) g) parts.toList = some (arr (len * z) F)) :
    (Instr.buildSlice t len parts).run P w = .ok (.slice (some ⟨w.heap.size, 0, none⟩) len len) (w.alloc (.cells (arr (len * z) F) e)) := by
  cases hq : P.info? e with
  | none => rw [hq] at hz; simp at hz
  | some i =>
    have hs : i.size = z := by rw [hq] at hz; simpa using hz
    have hv : i.zero = some v0 := by rw [hq] at hzero; simpa using hzero
    have hg : (Array.range (len * z)).map (fun x => v0.cells[x % v0.cells.size]!) = arr (len * z) (fun x => v0.cells[x % v0.cells.size]!) := by
      refine arr_of _ _ _ (by simp) (fun q hq => by simp [hq])
    unfold Instr.buildSlice
    have hf' := hf (fun x => v0.cells[x % v0.cells.size]!)
    rw [← hg] at hf'
    simp only [Sem.run_bind, run_underlying ht, sizeOf_run hz, Result.andThen_ok]
    rw [if_neg (by omega), if_neg (by omega)]
    have hzv : (zeroValue e).run P w = .ok v0 w := by simp [zeroValue, typeInfo, hq, hv, go_sem]
    simp only [Sem.run_bind, hzv, Result.andThen_ok, Sem.run_pure]
    rw [hf']
    simp [newRow, go_sem]
theorem wp_bs1L {o : Oper} {a : Act} {w w0 : World} {K : Act → World → Prop} {Q : Exit → Act → World → Prop} {rows : List RowSpec} {t e : TypeId} {z : Nat} (ht : P.underlying t = some (.slice e)) (hz : (P.info? e).map (·.size) = some z) (hlen : z ≤ 16777216) (h0 : 0 < z) {v0 : Value} (hzero : (P.info? e).bind (·.zero) = some v0)
    (x : Operand) (ho : o.op = .buildSlice t 1 #[(0, x)]) (f : Nat → Value) (hx : a.eval x = .agg (arr z f)) (h : HS w0 w rows)
    (hK : ∀ b w', w0.heap.size ≤ b → w.heap.size ≤ b → HS w0 w' (⟨b, e, z, f⟩ :: rows) → K (a.put o.dst (.slice (some ⟨b, 0, none⟩) 1 1)) w') : o.wp P a w K Q := by
  have hr := run_bsN (P := P) w (t := t) (len := 1) ht hz (by omega) (by omega) hzero #[(0, .agg (arr z f))] f (fun g => by
    rw [show (#[((0 : Nat), Value.agg (arr z f))] : Array (Nat × Value)).toList = [(0, .agg (arr z f))] from rfl, fill_step z (1 * z) 0 f g [] (by omega)]
    show some _ = some _
    exact congrArg some (arr_congr fun i hi => by rw [if_pos (by omega)]; simp))
  rw [Nat.one_mul] at hr
  have hrun : (execOp a.eval o).run P w = .ok (.value (.slice (some ⟨w.heap.size, 0, none⟩) 1 1)) (w.alloc (.cells (arr z f) e)) := by
    unfold execOp
    rw [ho]
    simp only [List.map_toArray, List.map_cons, List.map_nil, hx]
    simp [hr]
  unfold Oper.wp
  rw [hrun]
  exact hK _ _ h.size (Nat.le_refl _) (h.alloc (arr z f) e z f (size_arr _ _) (fun i hi => arr_at _ _ i hi))
/-- []T{x}. -/
theorem wpList_bs1 {ops : Array Oper} {rest : List Oper} {o : Oper} {a : Act} {w w0 : World} {Q : Exit → Act → World → Prop} {rows : List RowSpec} (hgd : o.guard = none) {t e : TypeId} {z : Nat} (ht : P.underlying t = some (.slice e)) (hz : (P.info? e).map (·.size) = some z) (hlen : z ≤ 16777216) (h0 : 0 < z) {v0 : Value} (hzero : (P.info? e).bind (·.zero) = some v0)
    (x : Operand) (ho : o.op = .buildSlice t 1 #[(0, x)]) (f : Nat → Value) (hx : a.eval x = .agg (arr z f)) (h : HS w0 w rows)
    (hK : ∀ b w', w0.heap.size ≤ b → w.heap.size ≤ b → HS w0 w' (⟨b, e, z, f⟩ :: rows) → wpList P ops Q rest (a.put o.dst (.slice (some ⟨b, 0, none⟩) 1 1)) w') : wpList P ops Q (o :: rest) a w :=
  wpList_plain hgd fun _ hK' => by
    have hr := run_bsN (P := P) w (t := t) (len := 1) ht hz (by omega) (by omega) hzero #[(0, .agg (arr z f))] f (fun g => by
      rw [show (#[((0 : Nat), Value.agg (arr z f))] : Array (Nat × Value)).toList = [(0, .agg (arr z f))] from rfl, fill_step z (1 * z) 0 f g [] (by omega)]
      show some _ = some _
      exact congrArg some (arr_congr fun i hi => by rw [if_pos (by omega)]; simp))
    rw [Nat.one_mul] at hr
    have hrun : (execOp a.eval o).run P w = .ok (.value (.slice (some ⟨w.heap.size, 0, none⟩) 1 1)) (w.alloc (.cells (arr z f) e)) := by
      unfold execOp
      rw [ho]
      simp only [List.map_toArray, List.map_cons, List.map_nil, hx]
      simp [hr]
    unfold Oper.wp
    rw [hrun]
    exact hK' _ _ (hK _ _ h.size (Nat.le_refl _) (h.alloc (arr z f) e z f (size_arr _ _) (fun i hi => arr_at _ _ i hi)))
end
end Go.Proofs.YtlcpflaofggmeaaDoor
/- Steps whose guard says yes. -/
namespace Go.Proofs.YtlcpflaofggmeaaDoor
set_option maxRecDepth 40000
open Go.RowKit
section
variable {P : Program}
theorem wpList_asG {ops : Array Oper} {rest : List Oper} {o : Oper} {a : Act} {w : World} {Q : Exit → Act → World → Prop} {j : Nat} {want : Bool} {dd : Tmp} (hg : o.guard = some (j, want)) (hj : (ops[j]?).bind (·.dst) = some dd) (hv : a.tmps[dd]? = some (.bool want)) (d : Tmp) (_hd : o.dst = some d) (v : Value) (h : (execOp a.eval o).run P w = .ok (.value v) w) (hK : wpList P ops Q rest (a.put o.dst v) w) : wpList P ops Q (o :: rest) a w :=
  wpList_guarded hg hj hv fun _ hK' => by
    unfold Oper.wp
    rw [h]
    exact hK' _ _ hK
theorem wpList_bs1G {ops : Array Oper} {rest : List Oper} {o : Oper} {a : Act} {w w0 : World} {Q : Exit → Act → World → Prop} {rows : List RowSpec} {j : Nat} {want : Bool} {dd : Tmp} (hg : o.guard = some (j, want)) (hj : (ops[j]?).bind (·.dst) = some dd) (hv : a.tmps[dd]? = some (.bool want)) {t e : TypeId} {z : Nat} (ht : P.underlying t = some (.slice e)) (hz : (P.info? e).map (·.size) = some z) (hlen : z ≤ 16777216) (h0 : 0 < z) {v0 : Value} (hzero : (P.info? e).bind (·.zero) = some v0)
    (x : Operand) (ho : o.op = .buildSlice t 1 #[(0, x)]) (f : Nat → Value) (hx : a.eval x = .agg (arr z f)) (h : HS w0 w rows)
    (hK : ∀ b w', w0.heap.size ≤ b → w.heap.size ≤ b → HS w0 w' (⟨b, e, z, f⟩ :: rows) → wpList P ops Q rest (a.put o.dst (.slice (some ⟨b, 0, none⟩) 1 1)) w') : wpList P ops Q (o :: rest) a w :=
  wpList_guarded hg hj hv fun _ hK' => by
    have hr := run_bsN (P := P) w (t := t) (len := 1) ht hz (by omega) (by omega) hzero #[(0, .agg (arr z f))] f (fun g => by
      rw [show (#[((0 : Nat), Value.agg (arr z f))] : Array (Nat × Value)).toList = [(0, .agg (arr z f))] from rfl, fill_step z (1 * z) 0 f g [] (by omega)]
      show some _ = some _
      exact congrArg some (arr_congr fun i hi => by rw [if_pos (by omega)]; simp))
    rw [Nat.one_mul] at hr
    have hrun : (execOp a.eval o).run P w = .ok (.value (.slice (some ⟨w.heap.size, 0, none⟩) 1 1)) (w.alloc (.cells (arr z f) e)) := by
      unfold execOp
      rw [ho]
      simp only [List.map_toArray, List.map_cons, List.map_nil, hx]
      simp [hr]
    unfold Oper.wp
    rw [hrun]
    exact hK' _ _ (hK _ _ h.size (Nat.le_refl _) (h.alloc (arr z f) e z f (size_arr _ _) (fun i hi => arr_at _ _ i hi)))
end
end Go.Proofs.YtlcpflaofggmeaaDoor
/- Comparisons of bools and numbers in a region shown operation by operation. -/
namespace Go.Proofs.YtlcpflaofggmeaaDoor
set_option maxRecDepth 40000
open Go.RowKit
section
variable {P : Program} {ops : Array Oper} {B : Nat} {w0 : World} {o : Oper} {lk : Tmp → SF} {ty rt : TypeId}
theorem opOb_neBool {xo yo : Operand} (b : Bool) (hu : P.underlying ty = some .bool) (hg : o.guard = none) (hop : o.op = .binOp .neq ty xo yo rt) (hx : OpK lk xo (.bool b)) (hy : OpK lk yo (.bool b)) : opOb P ops B w0 o (SF.is (.bool false)) lk :=
  opOb_val _ hg fun a w _ hf => by
    have h1 := hx.eval hf (by rw [hop]; simp [Op.operands])
    have h2 := hy.eval hf (by rw [hop]; simp [Op.operands])
    unfold execOp
    rw [hop]
    simp only [h1, h2]
    cases b <;> simp [eqGuard, go_sem, hu]
theorem opOb_eqSame {xo yo : Operand} (k : IntKind) (x : Int) (hg : o.guard = none) (hop : o.op = .binOp .eql ty xo yo rt) (hx : OpK lk xo (.int k x)) (hy : OpK lk yo (.int k x)) : opOb P ops B w0 o (SF.is (.bool true)) lk :=
  opOb_val _ hg fun a w _ hf => by
    have h1 := hx.eval hf (by rw [hop]; simp [Op.operands])
    have h2 := hy.eval hf (by rw [hop]; simp [Op.operands])
    unfold execOp
    rw [hop]
    simp only [h1, h2]
    simp [eqGuard, go_sem]
theorem opOb_neSame {xo yo : Operand} (k : IntKind) (x : Int) (hg : o.guard = none) (hop : o.op = .binOp .neq ty xo yo rt) (hx : OpK lk xo (.int k x)) (hy : OpK lk yo (.int k x)) : opOb P ops B w0 o (SF.is (.bool false)) lk :=
  opOb_val _ hg fun a w _ hf => by
    have h1 := hx.eval hf (by rw [hop]; simp [Op.operands])
    have h2 := hy.eval hf (by rw [hop]; simp [Op.operands])
    unfold execOp
    rw [hop]
    simp only [h1, h2]
    simp [eqGuard, go_sem]
end
end Go.Proofs.YtlcpflaofggmeaaDoor
/- In drawn regions: slices of elements of many cells, and where an element lies. -/
namespace Go.Proofs.YtlcpflaofggmeaaDoor
set_option maxRecDepth 40000
open Go.RowKit
/-- A slice of n elements of z cells that reads as f. -/
def SF.rdZ (n z : Nat) (f : Nat → Value) : SF := ⟨fun v w => ∃ A c, v = .slice A n c ∧ Rd w w.heap.size A (n * z) f, fun _ _ _ ⟨A, c, e, h⟩ hb => ⟨A, c, e, (h.below hb).more hb.size⟩⟩
theorem add_blk (ad : Addr) (i : Nat) : (ad.add i).block = ad.block := by unfold Addr.add; split <;> rfl
theorem add_add (ad : Addr) (m n : Nat) : (ad.add m).add n = ad.add (m + n) := by
  unfold Addr.add
  by_cases hm : m = 0
  · subst hm; simp
  · by_cases hn : n = 0
    · subst hn; simp [hm]
    · simp [hm, hn, Nat.add_assoc]
/-- A pointer to n cells that read as f. -/
def SF.ptr (n : Nat) (f : Nat → Value) : SF := ⟨fun v w => ∃ ad : Addr, v = .pointer (some ad) ∧ ad.block < w.heap.size ∧ ∀ i, i < n → w.cell? (ad.add i) = some (f i), fun _ w w' ⟨ad, e, h, hc⟩ hb => ⟨ad, e, Nat.lt_of_lt_of_le h hb.size, fun i hi => by
  rw [hb.cell (p := ad.add i) (by rw [add_blk]; exact h)]; exact hc i hi⟩⟩
section
variable {P : Program} {ops : Array Oper} {B : Nat} {w0 : World} {o : Oper} {lk : Tmp → SF} {ty : TypeId}
theorem run_idxZ (w : World) {t e : TypeId} {z n c k : Nat} (hu : P.underlying t = some (.slice e)) (hz : (P.info? e).map (·.size) = some z) (ad : Addr) (hk : k < n) : (Instr.indexAt t (.slice (some ad) n c) (.int .i64 (k : Int))).run P w = .ok (.pointer (some (ad.add (k * z)))) w := by
  unfold Instr.indexAt
  simp [run_underlying hu, sizeOf_run hz, go_sem, asIntOf, hk]
theorem opOb_idxZ {x : Tmp} {i : Operand} {e : TypeId} {n z k : Nat} {f : Nat → Value} (f' : Nat → Value) (hf' : ∀ q, q < z → f (k * z + q) = f' q) (hu : P.underlying ty = some (.slice e)) (hz : (P.info? e).map (·.size) = some z) (h0 : 0 < z) (hk : k < n) (hg : o.guard = none) (hop : o.op = .indexAddr ty (.tmp x) i) (hx : lk x = SF.rdZ n z f) (hi : OpK lk i (.int .i64 (k : Int))) :
    opOb P ops B w0 o (SF.ptr z f') lk :=
  opOb_of hg fun a w _ hf => by
    have h1 := hf x (by rw [hop]; simp [Op.operands])
    rw [hx] at h1
    obtain ⟨A, c, e1, h1⟩ := h1
    have h2 := hi.eval hf (by rw [hop]; simp [Op.operands])
    have hkz : k * z + z ≤ n * z := by rw [← Nat.succ_mul]; exact Nat.mul_le_mul_right _ hk
    obtain ⟨ad, rfl, hb, hc⟩ := h1 (by omega)
    have h1' : a.eval (.tmp x) = .slice (some ad) n c := (getD_eq _ _).trans e1
    have hrun : (execOp a.eval o).run P w = .ok (.value (.pointer (some (ad.add (k * z))))) w := by
      unfold execOp
      rw [hop]
      simp only [h1', h2]
      simp [run_idxZ w hu hz ad hk]
    unfold Oper.wp
    rw [hrun]
    refine ⟨_, rfl, ⟨ad.add (k * z), rfl, by rw [add_blk]; exact hb, fun i hi => ?_⟩, Below.refl _ _⟩
    rw [add_add, ← hf' i hi]
    exact hc _ (by omega)
theorem opOb_ldP {x : Tmp} {n : Nat} {f : Nat → Value} {d : TypeDesc} (hu : P.underlying ty = some d) (hd : (match d with | .struct _ | .array _ _ => true | _ => false) = true) (hi : (P.info? ty).map (·.size) = some n) (hg : o.guard = none) (hop : o.op = .load ty (.tmp x)) (hx : lk x = SF.ptr n f) :
    opOb P ops B w0 o (SF.is (.agg (arr n f))) lk :=
  opOb_val _ hg fun a w _ hf => by
    have h1 := hf x (by rw [hop]; simp [Op.operands])
    rw [hx] at h1
    obtain ⟨ad, e1, hb, hc⟩ := h1
    have h1' : a.eval (.tmp x) = .pointer (some ad) := (getD_eq _ _).trans e1
    unfold execOp
    rw [hop]
    simp only [h1']
    simp [run_loadAt_rd w ad n ty d f hc hu hd hi]
end
end Go.Proofs.YtlcpflaofggmeaaDoor
/- A region that draws its order, walked by hand: what yields its value in whatever world comes first, then the rest in the one order that is left. -/
namespace Go.Proofs.YtlcpflaofggmeaaDoor
set_option maxRecDepth 40000
open Go.RowKit
section
variable {P : Program} {ops : Array Oper} {Q : Exit → Act → World → Prop} {md : Region.Mode}
theorem ord_enter {n id : Nat} {a : Act} {w : World} (hm : P.follows .mixedOrders = true) (hn : ops.size = n) (h : wpAny P .any ops Q n (Array.replicate n false) a w.drew) : (Code.region id ops true).wp P Q a w := by
  subst hn
  exact wp_region_any hm h
/-- The one operation that is ready. -/
theorem ord_step {i fuel : Nat} {o : Oper} {listed : Array Bool} {a : Act} {w : World} (hi : ops.toList[i]? = some o) (hr : Region.ready md ops listed = [i]) (hg : o.guard = none)
    (h : ∀ K : Act → World → Prop, (∀ a w, wpAny P md ops Q fuel (listed.setIfInBounds i true) a w → K a w) → o.wp P a w K Q) : wpAny P md ops Q (fuel + 1) listed a w :=
  wpAny_ready (rs := [i]) hr (by simp) (AllReady.cons (by rw [← Array.getElem?_toList]; exact hi) (fun K hK => by rw [if_pos (by simp [Region.wanted, hg])]; exact h K hK) AllReady.nil)
theorem ord_take {i fuel : Nat} {o : Oper} (v : Value) {listed : Array Bool} {a : Act} {w : World} (hi : ops.toList[i]? = some o) (hs : Region.noSelect ops = true) (hf : Region.free md ops listed i = true) (hr : (Region.ready md ops listed).contains i = true) (hg : o.guard = none)
    (hQ : ∀ c a w, Q (.panic c) (a.put o.dst v) w → Q (.panic c) a w) (hy : ∀ w, (execOp a.eval o).run P w = .ok (.value v) w)
    (h : wpAny P md ops Q fuel (listed.setIfInBounds i true) (a.put o.dst v) w) : wpAny P md ops Q (fuel + 1) listed a w :=
  wpAny_take (by rw [← Array.getElem?_toList]; exact hi) hs hf hr hQ (Or.inl ⟨by simp [Region.wanted, hg], hy⟩) h
variable {o : Oper} {a : Act}
theorem ex_move {x : Operand} {v : Value} (ho : o.op = .move x ∨ o.op = .assign x) (hx : a.eval x = v) : ∀ w, (execOp a.eval o).run P w = .ok (.value v) w := fun w => by
  unfold execOp
  rcases ho with ho | ho <;> (rw [ho]; simp only [hx]; simp)
theorem ex_slice {t : TypeId} {x : Operand} {lo hi : Option Operand} {v sv : Value} {l h : Option Value} (ho : o.op = .slice t x lo hi none) (hx : a.eval x = v) (hl : lo.map a.eval = l) (hh : hi.map a.eval = h) (hr : ∀ w, (Instr.sliceAt t v l h none).run P w = .ok sv w) : ∀ w, (execOp a.eval o).run P w = .ok (.value sv) w := fun w => by
  unfold execOp
  rw [ho]
  simp only [hx]
  rw [show lo.map (fun y => a.eval y) = l from hl, show hi.map (fun y => a.eval y) = h from hh]
  simp [hr w]
theorem ex_idx {t : TypeId} {x i : Operand} {v u p : Value} (ho : o.op = .indexAddr t x i) (hx : a.eval x = v) (hi : a.eval i = u) (hr : ∀ w, (Instr.indexAt t v u).run P w = .ok p w) : ∀ w, (execOp a.eval o).run P w = .ok (.value p) w := fun w => by
  unfold execOp
  rw [ho]
  simp only [hx, hi]
  simp [hr w]
theorem ex_fld {t : TypeId} {x : Operand} {k : Nat} {v p : Value} (ho : o.op = .fieldAddr t x k) (hx : a.eval x = v) (hr : ∀ w, (Instr.fieldAt t v k).run P w = .ok p w) : ∀ w, (execOp a.eval o).run P w = .ok (.value p) w := fun w => by
  unfold execOp
  rw [ho]
  simp only [hx]
  simp [hr w]
theorem ex_nil {x : Operand} {ad : Addr} (ho : o.op = .nilCheck x) (hx : a.eval x = .pointer (some ad)) : ∀ w, (execOp a.eval o).run P w = .ok (.value (.pointer (some ad))) w := fun w => by
  unfold execOp
  rw [ho]
  simp only [hx]
  simp [go_sem]
end
end Go.Proofs.YtlcpflaofggmeaaDoor
