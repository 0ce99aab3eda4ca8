/- A part of what the proofs stand on: Box, Step, OwnZ, BuildS, ShaStream, ShaWalks, ShaIdx. -/
import Derived.Test.YtjmbgdldnnmipaaDoorGMer6
import Derived.Test.YtjmbgdldnnmipaaDoorGMer2
import Derived.Test.YtjmbgdldnnmipaaDoorGMer4
import Derived.Deep.DeepCutAuto
import Derived.Deep.Light
/- Values of many cells: boxed, loaded from where they lie, kept in new variables. -/
namespace Go.Proofs.YtjmbgdldnnmipaaDoor
set_option maxRecDepth 40000
open Go.RowKit
/-- A mark in the context: which of two alike calls comes next. -/
inductive Tok : Nat → Prop
  | mk (n : Nat) : Tok n
section
variable {P : Program}
theorem run_loadCells_rd (w : World) (ad : Addr) (n : Nat) (f : Nat → Value) (h : ∀ i, i < n → w.cell? (ad.add i) = some (f i)) : (loadCells ad n).run P w = .ok (arr n f) w := by
  have := run_loadCells_list (P := P) (w := w) ad ((List.range n).map f) (fun j v hj => by
    have hjl : j < n := by
      rcases Nat.lt_or_ge j n with h | h
      · exact h
      · simp [h] at hj
    rw [h j hjl]
    simp [hjl] at hj
    exact congrArg some hj)
  simpa [arr] using this
theorem run_loadAt_rd (w : World) (ad : Addr) (n : Nat) (ty : TypeId) (d : TypeDesc) (f : Nat → Value) (h : ∀ i, i < n → w.cell? (ad.add i) = some (f i)) (hu : P.underlying ty = some d) (hd : (match d with | .struct _ | .array _ _ => true | _ => false) = true) (hi : (P.info? ty).map (·.size) = some n) :
    (Instr.loadAt ty (.pointer (some ad))).run P w = .ok (.agg (arr n f)) w := by
  simp only [Instr.loadAt, Instr.sureAddr, Sem.run_bind, Sem.run_pure, Result.andThen]
  cases hq : P.info? ty with
  | none => rw [hq] at hi; simp at hi
  | some i =>
    have hs : i.size = n := by rw [hq] at hi; simpa using hi
    have hagg : (isAgg ty).run P w = .ok true w := by
      unfold isAgg
      rw [Sem.run_bind, run_underlying hu w]
      cases d <;> simp_all
    simp [loadVar, Sem.run_bind, hagg, sizeOf, typeInfo, hq, hs, run_loadCells_rd w ad n f h]
/-- A struct or an array is loaded from where it lies. -/
theorem wpList_load_rd {ops : Array Oper} {rest : List Oper} {o : Oper} {a : Act} {w : World} {Q : Exit → Act → World → Prop} (hgd : o.guard = none) (ty : TypeId) (x : Operand) (ho : o.op = .load ty x)
    (n : Nat) (d : TypeDesc) (hu : P.underlying ty = some d) (hd : (match d with | .struct _ | .array _ _ => true | _ => false) = true) (hi : (P.info? ty).map (·.size) = some n)
    (ad : Addr) (hx : a.eval x = .pointer (some ad)) (f : Nat → Value) (h : ∀ i, i < n → w.cell? (ad.add i) = some (f i)) (hK : wpList P ops Q rest (a.put o.dst (.agg (arr n f))) w) : wpList P ops Q (o :: rest) a w :=
  wpList_plain hgd fun _ hK' => by
    have hrun : (execOp a.eval o).run P w = .ok (.value (.agg (arr n f))) w := by
      unfold execOp
      rw [ho]
      simp only [hx]
      simp [run_loadAt_rd w ad n ty d f h hu hd hi]
    unfold Oper.wp
    rw [hrun]
    exact hK' _ _ hK
/-- An argument that is kept in memory. -/
theorem wpList_box {ops : Array Oper} {rest : List Oper} {o : Oper} {a : Act} {w : World} {Q : Exit → Act → World → Prop} (hgd : o.guard = none) (ty : TypeId) (x : Operand) (ho : o.op = .box ty x)
    (n : Nat) (f : Nat → Value) (hx : a.eval x = .agg (arr n f)) (hK : ∀ w', w'.rowIs w.heap.size ty n f → Below w.heap.size w w' → wpList P ops Q rest (a.put o.dst (.pointer (some ⟨w.heap.size, 0, none⟩))) w') : wpList P ops Q (o :: rest) a w :=
  wpList_plain hgd fun _ hK' => by
    have hrun : (execOp a.eval o).run P w = .ok (.value (.pointer (some ⟨w.heap.size, 0, none⟩))) (w.alloc (.cells (arr n f) ty)) := by
      unfold execOp
      rw [ho]
      simp only [hx]
      simp [Instr.box, newVar, Value.cells, go_sem]
    unfold Oper.wp
    rw [hrun]
    exact hK' _ _ (hK _ ⟨arr n f, heap_alloc_new w _, size_arr n f, fun i hi => arr_at n f i hi⟩ ((Below.refl _ _).alloc (Nat.le_refl _) _))
/-- The greater of two whole numbers. -/
theorem wpList_max {ops : Array Oper} {rest : List Oper} {o : Oper} {a : Act} {w : World} {Q : Exit → Act → World → Prop} (hgd : o.guard = none) {x y : Operand} {ts : Array TypeId} (ho : o.op = .call { callee := .builtin .max, args := #[x, y], argTypes := ts })
    (k : IntKind) (i j m : Int) (hx : a.eval x = .int k i) (hy : a.eval y = .int k j) (hm : m = if i < j then j else i) (hK : wpList P ops Q rest (a.put o.dst (.int k m)) w) : wpList P ops Q (o :: rest) a w :=
  wpList_plain hgd fun _ hK' => by
    have hrun : (execOp a.eval o).run P w = .ok (.value (.int k m)) w := by
      unfold execOp
      subst hm
      simp only [ho, resolve, invoke, builtin, Sem.run_bind, Sem.run_pure, Result.andThen_ok, List.map_toArray, List.map_cons, List.map_nil, hx, hy]
      simp [Builtin.max_, Builtin.max2, go_sem]
    unfold Oper.wp
    rw [hrun]
    exact hK' _ _ hK
/-- An operation whose guard says yes. -/
theorem wpList_guarded {ops : Array Oper} {rest : List Oper} {o : Oper} {a : Act} {w : World} {Q : Exit → Act → World → Prop} {j : Nat} {want : Bool} {d : Tmp} (hg : o.guard = some (j, want)) (hj : (ops[j]?).bind (·.dst) = some d) (hv : a.tmps[d]? = some (.bool want))
    (h : ∀ K : Act → World → Prop, (∀ a w, wpList P ops Q rest a w → K a w) → o.wp P a w K Q) : wpList P ops Q (o :: rest) a w :=
  wpList_step fun K hK => by
    rw [if_pos (by simp [Region.wanted, hg, yielded, hj, hv])]
    exact h K hK
/-- A slice expression whose guard says yes. -/
theorem wpList_sliceG {w : World} {ops : Array Oper} {rest : List Oper} {o : Oper} {a : Act} {Q : Exit → Act → World → Prop} {j : Nat} {want : Bool} {d : Tmp} (hg : o.guard = some (j, want)) (hj : (ops[j]?).bind (·.dst) = some d) (hv : a.tmps[d]? = some (.bool want)) (t : TypeId) (x : Operand) (lo hi : Option Operand) (ho : o.op = .slice t x lo hi none)
    {v sv : Value} {l h : Option Value} (hx : a.eval x = v) (hr : ∀ w, (Instr.sliceAt t v l h none).run P w = .ok sv w) (hl : lo.map a.eval = l) (hh : hi.map a.eval = h)
    (hK : wpList P ops Q rest (a.put o.dst sv) w) : wpList P ops Q (o :: rest) a w :=
  wpList_guarded hg hj hv fun _ hK' => by
    have hrun : (execOp a.eval o).run P w = .ok (.value sv) w := by
      unfold execOp
      rw [ho]
      simp only [hx]
      rw [show lo.map (fun y => a.eval y) = l from hl, show hi.map (fun y => a.eval y) = h from hh]
      simp [hr w]
    unfold Oper.wp
    rw [hrun]
    exact hK' _ _ hK
theorem wpList_load_rdG {ops : Array Oper} {rest : List Oper} {o : Oper} {a : Act} {w : World} {Q : Exit → Act → World → Prop} {j : Nat} {want : Bool} {dd : Tmp} (hg : o.guard = some (j, want)) (hj : (ops[j]?).bind (·.dst) = some dd) (hv : a.tmps[dd]? = some (.bool want)) (ty : TypeId) (x : Operand) (ho : o.op = .load ty x)
    (n : Nat) (d : TypeDesc) (hu : P.underlying ty = some d) (hd : (match d with | .struct _ | .array _ _ => true | _ => false) = true) (hi : (P.info? ty).map (·.size) = some n)
    (ad : Addr) (hx : a.eval x = .pointer (some ad)) (f : Nat → Value) (h : ∀ i, i < n → w.cell? (ad.add i) = some (f i)) (hK : wpList P ops Q rest (a.put o.dst (.agg (arr n f))) w) : wpList P ops Q (o :: rest) a w :=
  wpList_guarded hg hj hv fun _ hK' => by
    have hrun : (execOp a.eval o).run P w = .ok (.value (.agg (arr n f))) w := by
      unfold execOp
      rw [ho]
      simp only [hx]
      simp [run_loadAt_rd w ad n ty d f h hu hd hi]
    unfold Oper.wp
    rw [hrun]
    exact hK' _ _ hK
theorem ld_all {w1 : World} {B b : Nat} {T : TypeId} {n : Nat} {F : Nat → Value} (hr : w1.rowIs b T n F) (hb : b < B) {ty : TypeId} {d : TypeDesc} (hu : P.underlying ty = some d) (hd : (match d with | .struct _ | .array _ _ => true | _ => false) = true) (hi : (P.info? ty).map (·.size) = some n) :
    ∀ w', Below B w1 w' → (Instr.loadAt ty (.pointer (some ⟨b, 0, none⟩))).run P w' = .ok (.agg (arr n F)) w' := fun w' h =>
  run_loadAt_rd w' ⟨b, 0, none⟩ n ty d F (fun i hi => by rw [add_lit0]; exact (row_below hr h hb).cell hi) hu hd hi
section
variable {ops : Array Oper} {B : Nat} {w0 : World} {o : Oper} {lk : Tmp → SF} {F : SF}
/-- A call of a known value and a slice that reads as g. -/
theorem opOb_fnR {f : FuncId} (hent : ∀ vs w, (callFunc f vs).run P w = .ok (.enter f vs) w) {x y : Tmp} {v : Value} {n : Nat} {g : Nat → Value} {ts : Array TypeId} (hg : o.guard = none) (hop : o.op = .call { callee := .value (.func f), args := #[.tmp x, .tmp y], argTypes := ts })
    (hx : lk x = SF.is v) (hy : lk y = SF.rd n g) (hr : ∀ w A c, Below B w0 w → Rd w w.heap.size A n g → Calls P f #[v, .slice A n c] w fun e w' => ∃ v, e = .returned v ∧ F.F v w' ∧ Below w.heap.size w w') : opOb P ops B w0 o F lk :=
  opOb_call hg fun a w hb hf => by
    have h1 := hf x (by rw [hop]; simp [Op.operands, Call.operands])
    have h2 := hf y (by rw [hop]; simp [Op.operands, Call.operands])
    rw [hx] at h1
    rw [hy] at h2
    obtain ⟨A, c, e2, h2⟩ := h2
    have h1' : a.eval (.tmp x) = v := (getD_eq _ _).trans h1
    have h2' : a.eval (.tmp y) = .slice A n c := (getD_eq _ _).trans e2
    refine ⟨f, #[v, .slice A n c], ?_, hr w A c hb h2⟩
    unfold execOp
    rw [hop]
    simp only [resolve, List.map_toArray, List.map_cons, List.map_nil, h1', h2']
    simp [invoke, Deferred.ofValue, Act.eval, hent]
/-- A call of two such slices. -/
theorem opOb_fnRR {f : FuncId} (hent : ∀ vs w, (callFunc f vs).run P w = .ok (.enter f vs) w) {x y : Tmp} {n m : Nat} {g h : Nat → Value} {ts : Array TypeId} (hg : o.guard = none) (hop : o.op = .call { callee := .value (.func f), args := #[.tmp x, .tmp y], argTypes := ts })
    (hx : lk x = SF.rd n g) (hy : lk y = SF.rd m h) (hr : ∀ w A c A' c', Below B w0 w → Rd w w.heap.size A n g → Rd w w.heap.size A' m h → Calls P f #[.slice A n c, .slice A' m c'] w fun e w' => ∃ v, e = .returned v ∧ F.F v w' ∧ Below w.heap.size w w') : opOb P ops B w0 o F lk :=
  opOb_call hg fun a w hb hf => by
    have h1 := hf x (by rw [hop]; simp [Op.operands, Call.operands])
    have h2 := hf y (by rw [hop]; simp [Op.operands, Call.operands])
    rw [hx] at h1
    rw [hy] at h2
    obtain ⟨A, c, e1, h1⟩ := h1
    obtain ⟨A', c', e2, h2⟩ := h2
    have h1' : a.eval (.tmp x) = .slice A n c := (getD_eq _ _).trans e1
    have h2' : a.eval (.tmp y) = .slice A' m c' := (getD_eq _ _).trans e2
    refine ⟨f, #[.slice A n c, .slice A' m c'], ?_, hr w A c A' c' hb h1 h2⟩
    unfold execOp
    rw [hop]
    simp only [resolve, List.map_toArray, List.map_cons, List.map_nil, h1', h2']
    simp [invoke, Deferred.ofValue, Act.eval, hent]
theorem opOb_lenR {x : Tmp} {n : Nat} {g : Nat → Value} {t e : TypeId} (hu : P.underlying t = some (.slice e)) (hg : o.guard = none) (hop : o.op = .call { callee := .builtin .len, args := #[.tmp x], argTypes := #[t] }) (hx : lk x = SF.rd n g) : opOb P ops B w0 o (SF.is (.int .i64 (n : Int))) lk :=
  opOb_val _ hg fun a w _ hf => by
    have h1 := hf x (by rw [hop]; simp [Op.operands, Call.operands])
    rw [hx] at h1
    obtain ⟨A, c, e1, h1⟩ := h1
    have h1' : a.eval (.tmp x) = .slice A n c := (getD_eq _ _).trans e1
    unfold execOp
    simp only [hop, resolve, invoke, builtin, Sem.run_bind, Sem.run_pure, Result.andThen_ok, List.map_toArray, List.map_cons, List.map_nil, h1']
    simp [Builtin.len_, run_underlying hu, go_sem]
end
end
end Go.Proofs.YtjmbgdldnnmipaaDoor
/- Steps of a walk whose world is a letter behind them. -/
namespace Go.Proofs.YtjmbgdldnnmipaaDoor
set_option maxRecDepth 40000
open Go.RowKit
theorem add_litO (g o n : Nat) : (⟨g, o, none⟩ : Addr).add n = ⟨g, o + n, none⟩ := by unfold Addr.add; split <;> simp_all
section
variable {P : Program}
/-- A new variable of zero cells; its world is a letter. -/
theorem wpList_allocH {ops : Array Oper} {rest : List Oper} {o : Oper} {a : Act} {w w0 : World} {Q : Exit → Act → World → Prop} {rows : List RowSpec} (hgd : o.guard = none) (t : TypeId) (ho : o.op = .alloc t) (h : HS w0 w rows) (cs : Array Value)
    (hz : (P.info? t).bind (·.zero) = some (.agg cs)) (n : Nat) (f : Nat → Value) (hn : cs.size = n) (hc : ∀ i, i < n → cs[i]? = some (f i)) (hK : ∀ w', HS w0 w' (⟨w.heap.size, t, n, f⟩ :: rows) → wpList P ops Q rest (a.put o.dst (.pointer (some ⟨w.heap.size, 0, none⟩))) w') : wpList P ops Q (o :: rest) a w :=
  wpList_alloc_as hgd t ho cs hz (hK _ (h.alloc cs t n f hn hc))
/-- Two results, the first in memory. -/
theorem ret_rowTmp {fn : Func} {R : Ending → World → Prop} {a : Act} {w : World} {p q : Tmp} {ty : TypeId} (h : fn.results = #[.cell p ty, .tmp q]) {b : Nat} {t : TypeId} {n : Nat} {f : Nat → Value} (hr : w.rowIs b t n f) (d : TypeDesc) (v : Value)
    (hp : a.tmps.getD p undef = .pointer (some ⟨b, 0, none⟩)) (hq : a.tmps.getD q undef = v)
    (hu : P.underlying ty = some d) (hd : (match d with | .struct _ | .array _ _ => true | _ => false) = true) (hi : (P.info? ty).map (·.size) = some n) (hdf : a.defers = [])
    (hR : R (.returned (.tuple #[.agg (arr n f), v])) w) : bodyPost P fn R .ret a w := by
  refine bodyPost_ret (v := .tuple #[.agg (arr n f), v]) ?_ hdf hR
  have hp' : a.tmps[p]?.getD undef = .pointer (some ⟨b, 0, none⟩) := by simpa using hp
  have hq' : a.tmps[q]?.getD undef = v := by simpa using hq
  simp [results, h, hp', hq', asAddr, run_loadVar_row w b t ty (arr n f) (0, 0) d (heap_arr hr) hu hd (by rw [hi, size_arr])]
/-- A whole array is laid into row k; the world is a letter. -/
theorem wpList_storeH {ops : Array Oper} {rest : List Oper} {o : Oper} {a : Act} {w w0 : World} {Q : Exit → Act → World → Prop} {rows : List RowSpec} (hgd : o.guard = none) (ty : TypeId) (x y : Operand) (ho : o.op = .store ty x y) (h : HS w0 w rows) (k : Nat) {b : Nat} {t : TypeId} {n : Nat} {f : Nat → Value} (hk : rows[k]? = some ⟨b, t, n, f⟩)
    (g : Nat → Value) (hx : a.eval x = .pointer (some ⟨b, 0, none⟩)) (hy : a.eval y = .agg (arr n g)) (hi : (P.info? ty).map (·.size) = some n) (h1 : ∀ i, i < n → (g i).oneCell' = true)
    (hK : ∀ w', HS w0 w' (rows.set k ⟨b, t, n, g⟩) → wpList P ops Q rest (a.put o.dst undef) w') : wpList P ops Q (o :: rest) a w :=
  wpList_store_arr hgd ty x y ho (h.row k hk) (arr n g) hx hy (size_arr _ _) hi (fun i hi => ⟨_, arr_at _ _ i hi, h1 i hi⟩) (hK _ (h.setRow k hk (arr n g) (size_arr _ _) g (fun i hi => arr_at _ _ i hi)))
/-- An operation's value, said by the caller. -/
theorem wpList_as {ops : Array Oper} {rest : List Oper} {o : Oper} {a : Act} {w : World} {Q : Exit → Act → World → Prop} (hgd : o.guard = none) (d : Tmp) (_hd : o.dst = some d) (v : Value) (h : (execOp a.eval o).run P w = .ok (.value v) w) (hK : wpList P ops Q rest (a.put o.dst v) w) : wpList P ops Q (o :: rest) a w :=
  wpList_plain hgd fun _ hK' => by
    unfold Oper.wp
    rw [h]
    exact hK' _ _ hK
/-- A new variable of zero cells: its block and its world are letters. -/
theorem wp_allocL {o : Oper} {a : Act} {w w0 : World} {K : Act → World → Prop} {Q : Exit → Act → World → Prop} {rows : List RowSpec} (t : TypeId) (d : Tmp) (_hd : o.dst = some d) (ho : o.op = .alloc t) (h : HS w0 w rows) (cs : Array Value)
    (hz : (P.info? t).bind (·.zero) = some (.agg cs)) (n : Nat) (f : Nat → Value) (hn : cs.size = n) (hc : ∀ i, i < n → cs[i]? = some (f i)) (hK : ∀ b w', w0.heap.size ≤ b → w.heap.size ≤ b → HS w0 w' (⟨b, t, n, f⟩ :: rows) → K (a.put o.dst (.pointer (some ⟨b, 0, none⟩))) w') : o.wp P a w K Q := by
  have hr : (Instr.alloc t true (.tuple #[])).run P w = .ok (.pointer (some ⟨w.heap.size, 0, none⟩)) (w.alloc (.cells cs t)) := by
    cases hq : P.info? t with
    | none => rw [hq] at hz; simp at hz
    | some i =>
      rw [hq] at hz
      simp at hz
      simp [Instr.alloc, zeroValue, typeInfo, hq, hz, newVar, Value.cells, go_sem]
  unfold Oper.wp execOp
  simp only [ho, Sem.run_bind, hr, Result.andThen_ok, Sem.run_pure]
  exact hK _ _ h.size (Nat.le_refl _) (h.alloc cs t n f hn hc)
theorem wpList_allocL {ops : Array Oper} {rest : List Oper} {o : Oper} {a : Act} {w w0 : World} {Q : Exit → Act → World → Prop} {rows : List RowSpec} (hgd : o.guard = none) (t : TypeId) (d : Tmp) (hd : o.dst = some d) (ho : o.op = .alloc t) (h : HS w0 w rows) (cs : Array Value)
    (hz : (P.info? t).bind (·.zero) = some (.agg cs)) (n : Nat) (f : Nat → Value) (hn : cs.size = n) (hc : ∀ i, i < n → cs[i]? = some (f i)) (hK : ∀ b w', w0.heap.size ≤ b → w.heap.size ≤ b → HS w0 w' (⟨b, t, n, f⟩ :: rows) → wpList P ops Q rest (a.put o.dst (.pointer (some ⟨b, 0, none⟩))) w') : wpList P ops Q (o :: rest) a w :=
  wpList_plain hgd fun _ hK' => wp_allocL t d hd ho h cs hz n f hn hc fun b w' h1 h1' h2 => hK' _ _ (hK b w' h1 h1' h2)
/-- An argument that is kept: its block and its world are letters. -/
theorem wpList_boxL {ops : Array Oper} {rest : List Oper} {o : Oper} {a : Act} {w w0 : World} {Q : Exit → Act → World → Prop} {rows : List RowSpec} (hgd : o.guard = none) (ty : TypeId) (x : Operand) (d : Tmp) (_hd : o.dst = some d) (ho : o.op = .box ty x) (h : HS w0 w rows)
    (n : Nat) (f : Nat → Value) (hx : a.eval x = .agg (arr n f)) (hK : ∀ b w', w0.heap.size ≤ b → w.heap.size ≤ b → HS w0 w' (⟨b, ty, n, f⟩ :: rows) → wpList P ops Q rest (a.put o.dst (.pointer (some ⟨b, 0, none⟩))) w') : wpList P ops Q (o :: rest) a w :=
  wpList_box hgd ty x ho n f hx fun w' h1 h2 => hK _ w' h.size (Nat.le_refl _) ((h.below h2).add h1 h.size fun r hr => by have := (h.has r hr).lt; omega)
theorem wp_storeL {o : Oper} {a : Act} {w w0 : World} {K : Act → World → Prop} {Q : Exit → Act → World → Prop} {rows : List RowSpec} (ty : TypeId) (x y : Operand) (ho : o.op = .store ty x y) (h : HS w0 w rows) (k : Nat) {b : Nat} {t : TypeId} {n : Nat} {f : Nat → Value} (hk : rows[k]? = some ⟨b, t, n, f⟩)
    (g : Nat → Value) (hx : a.eval x = .pointer (some ⟨b, 0, none⟩)) (hy : a.eval y = .agg (arr n g)) (hi : (P.info? ty).map (·.size) = some n) (h1 : ∀ i, i < n → (g i).oneCell' = true)
    (hK : ∀ w', HS w0 w' (rows.set k ⟨b, t, n, g⟩) → K (a.put o.dst undef) w') : o.wp P a w K Q :=
  wp_sto_arr ho (h.row k hk) (arr n g) hx hy (size_arr _ _) hi (fun i hi => ⟨_, arr_at _ _ i hi, h1 i hi⟩) (hK _ (h.setRow k hk (arr n g) (size_arr _ _) g (fun i hi => arr_at _ _ i hi)))
/-- copy into a part of row k. -/
theorem wp_copyL {o : Oper} {a : Act} {w w0 : World} {K : Act → World → Prop} {Q : Exit → Act → World → Prop} {rows : List RowSpec} {d s : Operand} {dT sT elem : TypeId} (hop : o.op = .call { callee := .builtin .copy, args := #[d, s], argTypes := #[dT, sT] }) (hu : P.underlying dT = some (.slice elem)) (hs : (P.info? elem).map (·.size) = some 1)
    (h : HS w0 w rows) (k : Nat) {b : Nat} {t : TypeId} {N : Nat} {F : Nat → Value} (hk : rows[k]? = some ⟨b, t, N, F⟩) (off dLen dCap : Nat) {A : Option Addr} {sLen sCap B : Nat} {fs : Nat → Value} (hsrc : Rd w B A sLen fs) (h1 : ∀ i, i < sLen → (fs i).oneCell' = true) (n : Nat) (hn : n = min sLen dLen) (hfit : off + n ≤ N)
    (hd : a.eval d = .slice (some ⟨b, off, none⟩) dLen dCap) (hss : a.eval s = .slice A sLen sCap) (G : Nat → Value) (hG : ∀ j, j < N → (if off ≤ j ∧ j < off + n then fs (j - off) else F j) = G j)
    (hK : ∀ w1, HS w0 w1 (rows.set k ⟨b, t, N, G⟩) → K (a.put o.dst (.int .i64 (n : Int))) w1) : o.wp P a w K Q :=
  wp_copy_fn hop hu hs (h.row k hk) off dLen dCap hsrc h1 n hn hfit hd hss fun w1 hr hg => hK w1 (h.write k hk hg (hr.congr hG))
/-- Some rows are forgotten. -/
theorem HS.sub {w0 w : World} {rows rows' : List RowSpec} (h : HS w0 w rows) (hs : rows'.Sublist rows) (hr : ∀ r ∈ rows, w0.heap.size ≤ r.b) : HS w0 w rows' :=
  ⟨h.os, h.tape, h.output, h.size, fun k hk _ => h.block k hk (fun r hr' e => by
    have h1 := hr r hr'
    omega), fun r hr' => h.has r (hs.subset hr'), h.apart.sublist hs⟩
end
theorem row_ne {w : World} {b b' : Nat} {t t' : TypeId} {n n' : Nat} {f f' : Nat → Value} (h : w.rowIs b t n f) (h' : w.rowIs b' t' n' f') (hne : t ≠ t') : b ≠ b' := by
  rintro rfl
  obtain ⟨c, hc, _⟩ := h
  obtain ⟨c', hc', _⟩ := h'
  rw [hc] at hc'
  injection hc' with hc'
  injection hc' with _ h2
  exact hne h2
/-- A new variable. -/
def SF.new (base : Nat) (t : TypeId) (n : Nat) (f : Nat → Value) : SF := ⟨fun v w => ∃ b, v = .pointer (some ⟨b, 0, none⟩) ∧ base ≤ b ∧ w.rowIs b t n f, fun _ _ _ ⟨b, e, h1, h⟩ hb => ⟨b, e, h1, row_below h hb h.lt⟩⟩
section
variable {P : Program} {ops : Array Oper} {B : Nat} {w0 : World} {o : Oper} {lk : Tmp → SF}
theorem opOb_new (base : Nat) {t : TypeId} (hg : o.guard = none) (hop : o.op = .alloc t) (cs : Array Value) (hz : (P.info? t).bind (·.zero) = some (.agg cs)) (n : Nat) (f : Nat → Value) (hn : cs.size = n) (hc : ∀ i, i < n → cs[i]? = some (f i)) (hb : base ≤ w0.heap.size) : opOb P ops B w0 o (SF.new base t n f) lk :=
  opOb_of hg fun a w hbel hf => by
    have hr : (Instr.alloc t true (.tuple #[])).run P w = .ok (.pointer (some ⟨w.heap.size, 0, none⟩)) (w.alloc (.cells cs t)) := by
      cases hq : P.info? t with
      | none => rw [hq] at hz; simp at hz
      | some i =>
        rw [hq] at hz
        simp at hz
        simp [Instr.alloc, zeroValue, typeInfo, hq, hz, newVar, Value.cells, go_sem]
    unfold Oper.wp execOp
    simp only [hop, Sem.run_bind, hr, Result.andThen_ok, Sem.run_pure]
    have h0 := (HS.nil w).alloc cs t n f hn hc
    exact ⟨_, rfl, ⟨w.heap.size, rfl, Nat.le_trans hb hbel.size, h0.row 0 rfl⟩, h0.out (by simp)⟩
end
end Go.Proofs.YtjmbgdldnnmipaaDoor
/- Rows of the call's own whose elements have z cells each: append of whatever reads as a function of its index. -/
namespace Go.Proofs.YtjmbgdldnnmipaaDoor
set_option maxRecDepth 40000
open Go.RowKit
/-- The slice '.slice A n c' of elements of z cells is the call's own, and its cells read as f. -/
def OwnZ (w : World) (base : Nat) (e : TypeId) (z : Nat) (A : Option Addr) (n c : Nat) (f : Nat → Value) : Prop := w.ownsRow base e z (.slice A n c) n ((List.range (n * z)).map f)
section
variable {w w' : World} {base z n c : Nat} {e : TypeId} {A : Option Addr} {f f' : Nat → Value}
theorem OwnZ.nil (w : World) (base : Nat) (e : TypeId) (z : Nat) (f : Nat → Value) : OwnZ w base e z none 0 0 f := by
  have := World.ownsRow_nil w base e z
  unfold OwnZ
  simpa using this
theorem OwnZ.congr (h : OwnZ w base e z A n c f) (k : ∀ i, i < n * z → f i = f' i) : OwnZ w base e z A n c f' := by
  unfold OwnZ at *
  rwa [← List.map_congr_left (fun i hi => k i (List.mem_range.1 hi))]
theorem OwnZ.rd (h : OwnZ w base e z A n c f) : Rd w w.heap.size A (n * z) f := fun hn => by
  have hn' : 0 < n := by
    rcases Nat.eq_zero_or_pos n with h0 | h0
    · subst h0; simp at hn
    · exact h0
  obtain ⟨g, cap, hv, hb, hlt⟩ := World.ownsRow.form h hn'
  have hA : A = some ⟨g, 0, none⟩ := by injection hv
  subst hA
  refine ⟨_, rfl, hlt, fun i hi => ?_⟩
  have h2 : c = cap := by injection hv
  subst h2
  rw [add_lit0, World.ownsRow.cellAt h i hi]
  simp [hi]
theorem OwnZ.base_le (h : OwnZ w base e z A n c f) : ∀ ad, A = some ad → base ≤ ad.block ∧ ad.block < w.heap.size := by
  rintro ad rfl
  exact World.ownsRow.lt h _ rfl
theorem OwnZ.off (h : OwnZ w base e z A n c f) : ∀ ad, A = some ad → ad = ⟨ad.block, 0, none⟩ := by
  rintro ad rfl
  rcases h.2 with ⟨hv, _⟩ | ⟨g, cap, cur, hv, _⟩
  · injection hv with h1; cases h1
  · injection hv with h1; injection h1 with h1; rw [h1]
theorem OwnZ.cap (h : OwnZ w base e z A n c f) : n ≤ c := by
  rcases h.2 with ⟨hv, _⟩ | ⟨g, cap, cur, hv, _, _, hnc, _⟩
  · injection hv with _ h1 h2; omega
  · injection hv with _ h1 h2; omega
theorem OwnZ.capM (h : OwnZ w base e z A n c f) : c ≤ maxLen := by
  rcases h.2 with ⟨hv, _⟩ | ⟨g, cap, cur, hv, _, _, hnc, hm, _⟩
  · injection hv with _ h1 h2; omega
  · injection hv with _ h1 h2; omega
theorem OwnZ.kept {row : Option Nat} (h : OwnZ w base e z A n c f) (hg : w.grownBy w' row) (hne : ∀ ad, A = some ad → some ad.block ≠ row) : OwnZ w' base e z A n c f := by
  refine World.ownsRow.kept h hg ?_
  cases A with
  | none => exact .inl rfl
  | some ad => exact .inr (hne ad rfl)
theorem OwnZ.below {B : Nat} (h : OwnZ w base e z A n c f) (hb : Below B w w') (hB : ∀ ad, A = some ad → ad.block < B) : OwnZ w' base e z A n c f := by
  obtain ⟨h1, h2⟩ := h
  refine ⟨h1, ?_⟩
  rcases h2 with h2 | ⟨g, cap, cur, hv, hg, hh, r⟩
  · exact .inl h2
  · refine .inr ⟨g, cap, cur, hv, hg, ?_, r⟩
    have hA : A = some ⟨g, 0, none⟩ := by injection hv
    rw [hb.block g (hB _ hA)]
    exact hh
/-- All that lay there before stays. -/
theorem OwnZ.all (h : OwnZ w base e z A n c f) (hb : Below w.heap.size w w') : OwnZ w' base e z A n c f := h.below hb fun ad e => (h.base_le ad e).2
theorem OwnZ.mono {base' : Nat} (h : OwnZ w base e z A n c f) (hb : base' ≤ base) : OwnZ w base' e z A n c f :=
  ⟨h.1, h.2.imp id fun ⟨g, cap, cur, h1, h2, h3⟩ => ⟨g, cap, cur, h1, Nat.le_trans hb h2, h3⟩⟩
theorem OwnZ.of_row {g m : Nat} (h : w.rowIs g e (m * z) f) (hb : base ≤ g) (hm : m ≤ maxLen) : OwnZ w base e z (some ⟨g, 0, none⟩) m m f := by
  obtain ⟨cs, hh, hs, hc⟩ := h
  refine ⟨by simp, .inr ⟨g, m, cs, rfl, hb, hh, Nat.le_refl _, hm, by omega, ?_⟩⟩
  apply List.ext_getElem?
  intro i
  by_cases hi : i < m * z
  · simp [hi, hc i hi]
  · simp [List.getElem?_take, hi]
end
section
variable {P : Program} (w : World)
theorem run_appZ (base : Nat) (t ty e : TypeId) (i : TypeInfo) (z : Value) (k bytes : Nat) (ht : P.underlying t = some (.slice e)) (hi : P.info? e = some i) (hz : i.zero = some z)
    (hsize : i.size = k) (hby : i.bytes = bytes) (hzs : z.cells.size = k) (hk : 0 < k)
    {A C : Option Addr} {n c m cm B : Nat} {f g : Nat → Value} (hown : OwnZ w base e k A n c f) (hr : Rd w B C (m * k) g) (h1 : ∀ i, i < m * k → (g i).oneCell' = true)
    (hbytes : n + m ≤ 9223372036854775807 ∧ (n + m) * bytes ≤ 140737488355328) (hbase : base ≤ w.heap.size) :
    ∃ A' c' w', (Builtin.append_ #[t, t] ty #[.slice A n c, .slice C m cm]).run P w = .ok (.slice A' (n + m) c') w' ∧ OwnZ w' base e k A' (n + m) c' (catF (n * k) f g) ∧
      w.grownBy w' (A.map (·.block)) ∧ (∀ ad, A' = some ad → some ad.block = A.map (·.block) ∨ ad.block = w.heap.size) := by
  rcases C with _ | ad
  · have hm : m = 0 := by
      rcases Nat.eq_zero_or_pos m with h0 | h0
      · exact h0
      · obtain ⟨ad, h, _⟩ := hr (Nat.mul_pos h0 hk)
        cases h
    subst hm
    refine ⟨A, c, w, ?_, hown.congr (fun i hi => by simp [catF, hi]), World.grownBy.refl w _, fun ad h => .inl (by rw [h]; rfl)⟩
    rcases hown.2 with ⟨hv, h0⟩ | ⟨g', cap, cur, hv, _, _, hnc, _⟩
    · injection hv with h1 h2 h3; subst h1 h2 h3
      simp [Builtin.append_, run_underlying ht, sizeOf, typeInfo, hi, Builtin.lenOf, Builtin.firstCells]
    · injection hv with h1 h2 h3; subst h1 h3
      simp [Builtin.append_, run_underlying ht, sizeOf, typeInfo, hi, Builtin.lenOf, Builtin.firstCells, hnc, storeCells]
  · have hcells : ∀ j u, ((List.range (m * k)).map g)[j]? = some u → w.cell? (ad.add j) = some u := by
      intro j u hu
      have hj : j < m * k := by
        rcases Nat.lt_or_ge j (m * k) with h | h
        · exact h
        · simp [h] at hu
      obtain ⟨ad', h, _, hc⟩ := hr (by omega)
      injection h with h; subst h
      rw [hc j hj]
      simpa [hj] using hu
    obtain ⟨v', w', hrun, h2, h3, _, h5⟩ := run_append_own_at (P := P) w base t ty e i z k bytes ht hi hz hsize hby hzs hk (.slice A n c) n _ hown ad m cm ((List.range (m * k)).map g) (by simp) hcells
      (fun u hu => by obtain ⟨j, hj, rfl⟩ := List.mem_map.1 hu; exact h1 j (List.mem_range.1 hj)) (by unfold maxLen; omega) hbytes.2 hbase
    rw [catF_map, ← Nat.add_mul] at h2
    have hv : ∃ A' c', v' = .slice A' (n + m) c' := by
      rcases h2.2 with ⟨h, h0⟩ | ⟨g', cap, cur, h, _⟩
      · exact ⟨none, 0, by rw [h, h0]⟩
      · exact ⟨_, _, h⟩
    obtain ⟨A', c', rfl⟩ := hv
    have hb : Value.ownBlock (.slice A n c) = A.map (·.block) := by cases A <;> rfl
    rw [hb] at h3 h5
    refine ⟨A', c', w', hrun, h2, h3, ?_⟩
    rintro ad' rfl
    rcases h5 with h5 | h5
    · exact .inl h5
    · exact .inr (by simpa [Value.ownBlock] using h5)
theorem wp_appZ {o : Oper} {a : Act} {K : Act → World → Prop} {Q : Exit → Act → World → Prop} (s x : Operand) (t base : Nat) {e : TypeId} {z : Value} {k bytes : Nat}
    (hinfo : (P.info? e).map (fun i => (i.zero, i.size, i.bytes)) = some (some z, k, bytes)) (ht : P.underlying t = some (.slice e)) (hzs : z.cells.size = k) (hk : 0 < k)
    (ho : o.op = .call { callee := .builtin .append, args := #[s, x], argTypes := #[t, t] })
    (N : Nat) (F : Nat → Value)
    {A C : Option Addr} {n c m cm B : Nat} {f g : Nat → Value} (hs : a.eval s = .slice A n c) (hx : a.eval x = .slice C m cm) (hown : OwnZ w base e k A n c f) (hr : Rd w B C (m * k) g) (h1 : ∀ i, i < m * k → (g i).oneCell' = true)
    (hN : N = n + m) (hF : ∀ i, i < N * k → catF (n * k) f g i = F i)
    (hbytes : N ≤ 9223372036854775807 ∧ N * bytes ≤ 140737488355328) (hbase : base ≤ w.heap.size)
    (h : ∀ A' c' w', OwnZ w' base e k A' N c' F → w.grownBy w' (A.map (·.block)) → (∀ ad, A' = some ad → some ad.block = A.map (·.block) ∨ ad.block = w.heap.size) → K (a.put o.dst (.slice A' N c')) w') : o.wp P a w K Q := by
  have hi' : ∃ i, P.info? e = some i ∧ i.zero = some z ∧ i.size = k ∧ i.bytes = bytes := by
    cases hq : P.info? e with
    | none => rw [hq] at hinfo; simp at hinfo
    | some i => rw [hq] at hinfo; simp at hinfo; exact ⟨i, rfl, hinfo.1, hinfo.2.1, hinfo.2.2⟩
  obtain ⟨i, hi, hz, hsize, hby⟩ := hi'
  subst hN
  obtain ⟨A', c', w', hrun, h2, h3, h4⟩ := run_appZ (P := P) w base t o.type e i z k bytes ht hi hz hsize hby hzs hk (cm := cm) hown hr h1 hbytes hbase
  unfold Oper.wp execOp
  simp only [ho, resolve, invoke, builtin, Sem.run_bind, Sem.run_pure, Result.andThen_ok, List.map_toArray, List.map_cons, List.map_nil, hs, hx, hrun]
  exact h A' c' w' (h2.congr hF) h3 h4
/-- append, in a list of operations that don't draw. -/
theorem wpList_appZ {ops : Array Oper} {rest : List Oper} {o : Oper} {a : Act} {Q : Exit → Act → World → Prop} (s x : Operand) (t base : Nat) {e : TypeId} {z : Value} {k bytes : Nat}
    (hinfo : (P.info? e).map (fun i => (i.zero, i.size, i.bytes)) = some (some z, k, bytes)) (ht : P.underlying t = some (.slice e)) (hzs : z.cells.size = k) (hk : 0 < k)
    (hgd : o.guard = none) (ho : o.op = .call { callee := .builtin .append, args := #[s, x], argTypes := #[t, t] })
    (N : Nat) (F : Nat → Value)
    {A C : Option Addr} {n c m cm B : Nat} {f g : Nat → Value} (hs : a.eval s = .slice A n c) (hx : a.eval x = .slice C m cm) (hown : OwnZ w base e k A n c f) (hr : Rd w B C (m * k) g) (h1 : ∀ i, i < m * k → (g i).oneCell' = true)
    (hN : N = n + m) (hF : ∀ i, i < N * k → catF (n * k) f g i = F i)
    (hbytes : N ≤ 9223372036854775807 ∧ N * bytes ≤ 140737488355328) (hbase : base ≤ w.heap.size)
    (h : ∀ A' c' w', OwnZ w' base e k A' N c' F → w.grownBy w' (A.map (·.block)) → (∀ ad, A' = some ad → some ad.block = A.map (·.block) ∨ ad.block = w.heap.size) → wpList P ops Q rest (a.put o.dst (.slice A' N c')) w') :
    wpList P ops Q (o :: rest) a w :=
  wpList_plain hgd fun _ hK => wp_appZ w s x t base hinfo ht hzs hk ho N F hs hx hown hr h1 hN hF hbytes hbase fun A' c' w' h2 h3 h4 => hK _ _ (h A' c' w' h2 h3 h4)
end
end Go.Proofs.YtjmbgdldnnmipaaDoor
/- Slices that are written out, of elements of many cells. -/
namespace Go.Proofs.YtjmbgdldnnmipaaDoor
set_option maxRecDepth 40000
open Go.RowKit
theorem fold_lay (off : Nat) : ∀ (l : List Value) (k : Nat) (cs : Array Value) (i : Nat), off + k + l.length ≤ cs.size →
    ((l.zipIdx k).foldl (fun cs p => cs.setIfInBounds (off + p.2) p.1) cs)[i]? = if off + k ≤ i ∧ i < off + k + l.length then l[i - (off + k)]? else cs[i]? := by
  intro l
  induction l with
  | nil => intro k cs i _; simp; omega
  | cons a l ih =>
    intro k cs i h
    simp only [List.length_cons] at h
    rw [List.zipIdx_cons, List.foldl_cons, ih (k + 1) _ i (by simp; omega)]
    by_cases h1 : i = off + k
    · subst h1
      rw [if_neg (by omega), if_pos (by simp)]
      simp [Array.getElem?_setIfInBounds]; omega
    · by_cases h2 : off + (k + 1) ≤ i ∧ i < off + (k + 1) + l.length
      · rw [if_pos h2, if_pos (by simp; omega), show i - (off + k) = (i - (off + (k + 1))) + 1 by omega]; simp
      · rw [if_neg h2, if_neg (by simp; omega)]
        simp [Array.getElem?_setIfInBounds]; omega
theorem fold_size (off : Nat) : ∀ (l : List Value) (k : Nat) (cs : Array Value), ((l.zipIdx k).foldl (fun cs p => cs.setIfInBounds (off + p.2) p.1) cs).size = cs.size := by
  intro l
  induction l with
  | nil => intro k cs; rfl
  | cons a l ih => intro k cs; rw [List.zipIdx_cons, List.foldl_cons, ih (k + 1)]; simp
theorem fill_step (z N i : Nat) (f g : Nat → Value) (rest : List (Nat × Value)) (h : i * z + z ≤ N) :
    Instr.fill (fun i => some (i * z, z)) (arr N g) ((i, .agg (arr z f)) :: rest) = Instr.fill (fun i => some (i * z, z)) (arr N (fun q => if i * z ≤ q ∧ q < i * z + z then f (q - i * z) else g q)) rest := by
  have hc : (Value.agg (arr z f)).cells = arr z f := rfl
  have key : ((arr z f).zipIdx.foldl (fun cs (p : Value × Nat) => cs.setIfInBounds (i * z + p.2) p.1) (arr N g)) = arr N (fun q => if i * z ≤ q ∧ q < i * z + z then f (q - i * z) else g q) := by
    rw [← Array.foldl_toList, Array.toList_zipIdx]
    refine arr_of _ N _ (by rw [fold_size, size_arr]) (fun q hq => ?_)
    rw [fold_lay (i * z) (arr z f).toList 0 (arr N g) q (by simp [size_arr]; omega)]
    have hl : (arr z f).toList.length = z := by simp [size_arr]
    rw [hl]
    by_cases h1 : i * z ≤ q ∧ q < i * z + z
    · rw [if_pos (by omega), if_pos h1, Array.getElem?_toList, Nat.add_zero, arr_at z f _ (by omega)]
    · rw [if_neg (by omega), if_neg h1, arr_at N g q hq]
  rw [Instr.fill]
  simp only [hc, size_arr]
  rw [if_neg (by simp; omega)]
  exact congrArg (fun cs => Instr.fill (fun i => some (i * z, z)) cs rest) key
section
variable {P : Program}
theorem run_bsN (w : World) {t e : TypeId} {z len : Nat} (ht : P.underlying t = some (.slice e)) (hz : (P.info? e).map (·.size) = some z) (hlen : len * z ≤ 16777216) (h0 : 0 < len * z) {v0 : Value} (hzero : (P.info? e).bind (·.zero) = some v0) (parts : Array (Nat × Value)) (F : Nat → Value)
    (hf : ∀ g, Instr.fill (fun i => some (i * z, z)) (arr (len * z) g) parts.toList = some (arr (len * z) F)) :
    (Instr.buildSlice t len parts).run P w = .ok (.slice (some ⟨w.heap.size, 0, none⟩) len len) (w.alloc (.cells (arr (len * z) F) e)) := by
  cases hq : P.info? e with
  | none => rw [hq] at hz; simp at hz
  | some i =>
    have hs : i.size = z := by rw [hq] at hz; simpa using hz
    have hv : i.zero = some v0 := by rw [hq] at hzero; simpa using hzero
    have hg : (Array.range (len * z)).map (fun x => v0.cells[x % v0.cells.size]!) = arr (len * z) (fun x => v0.cells[x % v0.cells.size]!) := by
      refine arr_of _ _ _ (by simp) (fun q hq => by simp [hq])
    unfold Instr.buildSlice
    have hf' := hf (fun x => v0.cells[x % v0.cells.size]!)
    rw [← hg] at hf'
    simp only [Sem.run_bind, run_underlying ht, sizeOf_run hz, Result.andThen_ok]
    rw [if_neg (by omega), if_neg (by omega)]
    have hzv : (zeroValue e).run P w = .ok v0 w := by simp [zeroValue, typeInfo, hq, hv, go_sem]
    simp only [Sem.run_bind, hzv, Result.andThen_ok, Sem.run_pure]
    rw [hf']
    simp [newRow, go_sem]
theorem wp_bs1L {o : Oper} {a : Act} {w w0 : World} {K : Act → World → Prop} {Q : Exit → Act → World → Prop} {rows : List RowSpec} {t e : TypeId} {z : Nat} (ht : P.underlying t = some (.slice e)) (hz : (P.info? e).map (·.size) = some z) (hlen : z ≤ 16777216) (h0 : 0 < z) {v0 : Value} (hzero : (P.info? e).bind (·.zero) = some v0)
    (x : Operand) (ho : o.op = .buildSlice t 1 #[(0, x)]) (f : Nat → Value) (hx : a.eval x = .agg (arr z f)) (h : HS w0 w rows)
    (hK : ∀ b w', w0.heap.size ≤ b → w.heap.size ≤ b → HS w0 w' (⟨b, e, z, f⟩ :: rows) → K (a.put o.dst (.slice (some ⟨b, 0, none⟩) 1 1)) w') : o.wp P a w K Q := by
  have hr := run_bsN (P := P) w (t := t) (len := 1) ht hz (by omega) (by omega) hzero #[(0, .agg (arr z f))] f (fun g => by
    rw [show (#[((0 : Nat), Value.agg (arr z f))] : Array (Nat × Value)).toList = [(0, .agg (arr z f))] from rfl, fill_step z (1 * z) 0 f g [] (by omega)]
    show some _ = some _
    exact congrArg some (arr_congr fun i hi => by rw [if_pos (by omega)]; simp))
  rw [Nat.one_mul] at hr
  have hrun : (execOp a.eval o).run P w = .ok (.value (.slice (some ⟨w.heap.size, 0, none⟩) 1 1)) (w.alloc (.cells (arr z f) e)) := by
    unfold execOp
    rw [ho]
    simp only [List.map_toArray, List.map_cons, List.map_nil, hx]
    simp [hr]
  unfold Oper.wp
  rw [hrun]
  exact hK _ _ h.size (Nat.le_refl _) (h.alloc (arr z f) e z f (size_arr _ _) (fun i hi => arr_at _ _ i hi))
/-- []T{x}. -/
theorem wpList_bs1 {ops : Array Oper} {rest : List Oper} {o : Oper} {a : Act} {w w0 : World} {Q : Exit → Act → World → Prop} {rows : List RowSpec} (hgd : o.guard = none) {t e : TypeId} {z : Nat} (ht : P.underlying t = some (.slice e)) (hz : (P.info? e).map (·.size) = some z) (hlen : z ≤ 16777216) (h0 : 0 < z) {v0 : Value} (hzero : (P.info? e).bind (·.zero) = some v0)
    (x : Operand) (ho : o.op = .buildSlice t 1 #[(0, x)]) (f : Nat → Value) (hx : a.eval x = .agg (arr z f)) (h : HS w0 w rows)
    (hK : ∀ b w', w0.heap.size ≤ b → w.heap.size ≤ b → HS w0 w' (⟨b, e, z, f⟩ :: rows) → wpList P ops Q rest (a.put o.dst (.slice (some ⟨b, 0, none⟩) 1 1)) w') : wpList P ops Q (o :: rest) a w :=
  wpList_plain hgd fun _ hK' => by
    have hr := run_bsN (P := P) w (t := t) (len := 1) ht hz (by omega) (by omega) hzero #[(0, .agg (arr z f))] f (fun g => by
      rw [show (#[((0 : Nat), Value.agg (arr z f))] : Array (Nat × Value)).toList = [(0, .agg (arr z f))] from rfl, fill_step z (1 * z) 0 f g [] (by omega)]
      show some _ = some _
      exact congrArg some (arr_congr fun i hi => by rw [if_pos (by omega)]; simp))
    rw [Nat.one_mul] at hr
    have hrun : (execOp a.eval o).run P w = .ok (.value (.slice (some ⟨w.heap.size, 0, none⟩) 1 1)) (w.alloc (.cells (arr z f) e)) := by
      unfold execOp
      rw [ho]
      simp only [List.map_toArray, List.map_cons, List.map_nil, hx]
      simp [hr]
    unfold Oper.wp
    rw [hrun]
    exact hK' _ _ (hK _ _ h.size (Nat.le_refl _) (h.alloc (arr z f) e z f (size_arr _ _) (fun i hi => arr_at _ _ i hi)))
end
end Go.Proofs.YtjmbgdldnnmipaaDoor
/- SHA-256 of any number of bytes, in plain Lean. -/
namespace Go.Proofs.YtjmbgdldnnmipaaDoor
set_option maxRecDepth 40000
open Go.RowKit

theorem win_congr (m m' : Nat → W32) (h : ∀ i, i < 16 → m i = m' i) : ∀ (t j : Nat), j < 16 → win m t j = win m' t j
  | 0, j, hj => h j hj
  | t + 1, j, hj => by
    have ih := win_congr m m' h t
    simp only [win]
    by_cases e : j < 15
    · rw [if_pos e, if_pos e, ih (j + 1) (by omega)]
    · rw [if_neg e, if_neg e, ih 0 (by omega), ih 1 (by omega), ih 9 (by omega), ih 14 (by omega)]
theorem rounds_congr (m m' : Nat → W32) (s : S8) (h : ∀ i, i < 16 → m i = m' i) : ∀ t, rounds m s t = rounds m' s t
  | 0 => rfl
  | t + 1 => by
    have e : Wt m t = Wt m' t := win_congr m m' h t 0 (by omega)
    simp only [rounds, rounds_congr m m' s h t, e]
theorem comp_congr (H : Nat → W32) (m m' : Nat → Nat) (h : ∀ i, i < 64 → m i = m' i) : comp H m = comp H m' := by
  unfold comp
  rw [rounds_congr (word m) (word m') (S8.of H) (fun i hi => by unfold word; rw [h (4 * i) (by omega), h (4 * i + 1) (by omega), h (4 * i + 2) (by omega), h (4 * i + 3) (by omega)]) 64]
def hList : List Nat := [0x6a09e667, 0xbb67ae85, 0x3c6ef372, 0xa54ff53a, 0x510e527f, 0x9b05688c, 0x1f83d9ab, 0x5be0cd19]
/-- The words that all begins with. -/
def h0 (i : Nat) : W32 := BitVec.ofNat 32 (hList.getD i 0)
/-- Block k of some bytes. -/
def blk (m : Nat → Nat) (k : Nat) : Nat → Nat := fun i => m (64 * k + i)
/-- The words behind k blocks. -/
def Hs (m : Nat → Nat) : Nat → Nat → W32
  | 0 => h0
  | k + 1 => comp (Hs m k) (blk m k)
theorem Hs_congr (m m' : Nat → Nat) : ∀ k, (∀ i, i < 64 * k → m i = m' i) → Hs m k = Hs m' k
  | 0, _ => rfl
  | k + 1, h => by
    simp only [Hs]
    rw [Hs_congr m m' k (fun i hi => h i (by omega))]
    exact comp_congr _ _ _ (fun i hi => h _ (by omega))
/-- How many blocks there are behind the padding. -/
def nb (len : Nat) : Nat := (len + 8) / 64 + 1
def padF (len : Nat) (m : Nat → Nat) (j : Nat) : Nat :=
  if j < len then m j else if j = len then 128 else if j < 64 * nb len - 8 then 0 else 8 * len % 18446744073709551616 / 2 ^ (8 * (64 * nb len - 1 - j)) % 256
/-- The words as bytes. -/
def rootOf (H : Nat → W32) (i : Nat) : Nat := (H (i / 4) >>> (24 - 8 * (i % 4))).toNat % 256
/-- The sum of the first len bytes of m. -/
def shaB (m : Nat → Nat) (len : Nat) : Nat → Nat := rootOf (Hs (padF len m) (nb len))
theorem rootOf_lt (H : Nat → W32) (i : Nat) : rootOf H i < 256 := Nat.mod_lt _ (by omega)
theorem shaB_lt (m : Nat → Nat) (len i : Nat) : shaB m len i < 256 := rootOf_lt _ _
theorem shaB_congr {m m' : Nat → Nat} {len : Nat} (h : ∀ i, i < len → m i = m' i) : shaB m len = shaB m' len := by
  have e : padF len m = padF len m' := by
    funext j
    unfold padF
    by_cases hj : j < len
    · rw [if_pos hj, if_pos hj, h j hj]
    · rw [if_neg hj, if_neg hj]
  unfold shaB; rw [e]
theorem padF_lt (len : Nat) (m : Nat → Nat) (hm : ∀ i, m i < 256) (j : Nat) : padF len m j < 256 := by
  unfold padF
  split
  · exact hm j
  · split
    · omega
    · split
      · omega
      · exact Nat.mod_lt _ (by omega)
theorem Hs_pad (m : Nat → Nat) (len k : Nat) (h : 64 * k ≤ len) : Hs (padF len m) k = Hs m k :=
  Hs_congr _ _ k (fun i hi => by unfold padF; rw [if_pos (by omega)])

/-- What the cells of a digest hold when len bytes of m came; z: what lies behind the rest. -/
def digF (m : Nat → Nat) (len : Nat) (z : Nat → Nat) : Nat → Value := fun j =>
  if j < 8 then wv (Hs m (len / 64) j) else if j < 72 then .int .u8 ((if j - 8 < len % 64 then m (64 * (len / 64) + (j - 8)) else z (j - 8) : Nat) : Int)
  else if j = 72 then .int .i64 ((len % 64 : Nat) : Int) else .int .u64 ((len % 18446744073709551616 : Nat) : Int)
/-- A digest in the making: n of these words, this rest, so many bytes in all. -/
def digG (H : Nat → W32) (x : Nat → Nat) (n : Nat) (all : Nat) : Nat → Value := fun j =>
  if j < 8 then wv (H j) else if j < 72 then .int .u8 ((x (j - 8) : Nat) : Int) else if j = 72 then .int .i64 ((n : Nat) : Int) else .int .u64 ((all % 18446744073709551616 : Nat) : Int)
def restF (m : Nat → Nat) (len : Nat) (z : Nat → Nat) : Nat → Nat := fun j => if j < len % 64 then m (64 * (len / 64) + j) else z j
theorem digF_G (m : Nat → Nat) (len : Nat) (z : Nat → Nat) : digF m len z = digG (Hs m (len / 64)) (restF m len z) (len % 64) len := rfl
/-- n bytes of m, and behind them those of x. -/
def catN (n : Nat) (m x : Nat → Nat) : Nat → Nat := fun i => if i < n then m i else x (i - n)
theorem catN_lt {n : Nat} {m x : Nat → Nat} (hm : ∀ i, m i < 256) (hx : ∀ i, x i < 256) (i : Nat) : catN n m x i < 256 := by
  unfold catN; split
  · exact hm i
  · exact hx _
end Go.Proofs.YtjmbgdldnnmipaaDoor
/- The walks of package sha. -/
namespace Go.Proofs.YtjmbgdldnnmipaaDoor
set_option maxRecDepth 40000
open Go.RowKit

set_option maxHeartbeats 400000 in
theorem turn_2 (x : W32) (w : World) : Calls Tryd.prog 58 #[wv x, .int .i64 2] w fun e w' => e = .returned (wv (rotr x 2)) ∧ w = w' := by
  have hs : bits BinOp.and IntKind.u64 (IntKind.u64.wrap (-2)) 31 = 30 := by decide
  have h1 := Lib.hid (show (x.toNat : Int) * (1073741824 : Int) % (4294967296 : Int) = (((x <<< 30).toNat : Nat) : Int) from u32_shl x 30)
  have h2 := Lib.hid (show (x.toNat : Int) / (4 : Int) = (((x >>> 2).toNat : Nat) : Int) from u32_shr x 2)
  have h3 := Lib.hid (u32_or (x <<< 30) (x >>> 2))
  go_enter Tryd.func58, Tryd.ntmps58
  go_wp2
  go_ret
  exact ⟨ret_int (by rw [h1.out, h2.out, h3.out, BitVec.or_comm]; rfl), rfl⟩

set_option maxHeartbeats 400000 in
theorem turn_6 (x : W32) (w : World) : Calls Tryd.prog 58 #[wv x, .int .i64 6] w fun e w' => e = .returned (wv (rotr x 6)) ∧ w = w' := by
  have hs : bits BinOp.and IntKind.u64 (IntKind.u64.wrap (-6)) 31 = 26 := by decide
  have h1 := Lib.hid (show (x.toNat : Int) * (67108864 : Int) % (4294967296 : Int) = (((x <<< 26).toNat : Nat) : Int) from u32_shl x 26)
  have h2 := Lib.hid (show (x.toNat : Int) / (64 : Int) = (((x >>> 6).toNat : Nat) : Int) from u32_shr x 6)
  have h3 := Lib.hid (u32_or (x <<< 26) (x >>> 6))
  go_enter Tryd.func58, Tryd.ntmps58
  go_wp2
  go_ret
  exact ⟨ret_int (by rw [h1.out, h2.out, h3.out, BitVec.or_comm]; rfl), rfl⟩

set_option maxHeartbeats 400000 in
theorem turn_7 (x : W32) (w : World) : Calls Tryd.prog 58 #[wv x, .int .i64 7] w fun e w' => e = .returned (wv (rotr x 7)) ∧ w = w' := by
  have hs : bits BinOp.and IntKind.u64 (IntKind.u64.wrap (-7)) 31 = 25 := by decide
  have h1 := Lib.hid (show (x.toNat : Int) * (33554432 : Int) % (4294967296 : Int) = (((x <<< 25).toNat : Nat) : Int) from u32_shl x 25)
  have h2 := Lib.hid (show (x.toNat : Int) / (128 : Int) = (((x >>> 7).toNat : Nat) : Int) from u32_shr x 7)
  have h3 := Lib.hid (u32_or (x <<< 25) (x >>> 7))
  go_enter Tryd.func58, Tryd.ntmps58
  go_wp2
  go_ret
  exact ⟨ret_int (by rw [h1.out, h2.out, h3.out, BitVec.or_comm]; rfl), rfl⟩

set_option maxHeartbeats 400000 in
theorem turn_11 (x : W32) (w : World) : Calls Tryd.prog 58 #[wv x, .int .i64 11] w fun e w' => e = .returned (wv (rotr x 11)) ∧ w = w' := by
  have hs : bits BinOp.and IntKind.u64 (IntKind.u64.wrap (-11)) 31 = 21 := by decide
  have h1 := Lib.hid (show (x.toNat : Int) * (2097152 : Int) % (4294967296 : Int) = (((x <<< 21).toNat : Nat) : Int) from u32_shl x 21)
  have h2 := Lib.hid (show (x.toNat : Int) / (2048 : Int) = (((x >>> 11).toNat : Nat) : Int) from u32_shr x 11)
  have h3 := Lib.hid (u32_or (x <<< 21) (x >>> 11))
  go_enter Tryd.func58, Tryd.ntmps58
  go_wp2
  go_ret
  exact ⟨ret_int (by rw [h1.out, h2.out, h3.out, BitVec.or_comm]; rfl), rfl⟩

set_option maxHeartbeats 400000 in
theorem turn_13 (x : W32) (w : World) : Calls Tryd.prog 58 #[wv x, .int .i64 13] w fun e w' => e = .returned (wv (rotr x 13)) ∧ w = w' := by
  have hs : bits BinOp.and IntKind.u64 (IntKind.u64.wrap (-13)) 31 = 19 := by decide
  have h1 := Lib.hid (show (x.toNat : Int) * (524288 : Int) % (4294967296 : Int) = (((x <<< 19).toNat : Nat) : Int) from u32_shl x 19)
  have h2 := Lib.hid (show (x.toNat : Int) / (8192 : Int) = (((x >>> 13).toNat : Nat) : Int) from u32_shr x 13)
  have h3 := Lib.hid (u32_or (x <<< 19) (x >>> 13))
  go_enter Tryd.func58, Tryd.ntmps58
  go_wp2
  go_ret
  exact ⟨ret_int (by rw [h1.out, h2.out, h3.out, BitVec.or_comm]; rfl), rfl⟩

set_option maxHeartbeats 400000 in
theorem turn_17 (x : W32) (w : World) : Calls Tryd.prog 58 #[wv x, .int .i64 17] w fun e w' => e = .returned (wv (rotr x 17)) ∧ w = w' := by
  have hs : bits BinOp.and IntKind.u64 (IntKind.u64.wrap (-17)) 31 = 15 := by decide
  have h1 := Lib.hid (show (x.toNat : Int) * (32768 : Int) % (4294967296 : Int) = (((x <<< 15).toNat : Nat) : Int) from u32_shl x 15)
  have h2 := Lib.hid (show (x.toNat : Int) / (131072 : Int) = (((x >>> 17).toNat : Nat) : Int) from u32_shr x 17)
  have h3 := Lib.hid (u32_or (x <<< 15) (x >>> 17))
  go_enter Tryd.func58, Tryd.ntmps58
  go_wp2
  go_ret
  exact ⟨ret_int (by rw [h1.out, h2.out, h3.out, BitVec.or_comm]; rfl), rfl⟩

set_option maxHeartbeats 400000 in
theorem turn_18 (x : W32) (w : World) : Calls Tryd.prog 58 #[wv x, .int .i64 18] w fun e w' => e = .returned (wv (rotr x 18)) ∧ w = w' := by
  have hs : bits BinOp.and IntKind.u64 (IntKind.u64.wrap (-18)) 31 = 14 := by decide
  have h1 := Lib.hid (show (x.toNat : Int) * (16384 : Int) % (4294967296 : Int) = (((x <<< 14).toNat : Nat) : Int) from u32_shl x 14)
  have h2 := Lib.hid (show (x.toNat : Int) / (262144 : Int) = (((x >>> 18).toNat : Nat) : Int) from u32_shr x 18)
  have h3 := Lib.hid (u32_or (x <<< 14) (x >>> 18))
  go_enter Tryd.func58, Tryd.ntmps58
  go_wp2
  go_ret
  exact ⟨ret_int (by rw [h1.out, h2.out, h3.out, BitVec.or_comm]; rfl), rfl⟩

set_option maxHeartbeats 400000 in
theorem turn_19 (x : W32) (w : World) : Calls Tryd.prog 58 #[wv x, .int .i64 19] w fun e w' => e = .returned (wv (rotr x 19)) ∧ w = w' := by
  have hs : bits BinOp.and IntKind.u64 (IntKind.u64.wrap (-19)) 31 = 13 := by decide
  have h1 := Lib.hid (show (x.toNat : Int) * (8192 : Int) % (4294967296 : Int) = (((x <<< 13).toNat : Nat) : Int) from u32_shl x 13)
  have h2 := Lib.hid (show (x.toNat : Int) / (524288 : Int) = (((x >>> 19).toNat : Nat) : Int) from u32_shr x 19)
  have h3 := Lib.hid (u32_or (x <<< 13) (x >>> 19))
  go_enter Tryd.func58, Tryd.ntmps58
  go_wp2
  go_ret
  exact ⟨ret_int (by rw [h1.out, h2.out, h3.out, BitVec.or_comm]; rfl), rfl⟩

set_option maxHeartbeats 400000 in
theorem turn_22 (x : W32) (w : World) : Calls Tryd.prog 58 #[wv x, .int .i64 22] w fun e w' => e = .returned (wv (rotr x 22)) ∧ w = w' := by
  have hs : bits BinOp.and IntKind.u64 (IntKind.u64.wrap (-22)) 31 = 10 := by decide
  have h1 := Lib.hid (show (x.toNat : Int) * (1024 : Int) % (4294967296 : Int) = (((x <<< 10).toNat : Nat) : Int) from u32_shl x 10)
  have h2 := Lib.hid (show (x.toNat : Int) / (4194304 : Int) = (((x >>> 22).toNat : Nat) : Int) from u32_shr x 22)
  have h3 := Lib.hid (u32_or (x <<< 10) (x >>> 22))
  go_enter Tryd.func58, Tryd.ntmps58
  go_wp2
  go_ret
  exact ⟨ret_int (by rw [h1.out, h2.out, h3.out, BitVec.or_comm]; rfl), rfl⟩

set_option maxHeartbeats 400000 in
theorem turn_25 (x : W32) (w : World) : Calls Tryd.prog 58 #[wv x, .int .i64 25] w fun e w' => e = .returned (wv (rotr x 25)) ∧ w = w' := by
  have hs : bits BinOp.and IntKind.u64 (IntKind.u64.wrap (-25)) 31 = 7 := by decide
  have h1 := Lib.hid (show (x.toNat : Int) * (128 : Int) % (4294967296 : Int) = (((x <<< 7).toNat : Nat) : Int) from u32_shl x 7)
  have h2 := Lib.hid (show (x.toNat : Int) / (33554432 : Int) = (((x >>> 25).toNat : Nat) : Int) from u32_shr x 25)
  have h3 := Lib.hid (u32_or (x <<< 7) (x >>> 25))
  go_enter Tryd.func58, Tryd.ntmps58
  go_wp2
  go_ret
  exact ⟨ret_int (by rw [h1.out, h2.out, h3.out, BitVec.or_comm]; rfl), rfl⟩
end Go.Proofs.YtjmbgdldnnmipaaDoor
/- Indices, loads and stores of package sha's arrays. -/
namespace Go.Proofs.YtjmbgdldnnmipaaDoor
set_option maxRecDepth 40000
open Go.RowKit
section
theorem run_idx_slice (w : World) (ad : Addr) (n c i : Nat) (hi : i < n) : (Instr.indexAt 35 (.slice (some ad) n c) (.int .i64 (i : Int))).run Tryd.prog w = .ok (.pointer (some (ad.add i))) w := by
  have hx : (0 : Int) ≤ (i : Int) ∧ (i : Int) < (n : Int) := by omega
  simp [go_sem, hi]
theorem run_idx16 (w : World) (g o i : Nat) (hi : i < 16) : (Instr.indexAt 86 (.pointer (some ⟨g, o, none⟩)) (.int .i64 (i : Int))).run Tryd.prog w = .ok (.pointer (some ⟨g, o + i, none⟩)) w := by
  have hx : (i : Int) < 16 := by omega
  simp [go_sem, hx]
theorem run_idx64 (w : World) (g o i : Nat) (hi : i < 64) : (Instr.indexAt 88 (.pointer (some ⟨g, o, none⟩)) (.int .i64 (i : Int))).run Tryd.prog w = .ok (.pointer (some ⟨g, o + i, none⟩)) w := by
  have hx : (i : Int) < 64 := by omega
  simp [go_sem, hx]
theorem run_idx8 (w : World) (g o i : Nat) (hi : i < 8) : (Instr.indexAt 65 (.pointer (some ⟨g, o, none⟩)) (.int .i64 (i : Int))).run Tryd.prog w = .ok (.pointer (some ⟨g, o + i, none⟩)) w := by
  have hx : (i : Int) < 8 := by omega
  simp [go_sem, hx]
theorem run_ld32 (w : World) (a : Addr) (x : W32) (h : w.cell? a = some (wv x)) : (Instr.loadAt 63 (.pointer (some a))).run Tryd.prog w = .ok (wv x) w := by
  simp [go_sem, h]
theorem run_ld8 (w : World) (a : Addr) (b : Nat) (h : w.cell? a = some (.int .u8 (b : Int))) : (Instr.loadAt 5 (.pointer (some a))).run Tryd.prog w = .ok (.int .u8 (b : Int)) w := by
  simp [go_sem, h]
theorem run_st32 (w : World) (a : Addr) (x : W32) (y : Value) (h : w.cell? a = some y) (hf : w.frozen? a = false) : (Instr.storeAt 63 (.pointer (some a)) (wv x)).run Tryd.prog w = .ok () (w.setCell a (wv x)) := by
  simp [go_sem, h, hf]
end
end Go.Proofs.YtjmbgdldnnmipaaDoor
