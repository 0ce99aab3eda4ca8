/- Steps of a walk whose world is a letter behind them. -/
import Derived.Test.YtecgogeebponlaaDoorBox
namespace Go.Proofs.YtecgogeebponlaaDoor
set_option maxRecDepth 40000
open Go.RowKit
theorem add_litO (g o n : Nat) : (⟨g, o, none⟩ : Addr).add n = ⟨g, o + n, none⟩ := by unfold Addr.add; split <;> simp_all
section
variable {P : Program}
/-- A new variable of zero cells; its world is a letter. -/
theorem wpList_allocH {ops : Array Oper} {rest : List Oper} {o : Oper} {a : Act} {w w0 : World} {Q : Exit → Act → World → Prop} {rows : List RowSpec} (hgd : o.guard = none) (t : TypeId) (ho : o.op = .alloc t) (h : HS w0 w rows) (cs : Array Value)
    (hz : (P.info? t).bind (·.zero) = some (.agg cs)) (n : Nat) (f : Nat → Value) (hn : cs.size = n) (hc : ∀ i, i < n → cs[i]? = some (f i)) (hK : ∀ w', HS w0 w' (⟨w.heap.size, t, n, f⟩ :: rows) → wpList P ops Q rest (a.put o.dst (.pointer (some ⟨w.heap.size, 0, none⟩))) w') : wpList P ops Q (o :: rest) a w :=
  wpList_alloc_as hgd t ho cs hz (hK _ (h.alloc cs t n f hn hc))
/-- Two results, the first in memory. -/
theorem ret_rowTmp {fn : Func} {R : Ending → World → Prop} {a : Act} {w : World} {p q : Tmp} {ty : TypeId} (h : fn.results = #[.cell p ty, .tmp q]) {b : Nat} {t : TypeId} {n : Nat} {f : Nat → Value} (hr : w.rowIs b t n f) (d : TypeDesc) (v : Value)
    (hp : a.tmps.getD p undef = .pointer (some ⟨b, 0, none⟩)) (hq : a.tmps.getD q undef = v)
    (hu : P.underlying ty = some d) (hd : (match d with | .struct _ | .array _ _ => true | _ => false) = true) (hi : (P.info? ty).map (·.size) = some n) (hdf : a.defers = [])
    (hR : R (.returned (.tuple #[.agg (arr n f), v])) w) : bodyPost P fn R .ret a w := by
  refine bodyPost_ret (v := .tuple #[.agg (arr n f), v]) ?_ hdf hR
  have hp' : a.tmps[p]?.getD undef = .pointer (some ⟨b, 0, none⟩) := by simpa using hp
  have hq' : a.tmps[q]?.getD undef = v := by simpa using hq
  simp [results, h, hp', hq', asAddr, run_loadVar_row w b t ty (arr n f) (0, 0) d (heap_arr hr) hu hd (by rw [hi, size_arr])]
/-- A whole array is laid into row k; the world is a letter. -/
theorem wpList_storeH {ops : Array Oper} {rest : List Oper} {o : Oper} {a : Act} {w w0 : World} {Q : Exit → Act → World → Prop} {rows : List RowSpec} (hgd : o.guard = none) (ty : TypeId) (x y : Operand) (ho : o.op = .store ty x y) (h : HS w0 w rows) (k : Nat) {b : Nat} {t : TypeId} {n : Nat} {f : Nat → Value} (hk : rows[k]? = some ⟨b, t, n, f⟩)
    (g : Nat → Value) (hx : a.eval x = .pointer (some ⟨b, 0, none⟩)) (hy : a.eval y = .agg (arr n g)) (hi : (P.info? ty).map (·.size) = some n) (h1 : ∀ i, i < n → (g i).oneCell' = true)
    (hK : ∀ w', HS w0 w' (rows.set k ⟨b, t, n, g⟩) → wpList P ops Q rest (a.put o.dst undef) w') : wpList P ops Q (o :: rest) a w :=
  wpList_store_arr hgd ty x y ho (h.row k hk) (arr n g) hx hy (size_arr _ _) hi (fun i hi => ⟨_, arr_at _ _ i hi, h1 i hi⟩) (hK _ (h.setRow k hk (arr n g) (size_arr _ _) g (fun i hi => arr_at _ _ i hi)))
/-- An operation's value, said by the caller. -/
theorem wpList_as {ops : Array Oper} {rest : List Oper} {o : Oper} {a : Act} {w : World} {Q : Exit → Act → World → Prop} (hgd : o.guard = none) (d : Tmp) (_hd : o.dst = some d) (v : Value) (h : (execOp a.eval o).run P w = .ok (.value v) w) (hK : wpList P ops Q rest (a.put o.dst v) w) : wpList P ops Q (o :: rest) a w :=
  wpList_plain hgd fun _ hK' => by
    unfold Oper.wp
    rw [h]
    exact hK' _ _ hK
/-- A new variable of zero cells: its block and its world are letters. -/
theorem wp_allocL {o : Oper} {a : Act} {w w0 : World} {K : Act → World → Prop} {Q : Exit → Act → World → Prop} {rows : List RowSpec} (t : TypeId) (d : Tmp) (_hd : o.dst = some d) (ho : o.op = .alloc t) (h : HS w0 w rows) (cs : Array Value)
    (hz : (P.info? t).bind (·.zero) = some (.agg cs)) (n : Nat) (f : Nat → Value) (hn : cs.size = n) (hc : ∀ i, i < n → cs[i]? = some (f i)) (hK : ∀ b w', w0.heap.size ≤ b → w.heap.size ≤ b → HS w0 w' (⟨b, t, n, f⟩ :: rows) → K (a.put o.dst (.pointer (some ⟨b, 0, none⟩))) w') : o.wp P a w K Q := by
  have hr : (Instr.alloc t true (.tuple #[])).run P w = .ok (.pointer (some ⟨w.heap.size, 0, none⟩)) (w.alloc (.cells cs t)) := by
    cases hq : P.info? t with
    | none => rw [hq] at hz; simp at hz
    | some i =>
      rw [hq] at hz
      simp at hz
      simp [Instr.alloc, zeroValue, typeInfo, hq, hz, newVar, Value.cells, go_sem]
  unfold Oper.wp execOp
  simp only [ho, Sem.run_bind, hr, Result.andThen_ok, Sem.run_pure]
  exact hK _ _ h.size (Nat.le_refl _) (h.alloc cs t n f hn hc)
theorem wpList_allocL {ops : Array Oper} {rest : List Oper} {o : Oper} {a : Act} {w w0 : World} {Q : Exit → Act → World → Prop} {rows : List RowSpec} (hgd : o.guard = none) (t : TypeId) (d : Tmp) (hd : o.dst = some d) (ho : o.op = .alloc t) (h : HS w0 w rows) (cs : Array Value)
    (hz : (P.info? t).bind (·.zero) = some (.agg cs)) (n : Nat) (f : Nat → Value) (hn : cs.size = n) (hc : ∀ i, i < n → cs[i]? = some (f i)) (hK : ∀ b w', w0.heap.size ≤ b → w.heap.size ≤ b → HS w0 w' (⟨b, t, n, f⟩ :: rows) → wpList P ops Q rest (a.put o.dst (.pointer (some ⟨b, 0, none⟩))) w') : wpList P ops Q (o :: rest) a w :=
  wpList_plain hgd fun _ hK' => wp_allocL t d hd ho h cs hz n f hn hc fun b w' h1 h1' h2 => hK' _ _ (hK b w' h1 h1' h2)
/-- An argument that is kept: its block and its world are letters. -/
theorem wpList_boxL {ops : Array Oper} {rest : List Oper} {o : Oper} {a : Act} {w w0 : World} {Q : Exit → Act → World → Prop} {rows : List RowSpec} (hgd : o.guard = none) (ty : TypeId) (x : Operand) (d : Tmp) (_hd : o.dst = some d) (ho : o.op = .box ty x) (h : HS w0 w rows)
    (n : Nat) (f : Nat → Value) (hx : a.eval x = .agg (arr n f)) (hK : ∀ b w', w0.heap.size ≤ b → w.heap.size ≤ b → HS w0 w' (⟨b, ty, n, f⟩ :: rows) → wpList P ops Q rest (a.put o.dst (.pointer (some ⟨b, 0, none⟩))) w') : wpList P ops Q (o :: rest) a w :=
  wpList_box hgd ty x ho n f hx fun w' h1 h2 => hK _ w' h.size (Nat.le_refl _) ((h.below h2).add h1 h.size fun r hr => by have := (h.has r hr).lt; omega)
theorem wp_storeL {o : Oper} {a : Act} {w w0 : World} {K : Act → World → Prop} {Q : Exit → Act → World → Prop} {rows : List RowSpec} (ty : TypeId) (x y : Operand) (ho : o.op = .store ty x y) (h : HS w0 w rows) (k : Nat) {b : Nat} {t : TypeId} {n : Nat} {f : Nat → Value} (hk : rows[k]? = some ⟨b, t, n, f⟩)
    (g : Nat → Value) (hx : a.eval x = .pointer (some ⟨b, 0, none⟩)) (hy : a.eval y = .agg (arr n g)) (hi : (P.info? ty).map (·.size) = some n) (h1 : ∀ i, i < n → (g i).oneCell' = true)
    (hK : ∀ w', HS w0 w' (rows.set k ⟨b, t, n, g⟩) → K (a.put o.dst undef) w') : o.wp P a w K Q :=
  wp_sto_arr ho (h.row k hk) (arr n g) hx hy (size_arr _ _) hi (fun i hi => ⟨_, arr_at _ _ i hi, h1 i hi⟩) (hK _ (h.setRow k hk (arr n g) (size_arr _ _) g (fun i hi => arr_at _ _ i hi)))
/-- copy into a part of row k. -/
theorem wp_copyL {o : Oper} {a : Act} {w w0 : World} {K : Act → World → Prop} {Q : Exit → Act → World → Prop} {rows : List RowSpec} {d s : Operand} {dT sT elem : TypeId} (hop : o.op = .call { callee := .builtin .copy, args := #[d, s], argTypes := #[dT, sT] }) (hu : P.underlying dT = some (.slice elem)) (hs : (P.info? elem).map (·.size) = some 1)
    (h : HS w0 w rows) (k : Nat) {b : Nat} {t : TypeId} {N : Nat} {F : Nat → Value} (hk : rows[k]? = some ⟨b, t, N, F⟩) (off dLen dCap : Nat) {A : Option Addr} {sLen sCap B : Nat} {fs : Nat → Value} (hsrc : Rd w B A sLen fs) (h1 : ∀ i, i < sLen → (fs i).oneCell' = true) (n : Nat) (hn : n = min sLen dLen) (hfit : off + n ≤ N)
    (hd : a.eval d = .slice (some ⟨b, off, none⟩) dLen dCap) (hss : a.eval s = .slice A sLen sCap) (G : Nat → Value) (hG : ∀ j, j < N → (if off ≤ j ∧ j < off + n then fs (j - off) else F j) = G j)
    (hK : ∀ w1, HS w0 w1 (rows.set k ⟨b, t, N, G⟩) → K (a.put o.dst (.int .i64 (n : Int))) w1) : o.wp P a w K Q :=
  wp_copy_fn hop hu hs (h.row k hk) off dLen dCap hsrc h1 n hn hfit hd hss fun w1 hr hg => hK w1 (h.write k hk hg (hr.congr hG))
/-- Some rows are forgotten. -/
theorem HS.sub {w0 w : World} {rows rows' : List RowSpec} (h : HS w0 w rows) (hs : rows'.Sublist rows) (hr : ∀ r ∈ rows, w0.heap.size ≤ r.b) : HS w0 w rows' :=
  ⟨h.os, h.tape, h.output, h.size, fun k hk _ => h.block k hk (fun r hr' e => by
    have h1 := hr r hr'
    omega), fun r hr' => h.has r (hs.subset hr'), h.apart.sublist hs⟩
end
theorem row_ne {w : World} {b b' : Nat} {t t' : TypeId} {n n' : Nat} {f f' : Nat → Value} (h : w.rowIs b t n f) (h' : w.rowIs b' t' n' f') (hne : t ≠ t') : b ≠ b' := by
  rintro rfl
  obtain ⟨c, hc, _⟩ := h
  obtain ⟨c', hc', _⟩ := h'
  rw [hc] at hc'
  injection hc' with hc'
  injection hc' with _ h2
  exact hne h2
/-- A new variable. -/
def SF.new (base : Nat) (t : TypeId) (n : Nat) (f : Nat → Value) : SF := ⟨fun v w => ∃ b, v = .pointer (some ⟨b, 0, none⟩) ∧ base ≤ b ∧ w.rowIs b t n f, fun _ _ _ ⟨b, e, h1, h⟩ hb => ⟨b, e, h1, row_below h hb h.lt⟩⟩
section
variable {P : Program} {ops : Array Oper} {B : Nat} {w0 : World} {o : Oper} {lk : Tmp → SF}
theorem opOb_new (base : Nat) {t : TypeId} (hg : o.guard = none) (hop : o.op = .alloc t) (cs : Array Value) (hz : (P.info? t).bind (·.zero) = some (.agg cs)) (n : Nat) (f : Nat → Value) (hn : cs.size = n) (hc : ∀ i, i < n → cs[i]? = some (f i)) (hb : base ≤ w0.heap.size) : opOb P ops B w0 o (SF.new base t n f) lk :=
  opOb_of hg fun a w hbel hf => by
    have hr : (Instr.alloc t true (.tuple #[])).run P w = .ok (.pointer (some ⟨w.heap.size, 0, none⟩)) (w.alloc (.cells cs t)) := by
      cases hq : P.info? t with
      | none => rw [hq] at hz; simp at hz
      | some i =>
        rw [hq] at hz
        simp at hz
        simp [Instr.alloc, zeroValue, typeInfo, hq, hz, newVar, Value.cells, go_sem]
    unfold Oper.wp execOp
    simp only [hop, Sem.run_bind, hr, Result.andThen_ok, Sem.run_pure]
    have h0 := (HS.nil w).alloc cs t n f hn hc
    exact ⟨_, rfl, ⟨w.heap.size, rfl, Nat.le_trans hb hbel.size, h0.row 0 rfl⟩, h0.out (by simp)⟩
end
end Go.Proofs.YtecgogeebponlaaDoor
