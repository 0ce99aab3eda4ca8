/- Steps of a walk whose world is a letter behind them. -/
import Derived.Test.YtjphchcjneofhaaDoorBox
namespace Go.Proofs.YtjphchcjneofhaaDoor
open Go.RowKit
theorem add_litO (g o n : Nat) : (⟨g, o, none⟩ : Addr).add n = ⟨g, o + n, none⟩ := by unfold Addr.add; split <;> simp_all
section
variable {P : Program}
/-- A new variable of zero cells; its world is a letter. -/
theorem wpList_allocH {ops : Array Oper} {rest : List Oper} {o : Oper} {a : Act} {w w0 : World} {Q : Exit → Act → World → Prop} {rows : List RowSpec} (hgd : o.guard = none) (t : TypeId) (ho : o.op = .alloc t) (h : HS w0 w rows) (cs : Array Value)
    (hz : (P.info? t).bind (·.zero) = some (.agg cs)) (n : Nat) (f : Nat → Value) (hn : cs.size = n) (hc : ∀ i, i < n → cs[i]? = some (f i)) (hK : ∀ w', HS w0 w' (⟨w.heap.size, t, n, f⟩ :: rows) → wpList P ops Q rest (a.put o.dst (.pointer (some ⟨w.heap.size, 0, none⟩))) w') : wpList P ops Q (o :: rest) a w :=
  wpList_alloc_as hgd t ho cs hz (hK _ (h.alloc cs t n f hn hc))
/-- Two results, the first in memory. -/
theorem ret_rowTmp {fn : Func} {R : Ending → World → Prop} {a : Act} {w : World} {p q : Tmp} {ty : TypeId} (h : fn.results = #[.cell p ty, .tmp q]) {b : Nat} {t : TypeId} {n : Nat} {f : Nat → Value} (hr : w.rowIs b t n f) (d : TypeDesc) (v : Value)
    (hp : a.tmps.getD p undef = .pointer (some ⟨b, 0, none⟩)) (hq : a.tmps.getD q undef = v)
    (hu : P.underlying ty = some d) (hd : (match d with | .struct _ | .array _ _ => true | _ => false) = true) (hi : (P.info? ty).map (·.size) = some n) (hdf : a.defers = [])
    (hR : R (.returned (.tuple #[.agg (arr n f), v])) w) : bodyPost P fn R .ret a w := by
  refine bodyPost_ret (v := .tuple #[.agg (arr n f), v]) ?_ hdf hR
  have hp' : a.tmps[p]?.getD undef = .pointer (some ⟨b, 0, none⟩) := by simpa using hp
  have hq' : a.tmps[q]?.getD undef = v := by simpa using hq
  simp [results, h, hp', hq', asAddr, run_loadVar_row w b t ty (arr n f) (0, 0) d (heap_arr hr) hu hd (by rw [hi, size_arr])]
/-- A whole array is laid into row k; the world is a letter. -/
theorem wpList_storeH {ops : Array Oper} {rest : List Oper} {o : Oper} {a : Act} {w w0 : World} {Q : Exit → Act → World → Prop} {rows : List RowSpec} (hgd : o.guard = none) (ty : TypeId) (x y : Operand) (ho : o.op = .store ty x y) (h : HS w0 w rows) (k : Nat) {b : Nat} {t : TypeId} {n : Nat} {f : Nat → Value} (hk : rows[k]? = some ⟨b, t, n, f⟩)
    (g : Nat → Value) (hx : a.eval x = .pointer (some ⟨b, 0, none⟩)) (hy : a.eval y = .agg (arr n g)) (hi : (P.info? ty).map (·.size) = some n) (h1 : ∀ i, i < n → (g i).oneCell' = true)
    (hK : ∀ w', HS w0 w' (rows.set k ⟨b, t, n, g⟩) → wpList P ops Q rest (a.put o.dst undef) w') : wpList P ops Q (o :: rest) a w :=
  wpList_store_arr hgd ty x y ho (h.row k hk) (arr n g) hx hy (size_arr _ _) hi (fun i hi => ⟨_, arr_at _ _ i hi, h1 i hi⟩) (hK _ (h.setRow k hk (arr n g) (size_arr _ _) g (fun i hi => arr_at _ _ i hi)))
/-- An operation's value, said by the caller. -/
theorem wpList_as {ops : Array Oper} {rest : List Oper} {o : Oper} {a : Act} {w : World} {Q : Exit → Act → World → Prop} (hgd : o.guard = none) (d : Tmp) (_hd : o.dst = some d) (v : Value) (h : (execOp a.eval o).run P w = .ok (.value v) w) (hK : wpList P ops Q rest (a.put o.dst v) w) : wpList P ops Q (o :: rest) a w :=
  wpList_plain hgd fun _ hK' => by
    unfold Oper.wp
    rw [h]
    exact hK' _ _ hK
/-- Some rows are forgotten. -/
theorem HS.sub {w0 w : World} {rows rows' : List RowSpec} (h : HS w0 w rows) (hs : rows'.Sublist rows) (hr : ∀ r ∈ rows, w0.heap.size ≤ r.b) : HS w0 w rows' :=
  ⟨h.os, h.tape, h.output, h.size, fun k hk _ => h.block k hk (fun r hr' e => by
    have h1 := hr r hr'
    omega), fun r hr' => h.has r (hs.subset hr'), h.apart.sublist hs⟩
end
end Go.Proofs.YtjphchcjneofhaaDoor
