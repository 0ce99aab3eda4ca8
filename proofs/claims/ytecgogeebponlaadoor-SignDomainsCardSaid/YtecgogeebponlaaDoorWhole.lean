/- Whole rows out of and into the memory, by value. -/
import Derived.Test.YtecgogeebponlaaDoorReg
import Derived.Laws.Rows
import Derived.Laws.Tables
namespace Go.Proofs.YtecgogeebponlaaDoor
set_option maxRecDepth 40000
open Go.RowKit

/-- What a row is when a whole array is laid into it. -/
theorem World.rowIs_setRow {w : World} {b : Nat} {t : TypeId} {n : Nat} {f : Nat → Value} (h : w.rowIs b t n f) (cs : Array Value) (hn : cs.size = n) (g : Nat → Value) (hg : ∀ i, i < n → cs[i]? = some (g i)) : (w.setRow b cs).rowIs b t n g := by
  obtain ⟨c, hc, hs, hf⟩ := h
  refine ⟨cs, ?_, hn, hg⟩
  unfold World.setRow
  simp [Array.getElem?_modify, hc]
theorem below_setRow {w : World} {b B : Nat} (cs : Array Value) (h : B ≤ b) : Below B w (w.setRow b cs) :=
  ⟨rfl, rfl, rfl, by unfold World.setRow; simp, fun k hk => by
    unfold World.setRow
    have : ¬ b = k := by omega
    simp [Array.getElem?_modify, this]⟩
variable {P : Program}
theorem run_store_row {w : World} {b : Nat} {t : TypeId} {n : Nat} {f : Nat → Value} (h : w.rowIs b t n f) (cs : Array Value) (hn : cs.size = n) (hi : (P.info? t).map (·.size) = some n) (h1 : cs.all (·.oneCell') = true) :
    (Instr.storeAt t (.pointer (some ⟨b, 0, none⟩)) (.agg cs)).run P w = .ok () (w.setRow b cs) := by
  obtain ⟨c, hc, hs, hf⟩ := h
  simp only [Instr.storeAt, Instr.sureAddr, Sem.run_bind, Sem.run_pure, Result.andThen]
  exact run_storeVar_row w b t t c cs hc (by rw [hi, hn]) (by omega) h1
theorem run_load_row {w : World} {b : Nat} {t : TypeId} {n : Nat} {f : Nat → Value} (h : w.rowIs b t n f) {d : TypeDesc} (hu : P.underlying t = some d) (hd : (match d with | .struct _ | .array _ _ => true | _ => false) = true) (hi : (P.info? t).map (·.size) = some n)
    (cs : Array Value) (hn : cs.size = n) (hf : ∀ i, i < n → cs[i]? = some (f i)) :
    (Instr.loadAt t (.pointer (some ⟨b, 0, none⟩))).run P w = .ok (.agg cs) w := by
  obtain ⟨c, hc, hs, hf'⟩ := h
  have e : c = cs := by
    apply Array.ext_getElem?
    intro i
    by_cases hi : i < n
    · rw [hf' i hi, hf i hi]
    · rw [Array.getElem?_eq_none (by omega), Array.getElem?_eq_none (by omega)]
  subst e
  simp only [Instr.loadAt, Instr.sureAddr, Sem.run_bind, Sem.run_pure, Result.andThen]
  exact run_loadVar_row w b t t c (0, 0) d hc hu hd (by rw [hi, hs])
theorem run_loadVar_rowIs {w : World} {b : Nat} {t : TypeId} {n : Nat} {f : Nat → Value} (h : w.rowIs b t n f) {d : TypeDesc} (hu : P.underlying t = some d) (hd : (match d with | .struct _ | .array _ _ => true | _ => false) = true) (hi : (P.info? t).map (·.size) = some n)
    (cs : Array Value) (hn : cs.size = n) (hf : ∀ i, i < n → cs[i]? = some (f i)) :
    (loadVar t ⟨b, 0, none⟩).run P w = .ok (.agg cs) w := by
  have := run_load_row (P := P) h hu hd hi cs hn hf
  simpa only [Instr.loadAt, Instr.sureAddr, Sem.run_bind, Sem.run_pure, Result.andThen] using this
theorem get_getD (cs : Array Value) (i : Nat) (h : i < cs.size) : cs[i]? = some (cs.getD i undef) := by simp [h]
theorem World.rowIs_setRow' {w : World} {b : Nat} {t : TypeId} {n : Nat} {f : Nat → Value} (h : w.rowIs b t n f) (cs : Array Value) (hn : cs.size = n) : (w.setRow b cs).rowIs b t n (fun i => cs.getD i undef) :=
  World.rowIs_setRow h cs hn _ fun i hi => get_getD cs i (by omega)
theorem run_load_setRow {w : World} {b : Nat} {t : TypeId} {n : Nat} {f : Nat → Value} (h : w.rowIs b t n f) {d : TypeDesc} (hu : P.underlying t = some d) (hd : (match d with | .struct _ | .array _ _ => true | _ => false) = true) (hi : (P.info? t).map (·.size) = some n)
    (cs : Array Value) (hn : cs.size = n) : (Instr.loadAt t (.pointer (some ⟨b, 0, none⟩))).run P (w.setRow b cs) = .ok (.agg cs) (w.setRow b cs) :=
  run_load_row (World.rowIs_setRow' h cs hn) hu hd hi cs hn fun i hi => get_getD cs i (by omega)
theorem run_loadVar_setRow {w : World} {b : Nat} {t : TypeId} {n : Nat} {f : Nat → Value} (h : w.rowIs b t n f) {d : TypeDesc} (hu : P.underlying t = some d) (hd : (match d with | .struct _ | .array _ _ => true | _ => false) = true) (hi : (P.info? t).map (·.size) = some n)
    (cs : Array Value) (hn : cs.size = n) : (loadVar t ⟨b, 0, none⟩).run P (w.setRow b cs) = .ok (.agg cs) (w.setRow b cs) :=
  run_loadVar_rowIs (World.rowIs_setRow' h cs hn) hu hd hi cs hn fun i hi => get_getD cs i (by omega)
theorem heap_setRow {w : World} {g : Nat} {t : TypeId} {old : Array Value} (h : w.heap[g]? = some (.cells old t (0, 0))) (cs : Array Value) : (w.setRow g cs).heap[g]? = some (.cells cs t (0, 0)) := by
  unfold World.setRow
  simp [Array.getElem?_modify, h]
theorem size_setRow (w : World) (g : Nat) (cs : Array Value) : (w.setRow g cs).heap.size = w.heap.size := by unfold World.setRow; simp
/-- A result that lies in memory. -/
theorem ret_row {fn : Func} {R : Ending → World → Prop} {a : Act} {w : World} {p : Tmp} {ty : TypeId} (h : fn.results = #[.cell p ty]) (g : Nat) (t : TypeId) (cs : Array Value) (fr : Nat × Nat) (d : TypeDesc)
    (hp : a.tmps.getD p undef = .pointer (some ⟨g, 0, none⟩)) (hg : w.heap[g]? = some (.cells cs t fr))
    (hu : P.underlying ty = some d) (hd : (match d with | .struct _ | .array _ _ => true | _ => false) = true) (hi : (P.info? ty).map (·.size) = some cs.size) (hdf : a.defers = [])
    (hR : R (.returned (.agg cs)) w) : bodyPost P fn R .ret a w :=
  bodyPost_ret (results_cell_row h a.tmps w g t cs fr d hp hg hu hd hi) hdf hR
end Go.Proofs.YtecgogeebponlaaDoor
