/- A part of what the proofs stand on: Whole, Heap, Seq, ShaDig. -/
import Derived.Test.YtlcpflaofggmeaaDoorGTre3
import Derived.Laws.Rows
import Derived.Laws.Tables
import Derived.Test.YtlcpflaofggmeaaDoorGTre4
/- Whole rows out of and into the memory, by value. -/
namespace Go.Proofs.YtlcpflaofggmeaaDoor
set_option maxRecDepth 40000
open Go.RowKit

/-- What a row is when a whole array is laid into it. -/
theorem World.rowIs_setRow {w : World} {b : Nat} {t : TypeId} {n : Nat} {f : Nat → Value} (h : w.rowIs b t n f) (cs : Array Value) (hn : cs.size = n) (g : Nat → Value) (hg : ∀ i, i < n → cs[i]? = some (g i)) : (w.setRow b cs).rowIs b t n g := by
  obtain ⟨c, hc, hs, hf⟩ := h
  refine ⟨cs, ?_, hn, hg⟩
  unfold World.setRow
  simp [Array.getElem?_modify, hc]
theorem below_setRow {w : World} {b B : Nat} (cs : Array Value) (h : B ≤ b) : Below B w (w.setRow b cs) :=
  ⟨rfl, rfl, rfl, by unfold World.setRow; simp, fun k hk => by
    unfold World.setRow
    have : ¬ b = k := by omega
    simp [Array.getElem?_modify, this]⟩
variable {P : Program}
theorem run_store_row {w : World} {b : Nat} {t : TypeId} {n : Nat} {f : Nat → Value} (h : w.rowIs b t n f) (cs : Array Value) (hn : cs.size = n) (hi : (P.info? t).map (·.size) = some n) (h1 : cs.all (·.oneCell') = true) :
    (Instr.storeAt t (.pointer (some ⟨b, 0, none⟩)) (.agg cs)).run P w = .ok () (w.setRow b cs) := by
  obtain ⟨c, hc, hs, hf⟩ := h
  simp only [Instr.storeAt, Instr.sureAddr, Sem.run_bind, Sem.run_pure, Result.andThen]
  exact run_storeVar_row w b t t c cs hc (by rw [hi, hn]) (by omega) h1
theorem run_load_row {w : World} {b : Nat} {t : TypeId} {n : Nat} {f : Nat → Value} (h : w.rowIs b t n f) {d : TypeDesc} (hu : P.underlying t = some d) (hd : (match d with | .struct _ | .array _ _ => true | _ => false) = true) (hi : (P.info? t).map (·.size) = some n)
    (cs : Array Value) (hn : cs.size = n) (hf : ∀ i, i < n → cs[i]? = some (f i)) :
    (Instr.loadAt t (.pointer (some ⟨b, 0, none⟩))).run P w = .ok (.agg cs) w := by
  obtain ⟨c, hc, hs, hf'⟩ := h
  have e : c = cs := by
    apply Array.ext_getElem?
    intro i
    by_cases hi : i < n
    · rw [hf' i hi, hf i hi]
    · rw [Array.getElem?_eq_none (by omega), Array.getElem?_eq_none (by omega)]
  subst e
  simp only [Instr.loadAt, Instr.sureAddr, Sem.run_bind, Sem.run_pure, Result.andThen]
  exact run_loadVar_row w b t t c (0, 0) d hc hu hd (by rw [hi, hs])
theorem run_loadVar_rowIs {w : World} {b : Nat} {t : TypeId} {n : Nat} {f : Nat → Value} (h : w.rowIs b t n f) {d : TypeDesc} (hu : P.underlying t = some d) (hd : (match d with | .struct _ | .array _ _ => true | _ => false) = true) (hi : (P.info? t).map (·.size) = some n)
    (cs : Array Value) (hn : cs.size = n) (hf : ∀ i, i < n → cs[i]? = some (f i)) :
    (loadVar t ⟨b, 0, none⟩).run P w = .ok (.agg cs) w := by
  have := run_load_row (P := P) h hu hd hi cs hn hf
  simpa only [Instr.loadAt, Instr.sureAddr, Sem.run_bind, Sem.run_pure, Result.andThen] using this
theorem get_getD (cs : Array Value) (i : Nat) (h : i < cs.size) : cs[i]? = some (cs.getD i undef) := by simp [h]
theorem World.rowIs_setRow' {w : World} {b : Nat} {t : TypeId} {n : Nat} {f : Nat → Value} (h : w.rowIs b t n f) (cs : Array Value) (hn : cs.size = n) : (w.setRow b cs).rowIs b t n (fun i => cs.getD i undef) :=
  World.rowIs_setRow h cs hn _ fun i hi => get_getD cs i (by omega)
theorem run_load_setRow {w : World} {b : Nat} {t : TypeId} {n : Nat} {f : Nat → Value} (h : w.rowIs b t n f) {d : TypeDesc} (hu : P.underlying t = some d) (hd : (match d with | .struct _ | .array _ _ => true | _ => false) = true) (hi : (P.info? t).map (·.size) = some n)
    (cs : Array Value) (hn : cs.size = n) : (Instr.loadAt t (.pointer (some ⟨b, 0, none⟩))).run P (w.setRow b cs) = .ok (.agg cs) (w.setRow b cs) :=
  run_load_row (World.rowIs_setRow' h cs hn) hu hd hi cs hn fun i hi => get_getD cs i (by omega)
theorem run_loadVar_setRow {w : World} {b : Nat} {t : TypeId} {n : Nat} {f : Nat → Value} (h : w.rowIs b t n f) {d : TypeDesc} (hu : P.underlying t = some d) (hd : (match d with | .struct _ | .array _ _ => true | _ => false) = true) (hi : (P.info? t).map (·.size) = some n)
    (cs : Array Value) (hn : cs.size = n) : (loadVar t ⟨b, 0, none⟩).run P (w.setRow b cs) = .ok (.agg cs) (w.setRow b cs) :=
  run_loadVar_rowIs (World.rowIs_setRow' h cs hn) hu hd hi cs hn fun i hi => get_getD cs i (by omega)
theorem heap_setRow {w : World} {g : Nat} {t : TypeId} {old : Array Value} (h : w.heap[g]? = some (.cells old t (0, 0))) (cs : Array Value) : (w.setRow g cs).heap[g]? = some (.cells cs t (0, 0)) := by
  unfold World.setRow
  simp [Array.getElem?_modify, h]
theorem size_setRow (w : World) (g : Nat) (cs : Array Value) : (w.setRow g cs).heap.size = w.heap.size := by unfold World.setRow; simp
/-- A result that lies in memory. -/
theorem ret_row {fn : Func} {R : Ending → World → Prop} {a : Act} {w : World} {p : Tmp} {ty : TypeId} (h : fn.results = #[.cell p ty]) (g : Nat) (t : TypeId) (cs : Array Value) (fr : Nat × Nat) (d : TypeDesc)
    (hp : a.tmps.getD p undef = .pointer (some ⟨g, 0, none⟩)) (hg : w.heap[g]? = some (.cells cs t fr))
    (hu : P.underlying ty = some d) (hd : (match d with | .struct _ | .array _ _ => true | _ => false) = true) (hi : (P.info? ty).map (·.size) = some cs.size) (hdf : a.defers = [])
    (hR : R (.returned (.agg cs)) w) : bodyPost P fn R .ret a w :=
  bodyPost_ret (results_cell_row h a.tmps w g t cs fr d hp hg hu hd hi) hdf hR
end Go.Proofs.YtlcpflaofggmeaaDoor
/- What a call knows of the memory: a list of rows, each a function of its index; what lay there before the call and is not among the rows that it may change is as it was. -/
namespace Go.Proofs.YtlcpflaofggmeaaDoor
set_option maxRecDepth 40000
open Go.RowKit

structure RowSpec where
  b : Nat
  t : TypeId
  n : Nat
  f : Nat → Value

/-- Row r lies in w. -/
def RowSpec.at_ (r : RowSpec) (w : World) : Prop := w.rowIs r.b r.t r.n r.f

/-- Only the rows of the list, and blocks that w0 has not, may differ from w0's; what the list says holds; no two rows are one block. -/
structure HS (w0 w : World) (rows : List RowSpec) : Prop where
  os : w.os = w0.os
  tape : w.tape = w0.tape
  output : w.output = w0.output
  size : w0.heap.size ≤ w.heap.size
  block : ∀ k, k < w0.heap.size → (∀ r ∈ rows, r.b ≠ k) → w.heap[k]? = w0.heap[k]?
  has : ∀ r ∈ rows, r.at_ w
  apart : rows.Pairwise fun r s => r.b ≠ s.b

section
variable {w0 w w' : World} {rows : List RowSpec}
theorem HS.nil (w : World) : HS w w [] := ⟨rfl, rfl, rfl, Nat.le_refl _, fun _ _ _ => rfl, fun _ h => (by cases h), List.Pairwise.nil⟩
theorem HS.own {b : Nat} {t : TypeId} {n : Nat} {f : Nat → Value} (h : w.rowIs b t n f) : HS w w [⟨b, t, n, f⟩] :=
  ⟨rfl, rfl, rfl, Nat.le_refl _, fun _ _ _ => rfl, fun r hr => by obtain rfl := List.mem_singleton.1 hr; exact h, List.pairwise_singleton _ _⟩
theorem HS.row (h : HS w0 w rows) (k : Nat) {r : RowSpec} (hk : rows[k]? = some r) : w.rowIs r.b r.t r.n r.f := h.has r (List.mem_of_getElem? hk)
theorem HS.cell (h : HS w0 w rows) (k i : Nat) {b : Nat} {t : TypeId} {n : Nat} {f : Nat → Value} (hk : rows[k]? = some ⟨b, t, n, f⟩) (hi : i < n) : w.cell? ⟨b, i, none⟩ = some (f i) := (h.row k hk).cell hi
theorem HS.frozen (h : HS w0 w rows) (k i : Nat) {b : Nat} {t : TypeId} {n : Nat} {f : Nat → Value} (hk : rows[k]? = some ⟨b, t, n, f⟩) : w.frozen? ⟨b, i, none⟩ = false := (h.row k hk).frozen i
theorem HS.lt (h : HS w0 w rows) (k : Nat) {b : Nat} {t : TypeId} {n : Nat} {f : Nat → Value} (hk : rows[k]? = some ⟨b, t, n, f⟩) : b < w.heap.size := (h.row k hk).lt
theorem HS.drew (h : HS w0 w rows) : HS w0 w.drew rows := ⟨h.os, h.tape, h.output, h.size, h.block, h.has, h.apart⟩
theorem HS.drewN (h : HS w0 w rows) (n : Nat) : HS w0 (w.drewN n) rows := ⟨h.os, h.tape, h.output, h.size, h.block, h.has, h.apart⟩
/-- Only new memory was made. -/
theorem HS.below (h : HS w0 w rows) (hb : Below w.heap.size w w') : HS w0 w' rows :=
  ⟨hb.os.trans h.os, hb.tape.trans h.tape, hb.output.trans h.output, Nat.le_trans h.size hb.size, fun k hk hr => (hb.block k (Nat.lt_of_lt_of_le hk h.size)).trans (h.block k hk hr),
    fun r hr => row_below (h.has r hr) hb (h.has r hr).lt, h.apart⟩
theorem HS.alloc (h : HS w0 w rows) (cs : Array Value) (t : TypeId) (n : Nat) (f : Nat → Value) (hn : cs.size = n) (hc : ∀ i, i < n → cs[i]? = some (f i)) : HS w0 (w.alloc (.cells cs t)) (⟨w.heap.size, t, n, f⟩ :: rows) := by
  subst hn
  have h1 := h.below (w' := w.alloc (.cells cs t)) ((Below.refl _ _).alloc (Nat.le_refl _) _)
  refine ⟨h1.os, h1.tape, h1.output, h1.size, fun k hk hr => h1.block k hk (fun r hr' => hr r (List.mem_cons_of_mem _ hr')), ?_, ?_⟩
  · intro r hr
    rcases List.mem_cons.1 hr with rfl | hr
    · exact World.rowIs_alloc w cs t f hc
    · exact h1.has r hr
  · exact List.Pairwise.cons (fun s hs => by have := (h.has s hs).lt; show w.heap.size ≠ s.b; omega) h.apart
theorem HS.allocB (h : HS w0 w rows) (b : Nat) (cs : Array Value) (t : TypeId) (n : Nat) (f : Nat → Value) (hn : cs.size = n) (hc : ∀ i, i < n → cs[i]? = some (f i)) (hb : w.heap.size = b) : HS w0 (w.alloc (.cells cs t)) (⟨b, t, n, f⟩ :: rows) := by
  subst hb; exact h.alloc cs t n f hn hc
theorem mem_set_or {α : Type} {l : List α} {k : Nat} {x y : α} (h : y ∈ l.set k x) : y = x ∨ ∃ j, j ≠ k ∧ l[j]? = some y := by
  obtain ⟨j, hj⟩ := List.getElem?_of_mem h
  by_cases e : k = j
  · subst e
    rw [List.getElem?_set] at hj
    simp at hj
    obtain ⟨_, rfl⟩ := hj
    exact .inl rfl
  · rw [List.getElem?_set_ne (by omega)] at hj
    exact .inr ⟨j, by omega, hj⟩
theorem pair_set (l : List RowSpec) (hp : l.Pairwise fun r s => r.b ≠ s.b) : ∀ (k : Nat) (x y : RowSpec), l[k]? = some y → x.b = y.b → (l.set k x).Pairwise fun r s => r.b ≠ s.b := by
  induction l with
  | nil => intro k x y hk; simp at hk
  | cons a l ih =>
    intro k x y hk hb
    rw [List.pairwise_cons] at hp
    cases k with
    | zero =>
      simp at hk; subst hk
      simp only [List.set_cons_zero, List.pairwise_cons]
      exact ⟨fun s hs => by rw [hb]; exact hp.1 s hs, hp.2⟩
    | succ k =>
      simp at hk
      simp only [List.set_cons_succ, List.pairwise_cons]
      refine ⟨fun s hs => ?_, ih hp.2 k x y hk hb⟩
      rcases mem_set_or hs with rfl | ⟨j, _, hj⟩
      · rw [hb]; exact hp.1 y (List.mem_of_getElem? hk)
      · exact hp.1 s (List.mem_of_getElem? hj)
theorem HS.apart' (h : HS w0 w rows) {i j : Nat} {r s : RowSpec} (hi : rows[i]? = some r) (hj : rows[j]? = some s) (hij : i ≠ j) : r.b ≠ s.b := by
  have hp := h.apart
  rw [List.pairwise_iff_getElem] at hp
  obtain ⟨hi', ei⟩ := List.getElem?_eq_some_iff.1 hi
  obtain ⟨hj', ej⟩ := List.getElem?_eq_some_iff.1 hj
  rcases Nat.lt_or_ge i j with hl | hl
  · have := hp i j hi' hj' hl; rwa [ei, ej] at this
  · have := hp j i hj' hi' (by omega); rw [ei, ej] at this; exact fun e => this e.symm
/-- Row k was written, and new memory was made. -/
theorem HS.write (h : HS w0 w rows) (k : Nat) {b : Nat} {t : TypeId} {n : Nat} {f g : Nat → Value} (hk : rows[k]? = some ⟨b, t, n, f⟩) (hg : w.grownBy w' (some b)) (hr : w'.rowIs b t n g) : HS w0 w' (rows.set k ⟨b, t, n, g⟩) := by
  refine ⟨hg.os.trans h.os, hg.tape.trans h.tape, hg.output.trans h.output, Nat.le_trans h.size hg.size, ?_, ?_, pair_set rows h.apart k _ _ hk rfl⟩
  · intro i hi hne
    have hib : i ≠ b := by
      rintro rfl
      obtain ⟨hk', _⟩ := List.getElem?_eq_some_iff.1 hk
      exact hne ⟨i, t, n, g⟩ (List.mem_of_getElem? (i := k) (by rw [List.getElem?_set]; simp [hk'])) rfl
    rw [hg.block i (Nat.lt_of_lt_of_le hi h.size) (fun e => hib (by injection e))]
    refine h.block i hi (fun r hr' => ?_)
    rintro rfl
    obtain ⟨j, hj⟩ := List.getElem?_of_mem hr'
    by_cases e : k = j
    · subst e
      rw [hk] at hj; injection hj with hj; subst hj
      exact hib rfl
    · exact hne r (List.mem_of_getElem? (i := j) (by rw [List.getElem?_set_ne e]; exact hj)) rfl
  · intro r hr'
    rcases mem_set_or hr' with rfl | ⟨j, hjk, hj⟩
    · exact hr
    · have h1 := h.row j hj
      exact h1.of_block (hg.block _ h1.lt (fun e => by injection e with e; exact h.apart' hj hk hjk e))
theorem HS.set (h : HS w0 w rows) (k i : Nat) {b : Nat} {t : TypeId} {n : Nat} {f : Nat → Value} (hk : rows[k]? = some ⟨b, t, n, f⟩) (v : Value) : HS w0 (w.setCell ⟨b, i, none⟩ v) (rows.set k ⟨b, t, n, fun j => if j = i then v else f j⟩) :=
  h.write k hk (grown_setCell (World.grownBy.refl _ _) (.inl rfl) _) ((h.row k hk).set i v)
theorem HS.setRow (h : HS w0 w rows) (k : Nat) {b : Nat} {t : TypeId} {n : Nat} {f : Nat → Value} (hk : rows[k]? = some ⟨b, t, n, f⟩) (cs : Array Value) (hn : cs.size = n) (g : Nat → Value) (hg : ∀ i, i < n → cs[i]? = some (g i)) : HS w0 (w.setRow b cs) (rows.set k ⟨b, t, n, g⟩) :=
  h.write k hk ⟨rfl, rfl, rfl, by rw [size_setRow]; exact Nat.le_refl _, fun i _ hne => by
    unfold World.setRow
    have : ¬ b = i := fun e => hne (by rw [e])
    simp [Array.getElem?_modify, this]⟩ (World.rowIs_setRow (h.row k hk) cs hn g hg)
/-- What row k reads as, said otherwise. -/
theorem HS.congr (h : HS w0 w rows) (k : Nat) {b : Nat} {t : TypeId} {n : Nat} {f g : Nat → Value} (hk : rows[k]? = some ⟨b, t, n, f⟩) (e : ∀ i, i < n → f i = g i) : HS w0 w (rows.set k ⟨b, t, n, g⟩) := by
  have := h.write (w' := w) k hk (World.grownBy.refl _ _) ((h.row k hk).congr e)
  exact this
/-- A row that is the call's own is forgotten. -/
theorem HS.drop {r : RowSpec} (h : HS w0 w (r :: rows)) (hr : w0.heap.size ≤ r.b) : HS w0 w rows :=
  ⟨h.os, h.tape, h.output, h.size, fun k hk hne => h.block k hk (fun s hs => by
    rcases List.mem_cons.1 hs with rfl | hs
    · omega
    · exact hne s hs), fun s hs => h.has s (List.mem_cons_of_mem _ hs), (List.pairwise_cons.1 h.apart).2⟩
/-- A row that a callee made. -/
theorem HS.add (h : HS w0 w rows) {b : Nat} {t : TypeId} {n : Nat} {f : Nat → Value} (hr : w.rowIs b t n f) (_hb : w0.heap.size ≤ b) (hne : ∀ r ∈ rows, r.b ≠ b) : HS w0 w (⟨b, t, n, f⟩ :: rows) :=
  ⟨h.os, h.tape, h.output, h.size, fun k hk hr' => h.block k hk (fun s hs => hr' s (List.mem_cons_of_mem _ hs)), fun r hr' => by
    rcases List.mem_cons.1 hr' with rfl | hr'
    · exact hr
    · exact h.has r hr', List.Pairwise.cons (fun s hs => fun e => hne s hs e.symm) h.apart⟩
/-- One more row is watched. -/
theorem HS.take (h : HS w0 w rows) {b : Nat} {t : TypeId} {n : Nat} {f : Nat → Value} (hr : w.rowIs b t n f) (hne : ∀ r ∈ rows, r.b ≠ b) : HS w0 w (⟨b, t, n, f⟩ :: rows) :=
  ⟨h.os, h.tape, h.output, h.size, fun k hk hr' => h.block k hk (fun s hs => hr' s (List.mem_cons_of_mem _ hs)), fun r hr' => by
    rcases List.mem_cons.1 hr' with rfl | hr'
    · exact hr
    · exact h.has r hr', List.Pairwise.cons (fun s hs => fun e => hne s hs e.symm) h.apart⟩
/-- A row of the call's own that is not watched was written. -/
theorem HS.other (h : HS w0 w rows) {g : Nat} (hg : w.grownBy w' (some g)) (hb : w0.heap.size ≤ g) (hne : ∀ r ∈ rows, r.b ≠ g) : HS w0 w' rows :=
  ⟨hg.os.trans h.os, hg.tape.trans h.tape, hg.output.trans h.output, Nat.le_trans h.size hg.size, fun k hk hr => (hg.block k (Nat.lt_of_lt_of_le hk h.size) (fun e => by injection e; omega)).trans (h.block k hk hr),
    fun r hr => (h.has r hr).of_block (hg.block _ (h.has r hr).lt (fun e => by injection e with e; exact hne r hr e)), h.apart⟩
theorem HS.bel (h : HS w0 w []) : Below w0.heap.size w0 w := ⟨h.os, h.tape, h.output, h.size, fun k hk => h.block k hk (fun _ hr => by cases hr)⟩
/-- All rows are the call's own. -/
theorem HS.out (h : HS w0 w rows) (hr : ∀ r ∈ rows, w0.heap.size ≤ r.b) : Below w0.heap.size w0 w := ⟨h.os, h.tape, h.output, h.size, fun k hk => h.block k hk (fun r hr' => by have := hr r hr'; omega)⟩
theorem HS.grown (h : HS w0 w rows) (b : Nat) (hr : ∀ r ∈ rows, w0.heap.size ≤ r.b ∨ r.b = b) : w0.grownBy w (some b) :=
  ⟨h.os, h.tape, h.output, h.size, fun k hk hne => h.block k hk (fun r hr' e => by
    rcases hr r hr' with h1 | h1
    · omega
    · exact hne (by rw [← e, h1]))⟩
theorem HS.heap (h : HS w0 w rows) (k : Nat) {b : Nat} {t : TypeId} {n : Nat} {f : Nat → Value} (hk : rows[k]? = some ⟨b, t, n, f⟩) : ∃ c, w.heap[b]? = some (.cells c t (0, 0)) ∧ c.size = n ∧ ∀ i, i < n → c[i]? = some (f i) := h.row k hk
/-- What lay there before. -/
theorem HS.old (h : HS w0 w rows) {B : Nat} (hB : B ≤ w0.heap.size) (hr : ∀ r ∈ rows, B ≤ r.b) : Below B w0 w := ⟨h.os, h.tape, h.output, h.size, fun k hk => h.block k (by omega) (fun r hr' => by have := hr r hr'; omega)⟩
end

theorem alloc_sz (w : World) (o : Obj) : (w.alloc o).heap.size = w.heap.size + 1 := by unfold World.alloc; exact Array.size_push _
theorem rep_at (n : Nat) (v : Value) (i : Nat) (h : i < n) : (Array.replicate n v)[i]? = some v := by simp [h]
/-- The walk goes on in a world of which this is known. -/
theorem HS.go {P : Program} {w0 w : World} {rows : List RowSpec} {c : Code} {Q : Exit → Act → World → Prop} {a : Act} (h : HS w0 w rows) (k : ∀ w', HS w0 w' rows → c.wp P Q a w') : c.wp P Q a w := k w h
theorem HS.goC {P : Program} {w0 w : World} {rows : List RowSpec} {f : FuncId} {args : Array Value} {R : Ending → World → Prop} (h : HS w0 w rows) (k : ∀ w', HS w0 w' rows → Calls P f args w' R) : Calls P f args w R := k w h
theorem zero_at (n : Nat) (v : Value) : ∀ i, i < n → (Array.replicate n v)[i]? = some v := fun i h => by simp [h]
/-- n values. -/
def arr (n : Nat) (f : Nat → Value) : Array Value := ((List.range n).map f).toArray
theorem size_arr (n : Nat) (f : Nat → Value) : (arr n f).size = n := by simp [arr]
theorem arr_at (n : Nat) (f : Nat → Value) (i : Nat) (h : i < n) : (arr n f)[i]? = some (f i) := by simp [arr, h]
theorem arr_of (cs : Array Value) (n : Nat) (f : Nat → Value) (hn : cs.size = n) (h : ∀ i, i < n → cs[i]? = some (f i)) : cs = arr n f := by
  apply Array.ext_getElem?
  intro i
  by_cases hi : i < n
  · rw [h i hi, arr_at n f i hi]
  · rw [Array.getElem?_eq_none (by omega), Array.getElem?_eq_none (by rw [size_arr]; omega)]
theorem arr_congr {n : Nat} {f g : Nat → Value} (h : ∀ i, i < n → f i = g i) : arr n f = arr n g := by
  unfold arr; rw [List.map_congr_left (fun i hi => h i (List.mem_range.1 hi))]
theorem heap_arr {w : World} {b : Nat} {t : TypeId} {n : Nat} {f : Nat → Value} (h : w.rowIs b t n f) : w.heap[b]? = some (.cells (arr n f) t (0, 0)) := by
  obtain ⟨c, hc, hs, hf⟩ := h
  rw [← arr_of c n f hs hf]; exact hc
section
variable {P : Program}
/-- A part of the memory read as a whole. -/
theorem run_loadCells_fn (w : World) (g o n : Nat) (f : Nat → Value) (h : ∀ i, i < n → w.cell? ⟨g, o + i, none⟩ = some (f i)) : (loadCells ⟨g, o, none⟩ n).run P w = .ok (arr n f) w := by
  have := run_loadCells_list (P := P) w ⟨g, o, none⟩ ((List.range n).map f) (fun j v hj => by
    have hjl : j < n := by
      rcases Nat.lt_or_ge j n with h | h
      · exact h
      · simp [h] at hj
    have e : (⟨g, o, none⟩ : Addr).add j = ⟨g, o + j, none⟩ := by unfold Addr.add; split <;> simp_all
    rw [e, h j hjl]
    simp [hjl] at hj
    exact congrArg some hj)
  simpa [arr] using this
theorem run_loadVar_part (w : World) (g o n : Nat) (ty : TypeId) (d : TypeDesc) (f : Nat → Value) (h : ∀ i, i < n → w.cell? ⟨g, o + i, none⟩ = some (f i)) (hu : P.underlying ty = some d) (hd : (match d with | .struct _ | .array _ _ => true | _ => false) = true) (hi : (P.info? ty).map (·.size) = some n) :
    (loadVar ty ⟨g, o, none⟩).run P w = .ok (.agg (arr n f)) w := by
  cases hq : P.info? ty with
  | none => rw [hq] at hi; simp at hi
  | some i =>
    have hs : i.size = n := by rw [hq] at hi; simpa using hi
    have hagg : (isAgg ty).run P w = .ok true w := by
      unfold isAgg
      rw [Sem.run_bind, run_underlying hu w]
      cases d <;> simp_all
    simp [loadVar, Sem.run_bind, hagg, sizeOf, typeInfo, hq, hs, run_loadCells_fn w g o n f h]
theorem run_loadAt_part (w : World) (g o n : Nat) (ty : TypeId) (d : TypeDesc) (f : Nat → Value) (h : ∀ i, i < n → w.cell? ⟨g, o + i, none⟩ = some (f i)) (hu : P.underlying ty = some d) (hd : (match d with | .struct _ | .array _ _ => true | _ => false) = true) (hi : (P.info? ty).map (·.size) = some n) :
    (Instr.loadAt ty (.pointer (some ⟨g, o, none⟩))).run P w = .ok (.agg (arr n f)) w := by
  simp only [Instr.loadAt, Instr.sureAddr, Sem.run_bind, Sem.run_pure, Result.andThen]
  exact run_loadVar_part w g o n ty d f h hu hd hi
theorem run_storeAt_arr {w : World} {b : Nat} {t : TypeId} {n : Nat} {f : Nat → Value} (h : w.rowIs b t n f) (ty : TypeId) (cs : Array Value) (hn : cs.size = n) (hi : (P.info? ty).map (·.size) = some n) (h1 : ∀ i, i < n → ∃ v, cs[i]? = some v ∧ v.oneCell' = true) :
    (Instr.storeAt ty (.pointer (some ⟨b, 0, none⟩)) (.agg cs)).run P w = .ok () (w.setRow b cs) := by
  obtain ⟨c, hc, hs, hf⟩ := h
  simp only [Instr.storeAt, Instr.sureAddr, Sem.run_bind, Sem.run_pure, Result.andThen]
  refine run_storeVar_row w b t ty c cs hc (by rw [hi, hn]) (by omega) ?_
  rw [Array.all_eq_true_iff_forall_mem]
  intro x hx
  obtain ⟨i, hi, rfl⟩ := Array.mem_iff_getElem.1 hx
  obtain ⟨v, hv, h2⟩ := h1 i (by omega)
  rw [Array.getElem?_eq_getElem hi] at hv
  injection hv with hv; rw [hv]; exact h2
/-- A part of the memory read as a whole, as the caller spells it. -/
theorem wpList_load_part {ops : Array Oper} {rest : List Oper} {o : Oper} {a : Act} {w : World} {Q : Exit → Act → World → Prop} (hgd : o.guard = none) (ty : TypeId) (x : Operand) (ho : o.op = .load ty x)
    (g off n : Nat) (f : Nat → Value) (hx : a.eval x = .pointer (some ⟨g, off, none⟩)) (d : TypeDesc) (h : ∀ i, i < n → w.cell? ⟨g, off + i, none⟩ = some (f i))
    (hu : P.underlying ty = some d) (hd : (match d with | .struct _ | .array _ _ => true | _ => false) = true) (hi : (P.info? ty).map (·.size) = some n)
    (cs : Array Value) (hcs : arr n f = cs) (hK : wpList P ops Q rest (a.put o.dst (.agg cs)) w) : wpList P ops Q (o :: rest) a w :=
  wpList_plain hgd fun _ hK' => by
    unfold Oper.wp execOp
    simp only [ho, hx, Sem.run_bind, run_loadAt_part w g off n ty d f h hu hd hi, Result.andThen_ok, Sem.run_pure]
    rw [hcs]
    exact hK' _ _ hK
/-- A whole array is laid into a row. -/
theorem wpList_store_arr {ops : Array Oper} {rest : List Oper} {o : Oper} {a : Act} {w : World} {Q : Exit → Act → World → Prop} (hgd : o.guard = none) (ty : TypeId) (x y : Operand) (ho : o.op = .store ty x y)
    {b : Nat} {t : TypeId} {n : Nat} {f : Nat → Value} (hr : w.rowIs b t n f) (cs : Array Value) (hx : a.eval x = .pointer (some ⟨b, 0, none⟩)) (hy : a.eval y = .agg cs) (hn : cs.size = n) (hi : (P.info? ty).map (·.size) = some n)
    (h1 : ∀ i, i < n → ∃ v, cs[i]? = some v ∧ v.oneCell' = true)
    (hK : wpList P ops Q rest (a.put o.dst undef) (w.setRow b cs)) : wpList P ops Q (o :: rest) a w :=
  wpList_plain hgd fun _ hK' => by
    unfold Oper.wp execOp
    simp only [ho, hx, hy, Sem.run_bind, run_storeAt_arr hr ty cs hn hi h1, Result.andThen_ok, Sem.run_pure]
    exact hK' _ _ hK
/-- A composite literal, its cells as the caller spells them. -/
theorem wpList_build_as {ops : Array Oper} {rest : List Oper} {o : Oper} {a : Act} {w : World} {Q : Exit → Act → World → Prop} (hgd : o.guard = none) (t : TypeId) (parts : Array (Nat × Operand)) (ho : o.op = .build t parts)
    (vs : List (Nat × Value)) (hvs : parts.toList.map (fun p => (p.1, a.eval p.2)) = vs) (cs : Array Value) (hb : P.built t vs = some cs) (hK : wpList P ops Q rest (a.put o.dst (.agg cs)) w) : wpList P ops Q (o :: rest) a w :=
  wpList_plain hgd fun _ hK' => by
    have hvs' : (parts.map fun (i, x) => (i, a.eval x)).toList = vs := by rw [← hvs]; simp
    subst hvs'
    unfold Oper.wp execOp
    simp only [ho, Sem.run_bind, run_build w t _ cs hb, Result.andThen_ok]
    exact hK' _ _ hK
/-- A result that lies in a row. -/
theorem ret_rowIs {fn : Func} {R : Ending → World → Prop} {a : Act} {w : World} {p : Tmp} {ty : TypeId} (h : fn.results = #[.cell p ty]) {b : Nat} {t : TypeId} {n : Nat} {f : Nat → Value} (hr : w.rowIs b t n f) (d : TypeDesc)
    (hp : a.tmps.getD p undef = .pointer (some ⟨b, 0, none⟩))
    (hu : P.underlying ty = some d) (hd : (match d with | .struct _ | .array _ _ => true | _ => false) = true) (hi : (P.info? ty).map (·.size) = some n) (hdf : a.defers = [])
    (hR : R (.returned (.agg (arr n f))) w) : bodyPost P fn R .ret a w :=
  ret_row h b t _ (0, 0) d hp (heap_arr hr) hu hd (by rw [hi, size_arr]) hdf hR
/-- A type's zero cells. -/
def zeroOf (P : Program) (t : TypeId) : Array Value := match (P.info? t).bind (·.zero) with | some (.agg cs) => cs | _ => #[]
/-- A new variable, its zero cells as the caller spells them. -/
theorem wpList_alloc_as {ops : Array Oper} {rest : List Oper} {o : Oper} {a : Act} {w : World} {Q : Exit → Act → World → Prop} (hgd : o.guard = none) (t : TypeId) (ho : o.op = .alloc t) (cs : Array Value)
    (hz : (P.info? t).bind (·.zero) = some (.agg cs)) (hK : wpList P ops Q rest (a.put o.dst (.pointer (some ⟨w.heap.size, 0, none⟩))) (w.alloc (.cells cs t))) : wpList P ops Q (o :: rest) a w :=
  wpList_plain hgd fun _ hK' => by
    cases hq : P.info? t with
    | none => rw [hq] at hz; simp at hz
    | some i =>
      rw [hq] at hz
      simp at hz
      have hr : (Instr.alloc t true (.tuple #[])).run P w = .ok (.pointer (some ⟨w.heap.size, 0, none⟩)) (w.alloc (.cells cs t)) := by
        simp [Instr.alloc, zeroValue, typeInfo, hq, hz, newVar, Value.cells, go_sem]
      unfold Oper.wp execOp
      simp only [ho, Sem.run_bind, hr, Result.andThen_ok, Sem.run_pure]
      exact hK' _ _ hK
theorem wpList_alloc_at {ops : Array Oper} {rest : List Oper} {o : Oper} {a : Act} {w : World} {Q : Exit → Act → World → Prop} (hgd : o.guard = none) (t : TypeId) (ho : o.op = .alloc t) (cs : Array Value)
    (hz : (P.info? t).bind (·.zero) = some (.agg cs)) (b : Nat) (hb : w.heap.size = b) (hK : wpList P ops Q rest (a.put o.dst (.pointer (some ⟨b, 0, none⟩))) (w.alloc (.cells cs t))) : wpList P ops Q (o :: rest) a w := by
  subst hb; exact wpList_alloc_as hgd t ho cs hz hK
end
end Go.Proofs.YtlcpflaofggmeaaDoor
/- A region that draws its order and ends in operations that come one behind the other, behind all others: they are shown last, in their order. -/
namespace Go.Proofs.YtlcpflaofggmeaaDoor
set_option maxRecDepth 40000
open Go.RowKit

section
variable {P : Program}
theorem unlisted {listed : Array Bool} {k : Nat} (h : listed.getD k false = false) (hk : k < listed.size) : listed.getD k true = false := by
  simpa [Array.getD, hk] using h
/-- One behind the other. -/
def seqWp (P : Program) (Q : Exit → Act → World → Prop) : List Oper → Act → World → Prop
  | [], a, w => Q .normal a w
  | o :: os, a, w => o.wp P a w (seqWp P Q os) Q
def okTl (k j : Nat) : List Oper → Bool
  | [] => true
  | o :: os => o.guard.isNone && o.after.all (fun e => !Region.binds .any e || decide (e.on < k + j)) && (decide (j = 0) || o.after.any (fun e => Region.binds .any e && e.on == k + j - 1)) && okTl k (j + 1) os
theorem okTl_shift : ∀ (tl : List Oper) (k j : Nat), okTl k (j + 1) tl = true → okTl (k + 1) j tl = true
  | [], _, _, _ => rfl
  | o :: os, k, j, h => by
    simp only [okTl, Bool.and_eq_true] at h ⊢
    rw [show k + 1 + j = k + (j + 1) by omega]
    refine ⟨⟨h.1.1, ?_⟩, okTl_shift os k (j + 1) h.2⟩
    have h3 := h.1.2
    rw [Bool.or_eq_true] at h3 ⊢
    rcases h3 with h3 | h3
    · simp at h3
    · exact .inr h3
theorem okTl_at : ∀ (tl : List Oper) (k j : Nat), okTl k j tl = true → ∀ (i : Nat) o, tl[i]? = some o → o.guard = none ∧ (∀ e ∈ o.after, Region.binds .any e = true → e.on < k + j + i) ∧ (0 < j + i → ∃ e ∈ o.after, Region.binds .any e = true ∧ e.on = k + j + i - 1)
  | [], _, _, _, i, o, h => by simp at h
  | o :: os, k, j, h, i, o', hi => by
    simp only [okTl, Bool.and_eq_true] at h
    obtain ⟨⟨⟨h1, h2⟩, h3⟩, h4⟩ := h
    cases i with
    | zero =>
      simp at hi; subst hi
      refine ⟨by simpa using h1, fun e he hb => ?_, ?_⟩
      · rw [Array.all_eq_true_iff_forall_mem] at h2
        have := h2 e he
        simpa [hb] using this
      · intro hj0
        rw [Bool.or_eq_true] at h3
        have h3 := h3.resolve_left (by simp; omega)
        rw [Array.any_eq_true] at h3
        obtain ⟨x, hx, h7⟩ := h3
        simp only [Bool.and_eq_true, beq_iff_eq] at h7
        exact ⟨o.after[x], Array.getElem_mem hx, h7⟩
    | succ i =>
      simp at hi
      obtain ⟨g1, g2, g6⟩ := okTl_at os k (j + 1) h4 i o' hi
      obtain ⟨e, g3, g4, g5⟩ := g6 (by omega)
      exact ⟨g1, fun e he hb => by have := g2 e he hb; omega, fun _ => ⟨e, g3, g4, by omega⟩⟩
theorem tail_run {ops : Array Oper} {Q : Exit → Act → World → Prop} : ∀ (tl : List Oper) (k fuel : Nat) (listed : Array Bool) (a : Act) (w : World), ops.size = k + tl.length → (∀ (j : Nat) o, tl[j]? = some o → ops[k + j]? = some o) →
    listed.size = k + tl.length → (∀ i, i < k → listed.getD i false = true) → (∀ i, k ≤ i → listed.getD i false = false) → okTl k 0 tl = true → tl.length ≤ fuel → seqWp P Q tl a w → wpAny P .any ops Q fuel listed a w
  | [], k, fuel, listed, a, w, hsz, _, hls, hall, _, _, _, hq => by
    have hr0 : Region.ready .any ops listed = [] := by
      rw [List.eq_nil_iff_forall_not_mem]
      intro i hi
      obtain ⟨h1, o, h2, _⟩ := mem_ready.1 hi
      have h3 : i < ops.size := (Array.getElem?_eq_some_iff.1 h2).1
      simp only [List.length_nil, Nat.add_zero] at hsz hls
      have h4 := hall i (by omega)
      have h5 : i < listed.size := by omega
      simp [Array.getD, h5] at h1 h4
      rw [h1] at h4; cases h4
    cases fuel with
    | zero => exact ⟨hr0, hq⟩
    | succ f => exact ⟨fun _ => hq, fun i hi => by rw [hr0] at hi; cases hi⟩
  | o :: os, k, 0, _, _, _, _, _, _, _, _, _, hf, _ => by simp at hf
  | o :: os, k, fuel + 1, listed, a, w, hsz, hops, hls, hall, hno, hok, hf, hq => by
    have hok' := hok
    simp only [okTl, Bool.and_eq_true] at hok
    obtain ⟨⟨⟨h1, h2⟩, h3⟩, h4⟩ := hok
    have hk : ops[k]? = some o := hops 0 o rfl
    simp only [List.length_cons] at hsz hls hf
    refine ⟨fun hr => ?_, fun i hi => ?_⟩
    · exfalso
      have h5 : k < listed.size := by omega
      have : k ∈ Region.ready .any ops listed := mem_ready.2 ⟨by have := hno k (Nat.le_refl _); simpa [Array.getD, h5] using this, o, hk, fun e he hb => hall e.on (by
        rw [Array.all_eq_true_iff_forall_mem] at h2
        have := h2 e he
        simpa [hb] using this)⟩
      rw [hr] at this; cases this
    · obtain ⟨g1, o', g2, g3⟩ := mem_ready.1 hi
      have g4 : i < ops.size := (Array.getElem?_eq_some_iff.1 g2).1
      have hik : i = k := by
        rcases Nat.lt_trichotomy i k with h | h | h
        · have h5 := hall i h
          have h6 : i < listed.size := by omega
          simp [Array.getD, h6] at g1 h5
          rw [g1] at h5; cases h5
        · exact h
        · exfalso
          have hj : ∃ o2, (o :: os)[i - k]? = some o2 := ⟨(o :: os)[i - k]'(by simp; omega), by simp [show i - k < os.length + 1 by omega]⟩
          obtain ⟨o2, hj⟩ := hj
          have h7 := hops _ _ hj
          rw [show k + (i - k) = i by omega, g2] at h7
          injection h7 with h7; subst h7
          obtain ⟨_, _, hx⟩ := okTl_at _ k 0 hok' _ _ hj
          obtain ⟨e, he, hb, hon⟩ := hx (by omega)
          have h8 := g3 e he hb
          rw [hno e.on (by omega)] at h8; cases h8
      subst hik
      rw [hk] at g2; injection g2 with g2; subst g2
      unfold wpOp
      rw [hk]
      simp only []
      rw [if_pos (by
        have : o.guard = none := by simpa using h1
        simp [Region.wanted, this])]
      left
      refine Oper.wp_mono (fun a' w' hq' => ?_) hq
      have h5 : i < listed.size := by omega
      refine tail_run os (i + 1) fuel _ a' w' (by omega) (fun j o2 hj => by rw [show i + 1 + j = i + (j + 1) by omega]; exact hops (j + 1) o2 hj) (by simp; omega) (fun k hk => ?_) (fun k hk => ?_) (okTl_shift os i 0 h4) (by omega) hq'
      · by_cases e : k = i
        · subst e; simp [Array.getD, h5]
        · rw [getD_set_ne false (Ne.symm e)]; exact hall k (by omega)
      · rw [getD_set_ne false (show i ≠ k by omega)]; exact hno k (by omega)

/-- What holds while a region runs that ends in one operation behind all others. -/
structure RInvS (n : Nat) (l tl : List Oper) (Fs : List SF) (B : Nat) (w0 : World) (a0 : Act) (listed : Array Bool) (a : Act) (w : World) : Prop where
  bel : Below B w0 w
  tsz : a.tmps.size = n
  dfs : a.defers = a0.defers
  lsz : listed.size = l.length + 1 + tl.length
  fact : ∀ (j : Nat) o F, l[j]? = some o → Fs[j]? = some F → listed.getD j false = true → F.F (match o.dst with | some d => a.tmps.getD d undef | none => undef) w
  rest : ∀ d, (∀ (j : Nat) o, l[j]? = some o → listed.getD j false = true → o.dst ≠ some d) → a.tmps.getD d undef = a0.tmps.getD d undef
  down : ∀ (j : Nat) o, l[j]? = some o → listed.getD j false = true → ∀ e ∈ o.after, Region.binds .any e = true → listed.getD e.on false = true

/-- A region whose last operation comes behind all others. -/
def okS (n : Nat) (l : List Oper) (ol : Oper) (tl : List Oper) : Bool :=
  okR n l.toArray && ol.guard.isNone && ol.after.all (fun e => !Region.binds .any e || decide (e.on < l.length)) && (List.range l.length).all (fun i => (ol.after.any fun e => Region.binds .any e && e.on == i) || (List.range l.length).any (fun k => decide (i < k) && match l[k]? with | some ok => ok.after.any (fun e => Region.binds .any e && e.on == i) | none => false)) &&
    l.all (fun o => match o.guard with | some (j, _) => decide (j < l.length) | none => true) && (match ol.op with | .select .. => false | _ => true) && okTl l.length 1 tl
structure OkS (n : Nat) (l : List Oper) (ol : Oper) (tl : List Oper) : Prop where
  back : ∀ (i : Nat) oi, l[i]? = some oi → ∀ e ∈ oi.after, Region.binds .any e = true → e.on < i
  room : ∀ (i : Nat) oi d, l[i]? = some oi → oi.dst = some d → d < n
  has : ∀ (i : Nat) oi, l[i]? = some oi → oi.dst ≠ none
  two : ∀ (i j : Nat) oi oj, l[i]? = some oi → l[j]? = some oj → j < i → (∃ e ∈ oi.after, Region.binds .any e = true ∧ e.on = j) ∨ ((∀ d, oj.dst = some d → d ∉ oi.looksAt (l ++ ol :: tl).toArray) ∧ (∀ d, oi.dst = some d → d ∉ oj.looksAt (l ++ ol :: tl).toArray))
  dsts : ∀ (i j : Nat) oi oj d, l[i]? = some oi → l[j]? = some oj → oi.dst = some d → oj.dst = some d → i = j
  lastGuard : ol.guard = none
  lastBack : ∀ e ∈ ol.after, Region.binds .any e = true → e.on < l.length
  lastAll : ∀ j, j < l.length → (∃ e ∈ ol.after, Region.binds .any e = true ∧ e.on = j) ∨ ∃ k ok, j < k ∧ l[k]? = some ok ∧ ∃ e ∈ ok.after, Region.binds .any e = true ∧ e.on = j
  tail : okTl l.length 1 tl = true
theorem looksAt_tailS {l tl : List Oper} {ol o : Oper} (ho : o ∈ l) (hg : l.all (fun o => match o.guard with | some (j, _) => decide (j < l.length) | none => true) = true) : o.looksAt (l ++ ol :: tl).toArray = o.looksAt l.toArray := by
  unfold Oper.looksAt
  congr 1
  have h := List.all_eq_true.1 hg o ho
  cases hgd : o.guard with
  | none => rfl
  | some p =>
    obtain ⟨j, b⟩ := p
    simp only [hgd, decide_eq_true_eq] at h
    simp [List.getElem?_append_left h]
theorem okS_spec {n : Nat} {l tl : List Oper} {ol : Oper} (h : okS n l ol tl = true) : OkS n l ol tl := by
  unfold okS at h
  simp only [Bool.and_eq_true] at h
  obtain ⟨⟨⟨⟨⟨⟨h1, h2⟩, h3⟩, h4⟩, h5⟩, h6⟩, h7⟩ := h
  have htl := h7
  clear h7
  have hr := okR_spec h1
  have hm : ∀ (i : Nat) oi, l[i]? = some oi → l.toArray[i]? = some oi := fun i oi h => by simpa using h
  refine ⟨fun i oi h => hr.back i oi (hm i oi h), fun i oi d h => hr.room i oi d (hm i oi h), fun i oi h => hr.has i oi (hm i oi h), ?_, fun i j oi oj d h k => hr.dsts i j oi oj d (hm i oi h) (hm j oj k), by simpa using h2, ?_, ?_, htl⟩
  · intro i j oi oj hi hj hji
    rw [looksAt_tailS (List.mem_of_getElem? hi) h5, looksAt_tailS (List.mem_of_getElem? hj) h5]
    exact hr.two i j oi oj (hm i oi hi) (hm j oj hj) hji
  · intro e he hb
    rw [Array.all_eq_true_iff_forall_mem] at h3
    simpa [hb] using h3 e he
  · intro j hj
    rw [List.all_eq_true] at h4
    have := h4 j (List.mem_range.2 hj)
    rw [Bool.or_eq_true] at this
    rcases this with this | this
    · rw [Array.any_eq_true] at this
      obtain ⟨x, hx, h7⟩ := this
      simp only [Bool.and_eq_true, beq_iff_eq] at h7
      exact .inl ⟨ol.after[x], Array.getElem_mem hx, h7⟩
    · rw [List.any_eq_true] at this
      obtain ⟨k, _, h8⟩ := this
      simp only [Bool.and_eq_true, decide_eq_true_eq] at h8
      obtain ⟨hjk, h9⟩ := h8
      cases hk : l[k]? with
      | none => rw [hk] at h9; cases h9
      | some ok =>
        rw [hk] at h9
        simp only [] at h9
        rw [Array.any_eq_true] at h9
        obtain ⟨x, hx, h7⟩ := h9
        simp only [Bool.and_eq_true, beq_iff_eq] at h7
        exact .inr ⟨k, ok, hjk, hk, ok.after[x], Array.getElem_mem hx, h7⟩
theorem wpAny_factsS {l tl : List Oper} {ol : Oper} {Fs : List SF} {n B : Nat} {w0 : World} {a0 : Act} {Q : Exit → Act → World → Prop} (hok : OkS n l ol tl) (hlen : l.length = Fs.length) (hB : B ≤ w0.heap.size)
    (hob : ∀ (k : Nat) o F, l[k]? = some o → Fs[k]? = some F → ∃ lk, opOb P (l ++ ol :: tl).toArray B w0 o F lk ∧
      ∀ s, (∃ (j : Nat) (o' : Oper) (F' : SF), j < k ∧ l[j]? = some o' ∧ Fs[j]? = some F' ∧ o'.dst = some s ∧ lk s = F') ∨ ((∀ (j : Nat) (o' : Oper), j < k → l[j]? = some o' → o'.dst ≠ some s) ∧ lk s = SF.is (a0.tmps.getD s undef)))
    (hsz : a0.tmps.size = n) (hfin : ∀ w, Below B w0 w → fin (fun a w => ol.wp P a w (seqWp P Q tl) Q) l Fs a0 w) :
    ∀ (fuel : Nat) (listed : Array Bool) (a : Act) (w : World), (∃ u : List Nat, u.Nodup ∧ (∀ i, i ∈ u ↔ i < l.length ∧ listed.getD i false = false) ∧ u.length + tl.length < fuel) →
      RInvS n l tl Fs B w0 a0 listed a w → (∀ k, l.length ≤ k → listed.getD k false = false) → wpAny P .any (l ++ ol :: tl).toArray Q fuel listed a w := by
  have ho : ∀ (i : Nat), i < l.length → (l ++ ol :: tl).toArray[i]? = l[i]? := fun i hi => by simp [List.getElem?_append_left hi]
  have hol : (l ++ ol :: tl).toArray[l.length]? = some ol := by simp
  -- all listed: the end
  have hend : ∀ (listed : Array Bool) (a : Act) (w : World), RInvS n l tl Fs B w0 a0 listed a w → (∀ i, i < l.length → listed.getD i false = true) → ol.wp P a w (seqWp P Q tl) Q := by
    intro listed a w hI hall
    refine fin_use l Fs a0 hlen (hfin w hI.bel) (fun j o F h1 h2 => hI.fact j o F h1 h2 (hall j (List.getElem?_eq_some_iff.1 h1).1)) (hsz.trans hI.tsz.symm) hI.dfs.symm ?_ (fun j o d h1 h2 => by rw [hI.tsz]; exact hok.room j o d h1 h2)
    intro d hd
    exact (hI.rest d (fun j o h1 _ => hd j o h1)).symm
  have hone : ∀ (listed : Array Bool), listed.size = l.length + 1 + tl.length → (∀ i, i ∈ Region.ready .any (l ++ ol :: tl).toArray listed → l.length ≤ i) → ∀ i, i < l.length → listed.getD i false = true := by
    intro listed hls hr i
    induction i using Nat.strongRecOn with
    | ind i ih =>
      intro hi
      cases hc : listed.getD i false with
      | true => rfl
      | false =>
        exfalso
        have hil : i < listed.size := by omega
        have h1 : i ∈ Region.ready .any (l ++ ol :: tl).toArray listed := mem_ready.2 ⟨by simpa [Array.getD, hil] using hc, l[i], by rw [ho i hi]; simp [hi], fun e he hb => ih e.on (hok.back i l[i] (by simp [hi]) e he hb) (by have := hok.back i l[i] (by simp [hi]) e he hb; omega)⟩
        have := hr i h1; omega
  intro fuel
  induction fuel with
  | zero =>
    intro listed a w ⟨u, _, hu, hul⟩
    omega
  | succ fuel ih =>
    intro listed a w ⟨u, hnd, hu, hul⟩ hI hlast
    have hsz2 : listed.size = l.length + 1 + tl.length := hI.lsz
    refine ⟨fun hr => ?_, fun i hi => ?_⟩
    · exfalso
      have hall := hone listed hsz2 (fun i hi => by rw [hr] at hi; cases hi)
      have : l.length ∈ Region.ready .any (l ++ ol :: tl).toArray listed := mem_ready.2 ⟨unlisted (hlast l.length (Nat.le_refl _)) (by omega), ol, hol, fun e he hb => hall e.on (hok.lastBack e he hb)⟩
      rw [hr] at this; cases this
    obtain ⟨h1, o, h2, h3⟩ := mem_ready.1 hi
    by_cases hil : i < l.length
    case neg =>
      have hi2 : i < (l ++ ol :: tl).toArray.size := (Array.getElem?_eq_some_iff.1 h2).1
      have hil2 : i = l.length := by
        rcases Nat.lt_or_ge l.length i with hgt | hle
        · exfalso
          have hi3 : i < l.length + (1 + tl.length) := by simp at hi2; omega
          have ho2 : tl[i - l.length - 1]? = some o := by
            have h9 := h2
            simp only [List.getElem?_toArray] at h9
            rw [List.getElem?_append_right (by omega), show i - l.length = (i - l.length - 1) + 1 by omega, List.getElem?_cons_succ] at h9
            exact h9
          obtain ⟨_, _, hx⟩ := okTl_at tl l.length 1 hok.tail _ _ ho2
          obtain ⟨e, he, hb, hon⟩ := hx (by omega)
          have h9 := h3 e he hb
          rw [hlast e.on (by omega)] at h9; cases h9
        · omega
      subst hil2
      rw [hol] at h2; injection h2 with h2; subst h2
      have hall0 : ∀ d j, l.length - j = d → j < l.length → listed.getD j false = true := by
        intro d
        induction d using Nat.strongRecOn with
        | ind d ihd =>
          intro j hd hj
          rcases hok.lastAll j hj with ⟨e, he, hb, hon⟩ | ⟨k, ok, hjk, hk, e, he, hb, hon⟩
          · rw [← hon]; exact h3 e he hb
          · have hkl : k < l.length := (List.getElem?_eq_some_iff.1 hk).1
            rw [← hon]; exact hI.down k ok hk (ihd (l.length - k) (by omega) k rfl hkl) e he hb
      have hall : ∀ j, j < l.length → listed.getD j false = true := fun j hj => hall0 _ j rfl hj
      have hQ := hend listed a w hI hall
      unfold wpOp
      rw [hol]
      simp only []
      rw [if_pos (by simp [Region.wanted, hok.lastGuard])]
      left
      refine Oper.wp_mono (fun a' w' hq => ?_) hQ
      refine tail_run tl (l.length + 1) fuel (listed.setIfInBounds l.length true) a' w' (by simp; omega) (fun j o hj => ?_) (by simp [hsz2]) (fun k hk => ?_) (fun k hk => ?_) (okTl_shift tl l.length 0 hok.tail) (by omega) hq
      · simp only [List.getElem?_toArray]
        rw [List.getElem?_append_right (by omega), show l.length + 1 + j - l.length = j + 1 by omega, List.getElem?_cons_succ]
        exact hj
      · by_cases e : k = l.length
        · have h9 : l.length < listed.size := by omega
          subst e; simp [Array.getD, h9]
        · rw [getD_set_ne false (Ne.symm e)]; exact hall k (by omega)
      · rw [getD_set_ne false (show l.length ≠ k by omega)]; exact hlast k (by omega)
    have hls : i < listed.size := by omega
    have hf : listed.getD i false = false := by simpa [Array.getD, hls] using h1
    have h2' : l[i]? = some o := by rw [← ho i hil]; exact h2
    obtain ⟨F, hF⟩ : ∃ F, Fs[i]? = some F := ⟨Fs[i]'(by omega), by simp [show i < Fs.length by omega]⟩
    obtain ⟨lk, hop, hlk⟩ := hob i o F h2' hF
    -- what its operands are known to be
    have hfacts : ∀ s ∈ o.looksAt (l ++ ol :: tl).toArray, (lk s).F (a.tmps.getD s undef) w := by
      intro s hs
      rcases hlk s with ⟨j, o', F', hj, hoj, hFj, hd, e⟩ | ⟨hno, e⟩
      · rw [e]
        have hlst : listed.getD j false = true := by
          rcases hok.two i j o o' h2' hoj hj with ⟨ed, he, hb, hon⟩ | ⟨h4, _⟩
          · rw [← hon]; exact h3 ed he hb
          · exact absurd hs (h4 s hd)
        have := hI.fact j o' F' hoj hFj hlst
        simpa [hd] using this
      · rw [e]
        refine hI.rest s (fun j o' hoj hl hd => ?_)
        rcases Nat.lt_trichotomy j i with hji | hji | hji
        · exact hno j o' hji hoj hd
        · subst hji; rw [hf] at hl; cases hl
        · rcases hok.two j i o' o hoj h2' hji with ⟨ed, he, hb, hon⟩ | ⟨_, h4⟩
          · have := hI.down j o' hoj hl ed he hb
            rw [hon, hf] at this; cases this
          · exact h4 s hd hs
    -- the state behind it
    have hstep : ∀ v w', F.F v w' → Below w.heap.size w w' → wpAny P .any (l ++ ol :: tl).toArray Q fuel (listed.setIfInBounds i true) (a.put o.dst v) w' := by
      intro v w' hFv hbel
      have hroom : ∀ t, o.dst = some t → t < a.tmps.size := fun t ht => by rw [hI.tsz]; exact hok.room i o t h2' ht
      refine ih _ _ _ ⟨u.erase i, hnd.erase i, fun k => ?_, ?_⟩ ?_ (fun k hk => by rw [getD_set_ne false (show i ≠ k by omega)]; exact hlast k hk)
      · rw [hnd.mem_erase_iff, hu k]
        constructor
        · rintro ⟨hki, hkl, hkf⟩
          exact ⟨hkl, by rw [getD_set_ne false (Ne.symm hki)]; exact hkf⟩
        · rintro ⟨hkl, hkf⟩
          have hki : k ≠ i := by
            rintro rfl
            simp [Array.getD, hls] at hkf
          exact ⟨hki, hkl, by rw [getD_set_ne false (Ne.symm hki)] at hkf; exact hkf⟩
      · have hiu : i ∈ u := (hu i).2 ⟨hil, hf⟩
        have := List.length_pos_of_mem hiu
        rw [List.length_erase_of_mem hiu]; omega
      · have hset : ∀ j, (listed.setIfInBounds i true).getD j false = true → j = i ∨ listed.getD j false = true := fun j hj => by
          by_cases e : j = i
          · exact .inl e
          · rw [getD_set_ne false (Ne.symm e)] at hj; exact .inr hj
        refine ⟨hI.bel.trans (hbel.mono (Nat.le_trans hB hI.bel.size)), ?_, ?_, by simpa using hI.lsz, ?_, ?_, ?_⟩
        · rw [← hI.tsz]; cases o.dst <;> simp [Act.put]
        · rw [← hI.dfs]; cases o.dst <;> simp [Act.put]
        · intro j oj Fj hoj hFj hlj
          by_cases e : j = i
          · subst e
            rw [h2'] at hoj; injection hoj with hoj; subst hoj
            rw [hF] at hFj; injection hFj with hFj; subst hFj
            cases hd : o.dst with
            | none => exact (hok.has j o h2' hd).elim
            | some d => simp only []; rw [put_getD _ _ _ _ (by rw [← hd]; exact hroom)]; simpa using hFv
          · have hl' := (hset j hlj).resolve_left e
            have h5 := Fj.st _ _ _ (hI.fact j oj Fj hoj hFj hl') hbel
            cases hd : oj.dst with
            | none => simpa [hd] using h5
            | some d =>
              simp only [hd] at h5 ⊢
              rw [put_getD _ _ _ _ hroom, if_neg (fun h6 => e (hok.dsts j i oj o d hoj h2' hd h6))]
              exact h5
        · intro d hd
          have hne : o.dst ≠ some d := hd i o h2' (by simp [Array.getD, hls])
          rw [put_getD _ _ _ _ hroom, if_neg hne]
          refine hI.rest d (fun j oj hoj hl => hd j oj hoj ?_)
          by_cases e : j = i
          · subst e; simp [Array.getD, hls]
          · rw [getD_set_ne false (Ne.symm e)]; exact hl
        · intro j oj hoj hlj e he hb
          have key : listed.getD e.on false = true := by
            rcases hset j hlj with h4 | h4
            · subst h4
              rw [h2'] at hoj; injection hoj with hoj; subst hoj
              exact h3 e he hb
            · exact hI.down j oj hoj h4 e he hb
          have hne : e.on ≠ i := fun h => by rw [h, hf] at key; cases key
          rw [getD_set_ne false (Ne.symm hne)]; exact key
    have hthis := hop a w hI.bel hfacts
    unfold wpOp
    rw [h2]
    simp only []
    split
    · rename_i hw
      rw [if_pos hw] at hthis
      left
      refine Oper.wp_safe ?_
      have h5 := Oper.wp_mono (K' := wpAny P .any (l ++ ol :: tl).toArray Q fuel (listed.setIfInBounds i true)) (fun a' w' ⟨v, e, h6, h7⟩ => by rw [e]; exact hstep v w' h6 h7) hthis
      exact h5
    · rename_i hw
      rw [if_neg hw] at hthis
      exact hstep undef w hthis (Below.refl _ _)

/-- A REGION THAT DRAWS ITS ORDER AND ENDS IN OPERATIONS BEHIND ALL OTHERS: what they do is shown last. -/
theorem wp_region_factsS {id n B : Nat} {l tl : List Oper} {ol : Oper} (Fs : List SF) {Q : Exit → Act → World → Prop} {a : Act} {w w0 : World} (hm : P.follows .mixedOrders = true) (hok : okS n l ol tl = true) (hsz : a.tmps.size = n)
    (hB : B ≤ w0.heap.size) (hbel : Below B w0 w) (hob : obs P (l ++ ol :: tl).toArray B w0 a l Fs []) (hfin : ∀ w', Below B w0 w' → fin (fun a w => ol.wp P a w (seqWp P Q tl) Q) l Fs a w') : (Code.region id (l ++ ol :: tl).toArray true).wp P Q a w := by
  have h1 := obs_at (pre0 := []) (P := P) (B := B) l Fs [] [] [] rfl (fun s => .inr ⟨by simp, rfl⟩) hob
  refine wp_region_any hm (wpAny_factsS (okS_spec hok) h1.1 hB (fun k o F h2 h3 => ?_) hsz hfin _ _ a _ ⟨List.range l.length, List.nodup_range, fun i => ?_, by simp⟩ ⟨?_, hsz, rfl, by simp; omega, ?_, fun _ _ => rfl, ?_⟩ (by simp [Array.getD]))
  · obtain ⟨lk, h4, h5⟩ := h1.2 k o F h2 h3
    refine ⟨lk, h4, fun s => ?_⟩
    simpa using h5 s
  · simp [Array.getD]
  · exact hbel.drew
  · intro j o F h2 h3 h4
    simp [Array.getD] at h4
  · intro j o h2 h4
    simp [Array.getD] at h4
end
end Go.Proofs.YtlcpflaofggmeaaDoor
/- The walks of the digest. -/
namespace Go.Proofs.YtlcpflaofggmeaaDoor
set_option maxRecDepth 40000
open Go.RowKit

/-- The package's words and constants lie where they were laid. -/
structure ShaPkg (w : World) : Prop where
  start : ∀ i, i < 8 → w.cell? ⟨0, i, none⟩ = some (wv (h0 i))
  round : ∀ i, i < 64 → w.cell? ⟨2, i, none⟩ = some (wv (kw i))
theorem ShaPkg.lt {w : World} (h : ShaPkg w) : 0 < w.heap.size ∧ 2 < w.heap.size := by
  have h1 := h.start 0 (by omega)
  have h2 := h.round 0 (by omega)
  exact ⟨cell_lt0 h1, cell_lt0 h2⟩
theorem ShaPkg.keep {w w' : World} (h : ShaPkg w) (hk : ∀ b, b < w.heap.size → (b = 0 ∨ b = 2) → w'.heap[b]? = w.heap[b]?) : ShaPkg w' := by
  have hl := h.lt
  exact ⟨fun i hi => (World.cell?_of_block (a := ⟨0, i, none⟩) (hk _ hl.1 (.inl rfl))).trans (h.start i hi), fun i hi => (World.cell?_of_block (a := ⟨2, i, none⟩) (hk _ hl.2 (.inr rfl))).trans (h.round i hi)⟩
theorem ShaPkg.below {w w' : World} (h : ShaPkg w) (hb : Below w.heap.size w w') : ShaPkg w' := h.keep fun b hb' _ => hb.block b hb'

/-- Bytes as a value. -/
abbrev u8v (f : Nat → Nat) : Nat → Value := fun i => .int .u8 ((f i : Nat) : Int)
/-- 32 bytes as a value. -/
abbrev rootV (f : Nat → Nat) : Value := .agg (arr 32 (u8v f))
theorem root_0 (H : Nat → W32) (k : Nat) : Value.int .u8 (((H k).toNat : Int) / 16777216) = .int .u8 ((rootOf H (4 * k) : Nat) : Int) := by
  have h := (H k).isLt
  have e : rootOf H (4 * k) = (H k).toNat / 16777216 := by
    unfold rootOf
    rw [show 4 * k / 4 = k by omega, show 24 - 8 * (4 * k % 4) = 24 by omega, BitVec.toNat_ushiftRight, Nat.shiftRight_eq_div_pow]
    omega
  rw [e]; congr 1
theorem root_1 (H : Nat → W32) (k : Nat) : Value.int .u8 (((H k).toNat : Int) / 65536 % 256) = .int .u8 ((rootOf H (4 * k + 1) : Nat) : Int) := by
  have e : rootOf H (4 * k + 1) = (H k).toNat / 65536 % 256 := by
    unfold rootOf
    rw [show (4 * k + 1) / 4 = k by omega, show 24 - 8 * ((4 * k + 1) % 4) = 16 by omega, BitVec.toNat_ushiftRight, Nat.shiftRight_eq_div_pow]
  rw [e]; congr 1
theorem root_2 (H : Nat → W32) (k : Nat) : Value.int .u8 (((H k).toNat : Int) / 256 % 256) = .int .u8 ((rootOf H (4 * k + 2) : Nat) : Int) := by
  have e : rootOf H (4 * k + 2) = (H k).toNat / 256 % 256 := by
    unfold rootOf
    rw [show (4 * k + 2) / 4 = k by omega, show 24 - 8 * ((4 * k + 2) % 4) = 8 by omega, BitVec.toNat_ushiftRight, Nat.shiftRight_eq_div_pow]
  rw [e]; congr 1
theorem root_3 (H : Nat → W32) (k : Nat) : Value.int .u8 (((H k).toNat : Int) % 256) = .int .u8 ((rootOf H (4 * k + 3) : Nat) : Int) := by
  have e : rootOf H (4 * k + 3) = (H k).toNat % 256 := by
    unfold rootOf
    rw [show (4 * k + 3) / 4 = k by omega, show 24 - 8 * ((4 * k + 3) % 4) = 0 by omega, BitVec.toNat_ushiftRight, Nat.shiftRight_eq_div_pow]
    simp
  rw [e]; congr 1

set_option maxHeartbeats 1000000 in
theorem root_any (g o : Nat) (H : Nat → W32) (w : World) (hH : ∀ i, i < 8 → w.cell? ⟨g, o + i, none⟩ = some (wv (H i))) :
    Calls Tryd.prog 40 #[.pointer (some ⟨g, o, none⟩)] w fun e w' => e = .returned (rootV (rootOf H)) ∧ Below w.heap.size w w' := by
  have HH := Lib.hid hH
  have hg : g < w.heap.size := cell_lt0 (hH 0 (by omega))
  have HS0 := Lib.hid (((HS.nil w).alloc (Array.replicate 32 (.int .u8 0)) 30 32 (u8v fun _ => 0) (by simp) (fun i hi => rep_at _ _ i hi)).alloc (Array.replicate 32 (.int .u8 0)) 30 32 (u8v fun _ => 0) (by simp) (fun i hi => rep_at _ _ i hi))
  rw [alloc_sz] at HS0
  clear hH
  go_enter Tryd.func40, Tryd.ntmps40
  go_wp2
  go_loopw [7] (fun i wr => ∃ k : Nat, k ≤ 8 ∧ i = .int .i64 k ∧ HS w wr [⟨w.heap.size + 1, 30, 32, u8v fun j => if j < 4 * k then rootOf H j else 0⟩, ⟨w.heap.size, 30, 32, u8v fun _ => 0⟩]) (fun i _ => 8 - (intOf i).toNat)
  case atStart => exact ⟨0, by omega, rfl, HS0.out⟩
  case round =>
    obtain ⟨k, hk, rfl, hs⟩ := hrel
    by_cases hk8 : k < 8
    · have hc : wr.cell? ⟨g, o + k, none⟩ = some (wv (H k)) := (hs.old (Nat.le_refl _) (by simp)).cell (p := ⟨g, o + k, none⟩) hg |>.trans (HH.out k hk8)
      have hd : ∀ i, i < 32 → wr.cell? ⟨w.heap.size + 1, i, none⟩ = some (u8v (fun j => if j < 4 * k then rootOf H j else 0) i) := fun i hi => hs.cell 0 i rfl hi
      have hf : ∀ i, wr.frozen? ⟨w.heap.size + 1, i, none⟩ = false := fun i => hs.frozen 0 i rfl
      have hd0 := hd (4 * k) (by omega)
      have hd1 := hd (4 * k + 1) (by omega)
      have hd2 := hd (4 * k + 2) (by omega)
      have hd3 := hd (4 * k + 3) (by omega)
      have HSx := Lib.hid hs
      clear hs hd
      go_wp2
      go_quiet (fail)
      go_wp2
      go_roundw
      case rel =>
        refine ⟨k + 1, by omega, by go_num, ?_⟩
        rw [root_0, root_1, root_2, root_3]
        refine (((((HSx.out.drewN _).set 0 (4 * k) rfl _).set 0 (4 * k + 1) rfl _).set 0 (4 * k + 2) rfl _).set 0 (4 * k + 3) rfl _).congr 0 rfl (fun j _ => ?_)
        by_cases e3 : j = 4 * k + 3
        · subst e3; simp [u8v, show 4 * k + 3 < 4 * (k + 1) by omega]
        · by_cases e2 : j = 4 * k + 2
          · subst e2; simp [u8v, show 4 * k + 2 < 4 * (k + 1) by omega]
          · by_cases e1 : j = 4 * k + 1
            · subst e1; simp [u8v, show 4 * k + 1 < 4 * (k + 1) by omega]
            · by_cases e0 : j = 4 * k
              · subst e0; simp [u8v, show 4 * k < 4 * (k + 1) by omega]
              · by_cases e : j < 4 * k
                · simp [u8v, e, e0, e1, e2, e3, show j < 4 * (k + 1) by omega]
                · simp [u8v, e, e0, e1, e2, e3, show ¬ j < 4 * (k + 1) by omega]
      case measure => simp [intOf]; omega
    · obtain rfl : k = 8 := by omega
      have HSx := Lib.hid hs
      obtain ⟨cz, hcz, hzs, hzc⟩ := hs.heap 1 rfl
      have HR := Lib.hid (hs.row 1 rfl)
      have HX := Lib.hid (heap_arr (hs.row 0 rfl))
      clear hs hcz hzs hzc
      go_wp2_with (first
        | (refine wpList_load_row rfl 30 (.tmp 3) rfl (w.heap.size + 1) rfl 30 _ _ _ HX.out Tryd.underlying30 rfl (by kernel_rfl) ?_)
        | (refine wpList_store_arr rfl 30 (.tmp 2) (.tmp 40) rfl HR.out _ rfl rfl (size_arr _ _) (by kernel_rfl) (fun i hi => ⟨_, arr_at _ _ i hi, rfl⟩) ?_))
      have hend := HSx.out.setRow 1 rfl (arr 32 (u8v fun j => if j < 32 then rootOf H j else 0)) (size_arr _ _) _ (fun i hi => arr_at _ _ i hi)
      refine ret_rowIs rfl (hend.row 1 rfl) _ rfl Tryd.underlying30 rfl (by kernel_rfl) rfl ⟨?_, hend.out (by simp)⟩
      rw [arr_congr (g := u8v (rootOf H)) (fun i hi => by simp [u8v, hi])]
end Go.Proofs.YtlcpflaofggmeaaDoor
