/- What a call knows of the memory: a list of rows, each a function of its index; what lay there before the call and is not among the rows that it may change is as it was. -/
import Derived.Test.YtecgogeebponlaaDoorWhole
namespace Go.Proofs.YtecgogeebponlaaDoor
set_option maxRecDepth 40000
open Go.RowKit

structure RowSpec where
  b : Nat
  t : TypeId
  n : Nat
  f : Nat → Value

/-- Row r lies in w. -/
def RowSpec.at_ (r : RowSpec) (w : World) : Prop := w.rowIs r.b r.t r.n r.f

/-- Only the rows of the list, and blocks that w0 has not, may differ from w0's; what the list says holds; no two rows are one block. -/
structure HS (w0 w : World) (rows : List RowSpec) : Prop where
  os : w.os = w0.os
  tape : w.tape = w0.tape
  output : w.output = w0.output
  size : w0.heap.size ≤ w.heap.size
  block : ∀ k, k < w0.heap.size → (∀ r ∈ rows, r.b ≠ k) → w.heap[k]? = w0.heap[k]?
  has : ∀ r ∈ rows, r.at_ w
  apart : rows.Pairwise fun r s => r.b ≠ s.b

section
variable {w0 w w' : World} {rows : List RowSpec}
theorem HS.nil (w : World) : HS w w [] := ⟨rfl, rfl, rfl, Nat.le_refl _, fun _ _ _ => rfl, fun _ h => (by cases h), List.Pairwise.nil⟩
theorem HS.own {b : Nat} {t : TypeId} {n : Nat} {f : Nat → Value} (h : w.rowIs b t n f) : HS w w [⟨b, t, n, f⟩] :=
  ⟨rfl, rfl, rfl, Nat.le_refl _, fun _ _ _ => rfl, fun r hr => by obtain rfl := List.mem_singleton.1 hr; exact h, List.pairwise_singleton _ _⟩
theorem HS.row (h : HS w0 w rows) (k : Nat) {r : RowSpec} (hk : rows[k]? = some r) : w.rowIs r.b r.t r.n r.f := h.has r (List.mem_of_getElem? hk)
theorem HS.cell (h : HS w0 w rows) (k i : Nat) {b : Nat} {t : TypeId} {n : Nat} {f : Nat → Value} (hk : rows[k]? = some ⟨b, t, n, f⟩) (hi : i < n) : w.cell? ⟨b, i, none⟩ = some (f i) := (h.row k hk).cell hi
theorem HS.frozen (h : HS w0 w rows) (k i : Nat) {b : Nat} {t : TypeId} {n : Nat} {f : Nat → Value} (hk : rows[k]? = some ⟨b, t, n, f⟩) : w.frozen? ⟨b, i, none⟩ = false := (h.row k hk).frozen i
theorem HS.lt (h : HS w0 w rows) (k : Nat) {b : Nat} {t : TypeId} {n : Nat} {f : Nat → Value} (hk : rows[k]? = some ⟨b, t, n, f⟩) : b < w.heap.size := (h.row k hk).lt
theorem HS.drew (h : HS w0 w rows) : HS w0 w.drew rows := ⟨h.os, h.tape, h.output, h.size, h.block, h.has, h.apart⟩
theorem HS.drewN (h : HS w0 w rows) (n : Nat) : HS w0 (w.drewN n) rows := ⟨h.os, h.tape, h.output, h.size, h.block, h.has, h.apart⟩
/-- Only new memory was made. -/
theorem HS.below (h : HS w0 w rows) (hb : Below w.heap.size w w') : HS w0 w' rows :=
  ⟨hb.os.trans h.os, hb.tape.trans h.tape, hb.output.trans h.output, Nat.le_trans h.size hb.size, fun k hk hr => (hb.block k (Nat.lt_of_lt_of_le hk h.size)).trans (h.block k hk hr),
    fun r hr => row_below (h.has r hr) hb (h.has r hr).lt, h.apart⟩
theorem HS.alloc (h : HS w0 w rows) (cs : Array Value) (t : TypeId) (n : Nat) (f : Nat → Value) (hn : cs.size = n) (hc : ∀ i, i < n → cs[i]? = some (f i)) : HS w0 (w.alloc (.cells cs t)) (⟨w.heap.size, t, n, f⟩ :: rows) := by
  subst hn
  have h1 := h.below (w' := w.alloc (.cells cs t)) ((Below.refl _ _).alloc (Nat.le_refl _) _)
  refine ⟨h1.os, h1.tape, h1.output, h1.size, fun k hk hr => h1.block k hk (fun r hr' => hr r (List.mem_cons_of_mem _ hr')), ?_, ?_⟩
  · intro r hr
    rcases List.mem_cons.1 hr with rfl | hr
    · exact World.rowIs_alloc w cs t f hc
    · exact h1.has r hr
  · exact List.Pairwise.cons (fun s hs => by have := (h.has s hs).lt; show w.heap.size ≠ s.b; omega) h.apart
theorem HS.allocB (h : HS w0 w rows) (b : Nat) (cs : Array Value) (t : TypeId) (n : Nat) (f : Nat → Value) (hn : cs.size = n) (hc : ∀ i, i < n → cs[i]? = some (f i)) (hb : w.heap.size = b) : HS w0 (w.alloc (.cells cs t)) (⟨b, t, n, f⟩ :: rows) := by
  subst hb; exact h.alloc cs t n f hn hc
theorem mem_set_or {α : Type} {l : List α} {k : Nat} {x y : α} (h : y ∈ l.set k x) : y = x ∨ ∃ j, j ≠ k ∧ l[j]? = some y := by
  obtain ⟨j, hj⟩ := List.getElem?_of_mem h
  by_cases e : k = j
  · subst e
    rw [List.getElem?_set] at hj
    simp at hj
    obtain ⟨_, rfl⟩ := hj
    exact .inl rfl
  · rw [List.getElem?_set_ne (by omega)] at hj
    exact .inr ⟨j, by omega, hj⟩
theorem pair_set (l : List RowSpec) (hp : l.Pairwise fun r s => r.b ≠ s.b) : ∀ (k : Nat) (x y : RowSpec), l[k]? = some y → x.b = y.b → (l.set k x).Pairwise fun r s => r.b ≠ s.b := by
  induction l with
  | nil => intro k x y hk; simp at hk
  | cons a l ih =>
    intro k x y hk hb
    rw [List.pairwise_cons] at hp
    cases k with
    | zero =>
      simp at hk; subst hk
      simp only [List.set_cons_zero, List.pairwise_cons]
      exact ⟨fun s hs => by rw [hb]; exact hp.1 s hs, hp.2⟩
    | succ k =>
      simp at hk
      simp only [List.set_cons_succ, List.pairwise_cons]
      refine ⟨fun s hs => ?_, ih hp.2 k x y hk hb⟩
      rcases mem_set_or hs with rfl | ⟨j, _, hj⟩
      · rw [hb]; exact hp.1 y (List.mem_of_getElem? hk)
      · exact hp.1 s (List.mem_of_getElem? hj)
theorem HS.apart' (h : HS w0 w rows) {i j : Nat} {r s : RowSpec} (hi : rows[i]? = some r) (hj : rows[j]? = some s) (hij : i ≠ j) : r.b ≠ s.b := by
  have hp := h.apart
  rw [List.pairwise_iff_getElem] at hp
  obtain ⟨hi', ei⟩ := List.getElem?_eq_some_iff.1 hi
  obtain ⟨hj', ej⟩ := List.getElem?_eq_some_iff.1 hj
  rcases Nat.lt_or_ge i j with hl | hl
  · have := hp i j hi' hj' hl; rwa [ei, ej] at this
  · have := hp j i hj' hi' (by omega); rw [ei, ej] at this; exact fun e => this e.symm
/-- Row k was written, and new memory was made. -/
theorem HS.write (h : HS w0 w rows) (k : Nat) {b : Nat} {t : TypeId} {n : Nat} {f g : Nat → Value} (hk : rows[k]? = some ⟨b, t, n, f⟩) (hg : w.grownBy w' (some b)) (hr : w'.rowIs b t n g) : HS w0 w' (rows.set k ⟨b, t, n, g⟩) := by
  refine ⟨hg.os.trans h.os, hg.tape.trans h.tape, hg.output.trans h.output, Nat.le_trans h.size hg.size, ?_, ?_, pair_set rows h.apart k _ _ hk rfl⟩
  · intro i hi hne
    have hib : i ≠ b := by
      rintro rfl
      obtain ⟨hk', _⟩ := List.getElem?_eq_some_iff.1 hk
      exact hne ⟨i, t, n, g⟩ (List.mem_of_getElem? (i := k) (by rw [List.getElem?_set]; simp [hk'])) rfl
    rw [hg.block i (Nat.lt_of_lt_of_le hi h.size) (fun e => hib (by injection e))]
    refine h.block i hi (fun r hr' => ?_)
    rintro rfl
    obtain ⟨j, hj⟩ := List.getElem?_of_mem hr'
    by_cases e : k = j
    · subst e
      rw [hk] at hj; injection hj with hj; subst hj
      exact hib rfl
    · exact hne r (List.mem_of_getElem? (i := j) (by rw [List.getElem?_set_ne e]; exact hj)) rfl
  · intro r hr'
    rcases mem_set_or hr' with rfl | ⟨j, hjk, hj⟩
    · exact hr
    · have h1 := h.row j hj
      exact h1.of_block (hg.block _ h1.lt (fun e => by injection e with e; exact h.apart' hj hk hjk e))
theorem HS.set (h : HS w0 w rows) (k i : Nat) {b : Nat} {t : TypeId} {n : Nat} {f : Nat → Value} (hk : rows[k]? = some ⟨b, t, n, f⟩) (v : Value) : HS w0 (w.setCell ⟨b, i, none⟩ v) (rows.set k ⟨b, t, n, fun j => if j = i then v else f j⟩) :=
  h.write k hk (grown_setCell (World.grownBy.refl _ _) (.inl rfl) _) ((h.row k hk).set i v)
theorem HS.setRow (h : HS w0 w rows) (k : Nat) {b : Nat} {t : TypeId} {n : Nat} {f : Nat → Value} (hk : rows[k]? = some ⟨b, t, n, f⟩) (cs : Array Value) (hn : cs.size = n) (g : Nat → Value) (hg : ∀ i, i < n → cs[i]? = some (g i)) : HS w0 (w.setRow b cs) (rows.set k ⟨b, t, n, g⟩) :=
  h.write k hk ⟨rfl, rfl, rfl, by rw [size_setRow]; exact Nat.le_refl _, fun i _ hne => by
    unfold World.setRow
    have : ¬ b = i := fun e => hne (by rw [e])
    simp [Array.getElem?_modify, this]⟩ (World.rowIs_setRow (h.row k hk) cs hn g hg)
/-- What row k reads as, said otherwise. -/
theorem HS.congr (h : HS w0 w rows) (k : Nat) {b : Nat} {t : TypeId} {n : Nat} {f g : Nat → Value} (hk : rows[k]? = some ⟨b, t, n, f⟩) (e : ∀ i, i < n → f i = g i) : HS w0 w (rows.set k ⟨b, t, n, g⟩) := by
  have := h.write (w' := w) k hk (World.grownBy.refl _ _) ((h.row k hk).congr e)
  exact this
/-- A row that is the call's own is forgotten. -/
theorem HS.drop {r : RowSpec} (h : HS w0 w (r :: rows)) (hr : w0.heap.size ≤ r.b) : HS w0 w rows :=
  ⟨h.os, h.tape, h.output, h.size, fun k hk hne => h.block k hk (fun s hs => by
    rcases List.mem_cons.1 hs with rfl | hs
    · omega
    · exact hne s hs), fun s hs => h.has s (List.mem_cons_of_mem _ hs), (List.pairwise_cons.1 h.apart).2⟩
/-- A row that a callee made. -/
theorem HS.add (h : HS w0 w rows) {b : Nat} {t : TypeId} {n : Nat} {f : Nat → Value} (hr : w.rowIs b t n f) (_hb : w0.heap.size ≤ b) (hne : ∀ r ∈ rows, r.b ≠ b) : HS w0 w (⟨b, t, n, f⟩ :: rows) :=
  ⟨h.os, h.tape, h.output, h.size, fun k hk hr' => h.block k hk (fun s hs => hr' s (List.mem_cons_of_mem _ hs)), fun r hr' => by
    rcases List.mem_cons.1 hr' with rfl | hr'
    · exact hr
    · exact h.has r hr', List.Pairwise.cons (fun s hs => fun e => hne s hs e.symm) h.apart⟩
/-- One more row is watched. -/
theorem HS.take (h : HS w0 w rows) {b : Nat} {t : TypeId} {n : Nat} {f : Nat → Value} (hr : w.rowIs b t n f) (hne : ∀ r ∈ rows, r.b ≠ b) : HS w0 w (⟨b, t, n, f⟩ :: rows) :=
  ⟨h.os, h.tape, h.output, h.size, fun k hk hr' => h.block k hk (fun s hs => hr' s (List.mem_cons_of_mem _ hs)), fun r hr' => by
    rcases List.mem_cons.1 hr' with rfl | hr'
    · exact hr
    · exact h.has r hr', List.Pairwise.cons (fun s hs => fun e => hne s hs e.symm) h.apart⟩
/-- A row of the call's own that is not watched was written. -/
theorem HS.other (h : HS w0 w rows) {g : Nat} (hg : w.grownBy w' (some g)) (hb : w0.heap.size ≤ g) (hne : ∀ r ∈ rows, r.b ≠ g) : HS w0 w' rows :=
  ⟨hg.os.trans h.os, hg.tape.trans h.tape, hg.output.trans h.output, Nat.le_trans h.size hg.size, fun k hk hr => (hg.block k (Nat.lt_of_lt_of_le hk h.size) (fun e => by injection e; omega)).trans (h.block k hk hr),
    fun r hr => (h.has r hr).of_block (hg.block _ (h.has r hr).lt (fun e => by injection e with e; exact hne r hr e)), h.apart⟩
theorem HS.bel (h : HS w0 w []) : Below w0.heap.size w0 w := ⟨h.os, h.tape, h.output, h.size, fun k hk => h.block k hk (fun _ hr => by cases hr)⟩
/-- All rows are the call's own. -/
theorem HS.out (h : HS w0 w rows) (hr : ∀ r ∈ rows, w0.heap.size ≤ r.b) : Below w0.heap.size w0 w := ⟨h.os, h.tape, h.output, h.size, fun k hk => h.block k hk (fun r hr' => by have := hr r hr'; omega)⟩
theorem HS.grown (h : HS w0 w rows) (b : Nat) (hr : ∀ r ∈ rows, w0.heap.size ≤ r.b ∨ r.b = b) : w0.grownBy w (some b) :=
  ⟨h.os, h.tape, h.output, h.size, fun k hk hne => h.block k hk (fun r hr' e => by
    rcases hr r hr' with h1 | h1
    · omega
    · exact hne (by rw [← e, h1]))⟩
theorem HS.heap (h : HS w0 w rows) (k : Nat) {b : Nat} {t : TypeId} {n : Nat} {f : Nat → Value} (hk : rows[k]? = some ⟨b, t, n, f⟩) : ∃ c, w.heap[b]? = some (.cells c t (0, 0)) ∧ c.size = n ∧ ∀ i, i < n → c[i]? = some (f i) := h.row k hk
/-- What lay there before. -/
theorem HS.old (h : HS w0 w rows) {B : Nat} (hB : B ≤ w0.heap.size) (hr : ∀ r ∈ rows, B ≤ r.b) : Below B w0 w := ⟨h.os, h.tape, h.output, h.size, fun k hk => h.block k (by omega) (fun r hr' => by have := hr r hr'; omega)⟩
end

theorem alloc_sz (w : World) (o : Obj) : (w.alloc o).heap.size = w.heap.size + 1 := by unfold World.alloc; exact Array.size_push _
theorem rep_at (n : Nat) (v : Value) (i : Nat) (h : i < n) : (Array.replicate n v)[i]? = some v := by simp [h]
/-- The walk goes on in a world of which this is known. -/
theorem HS.go {P : Program} {w0 w : World} {rows : List RowSpec} {c : Code} {Q : Exit → Act → World → Prop} {a : Act} (h : HS w0 w rows) (k : ∀ w', HS w0 w' rows → c.wp P Q a w') : c.wp P Q a w := k w h
theorem HS.goC {P : Program} {w0 w : World} {rows : List RowSpec} {f : FuncId} {args : Array Value} {R : Ending → World → Prop} (h : HS w0 w rows) (k : ∀ w', HS w0 w' rows → Calls P f args w' R) : Calls P f args w R := k w h
theorem zero_at (n : Nat) (v : Value) : ∀ i, i < n → (Array.replicate n v)[i]? = some v := fun i h => by simp [h]
/-- n values. -/
def arr (n : Nat) (f : Nat → Value) : Array Value := ((List.range n).map f).toArray
theorem size_arr (n : Nat) (f : Nat → Value) : (arr n f).size = n := by simp [arr]
theorem arr_at (n : Nat) (f : Nat → Value) (i : Nat) (h : i < n) : (arr n f)[i]? = some (f i) := by simp [arr, h]
theorem arr_of (cs : Array Value) (n : Nat) (f : Nat → Value) (hn : cs.size = n) (h : ∀ i, i < n → cs[i]? = some (f i)) : cs = arr n f := by
  apply Array.ext_getElem?
  intro i
  by_cases hi : i < n
  · rw [h i hi, arr_at n f i hi]
  · rw [Array.getElem?_eq_none (by omega), Array.getElem?_eq_none (by rw [size_arr]; omega)]
theorem arr_congr {n : Nat} {f g : Nat → Value} (h : ∀ i, i < n → f i = g i) : arr n f = arr n g := by
  unfold arr; rw [List.map_congr_left (fun i hi => h i (List.mem_range.1 hi))]
theorem heap_arr {w : World} {b : Nat} {t : TypeId} {n : Nat} {f : Nat → Value} (h : w.rowIs b t n f) : w.heap[b]? = some (.cells (arr n f) t (0, 0)) := by
  obtain ⟨c, hc, hs, hf⟩ := h
  rw [← arr_of c n f hs hf]; exact hc
section
variable {P : Program}
/-- A part of the memory read as a whole. -/
theorem run_loadCells_fn (w : World) (g o n : Nat) (f : Nat → Value) (h : ∀ i, i < n → w.cell? ⟨g, o + i, none⟩ = some (f i)) : (loadCells ⟨g, o, none⟩ n).run P w = .ok (arr n f) w := by
  have := run_loadCells_list (P := P) w ⟨g, o, none⟩ ((List.range n).map f) (fun j v hj => by
    have hjl : j < n := by
      rcases Nat.lt_or_ge j n with h | h
      · exact h
      · simp [h] at hj
    have e : (⟨g, o, none⟩ : Addr).add j = ⟨g, o + j, none⟩ := by unfold Addr.add; split <;> simp_all
    rw [e, h j hjl]
    simp [hjl] at hj
    exact congrArg some hj)
  simpa [arr] using this
theorem run_loadVar_part (w : World) (g o n : Nat) (ty : TypeId) (d : TypeDesc) (f : Nat → Value) (h : ∀ i, i < n → w.cell? ⟨g, o + i, none⟩ = some (f i)) (hu : P.underlying ty = some d) (hd : (match d with | .struct _ | .array _ _ => true | _ => false) = true) (hi : (P.info? ty).map (·.size) = some n) :
    (loadVar ty ⟨g, o, none⟩).run P w = .ok (.agg (arr n f)) w := by
  cases hq : P.info? ty with
  | none => rw [hq] at hi; simp at hi
  | some i =>
    have hs : i.size = n := by rw [hq] at hi; simpa using hi
    have hagg : (isAgg ty).run P w = .ok true w := by
      unfold isAgg
      rw [Sem.run_bind, run_underlying hu w]
      cases d <;> simp_all
    simp [loadVar, Sem.run_bind, hagg, sizeOf, typeInfo, hq, hs, run_loadCells_fn w g o n f h]
theorem run_loadAt_part (w : World) (g o n : Nat) (ty : TypeId) (d : TypeDesc) (f : Nat → Value) (h : ∀ i, i < n → w.cell? ⟨g, o + i, none⟩ = some (f i)) (hu : P.underlying ty = some d) (hd : (match d with | .struct _ | .array _ _ => true | _ => false) = true) (hi : (P.info? ty).map (·.size) = some n) :
    (Instr.loadAt ty (.pointer (some ⟨g, o, none⟩))).run P w = .ok (.agg (arr n f)) w := by
  simp only [Instr.loadAt, Instr.sureAddr, Sem.run_bind, Sem.run_pure, Result.andThen]
  exact run_loadVar_part w g o n ty d f h hu hd hi
theorem run_storeAt_arr {w : World} {b : Nat} {t : TypeId} {n : Nat} {f : Nat → Value} (h : w.rowIs b t n f) (ty : TypeId) (cs : Array Value) (hn : cs.size = n) (hi : (P.info? ty).map (·.size) = some n) (h1 : ∀ i, i < n → ∃ v, cs[i]? = some v ∧ v.oneCell' = true) :
    (Instr.storeAt ty (.pointer (some ⟨b, 0, none⟩)) (.agg cs)).run P w = .ok () (w.setRow b cs) := by
  obtain ⟨c, hc, hs, hf⟩ := h
  simp only [Instr.storeAt, Instr.sureAddr, Sem.run_bind, Sem.run_pure, Result.andThen]
  refine run_storeVar_row w b t ty c cs hc (by rw [hi, hn]) (by omega) ?_
  rw [Array.all_eq_true_iff_forall_mem]
  intro x hx
  obtain ⟨i, hi, rfl⟩ := Array.mem_iff_getElem.1 hx
  obtain ⟨v, hv, h2⟩ := h1 i (by omega)
  rw [Array.getElem?_eq_getElem hi] at hv
  injection hv with hv; rw [hv]; exact h2
/-- A part of the memory read as a whole, as the caller spells it. -/
theorem wpList_load_part {ops : Array Oper} {rest : List Oper} {o : Oper} {a : Act} {w : World} {Q : Exit → Act → World → Prop} (hgd : o.guard = none) (ty : TypeId) (x : Operand) (ho : o.op = .load ty x)
    (g off n : Nat) (f : Nat → Value) (hx : a.eval x = .pointer (some ⟨g, off, none⟩)) (d : TypeDesc) (h : ∀ i, i < n → w.cell? ⟨g, off + i, none⟩ = some (f i))
    (hu : P.underlying ty = some d) (hd : (match d with | .struct _ | .array _ _ => true | _ => false) = true) (hi : (P.info? ty).map (·.size) = some n)
    (cs : Array Value) (hcs : arr n f = cs) (hK : wpList P ops Q rest (a.put o.dst (.agg cs)) w) : wpList P ops Q (o :: rest) a w :=
  wpList_plain hgd fun _ hK' => by
    unfold Oper.wp execOp
    simp only [ho, hx, Sem.run_bind, run_loadAt_part w g off n ty d f h hu hd hi, Result.andThen_ok, Sem.run_pure]
    rw [hcs]
    exact hK' _ _ hK
/-- A whole array is laid into a row. -/
theorem wpList_store_arr {ops : Array Oper} {rest : List Oper} {o : Oper} {a : Act} {w : World} {Q : Exit → Act → World → Prop} (hgd : o.guard = none) (ty : TypeId) (x y : Operand) (ho : o.op = .store ty x y)
    {b : Nat} {t : TypeId} {n : Nat} {f : Nat → Value} (hr : w.rowIs b t n f) (cs : Array Value) (hx : a.eval x = .pointer (some ⟨b, 0, none⟩)) (hy : a.eval y = .agg cs) (hn : cs.size = n) (hi : (P.info? ty).map (·.size) = some n)
    (h1 : ∀ i, i < n → ∃ v, cs[i]? = some v ∧ v.oneCell' = true)
    (hK : wpList P ops Q rest (a.put o.dst undef) (w.setRow b cs)) : wpList P ops Q (o :: rest) a w :=
  wpList_plain hgd fun _ hK' => by
    unfold Oper.wp execOp
    simp only [ho, hx, hy, Sem.run_bind, run_storeAt_arr hr ty cs hn hi h1, Result.andThen_ok, Sem.run_pure]
    exact hK' _ _ hK
/-- A composite literal, its cells as the caller spells them. -/
theorem wpList_build_as {ops : Array Oper} {rest : List Oper} {o : Oper} {a : Act} {w : World} {Q : Exit → Act → World → Prop} (hgd : o.guard = none) (t : TypeId) (parts : Array (Nat × Operand)) (ho : o.op = .build t parts)
    (vs : List (Nat × Value)) (hvs : parts.toList.map (fun p => (p.1, a.eval p.2)) = vs) (cs : Array Value) (hb : P.built t vs = some cs) (hK : wpList P ops Q rest (a.put o.dst (.agg cs)) w) : wpList P ops Q (o :: rest) a w :=
  wpList_plain hgd fun _ hK' => by
    have hvs' : (parts.map fun (i, x) => (i, a.eval x)).toList = vs := by rw [← hvs]; simp
    subst hvs'
    unfold Oper.wp execOp
    simp only [ho, Sem.run_bind, run_build w t _ cs hb, Result.andThen_ok]
    exact hK' _ _ hK
/-- A result that lies in a row. -/
theorem ret_rowIs {fn : Func} {R : Ending → World → Prop} {a : Act} {w : World} {p : Tmp} {ty : TypeId} (h : fn.results = #[.cell p ty]) {b : Nat} {t : TypeId} {n : Nat} {f : Nat → Value} (hr : w.rowIs b t n f) (d : TypeDesc)
    (hp : a.tmps.getD p undef = .pointer (some ⟨b, 0, none⟩))
    (hu : P.underlying ty = some d) (hd : (match d with | .struct _ | .array _ _ => true | _ => false) = true) (hi : (P.info? ty).map (·.size) = some n) (hdf : a.defers = [])
    (hR : R (.returned (.agg (arr n f))) w) : bodyPost P fn R .ret a w :=
  ret_row h b t _ (0, 0) d hp (heap_arr hr) hu hd (by rw [hi, size_arr]) hdf hR
/-- A type's zero cells. -/
def zeroOf (P : Program) (t : TypeId) : Array Value := match (P.info? t).bind (·.zero) with | some (.agg cs) => cs | _ => #[]
/-- A new variable, its zero cells as the caller spells them. -/
theorem wpList_alloc_as {ops : Array Oper} {rest : List Oper} {o : Oper} {a : Act} {w : World} {Q : Exit → Act → World → Prop} (hgd : o.guard = none) (t : TypeId) (ho : o.op = .alloc t) (cs : Array Value)
    (hz : (P.info? t).bind (·.zero) = some (.agg cs)) (hK : wpList P ops Q rest (a.put o.dst (.pointer (some ⟨w.heap.size, 0, none⟩))) (w.alloc (.cells cs t))) : wpList P ops Q (o :: rest) a w :=
  wpList_plain hgd fun _ hK' => by
    cases hq : P.info? t with
    | none => rw [hq] at hz; simp at hz
    | some i =>
      rw [hq] at hz
      simp at hz
      have hr : (Instr.alloc t true (.tuple #[])).run P w = .ok (.pointer (some ⟨w.heap.size, 0, none⟩)) (w.alloc (.cells cs t)) := by
        simp [Instr.alloc, zeroValue, typeInfo, hq, hz, newVar, Value.cells, go_sem]
      unfold Oper.wp execOp
      simp only [ho, Sem.run_bind, hr, Result.andThen_ok, Sem.run_pure]
      exact hK' _ _ hK
theorem wpList_alloc_at {ops : Array Oper} {rest : List Oper} {o : Oper} {a : Act} {w : World} {Q : Exit → Act → World → Prop} (hgd : o.guard = none) (t : TypeId) (ho : o.op = .alloc t) (cs : Array Value)
    (hz : (P.info? t).bind (·.zero) = some (.agg cs)) (b : Nat) (hb : w.heap.size = b) (hK : wpList P ops Q rest (a.put o.dst (.pointer (some ⟨b, 0, none⟩))) (w.alloc (.cells cs t))) : wpList P ops Q (o :: rest) a w := by
  subst hb; exact wpList_alloc_as hgd t ho cs hz hK
end
end Go.Proofs.YtecgogeebponlaaDoor
