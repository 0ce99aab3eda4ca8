/- Lemmas that the proof stands on. -/
import Derived.Test.YtomilckcgmhfcaaDoorGLit2
import Derived.Laws.Rows
import Derived.Laws.Tables
import Derived.Deep.Slices
namespace Go.Proofs.YtomilckcgmhfcaaDoor
set_option maxRecDepth 40000
set_option maxHeartbeats 64000000
open Go.RowKit

theorem World.rowIs_setRow {w : World} {b : Nat} {t : TypeId} {n : Nat} {f : Nat → Value} (h : w.rowIs b t n f) (cs : Array Value) (hn : cs.size = n) (g : Nat → Value) (hg : ∀ i, i < n → cs[i]? = some (g i)) : (w.setRow b cs).rowIs b t n g := by
 obtain ⟨c, hc, hs, hf⟩ := h
 refine ⟨cs, ?_, hn, hg⟩
 unfold World.setRow
 simp [Array.getElem?_modify, hc]
theorem zlx {w : World} {b B : Nat} (cs : Array Value) (h : B ≤ b) : Below B w (w.setRow b cs) :=
 ⟨rfl, rfl, rfl, by unfold World.setRow; simp, fun k hk => by
  unfold World.setRow
  have : ¬ b = k := by omega
  simp [Array.getElem?_modify, this]⟩
variable {P : Program}
theorem run_load_row {w : World} {b : Nat} {t : TypeId} {n : Nat} {f : Nat → Value} (h : w.rowIs b t n f) {d : TypeDesc} (hu : P.underlying t = some d) (hd : (match d with | .struct _ | .array _ _ => true | _ => false) = true) (hi : (P.info? t).map (·.size) = some n)
    (cs : Array Value) (hn : cs.size = n) (hf : ∀ i, i < n → cs[i]? = some (f i)) :
    (Instr.loadAt t (.pointer (some ⟨b, 0, none⟩))).run P w = .ok (.agg cs) w := by
 obtain ⟨c, hc, hs, hf'⟩ := h
 have e : c = cs := by
  apply Array.ext_getElem?
  intro i
  by_cases hi : i < n
  ·rw [hf' i hi, hf i hi]
  ·rw [Array.getElem?_eq_none (by omega), Array.getElem?_eq_none (by omega)]
 subst e
 simp only [Instr.loadAt, Instr.sureAddr, Sem.run_bind, Sem.run_pure, Result.andThen]
 exact run_loadVar_row w b t t c (0, 0) d hc hu hd (by rw [hi, hs])
theorem zi0 (cs : Array Value) (i : Nat) (h : i < cs.size) : cs[i]? = some (cs.getD i undef) := by simp [h]
theorem zni {w : World} {g : Nat} {t : TypeId} {old : Array Value} (h : w.heap[g]? = some (.cells old t (0, 0))) (cs : Array Value) : (w.setRow g cs).heap[g]? = some (.cells cs t (0, 0)) := by
 unfold World.setRow
 simp [Array.getElem?_modify, h]
theorem zec (w : World) (g : Nat) (cs : Array Value) : (w.setRow g cs).heap.size = w.heap.size := by unfold World.setRow; simp
theorem znu {fn : Func} {R : Ending → World → Prop} {a : Act} {w : World} {p : Tmp} {ty : TypeId} (h : fn.results = #[.cell p ty]) (g : Nat) (t : TypeId) (cs : Array Value) (fr : Nat × Nat) (d : TypeDesc)
    (hp : a.tmps.getD p undef = .pointer (some ⟨g, 0, none⟩)) (hg : w.heap[g]? = some (.cells cs t fr))
    (hu : P.underlying ty = some d) (hd : (match d with | .struct _ | .array _ _ => true | _ => false) = true) (hi : (P.info? ty).map (·.size) = some cs.size) (hdf : a.defers = [])
    (hR : R (.returned (.agg cs)) w) : bodyPost P fn R .ret a w :=
 bodyPost_ret (results_cell_row h a.tmps w g t cs fr d hp hg hu hd hi) hdf hR

structure RowSpec where
 b : Nat
 t : TypeId
 n : Nat
 f : Nat → Value

def RowSpec.at_ (r : RowSpec) (w : World) : Prop := w.rowIs r.b r.t r.n r.f

structure HS (w0 w : World) (rows : List RowSpec) : Prop where
 os : w.os = w0.os
 tape : w.tape = w0.tape
 output : w.output = w0.output
 size : w0.heap.size ≤ w.heap.size
 block : ∀ k, k < w0.heap.size → (∀ r ∈ rows, r.b ≠ k) → w.heap[k]? = w0.heap[k]?
 has : ∀ r ∈ rows, r.at_ w
 apart : rows.Pairwise fun r s => r.b ≠ s.b

section
variable {w0 w w' : World} {rows : List RowSpec}
theorem HS.nil (w : World) : HS w w [] := ⟨rfl, rfl, rfl, Nat.le_refl _, fun _ _ _ => rfl, fun _ h => (by cases h), List.Pairwise.nil⟩
theorem HS.own {b : Nat} {t : TypeId} {n : Nat} {f : Nat → Value} (h : w.rowIs b t n f) : HS w w [⟨b, t, n, f⟩] :=
 ⟨rfl, rfl, rfl, Nat.le_refl _, fun _ _ _ => rfl, fun r hr => by obtain rfl := List.mem_singleton.1 hr; exact h, List.pairwise_singleton _ _⟩
theorem HS.row (h : HS w0 w rows) (k : Nat) {r : RowSpec} (hk : rows[k]? = some r) : w.rowIs r.b r.t r.n r.f := h.has r (List.mem_of_getElem? hk)
theorem HS.cell (h : HS w0 w rows) (k i : Nat) {b : Nat} {t : TypeId} {n : Nat} {f : Nat → Value} (hk : rows[k]? = some ⟨b, t, n, f⟩) (hi : i < n) : w.cell? ⟨b, i, none⟩ = some (f i) := (h.row k hk).cell hi
theorem HS.frozen (h : HS w0 w rows) (k i : Nat) {b : Nat} {t : TypeId} {n : Nat} {f : Nat → Value} (hk : rows[k]? = some ⟨b, t, n, f⟩) : w.frozen? ⟨b, i, none⟩ = false := (h.row k hk).frozen i
theorem HS.lt (h : HS w0 w rows) (k : Nat) {b : Nat} {t : TypeId} {n : Nat} {f : Nat → Value} (hk : rows[k]? = some ⟨b, t, n, f⟩) : b < w.heap.size := (h.row k hk).lt
theorem HS.drew (h : HS w0 w rows) : HS w0 w.drew rows := ⟨h.os, h.tape, h.output, h.size, h.block, h.has, h.apart⟩
theorem HS.drewN (h : HS w0 w rows) (n : Nat) : HS w0 (w.drewN n) rows := ⟨h.os, h.tape, h.output, h.size, h.block, h.has, h.apart⟩
theorem HS.below (h : HS w0 w rows) (hb : Below w.heap.size w w') : HS w0 w' rows :=
 ⟨hb.os.trans h.os, hb.tape.trans h.tape, hb.output.trans h.output, lT h.size hb.size, fun k hk hr => (hb.block k (Nat.lt_of_lt_of_le hk h.size)).trans (h.block k hk hr),
  fun r hr => zaj (h.has r hr) hb (h.has r hr).lt, h.apart⟩
theorem HS.alloc (h : HS w0 w rows) (cs : Array Value) (t : TypeId) (n : Nat) (f : Nat → Value) (hn : cs.size = n) (hc : ∀ i, i < n → cs[i]? = some (f i)) : HS w0 (w.alloc (.cells cs t)) (⟨w.heap.size, t, n, f⟩ :: rows) := by
 subst hn
 have h1 := h.below (w' := w.alloc (.cells cs t)) ((Below.refl _ _).alloc lR _)
 refine ⟨h1.os, h1.tape, h1.output, h1.size, fun k hk hr => h1.block k hk (fun r hr' => hr r (List.mem_cons_of_mem _ hr')), ?_, ?_⟩
 ·intro r hr
  rcases List.mem_cons.1 hr with rfl | hr
  ·exact World.rowIs_alloc w cs t f hc
  ·exact h1.has r hr
 ·exact List.Pairwise.cons (fun s hs => by have := (h.has s hs).lt; show w.heap.size ≠ s.b; omega) h.apart
theorem HS.allocB (h : HS w0 w rows) (b : Nat) (cs : Array Value) (t : TypeId) (n : Nat) (f : Nat → Value) (hn : cs.size = n) (hc : ∀ i, i < n → cs[i]? = some (f i)) (hb : w.heap.size = b) : HS w0 (w.alloc (.cells cs t)) (⟨b, t, n, f⟩ :: rows) := by
 subst hb; exact h.alloc cs t n f hn hc
theorem zjn {α : Type} {l : List α} {k : Nat} {x y : α} (h : y ∈ l.set k x) : y = x ∨ ∃ j, j ≠ k ∧ l[j]? = some y := by
 obtain ⟨j, hj⟩ := List.getElem?_of_mem h
 by_cases e : k = j
 ·subst e
  rw [List.getElem?_set] at hj
  simp at hj
  obtain ⟨_, rfl⟩ := hj
  exact .inl rfl
 ·rw [List.getElem?_set_ne (by omega)] at hj
  exact .inr ⟨j, by omega, hj⟩
theorem zrm (l : List RowSpec) (hp : l.Pairwise fun r s => r.b ≠ s.b) : ∀ (k : Nat) (x y : RowSpec), l[k]? = some y → x.b = y.b → (l.set k x).Pairwise fun r s => r.b ≠ s.b := by
 induction l with
 | nil => intro k x y hk; simp at hk
 | cons a l ih =>
  intro k x y hk hb
  rw [List.pairwise_cons] at hp
  cases k with
  | zero =>
   simp at hk; subst hk
   simp only [List.set_cons_zero, List.pairwise_cons]
   exact ⟨fun s hs => by rw [hb]; exact hp.1 s hs, hp.2⟩
  | succ k =>
   simp at hk
   simp only [List.set_cons_succ, List.pairwise_cons]
   refine ⟨fun s hs => ?_, ih hp.2 k x y hk hb⟩
   rcases zjn hs with rfl | ⟨j, _, hj⟩
   ·rw [hb]; exact hp.1 y (List.mem_of_getElem? hk)
   ·exact hp.1 s (List.mem_of_getElem? hj)
theorem HS.apart' (h : HS w0 w rows) {i j : Nat} {r s : RowSpec} (hi : rows[i]? = some r) (hj : rows[j]? = some s) (hij : i ≠ j) : r.b ≠ s.b := by
 have hp := h.apart
 rw [List.pairwise_iff_getElem] at hp
 obtain ⟨hi', ei⟩ := List.getElem?_eq_some_iff.1 hi
 obtain ⟨hj', ej⟩ := List.getElem?_eq_some_iff.1 hj
 rcases Nat.lt_or_ge i j with hl | hl
 ·have := hp i j hi' hj' hl; rwa [ei, ej] at this
 ·have := hp j i hj' hi' (by omega); rw [ei, ej] at this; exact fun e => this e.symm
theorem HS.write (h : HS w0 w rows) (k : Nat) {b : Nat} {t : TypeId} {n : Nat} {f g : Nat → Value} (hk : rows[k]? = some ⟨b, t, n, f⟩) (hg : w.grownBy w' (some b)) (hr : w'.rowIs b t n g) : HS w0 w' (rows.set k ⟨b, t, n, g⟩) := by
 refine ⟨hg.os.trans h.os, hg.tape.trans h.tape, hg.output.trans h.output, lT h.size hg.size, ?_, ?_, zrm rows h.apart k _ _ hk rfl⟩
 ·intro i hi hne
  have hib : i ≠ b := by
   rintro rfl
   obtain ⟨hk', _⟩ := List.getElem?_eq_some_iff.1 hk
   exact hne ⟨i, t, n, g⟩ (List.mem_of_getElem? (i := k) (by rw [List.getElem?_set]; simp [hk'])) rfl
  rw [hg.block i (Nat.lt_of_lt_of_le hi h.size) (fun e => hib (by injection e))]
  refine h.block i hi (fun r hr' => ?_)
  rintro rfl
  obtain ⟨j, hj⟩ := List.getElem?_of_mem hr'
  by_cases e : k = j
  ·subst e
   rw [hk] at hj; injection hj with hj; subst hj
   exact hib rfl
  ·exact hne r (List.mem_of_getElem? (i := j) (by rw [List.getElem?_set_ne e]; exact hj)) rfl
 ·intro r hr'
  rcases zjn hr' with rfl | ⟨j, hjk, hj⟩
  ·exact hr
  ·have h1 := h.row j hj
   exact h1.of_block (hg.block _ h1.lt (fun e => by injection e with e; exact h.apart' hj hk hjk e))
theorem HS.set (h : HS w0 w rows) (k i : Nat) {b : Nat} {t : TypeId} {n : Nat} {f : Nat → Value} (hk : rows[k]? = some ⟨b, t, n, f⟩) (v : Value) : HS w0 (w.setCell ⟨b, i, none⟩ v) (rows.set k ⟨b, t, n, fun j => if j = i then v else f j⟩) :=
 h.write k hk (zbv (World.grownBy.refl _ _) (.inl rfl) _) ((h.row k hk).set i v)
theorem HS.setRow (h : HS w0 w rows) (k : Nat) {b : Nat} {t : TypeId} {n : Nat} {f : Nat → Value} (hk : rows[k]? = some ⟨b, t, n, f⟩) (cs : Array Value) (hn : cs.size = n) (g : Nat → Value) (hg : ∀ i, i < n → cs[i]? = some (g i)) : HS w0 (w.setRow b cs) (rows.set k ⟨b, t, n, g⟩) :=
 h.write k hk ⟨rfl, rfl, rfl, by rw [zec]; exact Nat.le_refl _, fun i _ hne => by
  unfold World.setRow
  have : ¬ b = i := fun e => hne (by rw [e])
  simp [Array.getElem?_modify, this]⟩ (World.rowIs_setRow (h.row k hk) cs hn g hg)
theorem HS.congr (h : HS w0 w rows) (k : Nat) {b : Nat} {t : TypeId} {n : Nat} {f g : Nat → Value} (hk : rows[k]? = some ⟨b, t, n, f⟩) (e : ∀ i, i < n → f i = g i) : HS w0 w (rows.set k ⟨b, t, n, g⟩) := by
 have := h.write (w' := w) k hk (World.grownBy.refl _ _) ((h.row k hk).congr e)
 exact this
theorem HS.drop {r : RowSpec} (h : HS w0 w (r :: rows)) (hr : w0.heap.size ≤ r.b) : HS w0 w rows :=
 ⟨h.os, h.tape, h.output, h.size, fun k hk hne => h.block k hk (fun s hs => by
  rcases List.mem_cons.1 hs with rfl | hs
  ·omega
  ·exact hne s hs), fun s hs => h.has s (List.mem_cons_of_mem _ hs), (List.pairwise_cons.1 h.apart).2⟩
theorem HS.add (h : HS w0 w rows) {b : Nat} {t : TypeId} {n : Nat} {f : Nat → Value} (hr : w.rowIs b t n f) (_hb : w0.heap.size ≤ b) (hne : ∀ r ∈ rows, r.b ≠ b) : HS w0 w (⟨b, t, n, f⟩ :: rows) :=
 ⟨h.os, h.tape, h.output, h.size, fun k hk hr' => h.block k hk (fun s hs => hr' s (List.mem_cons_of_mem _ hs)), fun r hr' => by
  rcases List.mem_cons.1 hr' with rfl | hr'
  ·exact hr
  ·exact h.has r hr', List.Pairwise.cons (fun s hs => fun e => hne s hs e.symm) h.apart⟩
theorem HS.take (h : HS w0 w rows) {b : Nat} {t : TypeId} {n : Nat} {f : Nat → Value} (hr : w.rowIs b t n f) (hne : ∀ r ∈ rows, r.b ≠ b) : HS w0 w (⟨b, t, n, f⟩ :: rows) :=
 ⟨h.os, h.tape, h.output, h.size, fun k hk hr' => h.block k hk (fun s hs => hr' s (List.mem_cons_of_mem _ hs)), fun r hr' => by
  rcases List.mem_cons.1 hr' with rfl | hr'
  ·exact hr
  ·exact h.has r hr', List.Pairwise.cons (fun s hs => fun e => hne s hs e.symm) h.apart⟩
theorem HS.bel (h : HS w0 w []) : Below w0.heap.size w0 w := ⟨h.os, h.tape, h.output, h.size, fun k hk => h.block k hk (fun _ hr => by cases hr)⟩
theorem HS.out (h : HS w0 w rows) (hr : ∀ r ∈ rows, w0.heap.size ≤ r.b) : Below w0.heap.size w0 w := ⟨h.os, h.tape, h.output, h.size, fun k hk => h.block k hk (fun r hr' => by have := hr r hr'; omega)⟩
theorem HS.grown (h : HS w0 w rows) (b : Nat) (hr : ∀ r ∈ rows, w0.heap.size ≤ r.b ∨ r.b = b) : w0.grownBy w (some b) :=
 ⟨h.os, h.tape, h.output, h.size, fun k hk hne => h.block k hk (fun r hr' e => by
  rcases hr r hr' with h1 | h1
  ·omega
  ·exact hne (by rw [← e, h1]))⟩
theorem HS.heap (h : HS w0 w rows) (k : Nat) {b : Nat} {t : TypeId} {n : Nat} {f : Nat → Value} (hk : rows[k]? = some ⟨b, t, n, f⟩) : ∃ c, w.heap[b]? = some (.cells c t (0, 0)) ∧ c.size = n ∧ ∀ i, i < n → c[i]? = some (f i) := h.row k hk
theorem HS.old (h : HS w0 w rows) {B : Nat} (hB : B ≤ w0.heap.size) (hr : ∀ r ∈ rows, B ≤ r.b) : Below B w0 w := ⟨h.os, h.tape, h.output, h.size, fun k hk => h.block k (by omega) (fun r hr' => by have := hr r hr'; omega)⟩
end

theorem zgw (w : World) (o : Obj) : (w.alloc o).heap.size = w.heap.size + 1 := by unfold World.alloc; exact Array.size_push _
theorem zpi (n : Nat) (v : Value) (i : Nat) (h : i < n) : (Array.replicate n v)[i]? = some v := by simp [h]
theorem HS.go {P : Program} {w0 w : World} {rows : List RowSpec} {c : Code} {Q : Exit → Act → World → Prop} {a : Act} (h : HS w0 w rows) (k : ∀ w', HS w0 w' rows → c.wp P Q a w') : c.wp P Q a w := k w h
theorem HS.goC {P : Program} {w0 w : World} {rows : List RowSpec} {f : FuncId} {args : Array Value} {R : Ending → World → Prop} (h : HS w0 w rows) (k : ∀ w', HS w0 w' rows → Calls P f args w' R) : Calls P f args w R := k w h
theorem zbg (n : Nat) (v : Value) : ∀ i, i < n → (Array.replicate n v)[i]? = some v := fun i h => by simp [h]
def arr (n : Nat) (f : Nat → Value) : Array Value := ((List.range n).map f).toArray
theorem zam (n : Nat) (f : Nat → Value) : (arr n f).size = n := by simp [arr]
theorem zaq (n : Nat) (f : Nat → Value) (i : Nat) (h : i < n) : (arr n f)[i]? = some (f i) := by simp [arr, h]
theorem zfb (cs : Array Value) (n : Nat) (f : Nat → Value) (hn : cs.size = n) (h : ∀ i, i < n → cs[i]? = some (f i)) : cs = arr n f := by
 apply Array.ext_getElem?
 intro i
 by_cases hi : i < n
 ·rw [h i hi, zaq n f i hi]
 ·rw [Array.getElem?_eq_none (by omega), Array.getElem?_eq_none (by rw [zam]; omega)]
theorem zca {n : Nat} {f g : Nat → Value} (h : ∀ i, i < n → f i = g i) : arr n f = arr n g := by
 unfold arr; rw [List.map_congr_left (fun i hi => h i (List.mem_range.1 hi))]
theorem zex {w : World} {b : Nat} {t : TypeId} {n : Nat} {f : Nat → Value} (h : w.rowIs b t n f) : w.heap[b]? = some (.cells (arr n f) t (0, 0)) := by
 obtain ⟨c, hc, hs, hf⟩ := h
 rw [← zfb c n f hs hf]; exact hc
section
variable {P : Program}
theorem zi1 (w : World) (g o n : Nat) (f : Nat → Value) (h : ∀ i, i < n → w.cell? ⟨g, o + i, none⟩ = some (f i)) : (loadCells ⟨g, o, none⟩ n).run P w = .ok (arr n f) w := by
 have := run_loadCells_list (P := P) w ⟨g, o, none⟩ ((List.range n).map f) (fun j v hj => by
  have hjl : j < n := by
   rcases Nat.lt_or_ge j n with h | h
   ·exact h
   ·simp [h] at hj
  have e : (⟨g, o, none⟩ : Addr).add j = ⟨g, o + j, none⟩ := by unfold Addr.add; split <;> simp_all
  rw [e, h j hjl]
  simp [hjl] at hj
  exact congrArg some hj)
 simpa [arr] using this
theorem zi2 (w : World) (g o n : Nat) (ty : TypeId) (d : TypeDesc) (f : Nat → Value) (h : ∀ i, i < n → w.cell? ⟨g, o + i, none⟩ = some (f i)) (hu : P.underlying ty = some d) (hd : (match d with | .struct _ | .array _ _ => true | _ => false) = true) (hi : (P.info? ty).map (·.size) = some n) :
 (loadVar ty ⟨g, o, none⟩).run P w = .ok (.agg (arr n f)) w := by
 cases hq : P.info? ty with
 | none => rw [hq] at hi; simp at hi
 | some i =>
  have hs : i.size = n := by rw [hq] at hi; simpa using hi
  have hagg : (isAgg ty).run P w = .ok true w := by
   unfold isAgg
   rw [Sem.run_bind, run_underlying hu w]
   cases d <;> simp_all
  simp [loadVar, Sem.run_bind, hagg, sizeOf, typeInfo, hq, hs, zi1 w g o n f h]
theorem zax (w : World) (g o n : Nat) (ty : TypeId) (d : TypeDesc) (f : Nat → Value) (h : ∀ i, i < n → w.cell? ⟨g, o + i, none⟩ = some (f i)) (hu : P.underlying ty = some d) (hd : (match d with | .struct _ | .array _ _ => true | _ => false) = true) (hi : (P.info? ty).map (·.size) = some n) :
 (Instr.loadAt ty (.pointer (some ⟨g, o, none⟩))).run P w = .ok (.agg (arr n f)) w := by
 simp only [Instr.loadAt, Instr.sureAddr, Sem.run_bind, Sem.run_pure, Result.andThen]
 exact zi2 w g o n ty d f h hu hd hi
theorem zf8 {w : World} {b : Nat} {t : TypeId} {n : Nat} {f : Nat → Value} (h : w.rowIs b t n f) (ty : TypeId) (cs : Array Value) (hn : cs.size = n) (hi : (P.info? ty).map (·.size) = some n) (h1 : ∀ i, i < n → ∃ v, cs[i]? = some v ∧ v.oneCell' = true) :
 (Instr.storeAt ty (.pointer (some ⟨b, 0, none⟩)) (.agg cs)).run P w = .ok () (w.setRow b cs) := by
 obtain ⟨c, hc, hs, hf⟩ := h
 simp only [Instr.storeAt, Instr.sureAddr, Sem.run_bind, Sem.run_pure, Result.andThen]
 refine run_storeVar_row w b t ty c cs hc (by rw [hi, hn]) (by omega) ?_
 rw [Array.all_eq_true_iff_forall_mem]
 intro x hx
 obtain ⟨i, hi, rfl⟩ := Array.mem_iff_getElem.1 hx
 obtain ⟨v, hv, h2⟩ := h1 i (by omega)
 rw [Array.getElem?_eq_getElem hi] at hv
 injection hv with hv; rw [hv]; exact h2
theorem zag {ops : Array Oper} {rest : List Oper} {o : Oper} {a : Act} {w : World} {Q : Exit → Act → World → Prop} (hgd : o.guard = none) (ty : TypeId) (x : Operand) (ho : o.op = .load ty x)
    (g off n : Nat) (f : Nat → Value) (hx : a.eval x = .pointer (some ⟨g, off, none⟩)) (d : TypeDesc) (h : ∀ i, i < n → w.cell? ⟨g, off + i, none⟩ = some (f i))
    (hu : P.underlying ty = some d) (hd : (match d with | .struct _ | .array _ _ => true | _ => false) = true) (hi : (P.info? ty).map (·.size) = some n)
    (cs : Array Value) (hcs : arr n f = cs) (hK : wpList P ops Q rest (a.put o.dst (.agg cs)) w) : wpList P ops Q (o :: rest) a w :=
 wpList_plain hgd fun _ hK' => by
  unfold Oper.wp execOp
  simp only [ho, hx, Sem.run_bind, zax w g off n ty d f h hu hd hi, Result.andThen_ok, Sem.run_pure]
  rw [hcs]
  exact hK' _ _ hK
theorem zcb {ops : Array Oper} {rest : List Oper} {o : Oper} {a : Act} {w : World} {Q : Exit → Act → World → Prop} (hgd : o.guard = none) (ty : TypeId) (x y : Operand) (ho : o.op = .store ty x y)
    {b : Nat} {t : TypeId} {n : Nat} {f : Nat → Value} (hr : w.rowIs b t n f) (cs : Array Value) (hx : a.eval x = .pointer (some ⟨b, 0, none⟩)) (hy : a.eval y = .agg cs) (hn : cs.size = n) (hi : (P.info? ty).map (·.size) = some n)
    (h1 : ∀ i, i < n → ∃ v, cs[i]? = some v ∧ v.oneCell' = true)
    (hK : wpList P ops Q rest (a.put o.dst undef) (w.setRow b cs)) : wpList P ops Q (o :: rest) a w :=
 wpList_plain hgd fun _ hK' => by
  unfold Oper.wp execOp
  simp only [ho, hx, hy, Sem.run_bind, zf8 hr ty cs hn hi h1, Result.andThen_ok, Sem.run_pure]
  exact hK' _ _ hK
theorem zbx {ops : Array Oper} {rest : List Oper} {o : Oper} {a : Act} {w : World} {Q : Exit → Act → World → Prop} (hgd : o.guard = none) (t : TypeId) (parts : Array (Nat × Operand)) (ho : o.op = .build t parts)
    (vs : List (Nat × Value)) (hvs : parts.toList.map (fun p => (p.1, a.eval p.2)) = vs) (cs : Array Value) (hb : P.built t vs = some cs) (hK : wpList P ops Q rest (a.put o.dst (.agg cs)) w) : wpList P ops Q (o :: rest) a w :=
 wpList_plain hgd fun _ hK' => by
  have hvs' : (parts.map fun (i, x) => (i, a.eval x)).toList = vs := by rw [← hvs]; simp
  subst hvs'
  unfold Oper.wp execOp
  simp only [ho, Sem.run_bind, run_build w t _ cs hb, Result.andThen_ok]
  exact hK' _ _ hK
theorem za5 {fn : Func} {R : Ending → World → Prop} {a : Act} {w : World} {p : Tmp} {ty : TypeId} (h : fn.results = #[.cell p ty]) {b : Nat} {t : TypeId} {n : Nat} {f : Nat → Value} (hr : w.rowIs b t n f) (d : TypeDesc)
    (hp : a.tmps.getD p undef = .pointer (some ⟨b, 0, none⟩))
    (hu : P.underlying ty = some d) (hd : (match d with | .struct _ | .array _ _ => true | _ => false) = true) (hi : (P.info? ty).map (·.size) = some n) (hdf : a.defers = [])
    (hR : R (.returned (.agg (arr n f))) w) : bodyPost P fn R .ret a w :=
 znu h b t _ (0, 0) d hp (zex hr) hu hd (by rw [hi, zam]) hdf hR
def zeroOf (P : Program) (t : TypeId) : Array Value := match (P.info? t).bind (·.zero) with | some (.agg cs) => cs | _ => #[]
theorem zjo {ops : Array Oper} {rest : List Oper} {o : Oper} {a : Act} {w : World} {Q : Exit → Act → World → Prop} (hgd : o.guard = none) (t : TypeId) (ho : o.op = .alloc t) (cs : Array Value)
    (hz : (P.info? t).bind (·.zero) = some (.agg cs)) (hK : wpList P ops Q rest (a.put o.dst (.pointer (some ⟨w.heap.size, 0, none⟩))) (w.alloc (.cells cs t))) : wpList P ops Q (o :: rest) a w :=
 wpList_plain hgd fun _ hK' => by
  cases hq : P.info? t with
  | none => rw [hq] at hz; simp at hz
  | some i =>
   rw [hq] at hz
   simp at hz
   have hr : (Instr.alloc t true (.tuple #[])).run P w = .ok (.pointer (some ⟨w.heap.size, 0, none⟩)) (w.alloc (.cells cs t)) := by
    simp [Instr.alloc, zeroValue, typeInfo, hq, hz, newVar, Value.cells, go_sem]
   unfold Oper.wp execOp
   simp only [ho, Sem.run_bind, hr, Result.andThen_ok, Sem.run_pure]
   exact hK' _ _ hK
end
end Go.Proofs.YtomilckcgmhfcaaDoor
namespace Go.Proofs.YtomilckcgmhfcaaDoor
set_option maxRecDepth 40000
set_option maxHeartbeats 64000000
open Go.RowKit Go.ChangeShapes Go.WideShapes Go.ChangeAt Go.Deep

def leafAt (P : Program) : Nat → TypeId → Nat → Option TypeId
  | 0, _, _ => none
  | f + 1, t, i => match P.underlying t with
   | some (.struct fs) => (fs.toList.find? fun x => decide (x.offset ≤ i) && decide (i < x.offset + P.cellsOf x.type)).bind fun x => leafAt P f x.type (i - x.offset)
   | some (.array n e) => if i / P.cellsOf e < n then leafAt P f e (i % P.cellsOf e) else none
   | some _ => if i = 0 then some t else none
   | none => none

def nat (v : Value) : Nat := match v with | .int _ n => n.toNat | _ => 0
def bln (v : Value) : Bool := match v with | .bool b => b | _ => false
theorem zka (k : IntKind) (n : Nat) : nat (.int k (n : Int)) = n := by simp [nat]
theorem zgx {cs : Array Value} (i : Nat) (h : i < cs.size) : cs[i]? = some (cs.getD i undef) := by simp [Array.getD, h]
theorem zgy (cs : Array Value) : cs = arr cs.size (fun i => cs.getD i undef) := zfb cs _ _ rfl fun i hi => zgx i hi

section
variable {H : Type} {enc : TypeId × Value → H} {P : Program} {w : World} {base : Nat} {spare : Nat → Bool} {held : Bool}
theorem zho : ∀ (f : Nat) (t : TypeId) (i : Nat) (l : TypeId) (fuel : Nat) (cs : List Value) (y : DataW H × List MemPlace), leafAt P f t i = some l → DataW.trod enc P w base spare held fuel t cs = some y →
 ∃ v m y', cs[i]? = some v ∧ DataW.trod enc P w base spare held m l [v] = some y'
 | 0, _, _, _, _, _, _, h, _ => by cases h
 | f + 1, t, i, l, fuel, cs, y, h, hd => by
  unfold leafAt at h
  have sub : ∀ (o k : Nat) (v : Value), ((cs.drop o).take k)[i - o]? = some v → o ≤ i → cs[i]? = some v := fun o k v hv ho => by
   rw [List.getElem?_take] at hv
   split at hv
   ·rw [List.getElem?_drop] at hv; rwa [show o + (i - o) = i by omega] at hv
   ·cases hv
  split at h
  ·rename_i fs hu
   obtain ⟨xs, n, _, _, _, hxl, hf⟩ := DataW.trod_struct hu hd
   cases hfi : fs.toList.find? (fun x => decide (x.offset ≤ i) && decide (i < x.offset + P.cellsOf x.type)) with
   | none => rw [hfi] at h; cases h
   | some x =>
    rw [hfi] at h
    have hp := List.find?_some hfi
    simp only [Bool.and_eq_true, decide_eq_true_eq] at hp
    obtain ⟨k, hk, hkx⟩ := List.mem_iff_getElem.1 (List.mem_of_find?_eq_some hfi)
    have hk' : k < fs.size := by simpa using hk
    have h1 := hf k x (by rw [← hkx]; simp [hk'])
    rw [List.getElem?_eq_getElem (by omega)] at h1
    obtain ⟨v, m, y', hv, hy⟩ := zho f x.type (i - x.offset) l n _ _ h h1
    exact ⟨v, m, y', sub _ _ _ hv hp.1, hy⟩
  ·rename_i n e hu
   split at h
   ·rename_i hlt
    obtain ⟨xs, m, _, _, _, hxl, hf⟩ := DataW.trod_array hu hd
    have h1 := hf _ hlt
    rw [List.getElem?_eq_getElem (by omega)] at h1
    obtain ⟨v, m, y', hv, hy⟩ := zho f e _ l m _ _ h h1
    have hdm : i / P.cellsOf e * P.cellsOf e + i % P.cellsOf e = i := Nat.div_add_mod' i (P.cellsOf e)
    exact ⟨v, m, y', sub _ _ _ (by rwa [show i - i / P.cellsOf e * P.cellsOf e = i % P.cellsOf e by omega]) (by omega), hy⟩
   ·cases h
  ·rename_i d hd1 hd2 hu
   split at h
   ·rename_i h0
    injection h with h
    subst h h0
    have : ∃ v, cs = [v] := by
     cases fuel with
     | zero => simp [DataW.trod] at hd
     | succ n =>
      unfold DataW.trod at hd
      rw [hu] at hd
      split at hd <;> first | exact ⟨_, rfl⟩ | (cases hd; done) | simp_all
    obtain ⟨v, rfl⟩ := this
    exact ⟨v, _, _, rfl, hd⟩
   ·cases h
  ·cases h
end

def TyF {H : Type} (enc : TypeId × Value → H) (P : Program) (w : World) (F : Nat → Value) (T : TypeId) : Prop := ∀ i l, leafAt P 8 T i = some l → ∃ m y, DataW.trod enc P w 0 (fun _ => true) true m l [F i] = some y

section
variable {H : Type} {enc : TypeId × Value → H} {P : Program} {w : World} {F : Nat → Value} {T l : TypeId}
theorem TyF.of_trod {fuel : Nat} {cs : List Value} {y : DataW H × List MemPlace} (h : DataW.trod enc P w 0 (fun _ => true) true fuel T cs = some y) (hF : ∀ i v, cs[i]? = some v → F i = v) : TyF enc P w F T := fun i l hl => by
 obtain ⟨v, m, y', hv, hy⟩ := zho 8 T i l fuel cs y hl h
 rw [hF i v hv]
 exact ⟨m, y', hy⟩
theorem TyF.int (h : TyF enc P w F T) (i : Nat) (hl : leafAt P 8 T i = some l) {k : IntKind} (hu : P.underlying l = some (.int k)) : ∃ n, F i = .int k n ∧ (Lit.int k n).wf = true := by
 obtain ⟨m, y, hy⟩ := h i l hl
 obtain ⟨n, e, _, hw⟩ := DataW.trod_int hu hy
 injection e with e _
 exact ⟨n, e, hw⟩
theorem TyF.u64 (h : TyF enc P w F T) (i : Nat) (hl : leafAt P 8 T i = some l) (hu : P.underlying l = some (.int .u64)) : F i = .int .u64 ((nat (F i) : Nat) : Int) ∧ nat (F i) < 18446744073709551616 := by
 obtain ⟨n, e, hw⟩ := h.int i hl hu
 have := zvi hw
 rw [e]
 simp only [nat, Int.toNat_of_nonneg this.1, true_and]
 omega
theorem TyF.u8 (h : TyF enc P w F T) (i : Nat) (hl : leafAt P 8 T i = some l) (hu : P.underlying l = some (.int .u8)) : F i = .int .u8 ((nat (F i) : Nat) : Int) ∧ nat (F i) < 256 := by
 obtain ⟨n, e, hw⟩ := h.int i hl hu
 have := zw9 hw
 rw [e]
 simp only [nat, Int.toNat_of_nonneg this.1, true_and]
 omega
theorem TyF.bool (h : TyF enc P w F T) (i : Nat) (hl : leafAt P 8 T i = some l) (hu : P.underlying l = some .bool) : F i = .bool (bln (F i)) := by
 obtain ⟨m, y, hy⟩ := h i l hl
 obtain ⟨n, e, _⟩ := DataW.trod_bool hu hy
 injection e with e _
 rw [e]; rfl
theorem TyF.slice (h : TyF enc P w F T) (i : Nat) (hl : leafAt P 8 T i = some l) {e : TypeId} (hu : P.underlying l = some (.slice e)) {k : Nat} (hk : P.cellsOf e = k) (hk0 : 0 < k) :
 ∃ A n c G, F i = .slice A n c ∧ n ≤ c ∧ c ≤ maxLen ∧ Rd w w.heap.size A (n * k) G ∧ (∀ j, j < n → TyF enc P w (fun q => G (j * k + q)) e) ∧ (A = none → c = 0) := by
 obtain ⟨m, y, hy⟩ := h i l hl
 rcases open_slice hu hy with ⟨hcs, _⟩ | ⟨a, len, cap, m', fuel, D, Pl, hcs, _, hlc, hcm, hm', _, hel⟩
 ·injection hcs with hcs
  exact ⟨none, 0, 0, fun _ => undef, hcs, Nat.le_refl _, Nat.zero_le _, by rw [Nat.zero_mul]; exact Rd.none_, fun j hj => absurd hj (Nat.not_lt_zero _), fun _ => rfl⟩
 ·injection hcs with hcs
  simp only [if_true] at hm'
  subst hm'
  obtain ⟨cf, hcf⟩ := choose_lt hel
  rw [hk] at hcf
  have hcell : ∀ j, j < m' → (cf j).length = k ∧ ∀ q, q < k → w.cell? ((a.add (j * k)).add q) = (cf j)[q]? := fun j hj => by
   have h1 := World.cells?_some (hcf j hj).1
   exact ⟨h1.2.1, h1.2.2⟩
  refine ⟨some a, len, m', fun x => (cf (x / k)).getD (x % k) undef, hcs, hlc, hcm, fun hn => ?_, fun j hj => ?_, fun h => by cases h⟩
  ·have h0 : 0 < len := Nat.pos_of_mul_pos_right hn
   have hd : ∀ x, x < len * k → x / k < m' ∧ x % k < k := fun x hx => ⟨Nat.lt_of_lt_of_le (Nat.div_lt_of_lt_mul (by rwa [Nat.mul_comm k]) ) hlc, Nat.mod_lt _ hk0⟩
   have hc : ∀ x, x < len * k → w.cell? (a.add x) = some ((cf (x / k)).getD (x % k) undef) := fun x hx => by
    obtain ⟨h1, h2⟩ := hcell _ (hd x hx).1
    have h3 := h2 _ (hd x hx).2
    rw [zfo, Nat.div_add_mod' x k] at h3
    rw [h3]
    have : x % k < (cf (x / k)).length := by rw [h1]; exact (hd x hx).2
    simp [List.getD, this]
   exact ⟨a, rfl, by have := ztk (hc 0 hn); rwa [za7] at this, hc⟩
  ·have hjm : j < m' := by omega
   refine TyF.of_trod (hcf j hjm).2 fun q v hv => ?_
   have hq : q < k := by
    have := (hcell j hjm).1
    rcases Nat.lt_or_ge q k with h1 | h1
    ·exact h1
    ·rw [List.getElem?_eq_none (by omega)] at hv; cases hv
   have h1 : (j * k + q) / k = j := by rw [Nat.mul_comm, Nat.mul_add_div hk0, Nat.div_eq_of_lt hq, Nat.add_zero]
   have h2 : (j * k + q) % k = q := by rw [Nat.mul_comm, Nat.mul_add_mod, Nat.mod_eq_of_lt hq]
   show (cf ((j * k + q) / k)).getD ((j * k + q) % k) undef = v
   rw [h1, h2]
   simp [List.getD, hv]
theorem zpj {r : Reach} {b0 : Nat} {v : Value} {d : DataW H} {ps : List MemPlace} {desc : TypeDesc} (hu : P.underlying T = some desc) (hd : (match desc with | .struct _ | .array _ _ => true | _ => false) = true) {n : Nat} (hn : P.cellsOf T = n)
    (hval : Value.okWide P w r b0 T v) (h : DataW.Trod enc P w 0 (fun _ => true) true T v d ps) : ∃ F, v = .agg (arr n F) ∧ TyF enc P w F T := by
 have hsh : ∃ cs, v = .agg cs ∧ cs.size = P.cellsOf T := by
  unfold Value.okWide at hval
  rw [hu] at hval
  cases desc <;> first | (obtain ⟨cs, e, hs, _⟩ := hval; exact ⟨cs, e, hs⟩) | (cases hd; done)
 obtain ⟨cs, rfl, hs⟩ := hsh
 obtain ⟨fuel, hf⟩ := h
 refine ⟨fun i => cs.getD i undef, by rw [← hn, ← hs, ← zgy], TyF.of_trod hf fun i v hv => ?_⟩
 simp only [Value.cells] at hv
 rw [Array.getElem?_toList] at hv
 simp [Array.getD, Array.getElem?_eq_some_iff] at hv ⊢
 obtain ⟨h1, h2⟩ := hv
 rw [dif_pos h1]; exact h2
end
end Go.Proofs.YtomilckcgmhfcaaDoor
namespace Go.Proofs.YtomilckcgmhfcaaDoor
set_option maxRecDepth 40000
set_option maxHeartbeats 64000000
open Go.RowKit

def Sc (F : Nat → Value) (T : TypeId) : Prop := ∀ i l, leafAt Tryd.prog 8 T i = some l → match Tryd.prog.underlying l with
 | some (.int .u64) => F i = .int .u64 ((nat (F i) : Nat) : Int) ∧ nat (F i) < 18446744073709551616
 | some (.int .u8) => F i = .int .u8 ((nat (F i) : Nat) : Int) ∧ nat (F i) < 256
 | some .bool => F i = .bool (bln (F i))
 | _ => True
theorem Sc.u64 {F : Nat → Value} {T : TypeId} (h : Sc F T) (i : Nat) (hl : leafAt Tryd.prog 8 T i = some 22) : F i = .int .u64 ((nat (F i) : Nat) : Int) ∧ nat (F i) < 18446744073709551616 := by
 have h1 := h i _ hl
 rw [Ty22] at h1
 exact h1
theorem Sc.u8 {F : Nat → Value} {T : TypeId} (h : Sc F T) (i : Nat) (hl : leafAt Tryd.prog 8 T i = some 5) : F i = .int .u8 ((nat (F i) : Nat) : Int) ∧ nat (F i) < 256 := by
 have h1 := h i _ hl
 rw [Ty5] at h1
 exact h1
theorem Sc.bool {F : Nat → Value} {T : TypeId} (h : Sc F T) (i : Nat) (hl : leafAt Tryd.prog 8 T i = some 4) : F i = .bool (bln (F i)) := by
 have h1 := h i _ hl
 rw [Ty4] at h1
 exact h1
theorem TyF.sc {H : Type} {enc : TypeId × Value → H} {w : World} {F : Nat → Value} {T : TypeId} (h : TyF enc Tryd.prog w F T) : Sc F T := fun i l hl => by
 split
 ·rename_i hu; exact h.u64 i hl hu
 ·rename_i hu; exact h.u8 i hl hu
 ·rename_i hu; exact h.bool i hl hu
 ·trivial
theorem Sc.congr {F G : Nat → Value} {T : TypeId} (h : Sc F T) (e : ∀ i, F i = G i) : Sc G T := by
 obtain rfl : F = G := funext e
 exact h

theorem Sc.one {F : Nat → Value} {T : TypeId} {n : Nat} (h : Sc F T) (hall : (List.range n).all (fun q => match leafAt Tryd.prog 8 T q with | some l => l == 22 || l == 5 || l == 4 | none => false) = true) : ∀ q, q < n → ∃ v, (arr n F)[q]? = some v ∧ v.oneCell' = true := fun q hq => by
 refine ⟨F q, zaq _ _ _ hq, ?_⟩
 have h1 := List.all_eq_true.1 hall q (List.mem_range.2 hq)
 cases hl : leafAt Tryd.prog 8 T q with
 | none => rw [hl] at h1; cases h1
 | some l =>
  rw [hl] at h1
  simp only [Bool.or_eq_true, beq_iff_eq] at h1
  rcases h1 with (rfl | rfl) | rfl
  ·rw [(h.u64 q hl).1]; rfl
  ·rw [(h.u8 q hl).1]; rfl
  ·rw [h.bool q hl]; rfl
structure StV where
 F : Nat → Value
 aV : Option Addr
 nV : Nat
 cV : Nat
 V : Nat → Value
 aB : Option Addr
 nB : Nat
 cB : Nat
 Bal : Nat → Value
 aP : Option Addr
 nP : Nat
 cP : Nat
 Prv : Nat → Value
 aC : Option Addr
 nC : Nat
 cC : Nat
 Cur : Nat → Value
 aS : Option Addr
 nS : Nat
 cS : Nat
 Sco : Nat → Value
 aH : Option Addr
 nH : Nat
 cH : Nat
 His : Nat → Value
 aE : Option Addr
 nE : Nat
 cE : Nat
 Vot : Nat → Value

structure StOk (w : World) (B : Nat) (s : StV) : Prop where
 sc : Sc s.F 49
 f7 : s.F 653 = .slice s.aH s.nH s.cH
 f9 : s.F 719 = .slice s.aE s.nE s.cE
 f11 : s.F 721 = .slice s.aV s.nV s.cV
 f12 : s.F 722 = .slice s.aB s.nB s.cB
 f15 : s.F 987 = .slice s.aP s.nP s.cP
 f16 : s.F 988 = .slice s.aC s.nC s.cC
 f21 : s.F 1092 = .slice s.aS s.nS s.cS
 lV : s.nV ≤ s.cV ∧ s.cV ≤ maxLen
 lB : s.nB ≤ s.cB ∧ s.cB ≤ maxLen
 lP : s.nP ≤ s.cP ∧ s.cP ≤ maxLen
 lC : s.nC ≤ s.cC ∧ s.cC ≤ maxLen
 lS : s.nS ≤ s.cS ∧ s.cS ≤ maxLen
 lH : s.nH ≤ s.cH ∧ s.cH ≤ maxLen
 lE : s.nE ≤ s.cE ∧ s.cE ≤ maxLen
 rV : Rd w B s.aV (s.nV * 86) s.V
 rB : Rd w B s.aB s.nB s.Bal
 rP : Rd w B s.aP s.nP s.Prv
 rC : Rd w B s.aC s.nC s.Cur
 rS : Rd w B s.aS s.nS s.Sco
 rH : Rd w B s.aH (s.nH * 32) s.His
 rE : Rd w B s.aE (s.nE * 65) s.Vot
 scV : ∀ i, i < s.nV → Sc (fun q => s.V (i * 86 + q)) 66
 scB : ∀ i, i < s.nB → s.Bal i = .int .u64 ((nat (s.Bal i) : Nat) : Int) ∧ nat (s.Bal i) < 18446744073709551616
 scP : ∀ i, i < s.nP → s.Prv i = .int .u8 ((nat (s.Prv i) : Nat) : Int) ∧ nat (s.Prv i) < 256
 scC : ∀ i, i < s.nC → s.Cur i = .int .u8 ((nat (s.Cur i) : Nat) : Int) ∧ nat (s.Cur i) < 256
 scS : ∀ i, i < s.nS → s.Sco i = .int .u64 ((nat (s.Sco i) : Nat) : Int) ∧ nat (s.Sco i) < 18446744073709551616
 scH : ∀ i, i < s.nH → Sc (fun q => s.His (i * 32 + q)) 24
 scE : ∀ i, i < s.nE → Sc (fun q => s.Vot (i * 65 + q)) 34

theorem StOk.below {w w' : World} {B : Nat} {s : StV} (h : StOk w B s) (hb : Below B w w') : StOk w' B s :=
 { h with rV := h.rV.below hb, rB := h.rB.below hb, rP := h.rP.below hb, rC := h.rC.below hb, rS := h.rS.below hb, rH := h.rH.below hb, rE := h.rE.below hb }
theorem StOk.more {w : World} {B B' : Nat} {s : StV} (h : StOk w B s) (hB : B ≤ B') : StOk w B' s :=
 { h with rV := h.rV.more hB, rB := h.rB.more hB, rP := h.rP.more hB, rC := h.rC.more hB, rS := h.rS.more hB, rH := h.rH.more hB, rE := h.rE.more hB }
abbrev StV.val (s : StV) : Value := .agg (arr 1957 s.F)

theorem znv {H : Type} {enc : TypeId × Value → H} {w : World} {v : Value} {r : Reach} {b0 : Nat} {d : DataW H} {ps : List MemPlace} (hval : Value.okWide Tryd.prog w r b0 49 v) (h : DataW.Trod enc Tryd.prog w 0 (fun _ => true) true 49 v d ps) :
 ∃ s, v = s.val ∧ StOk w w.heap.size s := by
 obtain ⟨F, rfl, ht⟩ := zpj Ty49 rfl (n := 1957) (by kernel_rfl) hval h
 obtain ⟨aH, nH, cH, His, e7, lH, mH, rH, tH, -⟩ := ht.slice 653 (l := 32) (by kernel_rfl) Ty32 (k := 32) (by kernel_rfl) (by omega)
 obtain ⟨aE, nE, cE, Vot, e9, lE, mE, rE, tE, -⟩ := ht.slice 719 (l := 35) (by kernel_rfl) Ty35 (k := 65) (by kernel_rfl) (by omega)
 obtain ⟨aV, nV, cV, V, e11, lV, mV, rV, tV, -⟩ := ht.slice 721 (l := 36) (by kernel_rfl) Ty36 (k := 86) (by kernel_rfl) (by omega)
 obtain ⟨aB, nB, cB, Bal, e12, lB, mB, rB, tB, -⟩ := ht.slice 722 (l := 37) (by kernel_rfl) Ty37 (k := 1) (by kernel_rfl) (by omega)
 obtain ⟨aP, nP, cP, Prv, e15, lP, mP, rP, tP, -⟩ := ht.slice 987 (l := 39) (by kernel_rfl) Ty39 (k := 1) (by kernel_rfl) (by omega)
 obtain ⟨aC, nC, cC, Cur, e16, lC, mC, rC, tC, -⟩ := ht.slice 988 (l := 39) (by kernel_rfl) Ty39 (k := 1) (by kernel_rfl) (by omega)
 obtain ⟨aS, nS, cS, Sco, e21, lS, mS, rS, tS, -⟩ := ht.slice 1092 (l := 37) (by kernel_rfl) Ty37 (k := 1) (by kernel_rfl) (by omega)
 have one : ∀ {n : Nat} {G : Nat → Value} {e : TypeId}, (∀ j, j < n → TyF enc Tryd.prog w (fun q => G (j * 1 + q)) e) → ∀ j, j < n → TyF enc Tryd.prog w (fun q => G (j + q)) e := fun h j hj => by simpa using h j hj
 refine ⟨⟨F, aV, nV, cV, V, aB, nB, cB, Bal, aP, nP, cP, Prv, aC, nC, cC, Cur, aS, nS, cS, Sco, aH, nH, cH, His, aE, nE, cE, Vot⟩, rfl, ?_⟩
 rw [Nat.mul_one] at rB rP rC rS
 exact {
  sc := ht.sc, f7 := e7, f9 := e9, f11 := e11, f12 := e12, f15 := e15, f16 := e16, f21 := e21
  lV := ⟨lV, mV⟩, lB := ⟨lB, mB⟩, lP := ⟨lP, mP⟩, lC := ⟨lC, mC⟩, lS := ⟨lS, mS⟩, lH := ⟨lH, mH⟩, lE := ⟨lE, mE⟩
  rV := rV, rB := rB, rP := rP, rC := rC, rS := rS, rH := rH, rE := rE
  scV := fun i hi => (tV i hi).sc
  scB := fun i hi => (one tB i hi).u64 0 (l := 22) (by kernel_rfl) Ty22
  scP := fun i hi => (one tP i hi).u8 0 (l := 5) (by kernel_rfl) Ty5
  scC := fun i hi => (one tC i hi).u8 0 (l := 5) (by kernel_rfl) Ty5
  scS := fun i hi => (one tS i hi).u64 0 (l := 22) (by kernel_rfl) Ty22
  scH := fun i hi => (tH i hi).sc
  scE := fun i hi => (tE i hi).sc }
end Go.Proofs.YtomilckcgmhfcaaDoor
