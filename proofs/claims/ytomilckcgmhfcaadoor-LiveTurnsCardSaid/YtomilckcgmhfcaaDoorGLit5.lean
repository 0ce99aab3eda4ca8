/- Lemmas that the proof stands on. -/
import Derived.Test.YtomilckcgmhfcaaDoorGLit4
import Derived.Laws.StructEq
import Derived.Laws.Pointers
import Derived.Deep.DeepCutAuto
import Derived.Deep.Light
import Derived.Deep.QuietTactic
import Derived.Lib.ItoaNum
import Derived.ScopeJumps
import Derived.WitnessAt
import Derived.Handed
import Derived.Deep.DeepHandedRow
namespace Go.Proofs.YtomilckcgmhfcaaDoor
set_option maxRecDepth 40000
set_option maxHeartbeats 64000000
open Go.RowKit
theorem Hd {p : Prop} (h : p) : Hid p := h

def SF.own (base : Nat) (e : TypeId) (n : Nat) (f : Nat → Value) : SF := ⟨fun v w => ∃ A c, v = .slice A n c ∧ Own w base e A n c f, fun _ _ _ ⟨A, c, e1, h⟩ hb => ⟨A, c, e1, h.below hb fun ad ha => (h.base_le ad ha).2⟩⟩
def SF.own0 (base : Nat) (e : TypeId) : SF := ⟨fun v w => ∃ b, v = .slice (some ⟨b, 0, none⟩) 0 0 ∧ Own w base e (some ⟨b, 0, none⟩) 0 0 (fun _ => undef), fun _ _ _ ⟨b, e1, h⟩ hb => ⟨b, e1, h.below hb fun ad ha => (h.base_le ad ha).2⟩⟩

section
variable {P : Program} (w : World)
theorem ztm {t ty e : TypeId} {i : TypeInfo} {z : Value} (ht : P.underlying t = some (.slice e)) (hi : P.info? e = some i) (hz : i.zero = some z) (hsize : i.size = 1)
    (b a : Addr) (m cm B : Nat) (g : Nat → Value) (hr : Rd w B (some a) m g) (hm : 0 < m) (hbytes : m ≤ 9223372036854775807 ∧ m * i.bytes ≤ 140737488355328) :
    (Builtin.append_ #[t, t] ty #[.slice (some b) 0 0, .slice (some a) m cm]).run P w = (Builtin.append_ #[t, t] ty #[.slice none 0 0, .slice (some a) m cm]).run P w := by
 have hnews : ∀ j v, ((List.range m).map g)[j]? = some v → w.cell? (a.add j) = some v := fun j v hj => by
  have hjl : j < m := by
   rcases Nat.lt_or_ge j m with h | h
   ·exact h
   ·simp [h] at hj
  rw [hr.cell_ hjl]
  simp [hjl] at hj
  exact congrArg some hj
 have h1 := run_append_nil (P := P) w t ty e i z ht hi hz a m cm ((List.range m).map g) (by simp [hsize]) hnews hm (by omega) (by omega)
 have h2 := run_append_grow (P := P) w t ty e i z ht hi hz b 0 0 [] (by simp) (fun j v hj => by simp at hj) a m cm ((List.range m).map g) (by simp [hsize]) hnews (by omega) (by omega) (growslice_fits (by omega) (by rw [Nat.zero_add]; exact hbytes.2))
 rw [h1, h2]
 simp
theorem zro (base : Nat) {t ty e : TypeId} {i : TypeInfo} {z : Value} {bytes : Nat} (ht : P.underlying t = some (.slice e)) (hi : P.info? e = some i) (hz : i.zero = some z)
    (hsize : i.size = 1) (hby : i.bytes = bytes) (hzs : z.cells.size = 1) {b : Addr} {f g : Nat → Value} (hown : Own w base e (some b) 0 0 f)
    {C : Option Addr} {m cm B : Nat} (hr : Rd w B C m g) (h1 : ∀ i, i < m → (g i).oneCell' = true) (hbytes : m ≤ 9223372036854775807 ∧ m * bytes ≤ 140737488355328) (hbase : base ≤ w.heap.size) :
    ∃ A' c' w', (Builtin.append_ #[t, t] ty #[.slice (some b) 0 0, .slice C m cm]).run P w = .ok (.slice A' m c') w' ∧ Own w' base e A' m c' g ∧ Below w.heap.size w w' := by
 by_cases hm : m = 0
 ·subst hm
  obtain ⟨A', c', w', h2, h3, h4, h5⟩ := zj9 (P := P) w base t ty e i z bytes ht hi hz hsize hby hzs (cm := cm) hown hr h1 (by omega) hbase
  have hrun : (Builtin.append_ #[t, t] ty #[.slice (some b) 0 0, .slice C 0 cm]).run P w = .ok (.slice (some b) 0 0) w := by
   rcases C with _ | ad <;> simp [Builtin.append_, run_underlying ht, sizeOf, typeInfo, hi, Builtin.lenOf, Builtin.firstCells, storeCells, loadCells, loadCellsFrom]
  exact ⟨_, _, _, hrun, hown.congr (fun i hi => absurd hi (by omega)), Below.refl _ _⟩
 ·obtain ⟨ad, rfl, _⟩ := hr (by omega)
  obtain ⟨A', c', w', h2, h3, h4, _⟩ := zj9 (P := P) w base t ty e i z bytes ht hi hz hsize hby hzs (cm := cm) (Own.nil w base e g) hr h1 (by rw [Nat.zero_add]; exact hbytes) hbase
  refine ⟨A', c', w', ?_, ?_, ⟨h4.os, h4.tape, h4.output, h4.size, fun k hk => h4.block k hk (by simp)⟩⟩
  ·rw [ztm w ht hi hz hsize b ad m cm B g hr (by omega) (by rw [hby]; exact hbytes), h2, Nat.zero_add]
  ·rw [Nat.zero_add] at h3
   exact h3.congr (fun i _ => by simp [catF])
end

section
variable {P : Program} {ops : Array Oper} {B : Nat} {w0 : World} {o : Oper} {lk : Tmp → SF}
theorem zrp {t e : TypeId} (hg : o.guard = none) (hop : o.op = .buildSlice t 0 #[]) (hr : ∀ w : World, (Instr.buildSlice t 0 #[]).run P w = .ok (.slice (some ⟨w.heap.size, 0, none⟩) 0 0) (w.alloc (.cells #[] e))) (base : Nat) (hb : base ≤ w0.heap.size) : opOb P ops B w0 o (SF.own0 base e) lk :=
 zew hg fun a w hbel hf => by
  unfold Oper.wp execOp
  rw [hop]
  simp only [List.map_toArray, List.map_nil, Sem.run_bind, hr w, Result.andThen_ok, Sem.run_pure]
  exact ⟨_, rfl, ⟨w.heap.size, rfl, Own.new0 w base e _ (lT hb hbel.size)⟩, (Below.refl _ _).alloc lR _⟩
theorem zpo {s x : Tmp} {t : TypeId} (base : Nat) {e : TypeId} {z : Value} {bytes : Nat} (hinfo : (P.info? e).map (fun i => (i.zero, i.size, i.bytes)) = some (some z, 1, bytes)) (ht : P.underlying t = some (.slice e)) (hzs : z.cells.size = 1)
    (hg : o.guard = none) (hop : o.op = .call { callee := .builtin .append, args := #[.tmp s, .tmp x], argTypes := #[t, t] }) (hs : lk s = SF.own0 base e)
    {C : Option Addr} {m cm Bx : Nat} {g : Nat → Value} (hx : lk x = sI (.slice C m cm)) (hr : ∀ w, Below B w0 w → Rd w Bx C m g) (h1 : ∀ i, i < m → (g i).oneCell' = true) (hbytes : m ≤ 9223372036854775807 ∧ m * bytes ≤ 140737488355328) (hbase : base ≤ w0.heap.size) :
    opOb P ops B w0 o (SF.own base e m g) lk :=
 zew hg fun a w hbel hf => by
  obtain ⟨i, hi, hz, hsize, hby⟩ := info_parts hinfo
  have h2 := hf s (by rw [hop]; simp [Op.operands, Call.operands])
  have h3 := hf x (by rw [hop]; simp [Op.operands, Call.operands])
  rw [hs] at h2
  rw [hx] at h3
  obtain ⟨b, h4, hown⟩ := h2
  have e1 : a.eval (.tmp s) = .slice (some ⟨b, 0, none⟩) 0 0 := (zc4 _ _).trans h4
  have e2 : a.eval (.tmp x) = .slice C m cm := (zc4 _ _).trans h3
  obtain ⟨A', c', w', hrun, h5, h6⟩ := zro (P := P) w base (ty := o.type) ht hi hz hsize hby hzs (cm := cm) hown (hr w hbel) h1 hbytes (lT hbase hbel.size)
  unfold Oper.wp execOp
  simp only [hop, resolve, invoke, builtin, Sem.run_bind, Sem.run_pure, Result.andThen_ok, List.map_toArray, List.map_cons, List.map_nil, e1, e2]
  rw [hrun]
  exact ⟨_, rfl, ⟨A', c', rfl, h5⟩, h6⟩
end

structure OF where
 F : Value → World → Prop
 foot : Value → Option Nat
 st : ∀ v w w' row, F v w → w.grownBy w' row → (∀ b, foot v = some b → row ≠ some b) → F v w'
 lt : ∀ v w b, F v w → foot v = some b → b < w.heap.size
def OF.is (e : Value) : OF := ⟨fun v _ => v = e, fun _ => none, fun _ _ _ _ h _ _ => h, fun _ _ _ _ h => by cases h⟩
def OF.toSF (G : OF) : SF := ⟨G.F, fun v w w' h hb => G.st v w w' none h ⟨hb.os, hb.tape, hb.output, hb.size, fun k hk _ => hb.block k hk⟩ (fun b _ => by simp)⟩

section
variable {P : Program}
def lookO (a0 : Act) : List (Tmp × OF) → Tmp → OF
  | [], s => OF.is (a0.tmps.getD s undef)
  | (d, F) :: E, s => if d = s then F else lookO a0 E s
def pushO (o : Oper) (F : OF) (E : List (Tmp × OF)) : List (Tmp × OF) := match o.dst with | some d => (d, F) :: E | none => E
def opObO (P : Program) (ops : Array Oper) (B : Nat) (w0 : World) (o : Oper) (F : OF) (lk : Tmp → OF) (cp : Option Tmp) : Prop :=
 ∀ a w, Below B w0 w → (∀ s ∈ o.looksAt ops, (lk s).F (a.tmps.getD s undef) w) →
  if Region.wanted o (yielded ops a.tmps) = true then o.wp P a w (fun a' w' => ∃ v row, a' = a.put o.dst v ∧ F.F v w' ∧ w.grownBy w' row ∧
   (∀ b, row = some b → B ≤ b ∧ ∃ p, cp = some p ∧ (lk p).foot (a.tmps.getD p undef) = some b) ∧
   (∀ b, F.foot v = some b → w.heap.size ≤ b ∨ ∃ p, cp = some p ∧ (lk p).foot (a.tmps.getD p undef) = some b)) (fun _ _ _ => False)
  else F.F undef w ∧ F.foot undef = none
def okO (n : Nat) (l tl : List Oper) (cps : List (Option Tmp)) (fl : List Bool) : Bool :=
 okR n l.toArray && okTl l.length 0 tl && decide (cps.length = l.length) && decide (fl.length = l.length) &&
   l.all (fun o => match o.guard with | some (j, _) => decide (j < l.length) | none => true) &&
   (match tl with | [] => true | ol :: _ => (List.range l.length).all (fun i => (ol.after.any fun e => Region.binds .any e && e.on == i) || (List.range l.length).any (fun k => decide (i < k) && match l[k]? with | some ok => ok.after.any (fun e => Region.binds .any e && e.on == i) | none => false))) &&
   (List.range l.length).all (fun i => match l[i]?, cps[i]? with
    | some oi, some (some p) => (oi.looksAt l.toArray).contains p && (List.range l.length).all (fun k => k == i || (match l[k]? with | some ok => !(ok.looksAt l.toArray).contains p | none => true)) && (List.range l.length).any (fun j => decide (j < i) && (match l[j]? with | some oj => oj.dst == some p | none => false))
    | _, _ => true) &&
   (List.range l.length).all (fun j => match l[j]?, fl[j]? with
    | some oj, some true => (List.range l.length).any (fun i => match cps[i]? with | some (some p) => oj.dst == some p | _ => false)
    | some oj, some false => (List.range l.length).all (fun i => match cps[i]? with | some (some p) => oj.dst != some p | _ => true)
    | _, _ => true)

theorem ze6 {l tl : List Oper} {o : Oper} (ho : o ∈ l) (hg : l.all (fun o => match o.guard with | some (j, _) => decide (j < l.length) | none => true) = true) : o.looksAt (l ++ tl).toArray = o.looksAt l.toArray := by
 unfold Oper.looksAt
 congr 1
 have h := List.all_eq_true.1 hg o ho
 cases hgd : o.guard with
 | none => rfl
 | some p =>
  obtain ⟨j, b⟩ := p
  simp only [hgd, decide_eq_true_eq] at h
  simp [List.getElem?_append_left h]
def Alive (l : List Oper) (cps : List (Option Tmp)) (listed : Array Bool) (j : Nat) : Prop :=
 listed.getD j false = true ∧ ∀ (i : Nat) p oj, l[j]? = some oj → cps[i]? = some (some p) → oj.dst = some p → listed.getD i false = false
end
section
variable {P : Program}
section
variable {ops : Array Oper} {B : Nat} {w0 : World} {o : Oper} {lk : Tmp → SF} {ty rt : TypeId}
theorem zfq {xo yo : Operand} (k : IntKind) (x y : Int) (b : Bool) (_he : P.underlying ty = some (.int k)) (hb : (x == y) = b)
    (hg : o.guard = none) (hop : o.op = .binOp .eql ty xo yo rt) (hx : OpK lk xo (.int k x)) (hy : OpK lk yo (.int k y)) : opOb P ops B w0 o (sI (.bool b)) lk :=
 zbw _ hg fun a w _ hf => by
  have h1 := hx.eval hf (by rw [hop]; simp [Op.operands])
  have h2 := hy.eval hf (by rw [hop]; simp [Op.operands])
  unfold execOp
  rw [hop]
  simp only [h1, h2]
  subst hb
  simp [eqGuard, go_sem]
theorem zcn {c : Tmp} {x y : Operand} {v : Value} (hg : o.guard = none) (hop : o.op = .pick (.tmp c) x y) (hc : lk c = sI (.bool true)) (hx : OpK lk x v) : opOb P ops B w0 o (sI v) lk :=
 zbw _ hg fun a w _ hf => by
  have h1 := hf c (by rw [hop]; simp [Op.operands])
  rw [hc] at h1
  have h1' : a.eval (.tmp c) = .bool true := (zc4 _ _).trans h1
  have h2 := hx.eval hf (by rw [hop]; simp [Op.operands])
  unfold execOp; rw [hop]; simp only [h1', h2]; rfl
theorem zfr {c : Tmp} {x y : Operand} {v : Value} (hg : o.guard = none) (hop : o.op = .pick (.tmp c) x y) (hc : lk c = sI (.bool false)) (hy : OpK lk y v) : opOb P ops B w0 o (sI v) lk :=
 zbw _ hg fun a w _ hf => by
  have h1 := hf c (by rw [hop]; simp [Op.operands])
  rw [hc] at h1
  have h1' : a.eval (.tmp c) = .bool false := (zc4 _ _).trans h1
  have h2 := hy.eval hf (by rw [hop]; simp [Op.operands])
  unfold execOp; rw [hop]; simp only [h1', h2]; rfl
end
section
variable {ops : Array Oper} {B : Nat} {w0 : World} {o : Oper} {lk : Tmp → OF} {ty rt : TypeId}
theorem zau {v : Value} (h : opOb P ops B w0 o (sI v) (fun s => (lk s).toSF)) : opObO P ops B w0 o (OF.is v) lk none := by
 intro a w hb hf
 have h1 := h a w hb hf
 split
 ·rename_i hw
  rw [if_pos hw] at h1
  exact Oper.wp_mono (fun a' w' ⟨v', e, h2, h3⟩ => ⟨v', none, e, h2, ⟨h3.os, h3.tape, h3.output, h3.size, fun k hk _ => h3.block k hk⟩, (fun b hb => by cases hb), (fun b hb => by cases hb)⟩) h1
 ·rename_i hw
  rw [if_neg hw] at h1
  exact ⟨h1, rfl⟩
def OpdO (lk : Tmp → OF) (o : Oper) (a : Act) (w : World) : Prop := ∀ s ∈ o.op.operands.toList.filterMap (fun | .tmp t => some t | _ => none), (lk s).F (a.tmps[s]?.getD undef) w
theorem zrq {F : OF} {cp : Option Tmp} (hg : o.guard = none) (h : ∀ a w, Below B w0 w → OpdO lk o a w →
 o.wp P a w (fun a' w' => ∃ v row, a' = a.put o.dst v ∧ F.F v w' ∧ w.grownBy w' row ∧
  (∀ b, row = some b → B ≤ b ∧ ∃ p, cp = some p ∧ (lk p).foot (a.tmps.getD p undef) = some b) ∧
  (∀ b, F.foot v = some b → w.heap.size ≤ b ∨ ∃ p, cp = some p ∧ (lk p).foot (a.tmps.getD p undef) = some b)) (fun _ _ _ => False)) : opObO P ops B w0 o F lk cp := by
 intro a w hb hf
 rw [if_pos (by simp [Region.wanted, hg])]
 exact h a w hb fun s hs => by rw [← zc4]; exact hf s (List.mem_append_left _ hs)
end
end
inductive Tok : Nat → Prop
  | mk (n : Nat) : Tok n
section
variable {P : Program}
theorem zi5 (w : World) (ad : Addr) (n : Nat) (f : Nat → Value) (h : ∀ i, i < n → w.cell? (ad.add i) = some (f i)) : (loadCells ad n).run P w = .ok (arr n f) w := by
 have := run_loadCells_list (P := P) (w := w) ad ((List.range n).map f) (fun j v hj => by
  have hjl : j < n := by
   rcases Nat.lt_or_ge j n with h | h
   ·exact h
   ·simp [h] at hj
  rw [h j hjl]
  simp [hjl] at hj
  exact congrArg some hj)
 simpa [arr] using this
theorem zbd (w : World) (ad : Addr) (n : Nat) (ty : TypeId) (d : TypeDesc) (f : Nat → Value) (h : ∀ i, i < n → w.cell? (ad.add i) = some (f i)) (hu : P.underlying ty = some d) (hd : (match d with | .struct _ | .array _ _ => true | _ => false) = true) (hi : (P.info? ty).map (·.size) = some n) :
 (Instr.loadAt ty (.pointer (some ad))).run P w = .ok (.agg (arr n f)) w := by
 simp only [Instr.loadAt, Instr.sureAddr, Sem.run_bind, Sem.run_pure, Result.andThen]
 cases hq : P.info? ty with
 | none => rw [hq] at hi; simp at hi
 | some i =>
  have hs : i.size = n := by rw [hq] at hi; simpa using hi
  have hagg : (isAgg ty).run P w = .ok true w := by
   unfold isAgg
   rw [Sem.run_bind, run_underlying hu w]
   cases d <;> simp_all
  simp [loadVar, Sem.run_bind, hagg, sizeOf, typeInfo, hq, hs, zi5 w ad n f h]
theorem zae {ops : Array Oper} {rest : List Oper} {o : Oper} {a : Act} {w : World} {Q : Exit → Act → World → Prop} (hgd : o.guard = none) (ty : TypeId) (x : Operand) (ho : o.op = .load ty x)
    (n : Nat) (d : TypeDesc) (hu : P.underlying ty = some d) (hd : (match d with | .struct _ | .array _ _ => true | _ => false) = true) (hi : (P.info? ty).map (·.size) = some n)
    (ad : Addr) (hx : a.eval x = .pointer (some ad)) (f : Nat → Value) (h : ∀ i, i < n → w.cell? (ad.add i) = some (f i)) (hK : wpList P ops Q rest (a.put o.dst (.agg (arr n f))) w) : wpList P ops Q (o :: rest) a w :=
 wpList_plain hgd fun _ hK' => by
  have hrun : (execOp a.eval o).run P w = .ok (.value (.agg (arr n f))) w := by
   unfold execOp
   rw [ho]
   simp only [hx]
   simp [zbd w ad n ty d f h hu hd hi]
  unfold Oper.wp
  rw [hrun]
  exact hK' _ _ hK
theorem zg5 {ops : Array Oper} {rest : List Oper} {o : Oper} {a : Act} {w : World} {Q : Exit → Act → World → Prop} (hgd : o.guard = none) (ty : TypeId) (x : Operand) (ho : o.op = .box ty x)
    (n : Nat) (f : Nat → Value) (hx : a.eval x = .agg (arr n f)) (hK : ∀ w', w'.rowIs w.heap.size ty n f → Below w.heap.size w w' → wpList P ops Q rest (a.put o.dst (.pointer (some ⟨w.heap.size, 0, none⟩))) w') : wpList P ops Q (o :: rest) a w :=
 wpList_plain hgd fun _ hK' => by
  have hrun : (execOp a.eval o).run P w = .ok (.value (.pointer (some ⟨w.heap.size, 0, none⟩))) (w.alloc (.cells (arr n f) ty)) := by
   unfold execOp
   rw [ho]
   simp only [hx]
   simp [Instr.box, newVar, Value.cells, go_sem]
  unfold Oper.wp
  rw [hrun]
  exact hK' _ _ (hK _ ⟨arr n f, heap_alloc_new w _, zam n f, fun i hi => zaq n f i hi⟩ ((Below.refl _ _).alloc lR _))
theorem ze1 {ops : Array Oper} {rest : List Oper} {o : Oper} {a : Act} {w : World} {Q : Exit → Act → World → Prop} {j : Nat} {want : Bool} {d : Tmp} (hg : o.guard = some (j, want)) (hj : (ops[j]?).bind (·.dst) = some d) (hv : a.tmps[d]? = some (.bool want))
    (h : ∀ K : Act → World → Prop, (∀ a w, wpList P ops Q rest a w → K a w) → o.wp P a w K Q) : wpList P ops Q (o :: rest) a w :=
 wpList_step fun K hK => by
  rw [if_pos (by simp [Region.wanted, hg, yielded, hj, hv])]
  exact h K hK
theorem zhj {w : World} {ops : Array Oper} {rest : List Oper} {o : Oper} {a : Act} {Q : Exit → Act → World → Prop} {j : Nat} {want : Bool} {d : Tmp} (hg : o.guard = some (j, want)) (hj : (ops[j]?).bind (·.dst) = some d) (hv : a.tmps[d]? = some (.bool want)) (t : TypeId) (x : Operand) (lo hi : Option Operand) (ho : o.op = .slice t x lo hi none)
    {v sv : Value} {l h : Option Value} (hx : a.eval x = v) (hr : ∀ w, (Instr.sliceAt t v l h none).run P w = .ok sv w) (hl : lo.map a.eval = l) (hh : hi.map a.eval = h)
    (hK : wpList P ops Q rest (a.put o.dst sv) w) : wpList P ops Q (o :: rest) a w :=
 ze1 hg hj hv fun _ hK' => by
  have hrun : (execOp a.eval o).run P w = .ok (.value sv) w := by
   unfold execOp
   rw [ho]
   simp only [hx]
   rw [show lo.map (fun y => a.eval y) = l from hl, show hi.map (fun y => a.eval y) = h from hh]
   simp [hr w]
  unfold Oper.wp
  rw [hrun]
  exact hK' _ _ hK
theorem zf9 {ops : Array Oper} {rest : List Oper} {o : Oper} {a : Act} {w : World} {Q : Exit → Act → World → Prop} {j : Nat} {want : Bool} {dd : Tmp} (hg : o.guard = some (j, want)) (hj : (ops[j]?).bind (·.dst) = some dd) (hv : a.tmps[dd]? = some (.bool want)) (ty : TypeId) (x : Operand) (ho : o.op = .load ty x)
    (n : Nat) (d : TypeDesc) (hu : P.underlying ty = some d) (hd : (match d with | .struct _ | .array _ _ => true | _ => false) = true) (hi : (P.info? ty).map (·.size) = some n)
    (ad : Addr) (hx : a.eval x = .pointer (some ad)) (f : Nat → Value) (h : ∀ i, i < n → w.cell? (ad.add i) = some (f i)) (hK : wpList P ops Q rest (a.put o.dst (.agg (arr n f))) w) : wpList P ops Q (o :: rest) a w :=
 ze1 hg hj hv fun _ hK' => by
  have hrun : (execOp a.eval o).run P w = .ok (.value (.agg (arr n f))) w := by
   unfold execOp
   rw [ho]
   simp only [hx]
   simp [zbd w ad n ty d f h hu hd hi]
  unfold Oper.wp
  rw [hrun]
  exact hK' _ _ hK
theorem zd2 {w1 : World} {B b : Nat} {T : TypeId} {n : Nat} {F : Nat → Value} (hr : w1.rowIs b T n F) (hb : b < B) {ty : TypeId} {d : TypeDesc} (hu : P.underlying ty = some d) (hd : (match d with | .struct _ | .array _ _ => true | _ => false) = true) (hi : (P.info? ty).map (·.size) = some n) :
 ∀ w', Below B w1 w' → (Instr.loadAt ty (.pointer (some ⟨b, 0, none⟩))).run P w' = .ok (.agg (arr n F)) w' := fun w' h =>
 zbd w' ⟨b, 0, none⟩ n ty d F (fun i hi => by rw [zai]; exact (zaj hr h hb).cell hi) hu hd hi
section
variable {ops : Array Oper} {B : Nat} {w0 : World} {o : Oper} {lk : Tmp → SF} {F : SF}
end
end

def epB (e : Nat) : Bool := decide (e = 18446744073709551615 ∨ e < 2199023255552)
theorem zdq (e : Nat) (w : World) : Calls Tryd.prog 19 #[.int .u64 (e : Int)] w fun r w' => r = .returned (.bool (epB e)) ∧ w' = w := by
 by_cases h1 : e = 18446744073709551615
 ·have h : ((e : Int) == 18446744073709551615) = true := by rw [beq_iff_eq]; omega
  go_enter Tryd.func19, Tryd.ntmps19
  go_wp2
  go_ret
  exact ⟨zeh (decide_eq_true (.inl h1)).symm, rfl⟩
 ·have h : ((e : Int) == 18446744073709551615) = false := by rw [beq_eq_false_iff_ne]; omega
  have h2 : decide ((e : Int) < 2199023255552) = epB e := decide_eq_decide.2 (by omega)
  have H1 := Hd h2
  clear h1 h2
  go_enter Tryd.func19, Tryd.ntmps19
  go_wp2
  go_ret
  exact ⟨zeh H1.out, rfl⟩

def sumTo (z : Nat → Nat) : Nat → Nat
  | 0 => 0
  | n + 1 => sumTo z n + z n
theorem zrr {z : Nat → Nat} {n m : Nat} (h : n ≤ m) : sumTo z n ≤ sumTo z m := by
 induction h with
 | refl => exact Nat.le_refl _
 | step _ ih => exact lT ih (Nat.le_add_right _ _)
def sumB (z : Nat → Nat) (n : Nat) : Bool := decide (sumTo z n ≤ 144115188075855872)
theorem zl1 {z : Nat → Nat} {n k u : Nat} (h : sumTo z (k + 1) = u) (hu : 144115188075855872 < u) (hk : k < n) : false = sumB z n := by
 have := zrr (z := z) (show k + 1 ≤ n from hk)
 exact (decide_eq_false (by omega)).symm
theorem zkr (A : Option Addr) (n c : Nat) (z : Nat → Nat) (w : World) (B : Nat) (hr : Rd w B A n (fun i => .int .u64 ((z i : Nat) : Int))) (hz : ∀ i, i < n → z i < 18446744073709551616) (hn : n ≤ maxLen) :
 Calls Tryd.prog 20 #[.slice A n c] w fun r w' => r = .returned (.bool (sumB z n)) ∧ w' = w := by
 have HR := Hd hr
 have HZ := Hd hz
 unfold maxLen at hn
 clear hr hz
 go_enter Tryd.func20, Tryd.ntmps20
 go_wp2_with fail
 go_loopw [3, 4] (fun t i wr => ∃ k : Nat, t = .int .u64 ((sumTo z k : Nat) : Int) ∧ i = .int .i64 (k : Int) ∧ k ≤ n ∧ sumTo z k ≤ 144115188075855872 ∧ wr = w) (fun _ i _ => n - (intOf i).toNat)
 case atStart => exact ⟨0, rfl, rfl, Nat.zero_le _, Nat.zero_le _, rfl⟩
 case round =>
  obtain ⟨k, rfl, rfl, hk, hs, rfl⟩ := hrel
  by_cases h1 : k < n
  ·obtain ⟨ad, rfl, hb, hc⟩ := HR.out.at_ h1
   have hzk := HZ.out k h1
   have hst : sumTo z (k + 1) = sumTo z k + z k := rfl
   generalize z k = y at *
   generalize sumTo z k = t at *
   have HST := Hd hst
   clear hst
   by_cases h2 : y ≤ 144115188075855872
   ·by_cases h3 : t + y ≤ 144115188075855872
    ·go_wp2_with fail
     go_roundw
     case rel => exact ⟨k + 1, by rw [HST.out]; go_num, by go_num, by omega, by rw [HST.out]; exact h3, True.intro⟩
     case measure => simp [intOf]; omega
    ·go_wp2_with fail
     go_ret
     exact ⟨zeh (zl1 HST.out (by omega) h1), rfl⟩
   ·go_wp2_with fail
    go_ret
    exact ⟨zeh (zl1 HST.out (by omega) h1), rfl⟩
  ·obtain rfl : n = k := by omega
   go_wp2_with fail
   go_ret
   exact ⟨zeh (decide_eq_true hs).symm, rfl⟩


structure VOk (w : World) (B : Nat) (F : Nat → Value) (A : Option Addr) (n c : Nat) (V : Nat → Value) : Prop where
 f : F 721 = .slice A n c
 rd : Rd w B A (n * 86) V
 sc : ∀ i, i < n → Sc (fun q => V (i * 86 + q)) 66
 le : n ≤ maxLen
theorem StOk.vok {w : World} {B : Nat} {s : StV} (h : StOk w B s) : VOk w B s.F s.aV s.nV s.cV s.V := ⟨h.f11, h.rV, h.scV, by have := h.lV; omega⟩
section
variable {w w' : World} {B : Nat} {F : Nat → Value} {A : Option Addr} {n c : Nat} {V : Nat → Value}
theorem VOk.below (h : VOk w B F A n c V) (hb : Below B w w') : VOk w' B F A n c V := ⟨h.f, h.rd.below hb, h.sc, h.le⟩
theorem VOk.more {B' : Nat} (h : VOk w B F A n c V) (hB : B ≤ B') : VOk w B' F A n c V := ⟨h.f, h.rd.more hB, h.sc, h.le⟩
theorem VOk.at_ (h : VOk w B F A n c V) {i : Nat} (hi : i < n) : ∃ ad, A = some ad ∧ ad.block < B ∧ (∀ q, q < 86 → w.cell? ((ad.add (i * 86)).add q) = some (V (i * 86 + q))) ∧ ∀ q, 0 < q → q < 86 → w.cell? ⟨(ad.add (i * 86)).block, (ad.add (i * 86)).off + q, none⟩ = some (V (i * 86 + q)) := by
 obtain ⟨ad, e, hb, hc⟩ := h.rd (by omega)
 have h1 : ∀ q, q < 86 → w.cell? ((ad.add (i * 86)).add q) = some (V (i * 86 + q)) := fun q hq => by
  rw [zfo]
  exact hc _ (by omega)
 refine ⟨ad, e, hb, h1, fun q h0 hq => ?_⟩
 rw [← h1 q hq]
 congr 1
 generalize ad.add (i * 86) = b
 unfold Addr.add
 rw [if_neg (by omega)]
end
def effF (V : Nat → Value) (i : Nat) : Nat := nat (V (i * 86 + 80))
theorem zit {y z : Nat → Nat} {n : Nat} (h : ∀ i, i < n → y i = z i) : sumTo y n = sumTo z n := by
 induction n with
 | zero => rfl
 | succ n ih => show sumTo y n + y n = sumTo z n + z n; rw [ih fun i hi => h i (by omega), h n (by omega)]
noncomputable def pl49 : List (Nat × Nat) := match Tryd.prog.underlying 49 with
 | some (.struct fs) => (fs.toList.mapM fun f => (Tryd.prog.info? f.type).map fun i => (f.offset, i.size)).getD []
 | _ => []
noncomputable def z49 : Array Value := zeroOf Tryd.prog 49
theorem zc8 : z49.size = 1957 := by kernel_rfl
theorem ztn : z49.toList.all (·.oneCell') = true := by kernel_rfl
theorem built49 (parts : List (Nat × Value)) : Tryd.prog.built 49 parts = Instr.fill (fun x => pl49.toArray[x]?) z49 parts := by kernel_rfl
theorem zfe {place : Nat → Option (Nat × Nat)} {cells : Array Value} {i off : Nat} {v : Value} {rest : List (Nat × Value)} (hp : place i = some (off, 1)) (hv : v.cells = #[v]) (ho : off < cells.size) : Instr.fill place cells ((i, v) :: rest) = Instr.fill place (cells.setIfInBounds off v) rest := by
 conv => lhs; unfold Instr.fill
 simp only [hp, hv]
 rw [if_neg (by simp; omega)]
 simp [Array.zipIdx]
noncomputable def awS (s1 s2 s3 s4 s5 : Value) : Array Value := ((((z49.setIfInBounds 721 s1).setIfInBounds 722 s2).setIfInBounds 987 s3).setIfInBounds 988 s4).setIfInBounds 1092 s5
theorem zpp (a1 a2 a3 a4 a5 : Addr) : Tryd.prog.built 49 [(11, .slice (some a1) 1 1), (12, .slice (some a2) 1 1), (15, .slice (some a3) 1 1), (16, .slice (some a4) 1 1), (21, .slice (some a5) 1 1)] = some (awS (.slice (some a1) 1 1) (.slice (some a2) 1 1) (.slice (some a3) 1 1) (.slice (some a4) 1 1) (.slice (some a5) 1 1)) := by
 have hs := zc8
 rw [built49, zfe (off := 721) (by kernel_rfl) rfl (by omega), zfe (off := 722) (by kernel_rfl) rfl (by simp; omega), zfe (off := 987) (by kernel_rfl) rfl (by simp; omega), zfe (off := 988) (by kernel_rfl) rfl (by simp; omega), zfe (off := 1092) (by kernel_rfl) rfl (by simp; omega)]
 rfl
section
variable (s1 s2 s3 s4 s5 : Value)
theorem zrs : (awS s1 s2 s3 s4 s5).size = 1957 := by unfold awS; simp [zc8]
theorem zl2 (cs : Array Value) (i j : Nat) (v : Value) : (cs.setIfInBounds i v).getD j undef = if i = j ∧ i < cs.size then v else cs.getD j undef := by
 simp only [Array.getD_eq_getD_getElem?, Array.getElem?_setIfInBounds]
 by_cases h : i = j
 ·subst h
  by_cases h2 : i < cs.size
  ·simp [h2]
  ·simp [h2]
 ·simp [h]
theorem zto (h1 : s1.oneCell' = true) (h2 : s2.oneCell' = true) (h3 : s3.oneCell' = true) (h4 : s4.oneCell' = true) (h5 : s5.oneCell' = true) : ∀ i, i < 1957 → ((awS s1 s2 s3 s4 s5).getD i undef).oneCell' = true := fun i hi => by
 have hz : (z49.getD i undef).oneCell' = true := by
  have := List.all_eq_true.1 ztn (z49.getD i undef) (by
   have hs := zc8
   simp [Array.getD, show i < z49.size by omega])
  exact this
 unfold awS
 simp only [zl2]
 split
 ·exact h5
 split
 ·exact h4
 split
 ·exact h3
 split
 ·exact h2
 split
 ·exact h1
 exact hz
end
theorem zi6 : (Tryd.prog.info? 49).bind (·.zero) = some (.agg z49) := by kernel_rfl
theorem zks (z : Nat → Nat) : sumTo z 1 = z 0 := Nat.zero_add _
end Go.Proofs.YtomilckcgmhfcaaDoor
namespace Go.Proofs.YtomilckcgmhfcaaDoor
set_option maxRecDepth 40000
set_option maxHeartbeats 64000000
open Go.ChangeShapes Go.WideShapes Go.ChangeAt Go.RowKit
def chk (P : Program) (w : World) : List Value → List TypeId → Bool
  | [], [] => true
  | v :: vs, u :: us => Cell.okWideB P w u v && chk P w vs us
  | _, _ => false
theorem znx {P : Program} {w : World} : ∀ {vs : List Value} {us : List TypeId}, chk P w vs us = true → vs.length = us.length
  | [], [], _ => rfl
  | v :: vs, u :: us, h => by
   simp only [chk, Bool.and_eq_true] at h
   simp [znx h.2]
  | [], _ :: _, h => by cases h
  | _ :: _, [], h => by cases h
theorem zpq {P : Program} {w : World} : ∀ {vs : List Value} {us : List TypeId}, chk P w vs us = true → ∀ (i : Nat) (v : Value), vs[i]? = some v → ∃ u, us[i]? = some u ∧ Cell.okWideB P w u v = true
  | [], [], _, i, v, h => by simp at h
  | v :: vs, u :: us, h, i, x, hx => by
   simp only [chk, Bool.and_eq_true] at h
   cases i with
   | zero => simp at hx; subst hx; exact ⟨u, rfl, h.1⟩
   | succ i => exact zpq h.2 i x (by simpa using hx)
  | [], _ :: _, h, _, _, _ => by cases h
  | _ :: _, [], h, _, _, _ => by cases h
noncomputable def ts49 : List TypeId := (Tryd.prog.cellTypes Tryd.prog.depth 49).getD []
theorem zpr : Tryd.prog.cellTypes Tryd.prog.depth 49 = some ts49 := by
 have h : (Tryd.prog.cellTypes Tryd.prog.depth 49).isSome = true := by kernel_rfl
 unfold ts49
 cases hb : Tryd.prog.cellTypes Tryd.prog.depth 49 with
 | none => rw [hb] at h; cases h
 | some x => rfl
theorem chk49 (w : World) : chk Tryd.prog w z49.toList ts49 = true := by kernel_rfl
theorem cells49 : Tryd.prog.cellsOf 49 = 1957 := by kernel_rfl
theorem zps (w : World) (base : Nat) : Value.okWide Tryd.prog w .any base 49 (.agg z49) := by
 unfold Value.okWide
 simp only [Ty49]
 have hl := znx (chk49 w)
 have hl2 : z49.size = ts49.length := by simpa using hl
 refine ⟨z49, rfl, by rw [zc8, cells49], ts49, zpr, ⟨1, by omega⟩, fun i v hv => ?_⟩
 have hi : i < z49.size := (Array.getElem?_eq_some_iff.1 hv).1
 obtain ⟨u, hu, hk⟩ := zpq (chk49 w) i v (by rw [Array.getElem?_toList]; exact hv)
 exact ⟨u, by rw [Nat.mod_eq_of_lt (by omega)]; exact hu, Cell.okWide_of_okWideB hk⟩
end Go.Proofs.YtomilckcgmhfcaaDoor
namespace Go.Proofs.YtomilckcgmhfcaaDoor
set_option maxRecDepth 40000
set_option maxHeartbeats 64000000
open Go.ChangeShapes Go.WideShapes Go.ChangeAt Go.RowKit
theorem zke {H : Type} {enc : TypeId × Value → H} {C : Checked} {os : Os} {f : FuncId} {fn : Func} {s : OpenSpec} {conds : List PathCond} {apart : Bool} {laid : List (String × DataW Unit)} (modest : Bool) (w0 : World) (args : Array Value) (hos : w0.os = os)
    (hv : (w0.forCall (fun _ _ => 0) ⟨#[], args, []⟩).variablesB C.prog = true)
    (hr : ((w0.forCall (fun _ _ => 0) ⟨#[], args, []⟩).heap.toList.drop C.prog.globals.size).take ((begin C.prog (fun _ _ => 0) default).world.heap.size - C.prog.globals.size) =
      (begin C.prog (fun _ _ => 0) default).world.heap.toList.drop C.prog.globals.size)
    (hok : ∀ w base, Input.okWide C.prog w .any base f ⟨#[], args, []⟩)
    (hrow : s.preRow enc C.prog fn conds apart laid (w0.forCall (fun _ _ => 0) ⟨#[], args, []⟩).memory args) :
    ∃ (w : World) (tape : Tape) (i : Input), w.os = os ∧ (w.forCall tape i).Shaped C.prog ∧ i.vars = [] ∧ Input.okWide C.prog (w.forCall tape i) .any w.heap.size f i ∧
     s.preRow enc C.prog fn conds apart laid (w.forCall tape i).memory i.args ∧ ({ modest := modest } : Assume).holds C.prog (lone (Frame.enter C.prog f i.args .normal) [] (w.forCall tape i)) :=
 ⟨w0, fun _ _ => 0, ⟨#[], args, []⟩, hos, World.shaped_of_B hv hr, rfl, hok _ _, hrow, by
  simp only [Assume.holds]
  exact ⟨by simp, by simp, fun _ => Modest.zero, by simp, by simp⟩⟩
theorem zvl {H : Type} {enc : TypeId × Value → H} {P : Program} {f : Func} {s : ChangeSpec} {conds : List PathCond} {apart : Bool} {laid : List (String × DataW Unit)} {w : World} {args : Array Value} (fuel : Nat)
    (hpre : s.preB enc P f conds apart w args fuel = true) (hsz : s.sizedB enc P f apart w args fuel = true) (hl : laidMetH P laid w) : (OpenSpec.ofChange s).preRow enc P f conds apart laid w args :=
 ⟨⟨ChangeSpec.pre_of_preB hpre, hl⟩, sizedMet_of_sizedB hsz⟩
end Go.Proofs.YtomilckcgmhfcaaDoor
namespace Go.Proofs.YtomilckcgmhfcaaDoor
set_option maxRecDepth 40000
set_option maxHeartbeats 64000000
open Go.RowKit
theorem zvm : Sc (fun i => z49.getD i undef) 49 := by
 have h : (DataW.trod (H := Unit) (fun _ => ()) Tryd.prog default 0 (fun _ => true) true 8 49 z49.toList).isSome = true := by kernel_rfl
 obtain ⟨y, hy⟩ := Option.isSome_iff_exists.1 h
 refine TyF.sc (TyF.of_trod hy fun i v hv => ?_)
 rw [Array.getElem?_toList] at hv
 simp [Array.getD, Array.getElem?_eq_some_iff] at hv ⊢
 obtain ⟨h1, h2⟩ := hv
 rw [dif_pos h1]; exact h2
theorem Sc.slice_cell {F : Nat → Value} {T : TypeId} (h : Sc F T) (k : Nat) {t e : TypeId} (hk : leafAt Tryd.prog 8 T k = some t) (hu : Tryd.prog.underlying t = some (.slice e)) (v : Value) : Sc (fun i => if i = k then v else F i) T := fun i l hl => by
 by_cases hi : i = k
 ·subst hi
  rw [hk] at hl; injection hl with hl; subst hl
  rw [hu]
  trivial
 ·have h1 := h i l hl
  simp only [if_neg hi]
  exact h1

def hList : List Nat := [0x6a09e667, 0xbb67ae85, 0x3c6ef372, 0xa54ff53a, 0x510e527f, 0x9b05688c, 0x1f83d9ab, 0x5be0cd19]
def h0 (i : Nat) : W32 := BitVec.ofNat 32 (hList.getD i 0)
def blk (m : Nat → Nat) (k : Nat) : Nat → Nat := fun i => m (64 * k + i)
def Hs (m : Nat → Nat) : Nat → Nat → W32
  | 0 => h0
  | k + 1 => comp (Hs m k) (blk m k)
def nb (len : Nat) : Nat := (len + 8) / 64 + 1
def padF (len : Nat) (m : Nat → Nat) (j : Nat) : Nat :=
 if j < len then m j else if j = len then 128 else if j < 64 * nb len - 8 then 0 else 8 * len % 18446744073709551616 / 2 ^ (8 * (64 * nb len - 1 - j)) % 256
def rootOf (H : Nat → W32) (i : Nat) : Nat := (H (i / 4) >>> (24 - 8 * (i % 4))).toNat % 256
def shaB (m : Nat → Nat) (len : Nat) : Nat → Nat := rootOf (Hs (padF len m) (nb len))
theorem zpt (H : Nat → W32) (i : Nat) : rootOf H i < 256 := Nat.mod_lt _ (by omega)
theorem zfx (m : Nat → Nat) (len i : Nat) : shaB m len i < 256 := zpt _ _
theorem zjp {m m' : Nat → Nat} {len : Nat} (h : ∀ i, i < len → m i = m' i) : shaB m len = shaB m' len := by
 have e : padF len m = padF len m' := by
  funext j
  unfold padF
  by_cases hj : j < len
  ·rw [if_pos hj, if_pos hj, h j hj]
  ·rw [if_neg hj, if_neg hj]
 unfold shaB; rw [e]
theorem zny (len : Nat) (m : Nat → Nat) (hm : ∀ i, m i < 256) (j : Nat) : padF len m j < 256 := by
 unfold padF
 split
 ·exact hm j
 ·split
  ·omega
  ·split
   ·omega
   ·exact Nat.mod_lt _ (by omega)
def catN (n : Nat) (m x : Nat → Nat) : Nat → Nat := fun i => if i < n then m i else x (i - n)
theorem zbo {n : Nat} {m x : Nat → Nat} (hm : ∀ i, m i < 256) (hx : ∀ i, x i < 256) (i : Nat) : catN n m x i < 256 := by
 unfold catN; split
 ·exact hm i
 ·exact hx _

theorem zvn (x : W32) (w : World) : Calls Tryd.prog 82 #[wv x, .int .i64 2] w fun e w' => e = .returned (wv (rotr x 2)) ∧ w = w' := by
 have hs : bits BinOp.and IntKind.u64 (IntKind.u64.wrap (-2)) 31 = 30 := by decide
 have h1 := Hd (show (x.toNat : Int) * (1073741824 : Int) % (4294967296 : Int) = (((x <<< 30).toNat : Nat) : Int) from zb0 x 30)
 have h2 := Hd (show (x.toNat : Int) / (4 : Int) = (((x >>> 2).toNat : Nat) : Int) from zbz x 2)
 have h3 := Hd (zcg (x <<< 30) (x >>> 2))
 go_enter Tryd.func82, Tryd.ntmps82
 go_wp2
 go_ret
 exact ⟨zb7 (by rw [h1.out, h2.out, h3.out, BitVec.or_comm]; rfl), rfl⟩

theorem zvo (x : W32) (w : World) : Calls Tryd.prog 82 #[wv x, .int .i64 6] w fun e w' => e = .returned (wv (rotr x 6)) ∧ w = w' := by
 have hs : bits BinOp.and IntKind.u64 (IntKind.u64.wrap (-6)) 31 = 26 := by decide
 have h1 := Hd (show (x.toNat : Int) * (67108864 : Int) % (4294967296 : Int) = (((x <<< 26).toNat : Nat) : Int) from zb0 x 26)
 have h2 := Hd (show (x.toNat : Int) / (64 : Int) = (((x >>> 6).toNat : Nat) : Int) from zbz x 6)
 have h3 := Hd (zcg (x <<< 26) (x >>> 6))
 go_enter Tryd.func82, Tryd.ntmps82
 go_wp2
 go_ret
 exact ⟨zb7 (by rw [h1.out, h2.out, h3.out, BitVec.or_comm]; rfl), rfl⟩

theorem zvp (x : W32) (w : World) : Calls Tryd.prog 82 #[wv x, .int .i64 7] w fun e w' => e = .returned (wv (rotr x 7)) ∧ w = w' := by
 have hs : bits BinOp.and IntKind.u64 (IntKind.u64.wrap (-7)) 31 = 25 := by decide
 have h1 := Hd (show (x.toNat : Int) * (33554432 : Int) % (4294967296 : Int) = (((x <<< 25).toNat : Nat) : Int) from zb0 x 25)
 have h2 := Hd (show (x.toNat : Int) / (128 : Int) = (((x >>> 7).toNat : Nat) : Int) from zbz x 7)
 have h3 := Hd (zcg (x <<< 25) (x >>> 7))
 go_enter Tryd.func82, Tryd.ntmps82
 go_wp2
 go_ret
 exact ⟨zb7 (by rw [h1.out, h2.out, h3.out, BitVec.or_comm]; rfl), rfl⟩

theorem ztp (x : W32) (w : World) : Calls Tryd.prog 82 #[wv x, .int .i64 11] w fun e w' => e = .returned (wv (rotr x 11)) ∧ w = w' := by
 have hs : bits BinOp.and IntKind.u64 (IntKind.u64.wrap (-11)) 31 = 21 := by decide
 have h1 := Hd (show (x.toNat : Int) * (2097152 : Int) % (4294967296 : Int) = (((x <<< 21).toNat : Nat) : Int) from zb0 x 21)
 have h2 := Hd (show (x.toNat : Int) / (2048 : Int) = (((x >>> 11).toNat : Nat) : Int) from zbz x 11)
 have h3 := Hd (zcg (x <<< 21) (x >>> 11))
 go_enter Tryd.func82, Tryd.ntmps82
 go_wp2
 go_ret
 exact ⟨zb7 (by rw [h1.out, h2.out, h3.out, BitVec.or_comm]; rfl), rfl⟩

theorem ztq (x : W32) (w : World) : Calls Tryd.prog 82 #[wv x, .int .i64 13] w fun e w' => e = .returned (wv (rotr x 13)) ∧ w = w' := by
 have hs : bits BinOp.and IntKind.u64 (IntKind.u64.wrap (-13)) 31 = 19 := by decide
 have h1 := Hd (show (x.toNat : Int) * (524288 : Int) % (4294967296 : Int) = (((x <<< 19).toNat : Nat) : Int) from zb0 x 19)
 have h2 := Hd (show (x.toNat : Int) / (8192 : Int) = (((x >>> 13).toNat : Nat) : Int) from zbz x 13)
 have h3 := Hd (zcg (x <<< 19) (x >>> 13))
 go_enter Tryd.func82, Tryd.ntmps82
 go_wp2
 go_ret
 exact ⟨zb7 (by rw [h1.out, h2.out, h3.out, BitVec.or_comm]; rfl), rfl⟩

theorem ztr (x : W32) (w : World) : Calls Tryd.prog 82 #[wv x, .int .i64 17] w fun e w' => e = .returned (wv (rotr x 17)) ∧ w = w' := by
 have hs : bits BinOp.and IntKind.u64 (IntKind.u64.wrap (-17)) 31 = 15 := by decide
 have h1 := Hd (show (x.toNat : Int) * (32768 : Int) % (4294967296 : Int) = (((x <<< 15).toNat : Nat) : Int) from zb0 x 15)
 have h2 := Hd (show (x.toNat : Int) / (131072 : Int) = (((x >>> 17).toNat : Nat) : Int) from zbz x 17)
 have h3 := Hd (zcg (x <<< 15) (x >>> 17))
 go_enter Tryd.func82, Tryd.ntmps82
 go_wp2
 go_ret
 exact ⟨zb7 (by rw [h1.out, h2.out, h3.out, BitVec.or_comm]; rfl), rfl⟩

theorem zts (x : W32) (w : World) : Calls Tryd.prog 82 #[wv x, .int .i64 18] w fun e w' => e = .returned (wv (rotr x 18)) ∧ w = w' := by
 have hs : bits BinOp.and IntKind.u64 (IntKind.u64.wrap (-18)) 31 = 14 := by decide
 have h1 := Hd (show (x.toNat : Int) * (16384 : Int) % (4294967296 : Int) = (((x <<< 14).toNat : Nat) : Int) from zb0 x 14)
 have h2 := Hd (show (x.toNat : Int) / (262144 : Int) = (((x >>> 18).toNat : Nat) : Int) from zbz x 18)
 have h3 := Hd (zcg (x <<< 14) (x >>> 18))
 go_enter Tryd.func82, Tryd.ntmps82
 go_wp2
 go_ret
 exact ⟨zb7 (by rw [h1.out, h2.out, h3.out, BitVec.or_comm]; rfl), rfl⟩

theorem ztt (x : W32) (w : World) : Calls Tryd.prog 82 #[wv x, .int .i64 19] w fun e w' => e = .returned (wv (rotr x 19)) ∧ w = w' := by
 have hs : bits BinOp.and IntKind.u64 (IntKind.u64.wrap (-19)) 31 = 13 := by decide
 have h1 := Hd (show (x.toNat : Int) * (8192 : Int) % (4294967296 : Int) = (((x <<< 13).toNat : Nat) : Int) from zb0 x 13)
 have h2 := Hd (show (x.toNat : Int) / (524288 : Int) = (((x >>> 19).toNat : Nat) : Int) from zbz x 19)
 have h3 := Hd (zcg (x <<< 13) (x >>> 19))
 go_enter Tryd.func82, Tryd.ntmps82
 go_wp2
 go_ret
 exact ⟨zb7 (by rw [h1.out, h2.out, h3.out, BitVec.or_comm]; rfl), rfl⟩

theorem ztu (x : W32) (w : World) : Calls Tryd.prog 82 #[wv x, .int .i64 22] w fun e w' => e = .returned (wv (rotr x 22)) ∧ w = w' := by
 have hs : bits BinOp.and IntKind.u64 (IntKind.u64.wrap (-22)) 31 = 10 := by decide
 have h1 := Hd (show (x.toNat : Int) * (1024 : Int) % (4294967296 : Int) = (((x <<< 10).toNat : Nat) : Int) from zb0 x 10)
 have h2 := Hd (show (x.toNat : Int) / (4194304 : Int) = (((x >>> 22).toNat : Nat) : Int) from zbz x 22)
 have h3 := Hd (zcg (x <<< 10) (x >>> 22))
 go_enter Tryd.func82, Tryd.ntmps82
 go_wp2
 go_ret
 exact ⟨zb7 (by rw [h1.out, h2.out, h3.out, BitVec.or_comm]; rfl), rfl⟩

theorem ztv (x : W32) (w : World) : Calls Tryd.prog 82 #[wv x, .int .i64 25] w fun e w' => e = .returned (wv (rotr x 25)) ∧ w = w' := by
 have hs : bits BinOp.and IntKind.u64 (IntKind.u64.wrap (-25)) 31 = 7 := by decide
 have h1 := Hd (show (x.toNat : Int) * (128 : Int) % (4294967296 : Int) = (((x <<< 7).toNat : Nat) : Int) from zb0 x 7)
 have h2 := Hd (show (x.toNat : Int) / (33554432 : Int) = (((x >>> 25).toNat : Nat) : Int) from zbz x 25)
 have h3 := Hd (zcg (x <<< 7) (x >>> 25))
 go_enter Tryd.func82, Tryd.ntmps82
 go_wp2
 go_ret
 exact ⟨zb7 (by rw [h1.out, h2.out, h3.out, BitVec.or_comm]; rfl), rfl⟩
section
theorem zco (w : World) (ad : Addr) (n c i : Nat) (hi : i < n) : (Instr.indexAt 39 (.slice (some ad) n c) (.int .i64 (i : Int))).run Tryd.prog w = .ok (.pointer (some (ad.add i))) w := by
 have hx : (0 : Int) ≤ (i : Int) ∧ (i : Int) < (n : Int) := by omega
 simp [go_sem, hi]
theorem zff (w : World) (g o i : Nat) (hi : i < 16) : (Instr.indexAt 142 (.pointer (some ⟨g, o, none⟩)) (.int .i64 (i : Int))).run Tryd.prog w = .ok (.pointer (some ⟨g, o + i, none⟩)) w := by
 have hx : (i : Int) < 16 := by omega
 simp [go_sem, hx]
theorem zd3 (w : World) (g o i : Nat) (hi : i < 64) : (Instr.indexAt 144 (.pointer (some ⟨g, o, none⟩)) (.int .i64 (i : Int))).run Tryd.prog w = .ok (.pointer (some ⟨g, o + i, none⟩)) w := by
 have hx : (i : Int) < 64 := by omega
 simp [go_sem, hx]
theorem zdg (w : World) (g o i : Nat) (hi : i < 8) : (Instr.indexAt 114 (.pointer (some ⟨g, o, none⟩)) (.int .i64 (i : Int))).run Tryd.prog w = .ok (.pointer (some ⟨g, o + i, none⟩)) w := by
 have hx : (i : Int) < 8 := by omega
 simp [go_sem, hx]
theorem zbj (w : World) (a : Addr) (x : W32) (h : w.cell? a = some (wv x)) : (Instr.loadAt 112 (.pointer (some a))).run Tryd.prog w = .ok (wv x) w := by
 simp [go_sem, h]
theorem zel (w : World) (a : Addr) (b : Nat) (h : w.cell? a = some (.int .u8 (b : Int))) : (Instr.loadAt 5 (.pointer (some a))).run Tryd.prog w = .ok (.int .u8 (b : Int)) w := by
 simp [go_sem, h]
theorem zf1 (w : World) (a : Addr) (x : W32) (y : Value) (h : w.cell? a = some y) (hf : w.frozen? a = false) : (Instr.storeAt 112 (.pointer (some a)) (wv x)).run Tryd.prog w = .ok () (w.setCell a (wv x)) := by
 simp [go_sem, h, hf]
end
end Go.Proofs.YtomilckcgmhfcaaDoor
