/- append onto a new empty slice, in a region that draws its order. -/
import Derived.Test.YtecgogeebponlaaDoorTail
namespace Go.Proofs.YtecgogeebponlaaDoor
set_option maxRecDepth 40000
open Go.RowKit

/-- A row of the call's own, as a slice. -/
def SF.own (base : Nat) (e : TypeId) (n : Nat) (f : Nat → Value) : SF := ⟨fun v w => ∃ A c, v = .slice A n c ∧ Own w base e A n c f, fun _ _ _ ⟨A, c, e1, h⟩ hb => ⟨A, c, e1, h.below hb fun ad ha => (h.base_le ad ha).2⟩⟩
/-- A new slice without cells. -/
def SF.own0 (base : Nat) (e : TypeId) : SF := ⟨fun v w => ∃ b, v = .slice (some ⟨b, 0, none⟩) 0 0 ∧ Own w base e (some ⟨b, 0, none⟩) 0 0 (fun _ => undef), fun _ _ _ ⟨b, e1, h⟩ hb => ⟨b, e1, h.below hb fun ad ha => (h.base_le ad ha).2⟩⟩

section
variable {P : Program} (w : World)
theorem app0_eq {t ty e : TypeId} {i : TypeInfo} {z : Value} (ht : P.underlying t = some (.slice e)) (hi : P.info? e = some i) (hz : i.zero = some z) (hsize : i.size = 1)
    (b a : Addr) (m cm B : Nat) (g : Nat → Value) (hr : Rd w B (some a) m g) (hm : 0 < m) (hbytes : m ≤ 9223372036854775807 ∧ m * i.bytes ≤ 140737488355328) :
    (Builtin.append_ #[t, t] ty #[.slice (some b) 0 0, .slice (some a) m cm]).run P w = (Builtin.append_ #[t, t] ty #[.slice none 0 0, .slice (some a) m cm]).run P w := by
  have hnews : ∀ j v, ((List.range m).map g)[j]? = some v → w.cell? (a.add j) = some v := fun j v hj => by
    have hjl : j < m := by
      rcases Nat.lt_or_ge j m with h | h
      · exact h
      · simp [h] at hj
    rw [hr.cell_ hjl]
    simp [hjl] at hj
    exact congrArg some hj
  have h1 := run_append_nil (P := P) w t ty e i z ht hi hz a m cm ((List.range m).map g) (by simp [hsize]) hnews hm (by omega) (by omega)
  have h2 := run_append_grow (P := P) w t ty e i z ht hi hz b 0 0 [] (by simp) (fun j v hj => by simp at hj) a m cm ((List.range m).map g) (by simp [hsize]) hnews (by omega) (by omega) (growslice_fits (by omega) (by rw [Nat.zero_add]; exact hbytes.2))
  rw [h1, h2]
  simp
/-- append onto a slice without room: only new memory is made. -/
theorem run_app0 (base : Nat) {t ty e : TypeId} {i : TypeInfo} {z : Value} {bytes : Nat} (ht : P.underlying t = some (.slice e)) (hi : P.info? e = some i) (hz : i.zero = some z)
    (hsize : i.size = 1) (hby : i.bytes = bytes) (hzs : z.cells.size = 1) {b : Addr} {f g : Nat → Value} (hown : Own w base e (some b) 0 0 f)
    {C : Option Addr} {m cm B : Nat} (hr : Rd w B C m g) (h1 : ∀ i, i < m → (g i).oneCell' = true) (hbytes : m ≤ 9223372036854775807 ∧ m * bytes ≤ 140737488355328) (hbase : base ≤ w.heap.size) :
    ∃ A' c' w', (Builtin.append_ #[t, t] ty #[.slice (some b) 0 0, .slice C m cm]).run P w = .ok (.slice A' m c') w' ∧ Own w' base e A' m c' g ∧ Below w.heap.size w w' := by
  by_cases hm : m = 0
  · subst hm
    obtain ⟨A', c', w', h2, h3, h4, h5⟩ := run_app (P := P) w base t ty e i z bytes ht hi hz hsize hby hzs (cm := cm) hown hr h1 (by omega) hbase
    have hrun : (Builtin.append_ #[t, t] ty #[.slice (some b) 0 0, .slice C 0 cm]).run P w = .ok (.slice (some b) 0 0) w := by
      rcases C with _ | ad <;> simp [Builtin.append_, run_underlying ht, sizeOf, typeInfo, hi, Builtin.lenOf, Builtin.firstCells, storeCells, loadCells, loadCellsFrom]
    exact ⟨_, _, _, hrun, hown.congr (fun i hi => absurd hi (by omega)), Below.refl _ _⟩
  · obtain ⟨ad, rfl, _⟩ := hr (by omega)
    obtain ⟨A', c', w', h2, h3, h4, _⟩ := run_app (P := P) w base t ty e i z bytes ht hi hz hsize hby hzs (cm := cm) (Own.nil w base e g) hr h1 (by rw [Nat.zero_add]; exact hbytes) hbase
    refine ⟨A', c', w', ?_, ?_, ⟨h4.os, h4.tape, h4.output, h4.size, fun k hk => h4.block k hk (by simp)⟩⟩
    · rw [app0_eq w ht hi hz hsize b ad m cm B g hr (by omega) (by rw [hby]; exact hbytes), h2, Nat.zero_add]
    · rw [Nat.zero_add] at h3
      exact h3.congr (fun i _ => by simp [catF])
end

section
variable {P : Program} {ops : Array Oper} {B : Nat} {w0 : World} {o : Oper} {lk : Tmp → SF}
/-- []T{}. -/
theorem opOb_bs0 {t e : TypeId} (hg : o.guard = none) (hop : o.op = .buildSlice t 0 #[]) (hr : ∀ w : World, (Instr.buildSlice t 0 #[]).run P w = .ok (.slice (some ⟨w.heap.size, 0, none⟩) 0 0) (w.alloc (.cells #[] e))) (base : Nat) (hb : base ≤ w0.heap.size) : opOb P ops B w0 o (SF.own0 base e) lk :=
  opOb_of hg fun a w hbel hf => by
    unfold Oper.wp execOp
    rw [hop]
    simp only [List.map_toArray, List.map_nil, Sem.run_bind, hr w, Result.andThen_ok, Sem.run_pure]
    exact ⟨_, rfl, ⟨w.heap.size, rfl, Own.new0 w base e _ (Nat.le_trans hb hbel.size)⟩, (Below.refl _ _).alloc (Nat.le_refl _) _⟩
/-- append([]T{}, x...). -/
theorem opOb_app0 {s x : Tmp} {t : TypeId} (base : Nat) {e : TypeId} {z : Value} {bytes : Nat} (hinfo : (P.info? e).map (fun i => (i.zero, i.size, i.bytes)) = some (some z, 1, bytes)) (ht : P.underlying t = some (.slice e)) (hzs : z.cells.size = 1)
    (hg : o.guard = none) (hop : o.op = .call { callee := .builtin .append, args := #[.tmp s, .tmp x], argTypes := #[t, t] }) (hs : lk s = SF.own0 base e)
    {C : Option Addr} {m cm Bx : Nat} {g : Nat → Value} (hx : lk x = SF.is (.slice C m cm)) (hr : ∀ w, Below B w0 w → Rd w Bx C m g) (h1 : ∀ i, i < m → (g i).oneCell' = true) (hbytes : m ≤ 9223372036854775807 ∧ m * bytes ≤ 140737488355328) (hbase : base ≤ w0.heap.size) :
    opOb P ops B w0 o (SF.own base e m g) lk :=
  opOb_of hg fun a w hbel hf => by
    obtain ⟨i, hi, hz, hsize, hby⟩ := info_parts hinfo
    have h2 := hf s (by rw [hop]; simp [Op.operands, Call.operands])
    have h3 := hf x (by rw [hop]; simp [Op.operands, Call.operands])
    rw [hs] at h2
    rw [hx] at h3
    obtain ⟨b, h4, hown⟩ := h2
    have e1 : a.eval (.tmp s) = .slice (some ⟨b, 0, none⟩) 0 0 := (getD_eq _ _).trans h4
    have e2 : a.eval (.tmp x) = .slice C m cm := (getD_eq _ _).trans h3
    obtain ⟨A', c', w', hrun, h5, h6⟩ := run_app0 (P := P) w base (ty := o.type) ht hi hz hsize hby hzs (cm := cm) hown (hr w hbel) h1 hbytes (Nat.le_trans hbase hbel.size)
    unfold Oper.wp execOp
    simp only [hop, resolve, invoke, builtin, Sem.run_bind, Sem.run_pure, Result.andThen_ok, List.map_toArray, List.map_cons, List.map_nil, e1, e2]
    rw [hrun]
    exact ⟨_, rfl, ⟨A', c', rfl, h5⟩, h6⟩
end
end Go.Proofs.YtecgogeebponlaaDoor
