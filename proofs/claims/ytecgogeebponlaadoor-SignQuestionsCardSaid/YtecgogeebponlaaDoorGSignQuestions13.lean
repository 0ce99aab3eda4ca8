/- Part 13 of what the proof of SignQuestions stands on: AppZ, SignQuestionsLaw, Laid, ShaLaid. -/
import Derived.Test.YtecgogeebponlaaDoorGSignQuestions10
import Derived.Test.YtecgogeebponlaaDoorGSignQuestions11
import Derived.Test.YtecgogeebponlaaDoorGSignQuestions12
import Derived.Test.YtecgogeebponlaaDoorGSignQuestions1
import Derived.Test.YtecgogeebponlaaDoorGSignQuestions3
import Derived.WideKeyArr2
import Derived.Lib.LaidTab
import Derived.Deep.DeepHandedRow
import Derived.Test.YtecgogeebponlaaDoorGSignQuestions7
import Derived.KernelRfl
/- Copies of lists whose elements have many cells. -/
namespace Go.Proofs.YtecgogeebponlaaDoor
set_option maxRecDepth 40000
open Go.RowKit
theorem OwnZ.new0 (w : World) (base : Nat) (e : TypeId) (z : Nat) (f : Nat → Value) (hb : base ≤ w.heap.size) : OwnZ (w.alloc (.cells #[] e)) base e z (some ⟨w.heap.size, 0, none⟩) 0 0 f :=
  ⟨by simp, .inr ⟨w.heap.size, 0, #[], rfl, hb, heap_alloc_new w _, Nat.le_refl _, Nat.zero_le _, by simp, by simp⟩⟩
/-- A row of the call's own, as a slice of elements of z cells. -/
def SF.ownZ (base : Nat) (e : TypeId) (z n : Nat) (f : Nat → Value) : SF := ⟨fun v w => ∃ A c, v = .slice A n c ∧ OwnZ w base e z A n c f, fun _ _ _ ⟨A, c, e1, h⟩ hb => ⟨A, c, e1, h.all hb⟩⟩
def SF.own0Z (base : Nat) (e : TypeId) (z : Nat) : SF := ⟨fun v w => ∃ b, v = .slice (some ⟨b, 0, none⟩) 0 0 ∧ OwnZ w base e z (some ⟨b, 0, none⟩) 0 0 (fun _ => undef), fun _ _ _ ⟨b, e1, h⟩ hb => ⟨b, e1, h.all hb⟩⟩
section
variable {P : Program} (w : World)
theorem app0Z_eq {t ty e : TypeId} {i : TypeInfo} {z : Value} {k : Nat} (ht : P.underlying t = some (.slice e)) (hi : P.info? e = some i) (hz : i.zero = some z) (hsize : i.size = k) (hk : 0 < k)
    (b a : Addr) (m cm B : Nat) (g : Nat → Value) (hr : Rd w B (some a) (m * k) g) (hm : 0 < m) (hbytes : m ≤ 9223372036854775807 ∧ m * i.bytes ≤ 140737488355328) :
    (Builtin.append_ #[t, t] ty #[.slice (some b) 0 0, .slice (some a) m cm]).run P w = (Builtin.append_ #[t, t] ty #[.slice none 0 0, .slice (some a) m cm]).run P w := by
  have hmk : 0 < m * k := Nat.mul_pos hm hk
  have hnews : ∀ j v, ((List.range (m * k)).map g)[j]? = some v → w.cell? (a.add j) = some v := fun j v hj => by
    have hjl : j < m * k := by
      rcases Nat.lt_or_ge j (m * k) with h | h
      · exact h
      · simp [h] at hj
    rw [hr.cell_ hjl]
    simp [hjl] at hj
    exact congrArg some hj
  have h1 := run_append_nil (P := P) w t ty e i z ht hi hz a m cm ((List.range (m * k)).map g) (by simp [hsize]) hnews hm (by omega) (by omega)
  have h2 := run_append_grow (P := P) w t ty e i z ht hi hz b 0 0 [] (by simp) (fun j v hj => by simp at hj) a m cm ((List.range (m * k)).map g) (by simp [hsize]) hnews (by omega) (by omega) (growslice_fits (by omega) (by rw [Nat.zero_add]; exact hbytes.2))
  rw [h1, h2]
  simp
theorem run_app0Z (base : Nat) {t ty e : TypeId} {i : TypeInfo} {z : Value} {k bytes : Nat} (ht : P.underlying t = some (.slice e)) (hi : P.info? e = some i) (hz : i.zero = some z)
    (hsize : i.size = k) (hk : 0 < k) (hby : i.bytes = bytes) (hzs : z.cells.size = k) {b : Addr} {f g : Nat → Value} (hown : OwnZ w base e k (some b) 0 0 f)
    {C : Option Addr} {m cm B : Nat} (hr : Rd w B C (m * k) g) (h1 : ∀ i, i < m * k → (g i).oneCell' = true) (hbytes : m ≤ 9223372036854775807 ∧ m * bytes ≤ 140737488355328) (hbase : base ≤ w.heap.size) :
    ∃ A' c' w', (Builtin.append_ #[t, t] ty #[.slice (some b) 0 0, .slice C m cm]).run P w = .ok (.slice A' m c') w' ∧ OwnZ w' base e k A' m c' g ∧ Below w.heap.size w w' := by
  by_cases hm : m = 0
  · subst hm
    have hrun : (Builtin.append_ #[t, t] ty #[.slice (some b) 0 0, .slice C 0 cm]).run P w = .ok (.slice (some b) 0 0) w := by
      rcases C with _ | ad <;> simp [Builtin.append_, run_underlying ht, sizeOf, typeInfo, hi, Builtin.lenOf, Builtin.firstCells, storeCells, loadCells, loadCellsFrom]
    exact ⟨_, _, _, hrun, hown.congr (fun i hi => absurd hi (by omega)), Below.refl _ _⟩
  · obtain ⟨ad, rfl, _⟩ := hr (Nat.mul_pos (by omega) hk)
    obtain ⟨A', c', w', h2, h3, h4, _⟩ := run_appZ (P := P) w base t ty e i z k bytes ht hi hz hsize hby hzs hk (cm := cm) (OwnZ.nil w base e k g) hr h1 (by rw [Nat.zero_add]; exact hbytes) hbase
    refine ⟨A', c', w', ?_, ?_, ⟨h4.os, h4.tape, h4.output, h4.size, fun k hk => h4.block k hk (by simp)⟩⟩
    · rw [app0Z_eq w ht hi hz hsize hk b ad m cm B g hr (by omega) (by rw [hby]; exact hbytes), h2, Nat.zero_add]
    · rw [Nat.zero_add] at h3
      exact h3.congr (fun i _ => by simp [catF])
theorem infoZ {e : TypeId} {z : Value} {k bytes : Nat} (hinfo : (P.info? e).map (fun i => (i.zero, i.size, i.bytes)) = some (some z, k, bytes)) : ∃ i, P.info? e = some i ∧ i.zero = some z ∧ i.size = k ∧ i.bytes = bytes := by
  cases hq : P.info? e with
  | none => rw [hq] at hinfo; simp at hinfo
  | some i => rw [hq] at hinfo; simp at hinfo; exact ⟨i, rfl, hinfo.1, hinfo.2.1, hinfo.2.2⟩
/-- append([]T{}, x...), two operations of a list. -/
theorem wpList_bs0L {ops : Array Oper} {rest : List Oper} {o : Oper} {a : Act} {w w0 : World} {Q : Exit → Act → World → Prop} {rows : List RowSpec} (hgd : o.guard = none) {t e : TypeId} (z : Nat) (ho : o.op = .buildSlice t 0 #[]) (hr : ∀ w : World, (Instr.buildSlice t 0 #[]).run P w = .ok (.slice (some ⟨w.heap.size, 0, none⟩) 0 0) (w.alloc (.cells #[] e))) (h : HS w0 w rows)
    (hK : ∀ b w', w0.heap.size ≤ b → HS w0 w' rows → OwnZ w' w.heap.size e z (some ⟨b, 0, none⟩) 0 0 (fun _ => undef) → wpList P ops Q rest (a.put o.dst (.slice (some ⟨b, 0, none⟩) 0 0)) w') : wpList P ops Q (o :: rest) a w :=
  wpList_plain hgd fun _ hK' => by
    unfold Oper.wp execOp
    rw [ho]
    simp only [List.map_toArray, List.map_nil, Sem.run_bind, hr w, Result.andThen_ok, Sem.run_pure]
    exact hK' _ _ (hK _ _ h.size (h.below ((Below.refl _ _).alloc (Nat.le_refl _) _)) (OwnZ.new0 w w.heap.size e z _ (Nat.le_refl _)))
theorem wpList_app0L {ops : Array Oper} {rest : List Oper} {o : Oper} {a : Act} {w w0 : World} {Q : Exit → Act → World → Prop} {rows : List RowSpec} (hgd : o.guard = none) (s x : Operand) (t base : Nat) {e : TypeId} {z : Value} {k bytes : Nat}
    (hinfo : (P.info? e).map (fun i => (i.zero, i.size, i.bytes)) = some (some z, k, bytes)) (ht : P.underlying t = some (.slice e)) (hzs : z.cells.size = k) (hk : 0 < k)
    (ho : o.op = .call { callee := .builtin .append, args := #[s, x], argTypes := #[t, t] }) {b : Addr} {f : Nat → Value} (hs : a.eval s = .slice (some b) 0 0) (hown : OwnZ w base e k (some b) 0 0 f)
    {C : Option Addr} {m cm B : Nat} {g : Nat → Value} (hx : a.eval x = .slice C m cm) (hr : Rd w B C (m * k) g) (h1 : ∀ i, i < m * k → (g i).oneCell' = true) (hbytes : m ≤ 9223372036854775807 ∧ m * bytes ≤ 140737488355328) (hbase : base ≤ w.heap.size) (h : HS w0 w rows)
    (hK : ∀ A' c' w', OwnZ w' base e k A' m c' g → HS w0 w' rows → wpList P ops Q rest (a.put o.dst (.slice A' m c')) w') : wpList P ops Q (o :: rest) a w :=
  wpList_plain hgd fun _ hK' => by
    obtain ⟨i, hi, hz, hsize, hby⟩ := infoZ hinfo
    obtain ⟨A', c', w', hrun, h5, h6⟩ := run_app0Z (P := P) w base (ty := o.type) ht hi hz hsize hk hby hzs (cm := cm) hown hr h1 hbytes hbase
    unfold Oper.wp execOp
    simp only [ho, resolve, invoke, builtin, Sem.run_bind, Sem.run_pure, Result.andThen_ok, List.map_toArray, List.map_cons, List.map_nil, hs, hx]
    rw [hrun]
    exact hK' _ _ (hK _ _ _ h5 (h.below h6))
end
section
variable {P : Program} {ops : Array Oper} {B : Nat} {w0 : World} {o : Oper} {lk : Tmp → SF} {ty rt : TypeId}
theorem opOb_bs0Z {t e : TypeId} (z : Nat) (hg : o.guard = none) (hop : o.op = .buildSlice t 0 #[]) (hr : ∀ w : World, (Instr.buildSlice t 0 #[]).run P w = .ok (.slice (some ⟨w.heap.size, 0, none⟩) 0 0) (w.alloc (.cells #[] e))) (base : Nat) (hb : base ≤ w0.heap.size) : opOb P ops B w0 o (SF.own0Z base e z) lk :=
  opOb_of hg fun a w hbel hf => by
    unfold Oper.wp execOp
    rw [hop]
    simp only [List.map_toArray, List.map_nil, Sem.run_bind, hr w, Result.andThen_ok, Sem.run_pure]
    exact ⟨_, rfl, ⟨w.heap.size, rfl, OwnZ.new0 w base e z _ (Nat.le_trans hb hbel.size)⟩, (Below.refl _ _).alloc (Nat.le_refl _) _⟩
theorem opOb_app0Z {s x : Tmp} {t : TypeId} (base : Nat) {e : TypeId} {z : Value} {k bytes : Nat} (hinfo : (P.info? e).map (fun i => (i.zero, i.size, i.bytes)) = some (some z, k, bytes)) (ht : P.underlying t = some (.slice e)) (hzs : z.cells.size = k) (hk : 0 < k)
    (hg : o.guard = none) (hop : o.op = .call { callee := .builtin .append, args := #[.tmp s, .tmp x], argTypes := #[t, t] }) (hs : lk s = SF.own0Z base e k)
    {C : Option Addr} {m cm Bx : Nat} {g : Nat → Value} (hx : lk x = SF.is (.slice C m cm)) (hr : ∀ w, Below B w0 w → Rd w Bx C (m * k) g) (h1 : ∀ i, i < m * k → (g i).oneCell' = true) (hbytes : m ≤ 9223372036854775807 ∧ m * bytes ≤ 140737488355328) (hbase : base ≤ w0.heap.size) :
    opOb P ops B w0 o (SF.ownZ base e k m g) lk :=
  opOb_of hg fun a w hbel hf => by
    obtain ⟨i, hi, hz, hsize, hby⟩ := infoZ hinfo
    have h2 := hf s (by rw [hop]; simp [Op.operands, Call.operands])
    have h3 := hf x (by rw [hop]; simp [Op.operands, Call.operands])
    rw [hs] at h2
    rw [hx] at h3
    obtain ⟨b, h4, hown⟩ := h2
    have e1 : a.eval (.tmp s) = .slice (some ⟨b, 0, none⟩) 0 0 := (getD_eq _ _).trans h4
    have e2 : a.eval (.tmp x) = .slice C m cm := (getD_eq _ _).trans h3
    obtain ⟨A', c', w', hrun, h5, h6⟩ := run_app0Z (P := P) w base (ty := o.type) ht hi hz hsize hk hby hzs (cm := cm) hown (hr w hbel) h1 hbytes (Nat.le_trans hbase hbel.size)
    unfold Oper.wp execOp
    simp only [hop, resolve, invoke, builtin, Sem.run_bind, Sem.run_pure, Result.andThen_ok, List.map_toArray, List.map_cons, List.map_nil, e1, e2]
    rw [hrun]
    exact ⟨_, rfl, ⟨A', c', rfl, h5⟩, h6⟩
/-- []T{x}. -/
theorem opOb_bs1Z {t e : TypeId} {z : Nat} (ht : P.underlying t = some (.slice e)) (hz : (P.info? e).map (·.size) = some z) (hlen : z ≤ 16777216) (h0 : 0 < z) {v0 : Value} (hzero : (P.info? e).bind (·.zero) = some v0)
    {x : Operand} (hg : o.guard = none) (hop : o.op = .buildSlice t 1 #[(0, x)]) (f : Nat → Value) (hx : OpK lk x (.agg (arr z f))) : opOb P ops B w0 o (SF.rdZ 1 z f) lk :=
  opOb_of hg fun a w hbel hf => by
    have h1 := hx.eval hf (by rw [hop]; simp [Op.operands])
    have hr := run_bsN (P := P) w (t := t) (len := 1) ht hz (by omega) (by omega) hzero #[(0, .agg (arr z f))] f (fun g => by
      rw [show (#[((0 : Nat), Value.agg (arr z f))] : Array (Nat × Value)).toList = [(0, .agg (arr z f))] from rfl, fill_step z (1 * z) 0 f g [] (by omega)]
      show some _ = some _
      exact congrArg some (arr_congr fun i hi => by rw [if_pos (by omega)]; simp))
    rw [Nat.one_mul] at hr
    have hrun : (execOp a.eval o).run P w = .ok (.value (.slice (some ⟨w.heap.size, 0, none⟩) 1 1)) (w.alloc (.cells (arr z f) e)) := by
      unfold execOp
      rw [hop]
      simp only [List.map_toArray, List.map_cons, List.map_nil, h1]
      simp [hr]
    have h2 := (HS.nil w).alloc (arr z f) e z f (size_arr _ _) (fun i hi => arr_at _ _ i hi)
    unfold Oper.wp
    rw [hrun]
    exact ⟨_, rfl, ⟨_, _, rfl, by rw [Nat.one_mul]; exact Rd.of_row (h2.row 0 rfl) (Nat.le_refl _) (h2.lt 0 rfl)⟩, h2.out (by simp)⟩
theorem opOb_eqBool {xo yo : Operand} (b : Bool) (hu : P.underlying ty = some .bool) (hg : o.guard = none) (hop : o.op = .binOp .eql ty xo yo rt) (hx : OpK lk xo (.bool b)) (hy : OpK lk yo (.bool b)) : opOb P ops B w0 o (SF.is (.bool true)) lk :=
  opOb_val _ hg fun a w _ hf => by
    have h1 := hx.eval hf (by rw [hop]; simp [Op.operands])
    have h2 := hy.eval hf (by rw [hop]; simp [Op.operands])
    unfold execOp
    rw [hop]
    simp only [h1, h2]
    cases b <;> simp [eqGuard, go_sem, hu]
theorem opOb_notB {xo : Operand} (b : Bool) (hg : o.guard = none) (hop : o.op = .unOp .not ty xo) (hx : OpK lk xo (.bool b)) : opOb P ops B w0 o (SF.is (.bool (!b))) lk :=
  opOb_val _ hg fun a w _ hf => by
    have h1 := hx.eval hf (by rw [hop]; simp [Op.operands])
    unfold execOp
    rw [hop]
    simp only [h1]
    simp [go_sem]
end
end Go.Proofs.YtecgogeebponlaaDoor
/- The law SignQuestions. (Printed by a program of mine.) -/
namespace Go.Proofs.YtecgogeebponlaaDoor
set_option maxRecDepth 40000
open Go.RowKit
namespace SignQuestionsLaw
theorem ent_q2 (vs : Array Value) (w : World) : (callFunc 18 vs).run Tryd.prog w = .ok (.enter 18 vs) w := by kernel_rfl
theorem ent_g1 (vs : Array Value) (w : World) : (callFunc 19 vs).run Tryd.prog w = .ok (.enter 19 vs) w := by kernel_rfl
theorem ent_g2 (vs : Array Value) (w : World) : (callFunc 20 vs).run Tryd.prog w = .ok (.enter 20 vs) w := by kernel_rfl
theorem ent_sm (vs : Array Value) (w : World) : (callFunc 21 vs).run Tryd.prog w = .ok (.enter 21 vs) w := by kernel_rfl
theorem run_bs0_R (w : World) : (Instr.buildSlice 32 0 #[]).run Tryd.prog w = .ok (.slice (some ⟨w.heap.size, 0, none⟩) 0 0) (w.alloc (.cells #[] 24)) := by simp [go_sem]
theorem run_bs0_K (w : World) : (Instr.buildSlice 62 0 #[]).run Tryd.prog w = .ok (.slice (some ⟨w.heap.size, 0, none⟩) 0 0) (w.alloc (.cells #[] 44)) := by simp [go_sem]
theorem last_in (m : Nat) (y q : Nat → Nat) : inB (catN (m * 32) y q) (m + 1) q = true := inB_t (j := m) (by omega) (fun i _ => by unfold catN; rw [if_neg (by omega), show m * 32 + i - m * 32 = i by omega])
theorem cat_last {m : Nat} {y q : Nat → Nat} : ∀ i, i < (m + 1) * 32 → catF (m * 32) (u8v y) (u8v q) i = u8v (catN (m * 32) y q) i := fun i _ => by
  simp only [catF, u8v, catN]; split <;> rfl
end SignQuestionsLaw
open SignQuestionsLaw in
set_option maxHeartbeats 8000000 in
theorem signQuestions_law (w : World) (A : Option Addr) (n c : Nat) (x : Nat → Nat) (hA : Rd w w.heap.size A (n * 48) (u8v x)) (hx : ∀ i, x i < 256) (hn : n * 48 ≤ 140737488351232) (_hnc : n ≤ c) (r : Nat → Nat) (hr : ∀ i, r i < 256) (s : Nat → Nat) (hss : ∀ i, s i < 256)
    (A2 : Option Addr) (m c2 : Nat) (y : Nat → Nat) (hB : Rd w w.heap.size A2 (m * 32) (u8v y)) (_hy : ∀ i, y i < 256) (hm : m * 32 ≤ 140737488351232) (_hmc : m ≤ c2) (hp : ShaPkg w) (hpr : RefPkg w) :
    Calls Tryd.prog 5 #[.slice A n c, rootV r, .agg (arr 96 (u8v s)), .slice A2 m c2] w fun e w' => e = .returned (.bool true) ∧ Below w.heap.size w w' := by
  have HP := Lib.hid hp
  have HPR := Lib.hid hpr
  have HA := Lib.hid hA
  have HX := Lib.hid hx
  have HR := Lib.hid hr
  have HSg := Lib.hid hss
  have HY := Lib.hid hB
  have HS0 := Lib.hid (HS.nil w)
  obtain ⟨q, hq⟩ : ∃ q, q = (shaB (quN n x r s) (n * 48 + 32 + 96)) := ⟨_, rfl⟩
  have HQ := Lib.hid (show Ending.returned (rootV (shaB (quN n x r s) (n * 48 + 32 + 96))) = .returned (rootV q) by rw [hq])
  clear hp hpr hA hx hr hss hB hq
  go_enter Tryd.func5, Tryd.ntmps5
  go_wp2_with (first
    | (refine wpList_boxL rfl 24 _ 5 rfl rfl HS0.out 32 (u8v r) rfl ?_; intro b5 w5 hb5 hc5 hs5; have HS5 := Lib.hid hs5; clear hs5)
    | (refine wpList_boxL rfl 56 _ 6 rfl rfl HS5.out 96 (u8v s) rfl ?_; intro b6 w6 hb6 hc6 hs6; have HS6 := Lib.hid hs6; clear hs6)
    | (go_at_call 7; refine (awake_any _ (HP.out.below (HS6.out.out (by simp; omega)))).mono ?_; rintro e w7 ⟨rfl, hb7⟩; have HS7 := Lib.hid (HS6.out.below hb7); clear hb7)
    | (refine wpList_bs0L rfl 48 rfl run_bs0_K HS7.out ?_; intro b16 w16 hb16 hs16 ho16; have HS16 := Lib.hid hs16; have HO16 := Lib.hid ho16; have h716 := HS7.out.size; have HE716 := Lib.hid (Nat.le_of_lt (Nat.lt_of_le_of_lt (ho16.base_le _ rfl).1 (ho16.base_le _ rfl).2)); clear hs16 ho16)
    | (at_builtin; refine wpList_app0L rfl (.tmp 16) (.tmp 17) 62 w7.heap.size (e := 44) (z := .agg (Array.replicate 48 (.int .u8 0))) (k := 48) (bytes := 48) (by kernel_rfl) Tryd.underlying62 (by rfl) (by omega) rfl rfl HO16.out rfl (HA.out.below (HS16.out.out (by simp; omega))) (fun _ _ => rfl) ⟨by omega, by omega⟩ HE716.out HS16.out ?_; intro A9 c9 w18 ho9 hs18; have HO9 := Lib.hid ho9; have HS18 := Lib.hid hs18; clear ho9 hs18)
    | (refine wpList_load_rd rfl 24 _ rfl 32 _ Tryd.underlying24 rfl (by kernel_rfl) ⟨b5, 0, none⟩ rfl (u8v r) (fun i hi => by rw [add_lit0]; exact HS18.out.cell 1 i rfl hi) ?_)
    | (refine wpList_load_rd rfl 56 _ rfl 96 _ Tryd.underlying56 rfl (by kernel_rfl) ⟨b6, 0, none⟩ rfl (u8v s) (fun i hi => by rw [add_lit0]; exact HS18.out.cell 0 i rfl hi) ?_)
    | (go_at_call 17; refine (question_look n c9 A9 x r s _ HO9.out.rd HX.out HR.out HSg.out (by omega) (HP.out.below (HS18.out.out (by simp; omega)))).mono ?_; rintro e w22 ⟨he, hb22⟩; rw [HQ.out] at he; subst he; have HS22 := Lib.hid (HS18.out.below hb22); have HO22 := Lib.hid (HO9.out.all hb22); have HN := Lib.hid (HS.nil w22); clear hb22)
    | (refine wpList_allocL rfl 24 10 rfl rfl HN.out (Array.replicate 32 (.int .u8 0)) (by kernel_rfl) 32 (u8v fun _ => 0) (by rfl) (zero_at 32 (.int .u8 0)) ?_; intro b10 w23 hb10 hc10 hs; have HS23 := Lib.hid hs; clear hs)
    | (refine wpList_storeH rfl 24 (.tmp 10) (.tmp 22) rfl HS23.out 0 rfl (u8v q) rfl rfl (by kernel_rfl) (fun _ _ => rfl) ?_; intro wc hs; have HC := Lib.hid hs; clear hs))
  have hbc := HC.out.out (by simp; omega)
  have hs := HS22.out.below hbc
  have R10 := Lib.hid (HC.out.row 0 rfl)
  have R6 := Lib.hid (hs.row 0 rfl)
  have R5 := Lib.hid (hs.row 1 rfl)
  have HWC := Lib.hid (hs.out (by simp; omega))
  have RD9 := Lib.hid ((HO22.out.all hbc).rd)
  have L10 := Lib.hid (ld_all R10.out R10.out.lt Tryd.underlying24 rfl (by kernel_rfl))
  have L5 := Lib.hid (ld_all R5.out R5.out.lt Tryd.underlying24 rfl (by kernel_rfl))
  have L6 := Lib.hid (ld_all R6.out R6.out.lt Tryd.underlying56 rfl (by kernel_rfl))
  clear hs hbc HS0 HS5 HS6 HS7 HS16 HO16 HO9 HS18 HS22 HO22 HN HS23 HC h716 HE716
  refine wp_region_facts (B := wc.heap.size) (w0 := wc) [SF.is (rootV q), SF.is (.slice (A) (n) (c)), SF.is (rootV r), SF.is (.agg (arr 96 (u8v s))), SF.is (rootV q), SF.is (.bool false)] (by kernel_rfl) (by kernel_rfl) rfl (Nat.le_refl _) (Below.refl _ _) ⟨?_, ?_, ?_, ?_, ?_, ?_, trivial⟩ ?_
  · exact opOb_ld rfl rfl (OpK.tmp rfl) (fun w' hb => L10.out w' hb)
  · exact (opOb_move _ rfl (.inl rfl) rfl)
  · exact opOb_ld rfl rfl (OpK.tmp rfl) (fun w' hb => L5.out w' hb)
  · exact opOb_ld rfl rfl (OpK.tmp rfl) (fun w' hb => L6.out w' hb)
  · exact opOb_fn3 ent_q2 rfl rfl (OpK.tmp rfl) (OpK.tmp rfl) (OpK.tmp rfl) (fun w' hb => (question_ref n c A x r s w' ((HA.out.below (HWC.out.trans (hb.mono HWC.out.size))).more (Nat.le_trans HWC.out.size hb.size)) HX.out HR.out HSg.out (by omega) (HPR.out.below (HWC.out.trans (hb.mono HWC.out.size)))).mono fun e w'' ⟨he', hb2⟩ => ⟨_, he'.trans HQ.out, rfl, hb2⟩)
  · exact opOb_neArr 5 32 .u8 (fun i => ((q i : Nat) : Int)) (fun i => ((q i : Nat) : Int)) false Tryd.underlying24 Tryd.underlying5 (by kernel_rfl) (by kernel_rfl) (by simp) rfl rfl (OpK.tmp rfl) (OpK.tmp rfl)
  · intro w' hb
    simp only [fin, SF.is, forall_eq]
    simp only [Act.put, List.setIfInBounds_toArray, List.set_cons_succ, List.set_cons_zero]
    obtain ⟨wd, hwd⟩ : ∃ wd, wd = w' := ⟨_, rfl⟩
    have HWD := Lib.hid (HWC.out.trans (hb.mono HWC.out.size))
    have S10 := Lib.hid (row_below R10.out hb R10.out.lt)
    have SD9 := Lib.hid ((RD9.out.below hb).more hb.size)
    rw [← hwd] at HWD S10 SD9 ⊢
    clear hb hwd R10 R5 R6 RD9 L10 L5 L6 HWC
    go_wp2_with fail
    go_loopw [11] (fun i wr => ∃ j : Nat, i = .int .i64 (j : Int) ∧ j ≤ n ∧ Below wd.heap.size wd wr) (fun i _ => n - (intOf i).toNat)
    case atStart => exact ⟨0, rfl, by omega, Below.refl _ _⟩
    case round =>
      obtain ⟨j, rfl, hj, hbw⟩ := hrel
      have HW := Lib.hid hbw
      clear hbw
      by_cases hjn : j < n
      · obtain ⟨ad, hA, _, _⟩ := HA.out (show 0 < n * 48 by omega)
        subst hA
        obtain ⟨ad9, hA9, _, _⟩ := SD9.out (show 0 < n * 48 by omega)
        subst hA9
        have HCL : Hid (∀ w', Below wr.heap.size wr w' → ∀ i, i < n * 48 → w'.cell? (ad.add i) = some (u8v x i)) := Lib.hid (fun w' hb i hi => (HA.out.below (HWD.out.trans ((HW.out.trans (hb.mono HW.out.size)).mono HWD.out.size))).cells hi)
        have HCL9 : Hid (∀ w', Below wr.heap.size wr w' → ∀ i, i < n * 48 → w'.cell? (ad9.add i) = some (u8v x i)) := Lib.hid (fun w' hb i hi => (SD9.out.below (HW.out.trans (hb.mono HW.out.size))).cells hi)
        go_wp2_with fail
        refine wp_region_facts (B := wr.heap.size) (w0 := wr) [SF.is (.slice (some ad9) (n) (c9)), SF.is (.int .i64 ((j : Nat) : Int)), SF.is (.pointer (some (ad9.add (j * 48)))), SF.is (.agg (arr 48 (u8v (fun i => x (j * 48 + i))))), SF.is (.slice (some ad) (n) (c)), SF.is (.int .i64 ((j : Nat) : Int)), SF.is (.pointer (some (ad.add (j * 48)))), SF.is (.agg (arr 48 (u8v (fun i => x (j * 48 + i))))), SF.is (.bool false)] (by kernel_rfl) (by kernel_rfl) rfl (Nat.le_refl _) (Below.refl _ _) ⟨?_, ?_, ?_, ?_, ?_, ?_, ?_, ?_, ?_, trivial⟩ ?_
        · exact (opOb_move _ rfl (.inl rfl) rfl)
        · exact (opOb_move _ rfl (.inl rfl) rfl)
        · exact opOb_idx rfl rfl (OpK.tmp rfl) (OpK.tmp rfl) (fun w => run_idxZ w Tryd.underlying62 (by kernel_rfl) ad9 (by omega))
        · exact opOb_ld rfl rfl (OpK.tmp rfl) (fun w' hb => run_loadAt_rd w' (ad9.add (j * 48)) 48 _ _ (u8v (fun i => x (j * 48 + i))) (fun i hi => by rw [add_add]; exact HCL9.out w' hb (j * 48 + i) (by omega)) Tryd.underlying44 rfl (by kernel_rfl))
        · exact (opOb_move _ rfl (.inl rfl) rfl)
        · exact (opOb_move _ rfl (.inl rfl) rfl)
        · exact opOb_idx rfl rfl (OpK.tmp rfl) (OpK.tmp rfl) (fun w => run_idxZ w Tryd.underlying62 (by kernel_rfl) ad (by omega))
        · exact opOb_ld rfl rfl (OpK.tmp rfl) (fun w' hb => run_loadAt_rd w' (ad.add (j * 48)) 48 _ _ (u8v (fun i => x (j * 48 + i))) (fun i hi => by rw [add_add]; exact HCL.out w' hb (j * 48 + i) (by omega)) Tryd.underlying44 rfl (by kernel_rfl))
        · exact opOb_neArr 5 48 .u8 (fun i => (((fun i => x (j * 48 + i)) i : Nat) : Int)) (fun i => (((fun i => x (j * 48 + i)) i : Nat) : Int)) false Tryd.underlying44 Tryd.underlying5 (by kernel_rfl) (by kernel_rfl) (by simp) rfl rfl (OpK.tmp rfl) (OpK.tmp rfl)
        · intro w' hb
          simp only [fin, SF.is, forall_eq]
          simp only [Act.put, List.setIfInBounds_toArray, List.set_cons_succ, List.set_cons_zero]
          have hend := HW.out.trans (hb.mono HW.out.size)
          go_wp2_with fail
          go_roundw
          case rel => exact ⟨j + 1, by go_num, by omega, hend⟩
          case measure => simp [intOf]; omega
      · have hjn' : j = n := by omega
        obtain ⟨we, hwe⟩ : ∃ we, we = wr := ⟨_, rfl⟩
        have HWE := Lib.hid (HWD.out.trans (HW.out.mono HWD.out.size))
        have T10 := Lib.hid (row_below S10.out HW.out S10.out.lt)
        rw [← hwe] at HWE T10 ⊢
        have L10 := Lib.hid (ld_all T10.out T10.out.lt Tryd.underlying24 rfl (by kernel_rfl))
        clear hwe HW
        go_wp2_with fail
        refine wp_region_factsS (l := [_, _, _, _, _]) (tl := [_]) (B := we.heap.size) (w0 := we) [SF.own0Z we.heap.size 24 32, SF.is (.slice (A2) (m) (c2)), SF.ownZ we.heap.size 24 32 m (u8v y), SF.is (rootV q), SF.rdZ 1 32 (u8v q)] (by kernel_rfl) (by kernel_rfl) rfl (Nat.le_refl _) (Below.refl _ _) ⟨?_, ?_, ?_, ?_, ?_, trivial⟩ ?_
        · exact opOb_bs0Z 32 rfl rfl run_bs0_R _ (Nat.le_refl _)
        · exact (opOb_move _ rfl (.inl rfl) rfl)
        · exact opOb_app0Z (s := 44) (x := 45) we.heap.size (z := .agg (Array.replicate 32 (.int .u8 0))) (k := 32) (bytes := 32) (by kernel_rfl) Tryd.underlying32 (by rfl) (by omega) rfl rfl rfl rfl (fun w' hb => (HY.out.below (HWE.out.trans (hb.mono HWE.out.size)))) (fun _ _ => rfl) ⟨by omega, by omega⟩ (Nat.le_refl _)
        · exact opOb_ld rfl rfl (OpK.tmp rfl) (fun w' hb => L10.out w' hb)
        · exact opOb_bs1Z Tryd.underlying32 (z := 32) (by kernel_rfl) (by omega) (by omega) (v0 := .agg (Array.replicate 32 (.int .u8 0))) (by kernel_rfl) rfl rfl (u8v q) (OpK.tmp rfl)
        · intro w' hb
          simp only [fin, SF.is, SF.own0Z, SF.ownZ, SF.rdZ, forall_eq]
          simp only [Act.put, List.setIfInBounds_toArray, List.set_cons_succ, List.set_cons_zero]
          rintro _ _ _ ⟨A46, c46, rfl, ho46⟩ _ ⟨A48, c48, rfl, hr48⟩
          refine wp_appZ w' (.tmp 46) (.tmp 48) 32 we.heap.size (z := .agg (Array.replicate 32 (.int .u8 0))) (k := 32) (bytes := 32) (by kernel_rfl) Tryd.underlying32 (by rfl) (by omega) rfl (m + 1) (u8v (catN (m * 32) y q)) rfl rfl ho46 hr48 (fun _ _ => rfl) rfl cat_last ⟨by omega, by omega⟩ hb.size ?_
          intro A12 c12 wf ho12 hg12 _
          have hbf := below_app hb hg12 hb.size (fun ad e => (ho46.base_le ad e).1)
          have HO12 := Lib.hid ho12.rd
          have HBF := Lib.hid hbf
          have HN := Lib.hid (HS.nil wf)
          have hszf : we.heap.size ≤ wf.heap.size := hbf.size
          have hszw : w.heap.size ≤ we.heap.size := HWE.out.size
          clear ho12 hg12 hbf ho46 hr48 hb L10
          refine wp_asg (.slice A12 (m + 1) c12) (.inl rfl) rfl ?_
          simp only [seqWp, Act.put]
          go_wp2_with (first
            | (refine wpList_bs0L rfl 32 rfl run_bs0_R HN.out ?_; intro b50 w50 hb50 hs50 ho50; have HS50 := Lib.hid hs50; have HO50 := Lib.hid ho50; have HE50 := Lib.hid (Nat.le_of_lt (Nat.lt_of_le_of_lt (ho50.base_le _ rfl).1 (ho50.base_le _ rfl).2)); clear hs50 ho50)
            | (at_builtin; refine wpList_app0L rfl (.tmp 50) (.tmp 51) 32 wf.heap.size (e := 24) (z := .agg (Array.replicate 32 (.int .u8 0))) (k := 32) (bytes := 32) (by kernel_rfl) Tryd.underlying32 (by rfl) (by omega) rfl rfl HO50.out rfl (HY.out.below (HWE.out.trans ((HBF.out.trans (HS50.out.bel.mono hszf)).mono hszw))) (fun _ _ => rfl) ⟨by omega, by omega⟩ HE50.out HS50.out ?_; intro A13 c13 w52 ho13 hs13; have HO13 := Lib.hid ho13.rd; have HS13 := Lib.hid hs13.bel; clear ho13 hs13))
          obtain ⟨wg, hwg⟩ : ∃ wg, wg = w52 := ⟨_, rfl⟩
          have hbg := HBF.out.trans (HS13.out.mono hszf)
          have HWG := Lib.hid (HWE.out.trans (hbg.mono hszw))
          have T10g := Lib.hid (row_below T10.out hbg T10.out.lt)
          have H12 := Lib.hid ((HO12.out.below HS13.out).more HS13.out.size)
          have H13 := Lib.hid HO13.out
          rw [← hwg] at HWG T10g H12 H13 ⊢
          have L10 := Lib.hid (ld_all T10g.out T10g.out.lt Tryd.underlying24 rfl (by kernel_rfl))
          clear hwg hbg HS13 HO13 HO12 HBF HN HS50 HO50 HE50 hszf hszw T10 HWE
          refine wp_region_facts (B := wg.heap.size) (w0 := wg) [SF.is (rootV q), SF.is (.slice (A13) (m) (c13)), SF.is (.bool (!inB y m q)), SF.is (rootV q), SF.is (.slice (A2) (m) (c2)), SF.is (.bool (!inB y m q)), SF.is (.bool true), SF.is (.bool true), SF.is (rootV q), SF.is (.slice (A12) (m + 1) (c12)), SF.is (.bool false), SF.is (.bool true), SF.is (.bool true), SF.is (.bool true), SF.is (.slice (A13) (m) (c13)), SF.is (.slice (A2) (m) (c2)), SF.is (.bool true), SF.is (.bool true), SF.is (.bool true)] (by kernel_rfl) (by kernel_rfl) rfl (Nat.le_refl _) (Below.refl _ _) ⟨?_, ?_, ?_, ?_, ?_, ?_, ?_, ?_, ?_, ?_, ?_, ?_, ?_, ?_, ?_, ?_, ?_, ?_, ?_, trivial⟩ ?_
          · exact opOb_ld rfl rfl (OpK.tmp rfl) (fun w' hb => L10.out w' hb)
          · exact (opOb_move _ rfl (.inl rfl) rfl)
          · exact opOb_fn2 ent_g1 rfl rfl (OpK.tmp rfl) (OpK.tmp rfl) (fun w' hb => (good_look m c13 A13 y q w' ((H13.out.below hb).more hb.size) (by omega)).mono fun e w'' ⟨he', hb2⟩ => ⟨_, he', rfl, hb2⟩)
          · exact opOb_ld rfl rfl (OpK.tmp rfl) (fun w' hb => L10.out w' hb)
          · exact (opOb_move _ rfl (.inl rfl) rfl)
          · exact opOb_fn2 ent_g2 rfl rfl (OpK.tmp rfl) (OpK.tmp rfl) (fun w' hb => (good_ref m c2 A2 y q w' ((HY.out.below (HWG.out.trans (hb.mono HWG.out.size))).more (Nat.le_trans HWG.out.size hb.size)) (by omega)).mono fun e w'' ⟨he', hb2⟩ => ⟨_, he', rfl, hb2⟩)
          · exact opOb_eqBool (!inB y m q) Tryd.underlying4 rfl rfl (OpK.tmp rfl) (OpK.tmp rfl)
          · exact (opOb_move _ rfl (.inl rfl) rfl)
          · exact opOb_on 60 rfl rfl (opOb_ld rfl rfl (OpK.tmp rfl) (fun w' hb => L10.out w' hb))
          · exact opOb_on 60 rfl rfl ((opOb_move _ rfl (.inl rfl) rfl))
          · exact opOb_on 60 rfl rfl (opOb_fn2 ent_g1 rfl rfl (OpK.tmp rfl) (OpK.tmp rfl) (fun w' hb => (good_look (m + 1) c12 A12 (catN (m * 32) y q) q w' ((H12.out.below hb).more hb.size) (by omega)).mono fun e w'' ⟨he', hb2⟩ => ⟨_, he'.trans (by rw [last_in]; rfl), rfl, hb2⟩))
          · exact opOb_on 60 rfl rfl (opOb_notB false rfl rfl (OpK.tmp rfl))
          · exact opOb_pickT rfl rfl rfl (OpK.tmp rfl)
          · exact (opOb_move _ rfl (.inl rfl) rfl)
          · exact opOb_on 66 rfl rfl ((opOb_move _ rfl (.inl rfl) rfl))
          · exact opOb_on 66 rfl rfl ((opOb_move _ rfl (.inl rfl) rfl))
          · exact opOb_on 66 rfl rfl (opOb_fn2 ent_sm rfl rfl (OpK.tmp rfl) (OpK.tmp rfl) (fun w' hb => (sameR_any m c13 c2 A13 A2 y w' ((H13.out.below hb).more hb.size) ((HY.out.below (HWG.out.trans (hb.mono HWG.out.size))).more (Nat.le_trans HWG.out.size hb.size)) (by omega)).mono fun e w'' ⟨he', hb2⟩ => ⟨_, he', rfl, hb2⟩))
          · exact opOb_pickT rfl rfl rfl (OpK.tmp rfl)
          · exact (opOb_move _ rfl (.inr rfl) rfl)
          · intro w' hb
            simp only [fin, SF.is, forall_eq]
            simp only [Act.put, List.setIfInBounds_toArray, List.set_cons_succ, List.set_cons_zero]
            have hend := HWG.out.trans (hb.mono HWG.out.size)
            go_wp2_with fail
            go_ret
            exact ⟨rfl, hend⟩
end Go.Proofs.YtecgogeebponlaaDoor
/- Arguments that are arrays; package variables that lie as they were laid. -/
namespace Go.Proofs.YtecgogeebponlaaDoor
set_option maxRecDepth 40000
open Go.RowKit Go.ChangeShapes Go.WideShapes Go.ChangeAt
theorem open_arr_ints {H : Type} {enc : TypeId × Value → H} {P : Program} {W : World} {base b0 : Nat} {sp : Nat → Bool} {held : Bool} {r : Reach} {t e : TypeId} {n : Nat} {k : IntKind} {v : Value} {d : DataW H} {ps : List MemPlace}
    (hu : P.underlying t = some (.array n e)) (he : P.underlying e = some (.int k)) (hce : P.cellsOf e = 1) (hct : P.cellsOf t = n) (hval : Value.okWide P W r b0 t v) (hd : DataW.Trod enc P W base sp held t v d ps) :
    ∃ z : Nat → Int, v = .agg (arr n fun i => .int k (z i)) ∧ ∀ i, i < n → (Lit.int k (z i)).wf = true := by
  simp only [Value.okWide, hu] at hval
  obtain ⟨xs, rfl, hn, _⟩ := hval
  obtain ⟨fuel, hf⟩ := hd
  cases fuel with
  | zero => simp [DataW.trod] at hf
  | succ m =>
    rw [DataW.trod_step] at hf
    unfold DataW.trodStep at hf
    simp only [hu, Value.cells] at hf
    rw [if_pos (by simpa using hn)] at hf
    simp only [Option.map_eq_some_iff] at hf
    obtain ⟨ys, hy, e1⟩ := hf
    have hcell : ∀ i, i < n → ∃ z, xs[i]? = some (.int k z) ∧ (Lit.int k z).wf = true := by
      intro i hi
      obtain ⟨b, _, hb⟩ := Lib.mapM_at hy i i (by simp [hi])
      rw [hce] at hb
      obtain ⟨z, h1, _, h3⟩ := DataW.trod_int he hb
      refine ⟨z, ?_, h3⟩
      have hl : (List.take 1 (List.drop (i * 1) xs.toList))[0]? = some (.int k z) := by rw [h1]; rfl
      simpa using hl
    have h2 : ∀ i, ∃ z, i < n → (xs[i]? = some (.int k z) ∧ (Lit.int k z).wf = true) := fun i => by
      by_cases hi : i < n
      · obtain ⟨z, hz⟩ := hcell i hi; exact ⟨z, fun _ => hz⟩
      · exact ⟨0, fun h => absurd h hi⟩
    obtain ⟨z, hz⟩ := Classical.axiomOfChoice h2
    exact ⟨z, by rw [arr_of xs n (fun i => .int k (z i)) (by rw [hn, hct]) (fun i hi => (hz i hi).1)], fun i hi => (hz i hi).2⟩
/-- A [32]byte and its like. -/
theorem open_bytes {H : Type} {enc : TypeId × Value → H} {P : Program} {W : World} {base b0 : Nat} {sp : Nat → Bool} {held : Bool} {r : Reach} {t e : TypeId} {n : Nat} {v : Value} {d : DataW H} {ps : List MemPlace}
    (hu : P.underlying t = some (.array n e)) (he : P.underlying e = some (.int .u8)) (hce : P.cellsOf e = 1) (hct : P.cellsOf t = n) (hval : Value.okWide P W r b0 t v) (hd : DataW.Trod enc P W base sp held t v d ps) :
    ∃ x : Nat → Nat, v = .agg (arr n fun i => .int .u8 ((x i : Nat) : Int)) ∧ ∀ i, x i < 256 := by
  obtain ⟨z, rfl, hw⟩ := open_arr_ints hu he hce hct hval hd
  refine ⟨fun i => if i < n then (z i).toNat else 0, congrArg Value.agg (arr_congr fun i hi => ?_), fun i => ?_⟩
  · have := wf_u8 (hw i hi)
    simp only [if_pos hi, Int.toNat_of_nonneg this.1]
  · show (if i < n then (z i).toNat else 0) < 256
    split
    · rename_i h; have := wf_u8 (hw i h); omega
    · omega

/-- What lies behind the first on the list. -/
theorem laid_tail {P : Program} {W : World} {x : String × DataW Unit} {rest : List (String × DataW Unit)} {ps : List MemPlace} (h : DataW.LaidVars P W (x :: rest) ps) : ∃ q, DataW.LaidVars P W rest q := by
  obtain ⟨g', t', cs, fuel, p, q, _, _, _, _, h1, _⟩ := h
  exact ⟨q, h1⟩
theorem tab_of {P : Program} {W : World} {name : String} {k : IntKind} {zs : List Int} {rest : List (String × DataW Unit)} {g : Nat} {t e : TypeId} {n : Nat} {ps : List MemPlace}
    (hg : P.globalNamed name = some g) (hty : (P.globals[g]?).map (·.type) = some t) (ht : P.underlying t = some (.array n e)) (he : P.underlying e = some (.int k)) (hce : P.cellsOf e = 1) (hct : P.cellsOf t = n)
    (h : DataW.LaidVars P W ((name, Lib.tabData k zs) :: rest) ps) (i : Nat) (hi : i < zs.length) : W.cell? ⟨g, i, none⟩ = some (.int k (zs.getD i 0)) := by
  obtain ⟨g', t', cs, fuel, p, q, hg', ht', hvar, hd, _, _⟩ := h
  obtain rfl := Option.some.inj (hg.symm.trans hg')
  obtain rfl := Option.some.inj (hty.symm.trans ht')
  have hT : Lib.TabIs P W name k zs := by
    unfold Lib.TabIs
    rw [hvar, ← Lib.cells_of_tab ht he hce hct hd]
  exact hT.cell hg i hi
/-- The witness's world: the settled one, block g holding these cells. -/
noncomputable def laidInto (w : World) (g : Nat) (cs : Array Value) : World :=
  { w with heap := w.heap.modify g fun
      | .cells _ t frozen => .cells cs t frozen
      | o => o }
end Go.Proofs.YtecgogeebponlaaDoor
/- The tables of sha, as they were laid. -/
namespace Go.Proofs.YtecgogeebponlaaDoor
set_option maxRecDepth 40000
open Go.RowKit Go.ChangeShapes Go.WideShapes Go.ChangeAt

def zsK : List Int := kList.map fun n : Nat => (n : Int)
def zsH : List Int := hList.map fun n : Nat => (n : Int)
theorem zsK_at : ∀ i, i < 64 → zsK.getD i 0 = ((kw i).toNat : Int) := by decide +kernel
theorem zsH_at : ∀ i, i < 8 → zsH.getD i 0 = ((h0 i).toNat : Int) := by decide +kernel
theorem tab_start {W : World} {rest : List (String × DataW Unit)} {ps : List MemPlace} (h : DataW.LaidVars Tryd.prog W (("pharos/sha.start", Rows.laid_pharos_sha_start) :: rest) ps) : ∀ i, i < 8 → W.cell? ⟨0, i, none⟩ = some (wv (h0 i)) := fun i hi => by
  have h' : DataW.LaidVars Tryd.prog W (("pharos/sha.start", Lib.tabData .u32 zsH) :: rest) ps := h
  have := tab_of (P := Tryd.prog) (g := 0) (t := 91) (e := 90) (n := 8) (by kernel_rfl) (by kernel_rfl) Tryd.underlying91 Tryd.underlying90 (by kernel_rfl) (by kernel_rfl) h' i hi
  rw [this, zsH_at i hi]
theorem tab_round {W : World} {rest : List (String × DataW Unit)} {ps : List MemPlace} (h : DataW.LaidVars Tryd.prog W (("pharos/sha.round", Rows.laid_pharos_sha_round) :: rest) ps) : ∀ i, i < 64 → W.cell? ⟨1, i, none⟩ = some (wv (kw i)) := fun i hi => by
  have h' : DataW.LaidVars Tryd.prog W (("pharos/sha.round", Lib.tabData .u32 zsK) :: rest) ps := h
  have := tab_of (P := Tryd.prog) (g := 1) (t := 105) (e := 90) (n := 64) (by kernel_rfl) (by kernel_rfl) Tryd.underlying105 Tryd.underlying90 (by kernel_rfl) (by kernel_rfl) h' i hi
  rw [this, zsK_at i hi]
theorem tab_constants {W : World} {rest : List (String × DataW Unit)} {ps : List MemPlace} (h : DataW.LaidVars Tryd.prog W (("pharos/pharosref02.constants", Rows.laid_pharos_pharosref02_constants) :: rest) ps) : ∀ i, i < 64 → W.cell? ⟨2, i, none⟩ = some (wv (kw i)) := fun i hi => by
  have h' : DataW.LaidVars Tryd.prog W (("pharos/pharosref02.constants", Lib.tabData .u32 zsK) :: rest) ps := h
  have := tab_of (P := Tryd.prog) (g := 2) (t := 105) (e := 90) (n := 64) (by kernel_rfl) (by kernel_rfl) Tryd.underlying105 Tryd.underlying90 (by kernel_rfl) (by kernel_rfl) h' i hi
  rw [this, zsK_at i hi]
/-- What the witness's world holds. -/
def csK : Array Value := (zsK.map (Value.int .u32)).toArray
def csH : Array Value := (zsH.map (Value.int .u32)).toArray
end Go.Proofs.YtecgogeebponlaaDoor
