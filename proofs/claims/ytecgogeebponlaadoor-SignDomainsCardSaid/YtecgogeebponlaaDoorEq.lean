/- Equality in a region: arrays of integers, integers, strings, pointers against nil; operations with facts that own rows. -/
import Derived.Test.YtecgogeebponlaaDoorOwnReg
import Derived.Laws.StructEq
namespace Go.Proofs.YtecgogeebponlaaDoor
set_option maxRecDepth 40000
open Go.RowKit
section
variable {P : Program}
theorem run_part_int {e : TypeId} {k : IntKind} (he : P.underlying e = some (.int k)) (hz : (P.info? e).map (·.size) = some 1) (n : Nat) (f : Nat → Int) (i : Nat) (hi : i < n) (w : World) :
    (part e (arr n fun i => .int k (f i)) i).run P w = .ok (.int k (f i)) w := by
  have hs := sizeOf_run hz
  have ha : (arr n fun i => Value.int k (f i))[i]? = some (.int k (f i)) := arr_at _ _ i hi
  have hag : (isAgg e).run P w = .ok false w := by
    unfold isAgg
    rw [Sem.run_bind, run_underlying he w]
    rfl
  simp [part, hs, hag, ha]
theorem run_equal_arr (w : World) (t e : TypeId) (n : Nat) (k : IntKind) (f g : Nat → Int) (hu : P.underlying t = some (.array n e)) (he : P.underlying e = some (.int k)) (hz : (P.info? e).map (·.size) = some 1) :
    (Op.equal t (.agg (arr n fun i => .int k (f i))) (.agg (arr n fun i => .int k (g i)))).run P w = .ok (decide (∀ i, i < n → f i = g i)) w := by
  have hs := sizeOf_run hz
  show (Op.equalIn (9999 + 1) t _ _).run P w = _
  rw [Op.equalIn]
  simp [run_underlying hu, hs]
  have key : ∀ m o, m + o = n → (∀ i, i < o → f i = g i) → (forIn (List.range' o m) ((none, ()) : Option Bool × Unit) fun i __s => (do
      let __do_lift ← part e (arr n fun i => Value.int k (f i)) i
      let __do_lift_1 ← part e (arr n fun i => Value.int k (g i)) i
      let __do_lift ← Op.equalIn 9999 e __do_lift __do_lift_1
      if __do_lift = false then pure (ForInStep.done (some false, ())) else pure (ForInStep.yield (none, ())) : Sem (ForInStep (Option Bool × Unit)))).run P w = .ok (if (∀ i, i < n → f i = g i) then (none, ()) else (some false, ())) w := by
    intro m
    induction m with
    | zero =>
      intro o ho hlt
      rw [if_pos (fun i hi => hlt i (by omega))]
      simp
    | succ m ih =>
      intro o ho hlt
      simp only [List.range'_succ, List.forIn_cons, Sem.run_bind, run_part_int he hz n f o (by omega), run_part_int he hz n g o (by omega), Result.andThen_ok, run_equalIn_int w 9998 e k k (f o) (g o) he]
      by_cases hfg : f o = g o
      · simp only [hfg, beq_self_eq_true, Bool.true_eq_false, if_false, Sem.run_pure, Result.andThen_ok]
        exact ih (o + 1) (by omega) (fun i hi => by
          by_cases e : i = o
          · rw [e]; exact hfg
          · exact hlt i (by omega))
      · have hbf : (f o == g o) = false := by simpa using hfg
        have hno : ¬ ∀ i, i < n → f i = g i := fun h => hfg (h o (by omega))
        simp only [hbf, if_true, Sem.run_pure, Result.andThen_ok, if_neg hno]
  rw [key n 0 (by omega) (fun i hi => by omega)]
  by_cases h : ∀ i, i < n → f i = g i
  · rw [if_pos h, decide_eq_true h]; simp
  · rw [if_neg h, decide_eq_false h]; simp
theorem wpList_eqArr {w : World} {ops : Array Oper} {rest : List Oper} {o : Oper} {a : Act} {Q : Exit → Act → World → Prop} {ty rt : TypeId} {xo yo : Operand} (hgd : o.guard = none) (hop : o.op = .binOp .eql ty xo yo rt) (e : TypeId) (n : Nat) (k : IntKind) (f g : Nat → Int) (b : Bool) (hu : P.underlying ty = some (.array n e)) (he : P.underlying e = some (.int k)) (hz : (P.info? e).map (·.size) = some 1) (hq : P.eqGuardType P.depth ty = false)
    (hx : a.eval xo = .agg (arr n fun i => .int k (f i))) (hy : a.eval yo = .agg (arr n fun i => .int k (g i))) (hb : decide (∀ i, i < n → f i = g i) = b)
    (hK : wpList P ops Q rest (a.put o.dst (.bool b)) w) : wpList P ops Q (o :: rest) a w :=
  wpList_plain hgd fun _ hK' => by
    have hrun : (execOp a.eval o).run P w = .ok (.value (.bool b)) w := by
      unfold execOp
      rw [hop]
      simp only [hx, hy]
      simp [eqGuard, hq, binOp, run_equal_arr w ty e n k f g hu he hz, hb]
    unfold Oper.wp
    rw [hrun]
    exact hK' _ _ hK
section
variable {ops : Array Oper} {B : Nat} {w0 : World} {o : Oper} {lk : Tmp → SF} {ty rt : TypeId}
theorem opOb_eqArr {xo yo : Operand} (e : TypeId) (n : Nat) (k : IntKind) (f g : Nat → Int) (b : Bool) (hu : P.underlying ty = some (.array n e)) (he : P.underlying e = some (.int k)) (hz : (P.info? e).map (·.size) = some 1) (hq : P.eqGuardType P.depth ty = false) (hb : decide (∀ i, i < n → f i = g i) = b)
    (hg : o.guard = none) (hop : o.op = .binOp .eql ty xo yo rt) (hx : OpK lk xo (.agg (arr n fun i => .int k (f i)))) (hy : OpK lk yo (.agg (arr n fun i => .int k (g i)))) : opOb P ops B w0 o (SF.is (.bool b)) lk :=
  opOb_val _ hg fun a w _ hf => by
    have h1 := hx.eval hf (by rw [hop]; simp [Op.operands])
    have h2 := hy.eval hf (by rw [hop]; simp [Op.operands])
    unfold execOp
    rw [hop]
    simp only [h1, h2]
    simp [eqGuard, hq, binOp, run_equal_arr w ty e n k f g hu he hz, hb]
theorem opOb_eqInt {xo yo : Operand} (k : IntKind) (x y : Int) (b : Bool) (_he : P.underlying ty = some (.int k)) (hb : (x == y) = b)
    (hg : o.guard = none) (hop : o.op = .binOp .eql ty xo yo rt) (hx : OpK lk xo (.int k x)) (hy : OpK lk yo (.int k y)) : opOb P ops B w0 o (SF.is (.bool b)) lk :=
  opOb_val _ hg fun a w _ hf => by
    have h1 := hx.eval hf (by rw [hop]; simp [Op.operands])
    have h2 := hy.eval hf (by rw [hop]; simp [Op.operands])
    unfold execOp
    rw [hop]
    simp only [h1, h2]
    subst hb
    simp [eqGuard, go_sem]
theorem opOb_eqStr {xo yo : Operand} (x y : ByteArray) (b : Bool) (hb : (x == y) = b)
    (hg : o.guard = none) (hop : o.op = .binOp .eql ty xo yo rt) (hx : OpK lk xo (.string x)) (hy : OpK lk yo (.string y)) : opOb P ops B w0 o (SF.is (.bool b)) lk :=
  opOb_val _ hg fun a w _ hf => by
    have h1 := hx.eval hf (by rw [hop]; simp [Op.operands])
    have h2 := hy.eval hf (by rw [hop]; simp [Op.operands])
    unfold execOp
    rw [hop]
    simp only [h1, h2]
    subst hb
    rw [beq_toListBytes]
    simp [eqGuard, go_sem]
theorem str_refl (x : ByteArray) : (x == x) = true := by rw [beq_toListBytes]; simp
theorem opOb_pickT {c : Tmp} {x y : Operand} {v : Value} (hg : o.guard = none) (hop : o.op = .pick (.tmp c) x y) (hc : lk c = SF.is (.bool true)) (hx : OpK lk x v) : opOb P ops B w0 o (SF.is v) lk :=
  opOb_val _ hg fun a w _ hf => by
    have h1 := hf c (by rw [hop]; simp [Op.operands])
    rw [hc] at h1
    have h1' : a.eval (.tmp c) = .bool true := (getD_eq _ _).trans h1
    have h2 := hx.eval hf (by rw [hop]; simp [Op.operands])
    unfold execOp; rw [hop]; simp only [h1', h2]; rfl
theorem opOb_pickF {c : Tmp} {x y : Operand} {v : Value} (hg : o.guard = none) (hop : o.op = .pick (.tmp c) x y) (hc : lk c = SF.is (.bool false)) (hy : OpK lk y v) : opOb P ops B w0 o (SF.is v) lk :=
  opOb_val _ hg fun a w _ hf => by
    have h1 := hf c (by rw [hop]; simp [Op.operands])
    rw [hc] at h1
    have h1' : a.eval (.tmp c) = .bool false := (getD_eq _ _).trans h1
    have h2 := hy.eval hf (by rw [hop]; simp [Op.operands])
    unfold execOp; rw [hop]; simp only [h1', h2]; rfl
end
section
variable {ops : Array Oper} {B : Nat} {w0 : World} {o : Oper} {lk : Tmp → OF} {ty rt : TypeId}
/-- A fact without a row. -/
theorem opObO_is {v : Value} (h : opOb P ops B w0 o (SF.is v) (fun s => (lk s).toSF)) : opObO P ops B w0 o (OF.is v) lk none := by
  intro a w hb hf
  have h1 := h a w hb hf
  split
  · rename_i hw
    rw [if_pos hw] at h1
    exact Oper.wp_mono (fun a' w' ⟨v', e, h2, h3⟩ => ⟨v', none, e, h2, ⟨h3.os, h3.tape, h3.output, h3.size, fun k hk _ => h3.block k hk⟩, (fun b hb => by cases hb), (fun b hb => by cases hb)⟩) h1
  · rename_i hw
    rw [if_neg hw] at h1
    exact ⟨h1, rfl⟩
/-- Its guard says yes. -/
theorem opObO_on {dst : Option Tmp} {op : Op} {type : TypeId} {pos : String} {after : Array Edge} {j : Nat} {want : Bool} {F : OF} {cp : Option Tmp} (d : Tmp) (hj : (ops[j]?).bind (·.dst) = some d) (hlk : lk d = OF.is (.bool want))
    (h : opObO P ops B w0 ⟨dst, op, type, pos, after, none⟩ F lk cp) : opObO P ops B w0 ⟨dst, op, type, pos, after, some (j, want)⟩ F lk cp := by
  intro a w hb hf
  have h1 := hf d (by unfold Oper.looksAt; refine List.mem_append_right _ ?_; simp [hj])
  rw [hlk] at h1
  have hw : Region.wanted (⟨dst, op, type, pos, after, some (j, want)⟩ : Oper) (yielded ops a.tmps) = true := by
    have h2 : a.tmps.getD d undef = .bool want := h1
    have h3 : a.tmps[d]? = some (.bool want) := by
      rw [getD_eq] at h2
      cases h4 : a.tmps[d]? with
      | none => rw [h4] at h2; cases h2
      | some v => rw [h4] at h2; simp at h2; rw [h2]
    simp [Region.wanted, yielded, hj, h3]
  rw [if_pos hw]
  have h5 := h a w hb (fun s hs => hf s (by
    unfold Oper.looksAt at hs ⊢
    simp only [List.append_nil] at hs
    exact List.mem_append_left _ hs))
  rw [if_pos (by rfl)] at h5
  exact h5
def OpdO (lk : Tmp → OF) (o : Oper) (a : Act) (w : World) : Prop := ∀ s ∈ o.op.operands.toList.filterMap (fun | .tmp t => some t | _ => none), (lk s).F (a.tmps[s]?.getD undef) w
theorem opObO_of {F : OF} {cp : Option Tmp} (hg : o.guard = none) (h : ∀ a w, Below B w0 w → OpdO lk o a w →
    o.wp P a w (fun a' w' => ∃ v row, a' = a.put o.dst v ∧ F.F v w' ∧ w.grownBy w' row ∧
        (∀ b, row = some b → B ≤ b ∧ ∃ p, cp = some p ∧ (lk p).foot (a.tmps.getD p undef) = some b) ∧
        (∀ b, F.foot v = some b → w.heap.size ≤ b ∨ ∃ p, cp = some p ∧ (lk p).foot (a.tmps.getD p undef) = some b)) (fun _ _ _ => False)) : opObO P ops B w0 o F lk cp := by
  intro a w hb hf
  rw [if_pos (by simp [Region.wanted, hg])]
  exact h a w hb fun s hs => by rw [← getD_eq]; exact hf s (List.mem_append_left _ hs)
/-- []T{}. -/
theorem opObO_bs0 {t e : TypeId} (hg : o.guard = none) (hop : o.op = .buildSlice t 0 #[]) (hr : ∀ w : World, (Instr.buildSlice t 0 #[]).run P w = .ok (.slice (some ⟨w.heap.size, 0, none⟩) 0 0) (w.alloc (.cells #[] e))) (base : Nat) (hb : base ≤ w0.heap.size) : opObO P ops B w0 o (OF.own0 base e) lk none :=
  opObO_of hg fun a w hbel hf => by
    unfold Oper.wp execOp
    rw [hop]
    simp only [List.map_toArray, List.map_nil, Sem.run_bind, hr w, Result.andThen_ok, Sem.run_pure]
    have hbw : Below w.heap.size w (w.alloc (.cells #[] e)) := (Below.refl _ _).alloc (Nat.le_refl _) _
    exact ⟨_, none, rfl, ⟨w.heap.size, rfl, Own.new0 w base e _ (Nat.le_trans hb hbel.size)⟩, ⟨hbw.os, hbw.tape, hbw.output, hbw.size, fun k hk _ => hbw.block k hk⟩, (fun b hb => by cases hb), (fun b hb => by injection hb with hb; subst hb; exact .inl (Nat.le_refl _))⟩
/-- append([]T{}, x...). -/
theorem opObO_app0 {s : Tmp} {x : Operand} {t : TypeId} (base : Nat) {e : TypeId} {z : Value} {bytes : Nat} (hinfo : (P.info? e).map (fun i => (i.zero, i.size, i.bytes)) = some (some z, 1, bytes)) (ht : P.underlying t = some (.slice e)) (hzs : z.cells.size = 1)
    (hg : o.guard = none) (hop : o.op = .call { callee := .builtin .append, args := #[.tmp s, x], argTypes := #[t, t] }) (hs : lk s = OF.own0 base e)
    {C : Option Addr} {m cm Bx : Nat} {g : Nat → Value} (hx : OpK (fun s => (lk s).toSF) x (.slice C m cm)) (hr : ∀ w, Below B w0 w → Rd w Bx C m g) (h1 : ∀ i, i < m → (g i).oneCell' = true) (hbytes : m ≤ 9223372036854775807 ∧ m * bytes ≤ 140737488355328) (hbase : base ≤ w0.heap.size) :
    opObO P ops B w0 o (OF.own base e m g) lk (some s) :=
  opObO_of hg fun a w hbel hf => by
    obtain ⟨i, hi, hz, hsize, hby⟩ := info_parts hinfo
    have h2 := hf s (by rw [hop]; simp [Op.operands, Call.operands])
    rw [hs] at h2
    obtain ⟨b, h4, hown⟩ := h2
    have e1 : a.eval (.tmp s) = .slice (some ⟨b, 0, none⟩) 0 0 := (getD_eq _ _).trans h4
    have e2 : a.eval x = .slice C m cm := OpK.eval (o := o) (w := w) hx (fun s hs => hf s hs) (by rw [hop]; simp [Op.operands, Call.operands])
    obtain ⟨A', c', w', hrun, h5, h6⟩ := run_app0 (P := P) w base (ty := o.type) ht hi hz hsize hby hzs (cm := cm) hown (hr w hbel) h1 hbytes (Nat.le_trans hbase hbel.size)
    have hrun2 : (Builtin.append_ #[t, t] o.type #[.slice (some ⟨b, 0, none⟩) 0 0, .slice C m cm]).run P w = .ok (.slice A' m c') w' := hrun
    obtain ⟨A2, c2, w2, hrun3, _, _, h7⟩ := run_app (P := P) w base t o.type e i z bytes ht hi hz hsize hby hzs (cm := cm) hown (hr w hbel) h1 (by rw [Nat.zero_add]; exact hbytes) (Nat.le_trans hbase hbel.size)
    rw [hrun2] at hrun3
    injection hrun3 with e3 e4
    injection e3 with e5 e6 e7
    subst e5 e4
    unfold Oper.wp execOp
    simp only [hop, resolve, invoke, builtin, Sem.run_bind, Sem.run_pure, Result.andThen_ok, List.map_toArray, List.map_cons, List.map_nil, e1, e2]
    rw [hrun]
    refine ⟨_, none, rfl, ⟨A', c', rfl, h5⟩, ⟨h6.os, h6.tape, h6.output, h6.size, fun k hk _ => h6.block k hk⟩, (fun b hb => by cases hb), fun b' hb' => ?_⟩
    cases hA : A' with
    | none => subst hA; cases hb'
    | some ad =>
      subst hA
      injection hb' with hb'
      subst hb'
      rcases h7 ad rfl with h8 | h8
      · refine .inr ⟨s, rfl, ?_⟩
        rw [hs]
        have : a.tmps.getD s undef = .slice (some ⟨b, 0, none⟩) 0 0 := e1
        rw [this]
        exact h8.symm
      · exact .inl (by omega)
/-- append(s, x...), s a row of the region's own, which is taken over. -/
theorem opObO_app {s : Tmp} {x : Operand} {t : TypeId} (base : Nat) {e : TypeId} {z : Value} {bytes : Nat} (hinfo : (P.info? e).map (fun i => (i.zero, i.size, i.bytes)) = some (some z, 1, bytes)) (ht : P.underlying t = some (.slice e)) (hzs : z.cells.size = 1)
    (hg : o.guard = none) (hop : o.op = .call { callee := .builtin .append, args := #[.tmp s, x], argTypes := #[t, t] }) {n : Nat} {f : Nat → Value} (hs : lk s = OF.own base e n f) (hBb : B ≤ base)
    {C : Option Addr} {m cm Bx : Nat} {g : Nat → Value} (hx : OpK (fun s => (lk s).toSF) x (.slice C m cm)) (hr : ∀ w, Below B w0 w → Rd w Bx C m g) (h1 : ∀ i, i < m → (g i).oneCell' = true) (N : Nat) (F : Nat → Value) (hN : N = n + m) (hF : ∀ i, i < N → catF n f g i = F i)
    (hbytes : N ≤ 9223372036854775807 ∧ N * bytes ≤ 140737488355328) (hbase : base ≤ w0.heap.size) :
    opObO P ops B w0 o (OF.own base e N F) lk (some s) :=
  opObO_of hg fun a w hbel hf => by
    subst hN
    obtain ⟨i, hi, hz, hsize, hby⟩ := info_parts hinfo
    have h2 := hf s (by rw [hop]; simp [Op.operands, Call.operands])
    rw [hs] at h2
    obtain ⟨A, c, h4, hown⟩ := h2
    have e1 : a.eval (.tmp s) = .slice A n c := (getD_eq _ _).trans h4
    have e2 : a.eval x = .slice C m cm := OpK.eval (o := o) (w := w) hx (fun s hs => hf s hs) (by rw [hop]; simp [Op.operands, Call.operands])
    obtain ⟨A', c', w', hrun, h5, h6, h7⟩ := run_app (P := P) w base t o.type e i z bytes ht hi hz hsize hby hzs (cm := cm) hown (hr w hbel) h1 hbytes (Nat.le_trans hbase hbel.size)
    have hfoot : (lk s).foot (a.tmps.getD s undef) = A.map (·.block) := by
      have : a.tmps.getD s undef = .slice A n c := e1
      rw [this, hs]
      cases A <;> rfl
    unfold Oper.wp execOp
    simp only [hop, resolve, invoke, builtin, Sem.run_bind, Sem.run_pure, Result.andThen_ok, List.map_toArray, List.map_cons, List.map_nil, e1, e2]
    rw [hrun]
    refine ⟨_, A.map (·.block), rfl, ⟨A', c', rfl, h5.congr hF⟩, h6, fun b hb => ⟨?_, s, rfl, by rw [hfoot]; exact hb⟩, fun b' hb' => ?_⟩
    · cases A with
      | none => cases hb
      | some ad => injection hb with hb; subst hb; have := (hown.base_le ad rfl).1; show B ≤ ad.block; omega
    · cases hA : A' with
      | none => subst hA; cases hb'
      | some ad =>
        subst hA
        injection hb' with hb'
        subst hb'
        rcases h7 ad rfl with h8 | h8
        · exact .inr ⟨s, rfl, by rw [hfoot]; exact h8.symm⟩
        · exact .inl (by omega)
/-- A call that is handed a row of the region's own. -/
theorem opObO_fn {f : FuncId} (hent : ∀ vs w, (callFunc f vs).run P w = .ok (.enter f vs) w) {xs : Array Operand} {ts : Array TypeId} (s : Tmp) (base : Nat) (e : TypeId) (n : Nat) (g : Nat → Value) (vs : Option Addr → Nat → Array Value) {v : Value} (hg : o.guard = none)
    (hop : o.op = .call { callee := .value (.func f), args := xs, argTypes := ts }) (hs : lk s = OF.own base e n g) (hmem : .tmp s ∈ xs) (hx : ∀ a w A c, OpdO lk o a w → a.eval (.tmp s) = .slice A n c → xs.toList.map a.eval = (vs A c).toList)
    (hr : ∀ w A c, Below B w0 w → Own w base e A n c g → Calls P f (vs A c) w fun e w' => e = .returned v ∧ Below w.heap.size w w') : opObO P ops B w0 o (OF.is v) lk none :=
  opObO_of hg fun a w hbel hf => by
    have h2 := hf s (by rw [hop]; simp [Op.operands, Call.operands]; exact ⟨_, hmem, rfl⟩)
    rw [hs] at h2
    obtain ⟨A, c, h4, hown⟩ := h2
    have e1 : a.eval (.tmp s) = .slice A n c := (getD_eq _ _).trans h4
    have h5 := hx a w A c hf e1
    have hx' : xs.map (fun x => a.eval x) = vs A c := by
      apply Array.toList_inj.1
      rw [← h5]; simp
    have hrun : (execOp a.eval o).run P w = .ok (.enter f (vs A c)) w := by
      unfold execOp
      rw [hop]
      simp only [resolve]
      rw [hx']
      simp [invoke, Deferred.ofValue, Act.eval, hent]
    unfold Oper.wp
    rw [hrun]
    refine (hr w A c hbel hown).mono ?_
    rintro e' w' ⟨rfl, hb⟩
    exact ⟨v, none, rfl, rfl, ⟨hb.os, hb.tape, hb.output, hb.size, fun k hk _ => hb.block k hk⟩, (fun b hb => by cases hb), (fun b hb => by cases hb)⟩
end
end
end Go.Proofs.YtecgogeebponlaaDoor
