/- A part of what the proofs stand on: Box, LookWalks, LookSums, LookActs, Root, LookRef, Zst, LookAwake, StRow. -/
import Derived.Test.YtjhgndnpihnidaaDoorGPic7
import Derived.Test.YtjhgndnpihnidaaDoorGPic4
import Derived.Test.YtjhgndnpihnidaaDoorGPic2
import Derived.Test.YtjhgndnpihnidaaDoorGPic3
import Derived.Lib.Hide
import Derived.ProofKit
import Derived.Deep.DeepCutAuto
import Derived.Deep.Light
import Derived.Deep.QuietTactic
import Derived.BigQuiet
import Derived.Test.YtjhgndnpihnidaaDoorGPic1
import Derived.Lib.ItoaNum
import Derived.ScopeJumps
import Derived.WitnessAt
import Derived.Handed
/- Values of many cells: boxed, loaded from where they lie, kept in new variables. -/
namespace Go.Proofs.YtjhgndnpihnidaaDoor
set_option maxRecDepth 40000
open Go.RowKit
/-- A mark in the context: which of two alike calls comes next. -/
inductive Tok : Nat → Prop
  | mk (n : Nat) : Tok n
section
variable {P : Program}
theorem run_loadCells_rd (w : World) (ad : Addr) (n : Nat) (f : Nat → Value) (h : ∀ i, i < n → w.cell? (ad.add i) = some (f i)) : (loadCells ad n).run P w = .ok (arr n f) w := by
  have := run_loadCells_list (P := P) (w := w) ad ((List.range n).map f) (fun j v hj => by
    have hjl : j < n := by
      rcases Nat.lt_or_ge j n with h | h
      · exact h
      · simp [h] at hj
    rw [h j hjl]
    simp [hjl] at hj
    exact congrArg some hj)
  simpa [arr] using this
theorem run_loadAt_rd (w : World) (ad : Addr) (n : Nat) (ty : TypeId) (d : TypeDesc) (f : Nat → Value) (h : ∀ i, i < n → w.cell? (ad.add i) = some (f i)) (hu : P.underlying ty = some d) (hd : (match d with | .struct _ | .array _ _ => true | _ => false) = true) (hi : (P.info? ty).map (·.size) = some n) :
    (Instr.loadAt ty (.pointer (some ad))).run P w = .ok (.agg (arr n f)) w := by
  simp only [Instr.loadAt, Instr.sureAddr, Sem.run_bind, Sem.run_pure, Result.andThen]
  cases hq : P.info? ty with
  | none => rw [hq] at hi; simp at hi
  | some i =>
    have hs : i.size = n := by rw [hq] at hi; simpa using hi
    have hagg : (isAgg ty).run P w = .ok true w := by
      unfold isAgg
      rw [Sem.run_bind, run_underlying hu w]
      cases d <;> simp_all
    simp [loadVar, Sem.run_bind, hagg, sizeOf, typeInfo, hq, hs, run_loadCells_rd w ad n f h]
/-- A struct or an array is loaded from where it lies. -/
theorem wpList_load_rd {ops : Array Oper} {rest : List Oper} {o : Oper} {a : Act} {w : World} {Q : Exit → Act → World → Prop} (hgd : o.guard = none) (ty : TypeId) (x : Operand) (ho : o.op = .load ty x)
    (n : Nat) (d : TypeDesc) (hu : P.underlying ty = some d) (hd : (match d with | .struct _ | .array _ _ => true | _ => false) = true) (hi : (P.info? ty).map (·.size) = some n)
    (ad : Addr) (hx : a.eval x = .pointer (some ad)) (f : Nat → Value) (h : ∀ i, i < n → w.cell? (ad.add i) = some (f i)) (hK : wpList P ops Q rest (a.put o.dst (.agg (arr n f))) w) : wpList P ops Q (o :: rest) a w :=
  wpList_plain hgd fun _ hK' => by
    have hrun : (execOp a.eval o).run P w = .ok (.value (.agg (arr n f))) w := by
      unfold execOp
      rw [ho]
      simp only [hx]
      simp [run_loadAt_rd w ad n ty d f h hu hd hi]
    unfold Oper.wp
    rw [hrun]
    exact hK' _ _ hK
/-- An argument that is kept in memory. -/
theorem wpList_box {ops : Array Oper} {rest : List Oper} {o : Oper} {a : Act} {w : World} {Q : Exit → Act → World → Prop} (hgd : o.guard = none) (ty : TypeId) (x : Operand) (ho : o.op = .box ty x)
    (n : Nat) (f : Nat → Value) (hx : a.eval x = .agg (arr n f)) (hK : ∀ w', w'.rowIs w.heap.size ty n f → Below w.heap.size w w' → wpList P ops Q rest (a.put o.dst (.pointer (some ⟨w.heap.size, 0, none⟩))) w') : wpList P ops Q (o :: rest) a w :=
  wpList_plain hgd fun _ hK' => by
    have hrun : (execOp a.eval o).run P w = .ok (.value (.pointer (some ⟨w.heap.size, 0, none⟩))) (w.alloc (.cells (arr n f) ty)) := by
      unfold execOp
      rw [ho]
      simp only [hx]
      simp [Instr.box, newVar, Value.cells, go_sem]
    unfold Oper.wp
    rw [hrun]
    exact hK' _ _ (hK _ ⟨arr n f, heap_alloc_new w _, size_arr n f, fun i hi => arr_at n f i hi⟩ ((Below.refl _ _).alloc (Nat.le_refl _) _))
/-- The greater of two whole numbers. -/
theorem wpList_max {ops : Array Oper} {rest : List Oper} {o : Oper} {a : Act} {w : World} {Q : Exit → Act → World → Prop} (hgd : o.guard = none) {x y : Operand} {ts : Array TypeId} (ho : o.op = .call { callee := .builtin .max, args := #[x, y], argTypes := ts })
    (k : IntKind) (i j m : Int) (hx : a.eval x = .int k i) (hy : a.eval y = .int k j) (hm : m = if i < j then j else i) (hK : wpList P ops Q rest (a.put o.dst (.int k m)) w) : wpList P ops Q (o :: rest) a w :=
  wpList_plain hgd fun _ hK' => by
    have hrun : (execOp a.eval o).run P w = .ok (.value (.int k m)) w := by
      unfold execOp
      subst hm
      simp only [ho, resolve, invoke, builtin, Sem.run_bind, Sem.run_pure, Result.andThen_ok, List.map_toArray, List.map_cons, List.map_nil, hx, hy]
      simp [Builtin.max_, Builtin.max2, go_sem]
    unfold Oper.wp
    rw [hrun]
    exact hK' _ _ hK
/-- An operation whose guard says yes. -/
theorem wpList_guarded {ops : Array Oper} {rest : List Oper} {o : Oper} {a : Act} {w : World} {Q : Exit → Act → World → Prop} {j : Nat} {want : Bool} {d : Tmp} (hg : o.guard = some (j, want)) (hj : (ops[j]?).bind (·.dst) = some d) (hv : a.tmps[d]? = some (.bool want))
    (h : ∀ K : Act → World → Prop, (∀ a w, wpList P ops Q rest a w → K a w) → o.wp P a w K Q) : wpList P ops Q (o :: rest) a w :=
  wpList_step fun K hK => by
    rw [if_pos (by simp [Region.wanted, hg, yielded, hj, hv])]
    exact h K hK
/-- A slice expression whose guard says yes. -/
theorem wpList_sliceG {w : World} {ops : Array Oper} {rest : List Oper} {o : Oper} {a : Act} {Q : Exit → Act → World → Prop} {j : Nat} {want : Bool} {d : Tmp} (hg : o.guard = some (j, want)) (hj : (ops[j]?).bind (·.dst) = some d) (hv : a.tmps[d]? = some (.bool want)) (t : TypeId) (x : Operand) (lo hi : Option Operand) (ho : o.op = .slice t x lo hi none)
    {v sv : Value} {l h : Option Value} (hx : a.eval x = v) (hr : ∀ w, (Instr.sliceAt t v l h none).run P w = .ok sv w) (hl : lo.map a.eval = l) (hh : hi.map a.eval = h)
    (hK : wpList P ops Q rest (a.put o.dst sv) w) : wpList P ops Q (o :: rest) a w :=
  wpList_guarded hg hj hv fun _ hK' => by
    have hrun : (execOp a.eval o).run P w = .ok (.value sv) w := by
      unfold execOp
      rw [ho]
      simp only [hx]
      rw [show lo.map (fun y => a.eval y) = l from hl, show hi.map (fun y => a.eval y) = h from hh]
      simp [hr w]
    unfold Oper.wp
    rw [hrun]
    exact hK' _ _ hK
theorem wpList_load_rdG {ops : Array Oper} {rest : List Oper} {o : Oper} {a : Act} {w : World} {Q : Exit → Act → World → Prop} {j : Nat} {want : Bool} {dd : Tmp} (hg : o.guard = some (j, want)) (hj : (ops[j]?).bind (·.dst) = some dd) (hv : a.tmps[dd]? = some (.bool want)) (ty : TypeId) (x : Operand) (ho : o.op = .load ty x)
    (n : Nat) (d : TypeDesc) (hu : P.underlying ty = some d) (hd : (match d with | .struct _ | .array _ _ => true | _ => false) = true) (hi : (P.info? ty).map (·.size) = some n)
    (ad : Addr) (hx : a.eval x = .pointer (some ad)) (f : Nat → Value) (h : ∀ i, i < n → w.cell? (ad.add i) = some (f i)) (hK : wpList P ops Q rest (a.put o.dst (.agg (arr n f))) w) : wpList P ops Q (o :: rest) a w :=
  wpList_guarded hg hj hv fun _ hK' => by
    have hrun : (execOp a.eval o).run P w = .ok (.value (.agg (arr n f))) w := by
      unfold execOp
      rw [ho]
      simp only [hx]
      simp [run_loadAt_rd w ad n ty d f h hu hd hi]
    unfold Oper.wp
    rw [hrun]
    exact hK' _ _ hK
theorem ld_all {w1 : World} {B b : Nat} {T : TypeId} {n : Nat} {F : Nat → Value} (hr : w1.rowIs b T n F) (hb : b < B) {ty : TypeId} {d : TypeDesc} (hu : P.underlying ty = some d) (hd : (match d with | .struct _ | .array _ _ => true | _ => false) = true) (hi : (P.info? ty).map (·.size) = some n) :
    ∀ w', Below B w1 w' → (Instr.loadAt ty (.pointer (some ⟨b, 0, none⟩))).run P w' = .ok (.agg (arr n F)) w' := fun w' h =>
  run_loadAt_rd w' ⟨b, 0, none⟩ n ty d F (fun i hi => by rw [add_lit0]; exact (row_below hr h hb).cell hi) hu hd hi
section
variable {ops : Array Oper} {B : Nat} {w0 : World} {o : Oper} {lk : Tmp → SF} {F : SF}
/-- A call of a known value and a slice that reads as g. -/
theorem opOb_fnR {f : FuncId} (hent : ∀ vs w, (callFunc f vs).run P w = .ok (.enter f vs) w) {x y : Tmp} {v : Value} {n : Nat} {g : Nat → Value} {ts : Array TypeId} (hg : o.guard = none) (hop : o.op = .call { callee := .value (.func f), args := #[.tmp x, .tmp y], argTypes := ts })
    (hx : lk x = SF.is v) (hy : lk y = SF.rd n g) (hr : ∀ w A c, Below B w0 w → Rd w w.heap.size A n g → Calls P f #[v, .slice A n c] w fun e w' => ∃ v, e = .returned v ∧ F.F v w' ∧ Below w.heap.size w w') : opOb P ops B w0 o F lk :=
  opOb_call hg fun a w hb hf => by
    have h1 := hf x (by rw [hop]; simp [Op.operands, Call.operands])
    have h2 := hf y (by rw [hop]; simp [Op.operands, Call.operands])
    rw [hx] at h1
    rw [hy] at h2
    obtain ⟨A, c, e2, h2⟩ := h2
    have h1' : a.eval (.tmp x) = v := (getD_eq _ _).trans h1
    have h2' : a.eval (.tmp y) = .slice A n c := (getD_eq _ _).trans e2
    refine ⟨f, #[v, .slice A n c], ?_, hr w A c hb h2⟩
    unfold execOp
    rw [hop]
    simp only [resolve, List.map_toArray, List.map_cons, List.map_nil, h1', h2']
    simp [invoke, Deferred.ofValue, Act.eval, hent]
/-- A call of two such slices. -/
theorem opOb_fnRR {f : FuncId} (hent : ∀ vs w, (callFunc f vs).run P w = .ok (.enter f vs) w) {x y : Tmp} {n m : Nat} {g h : Nat → Value} {ts : Array TypeId} (hg : o.guard = none) (hop : o.op = .call { callee := .value (.func f), args := #[.tmp x, .tmp y], argTypes := ts })
    (hx : lk x = SF.rd n g) (hy : lk y = SF.rd m h) (hr : ∀ w A c A' c', Below B w0 w → Rd w w.heap.size A n g → Rd w w.heap.size A' m h → Calls P f #[.slice A n c, .slice A' m c'] w fun e w' => ∃ v, e = .returned v ∧ F.F v w' ∧ Below w.heap.size w w') : opOb P ops B w0 o F lk :=
  opOb_call hg fun a w hb hf => by
    have h1 := hf x (by rw [hop]; simp [Op.operands, Call.operands])
    have h2 := hf y (by rw [hop]; simp [Op.operands, Call.operands])
    rw [hx] at h1
    rw [hy] at h2
    obtain ⟨A, c, e1, h1⟩ := h1
    obtain ⟨A', c', e2, h2⟩ := h2
    have h1' : a.eval (.tmp x) = .slice A n c := (getD_eq _ _).trans e1
    have h2' : a.eval (.tmp y) = .slice A' m c' := (getD_eq _ _).trans e2
    refine ⟨f, #[.slice A n c, .slice A' m c'], ?_, hr w A c A' c' hb h1 h2⟩
    unfold execOp
    rw [hop]
    simp only [resolve, List.map_toArray, List.map_cons, List.map_nil, h1', h2']
    simp [invoke, Deferred.ofValue, Act.eval, hent]
theorem opOb_lenR {x : Tmp} {n : Nat} {g : Nat → Value} {t e : TypeId} (hu : P.underlying t = some (.slice e)) (hg : o.guard = none) (hop : o.op = .call { callee := .builtin .len, args := #[.tmp x], argTypes := #[t] }) (hx : lk x = SF.rd n g) : opOb P ops B w0 o (SF.is (.int .i64 (n : Int))) lk :=
  opOb_val _ hg fun a w _ hf => by
    have h1 := hf x (by rw [hop]; simp [Op.operands, Call.operands])
    rw [hx] at h1
    obtain ⟨A, c, e1, h1⟩ := h1
    have h1' : a.eval (.tmp x) = .slice A n c := (getD_eq _ _).trans e1
    unfold execOp
    simp only [hop, resolve, invoke, builtin, Sem.run_bind, Sem.run_pure, Result.andThen_ok, List.map_toArray, List.map_cons, List.map_nil, h1']
    simp [Builtin.len_, run_underlying hu, go_sem]
end
end
end Go.Proofs.YtjhgndnpihnidaaDoor
/- The functions of package look, and of its reference. -/
namespace Go.Proofs.YtjhgndnpihnidaaDoor
set_option maxRecDepth 40000
open Go.RowKit

def actB (a e x : Nat) : Bool := decide (a ≤ e ∧ e < x)
theorem actB_t {a e x : Nat} (h : (a : Int) ≤ (e : Int)) : decide (e < x) = actB a e x := by
  unfold actB; exact decide_eq_decide.2 (by omega)
theorem actB_f {a e x : Nat} (h : (e : Int) < (a : Int)) : false = actB a e x := by
  unfold actB; exact (decide_eq_false (by omega)).symm
theorem active_ref (V : Nat → Value) (hV : Sc V 57) (e : Nat) (w : World) :
    Calls Tryd.prog 16 #[.agg (arr 86 V), .int .u64 (e : Int)] w fun r w' => r = .returned (.bool (actB (nat (V 83)) e (nat (V 84)))) ∧ Below w.heap.size w w' := by
  obtain ⟨h83, b83⟩ := hV.u64 83 (by kernel_rfl)
  obtain ⟨h84, b84⟩ := hV.u64 84 (by kernel_rfl)
  generalize nat (V 83) = x at *
  generalize nat (V 84) = y at *
  have c83 : (arr 86 V)[83]? = some (.int .u64 (x : Int)) := by rw [arr_at _ _ _ (by omega), h83]
  have c84 : (arr 86 V)[84]? = some (.int .u64 (y : Int)) := by rw [arr_at _ _ _ (by omega), h84]
  clear hV h83 h84
  by_cases h1 : (x : Int) ≤ (e : Int)
  · go_enter Tryd.func16, Tryd.ntmps16
    go_wp2
    go_ret
    exact ⟨ret_bool (actB_t h1), (Below.refl _ _).alloc (Nat.le_refl _) _⟩
  · go_enter Tryd.func16, Tryd.ntmps16
    go_wp2
    go_ret
    exact ⟨ret_bool (actB_f h1), (Below.refl _ _).alloc (Nat.le_refl _) _⟩
def slshB (s : Bool) (a e x : Nat) : Bool := !s && actB a e x
/-- May it be an epoch of a validator? -/
def epB (e : Nat) : Bool := decide (e = 18446744073709551615 ∨ e < 2199023255552)
theorem epoch_any (e : Nat) (w : World) : Calls Tryd.prog 43 #[.int .u64 (e : Int)] w fun r w' => r = .returned (.bool (epB e)) ∧ w' = w := by
  by_cases h1 : e = 18446744073709551615
  · have h : ((e : Int) == 18446744073709551615) = true := by rw [beq_iff_eq]; omega
    go_enter Tryd.func43, Tryd.ntmps43
    go_wp2
    go_ret
    exact ⟨ret_bool (decide_eq_true (.inl h1)).symm, rfl⟩
  · have h : ((e : Int) == 18446744073709551615) = false := by rw [beq_eq_false_iff_ne]; omega
    have h2 : decide ((e : Int) < 2199023255552) = epB e := decide_eq_decide.2 (by omega)
    have H1 := Lib.hid h2
    clear h1 h2
    go_enter Tryd.func43, Tryd.ntmps43
    go_wp2
    go_ret
    exact ⟨ret_bool H1.out, rfl⟩

/-- No number above a bound, nor their sum. -/
def sumTo (z : Nat → Nat) : Nat → Nat
  | 0 => 0
  | n + 1 => sumTo z n + z n
theorem sumTo_le {z : Nat → Nat} {n m : Nat} (h : n ≤ m) : sumTo z n ≤ sumTo z m := by
  induction h with
  | refl => exact Nat.le_refl _
  | step _ ih => exact Nat.le_trans ih (Nat.le_add_right _ _)
def sumB (z : Nat → Nat) (n : Nat) : Bool := decide (sumTo z n ≤ 144115188075855872)
theorem sumB_f {z : Nat → Nat} {n k u : Nat} (h : sumTo z (k + 1) = u) (hu : 144115188075855872 < u) (hk : k < n) : false = sumB z n := by
  have := sumTo_le (z := z) (show k + 1 ≤ n from hk)
  exact (decide_eq_false (by omega)).symm
theorem sum10_any (A : Option Addr) (n c : Nat) (z : Nat → Nat) (w : World) (B : Nat) (hr : Rd w B A n (fun i => .int .u64 ((z i : Nat) : Int))) (hz : ∀ i, i < n → z i < 18446744073709551616) (hn : n ≤ maxLen) :
    Calls Tryd.prog 44 #[.slice A n c] w fun r w' => r = .returned (.bool (sumB z n)) ∧ w' = w := by
  have HR := Lib.hid hr
  have HZ := Lib.hid hz
  unfold maxLen at hn
  clear hr hz
  go_enter Tryd.func44, Tryd.ntmps44
  go_wp2_with fail
  go_loopw [3, 4] (fun t i wr => ∃ k : Nat, t = .int .u64 ((sumTo z k : Nat) : Int) ∧ i = .int .i64 (k : Int) ∧ k ≤ n ∧ sumTo z k ≤ 144115188075855872 ∧ wr = w) (fun _ i _ => n - (intOf i).toNat)
  case atStart => exact ⟨0, rfl, rfl, Nat.zero_le _, Nat.zero_le _, rfl⟩
  case round =>
    obtain ⟨k, rfl, rfl, hk, hs, rfl⟩ := hrel
    by_cases h1 : k < n
    · obtain ⟨ad, rfl, hb, hc⟩ := HR.out.at_ h1
      have hzk := HZ.out k h1
      have hst : sumTo z (k + 1) = sumTo z k + z k := rfl
      generalize z k = y at *
      generalize sumTo z k = t at *
      have HST := Lib.hid hst
      clear hst
      by_cases h2 : y ≤ 144115188075855872
      · by_cases h3 : t + y ≤ 144115188075855872
        · go_wp2_with fail
          go_roundw
          case rel => exact ⟨k + 1, by rw [HST.out]; go_num, by go_num, by omega, by rw [HST.out]; exact h3, True.intro⟩
          case measure => simp [intOf]; omega
        · go_wp2_with fail
          go_ret
          exact ⟨ret_bool (sumB_f HST.out (by omega) h1), rfl⟩
      · go_wp2_with fail
        go_ret
        exact ⟨ret_bool (sumB_f HST.out (by omega) h1), rfl⟩
    · obtain rfl : n = k := by omega
      go_wp2_with fail
      go_ret
      exact ⟨ret_bool (decide_eq_true hs).symm, rfl⟩

def sameB (x y : Nat → Nat) (n m : Nat) : Bool := decide (n = m ∧ ∀ i, i < n → x i = y i)
set_option maxHeartbeats 400000 in
theorem same_any (B n cl m cm : Nat) (A C : Option Addr) (x y : Nat → Nat) (w : World) (hl : Rd w B A n (fun i => .int .u64 ((x i : Nat) : Int))) (hm : Rd w B C m (fun i => .int .u64 ((y i : Nat) : Int))) (hn : n ≤ maxLen) :
    Calls Tryd.prog 37 #[.slice A n cl, .slice C m cm] w fun e w' => e = .returned (.bool (sameB x y n m)) ∧ Drawn w w' := by
  unfold maxLen at hn
  by_cases hnm : n = m
  · subst hnm
    have HL := Lib.hid hl
    have HM := Lib.hid hm
    clear hl hm
    go_enter Tryd.func37, Tryd.ntmps37
    go_wp2
    go_loopw [5] (fun i wr => ∃ k d : Nat, k ≤ n ∧ i = .int .i64 k ∧ (∀ j, j < k → x j = y j) ∧ wr = w.drewN d) (fun i _ => n - (intOf i).toNat)
    case atStart => exact ⟨0, 0, Nat.zero_le _, rfl, fun j hj => absurd hj (by omega), rfl⟩
    case round =>
      obtain ⟨k, d, hk, rfl, heq, rfl⟩ := hrel
      have Heq := Lib.hid heq
      clear heq
      by_cases hkn : k < n
      · obtain ⟨ad, rfl, hb, hc⟩ := HL.out.at_ hkn
        obtain ⟨ad', rfl, hb', hc'⟩ := HM.out.at_ hkn
        by_cases hxy : x k = y k
        · have HX := Lib.hid hxy
          rw [hxy] at hc
          clear hxy
          go_wp2
          go_quiet (fail)
          go_wp2
          go_roundw
          case rel => exact ⟨k + 1, _, by omega, by go_num, fun j hj => by
            by_cases e : j = k
            · rw [e]; exact HX.out
            · exact Heq.out j (by omega), rfl⟩
          case measure => simp [intOf]; omega
        · have HX := Lib.hid hxy
          have hx' : (((x k : Nat) : Int) != ((y k : Nat) : Int)) = true := by rw [bne_iff_ne]; omega
          clear hxy
          go_wp2
          go_quiet (fail)
          go_wp2
          go_ret
          exact ⟨ret_bool (by unfold sameB; exact (decide_eq_false (fun h => HX.out (h.2 k hkn))).symm), Drawn.trans ⟨d, rfl⟩ ⟨_, rfl⟩⟩
      · obtain rfl : k = n := by omega
        go_wp2
        go_ret
        exact ⟨ret_bool (by unfold sameB; exact (decide_eq_true ⟨rfl, Heq.out⟩).symm), ⟨_, rfl⟩⟩
  · have hne : ((n : Int) != (m : Int)) = true := by rw [bne_iff_ne]; omega
    have H := Lib.hid hnm
    clear hnm hl hm
    go_enter Tryd.func37, Tryd.ntmps37
    go_wp2
    go_ret
    exact ⟨ret_bool (by unfold sameB; exact (decide_eq_false (fun h => H.out h.1)).symm), Drawn.refl _⟩
end Go.Proofs.YtjhgndnpihnidaaDoor
/- The sums of package look, and of its reference. -/
namespace Go.Proofs.YtjhgndnpihnidaaDoor
set_option maxRecDepth 40000
open Go.RowKit

/-- The validators of a state that lies as F. -/
structure VOk (w : World) (B : Nat) (F : Nat → Value) (A : Option Addr) (n c : Nat) (V : Nat → Value) : Prop where
  f : F 721 = .slice A n c
  rd : Rd w B A (n * 86) V
  sc : ∀ i, i < n → Sc (fun q => V (i * 86 + q)) 57
  le : n ≤ maxLen
theorem StOk.vok {w : World} {B : Nat} {s : StV} (h : StOk w B s) : VOk w B s.F s.aV s.nV s.cV s.V := ⟨h.f11, h.rV, h.scV, by have := h.lV; omega⟩
section
variable {w w' : World} {B : Nat} {F : Nat → Value} {A : Option Addr} {n c : Nat} {V : Nat → Value}
theorem VOk.below (h : VOk w B F A n c V) (hb : Below B w w') : VOk w' B F A n c V := ⟨h.f, h.rd.below hb, h.sc, h.le⟩
theorem VOk.more {B' : Nat} (h : VOk w B F A n c V) (hB : B ≤ B') : VOk w B' F A n c V := ⟨h.f, h.rd.more hB, h.sc, h.le⟩
theorem VOk.at_ (h : VOk w B F A n c V) {i : Nat} (hi : i < n) : ∃ ad, A = some ad ∧ ad.block < B ∧ (∀ q, q < 86 → w.cell? ((ad.add (i * 86)).add q) = some (V (i * 86 + q))) ∧ ∀ q, 0 < q → q < 86 → w.cell? ⟨(ad.add (i * 86)).block, (ad.add (i * 86)).off + q, none⟩ = some (V (i * 86 + q)) := by
  obtain ⟨ad, e, hb, hc⟩ := h.rd (by omega)
  have h1 : ∀ q, q < 86 → w.cell? ((ad.add (i * 86)).add q) = some (V (i * 86 + q)) := fun q hq => by
    rw [add_of_add]
    exact hc _ (by omega)
  refine ⟨ad, e, hb, h1, fun q h0 hq => ?_⟩
  rw [← h1 q hq]
  congr 1
  generalize ad.add (i * 86) = b
  unfold Addr.add
  rw [if_neg (by omega)]
end
def effF (V : Nat → Value) (i : Nat) : Nat := nat (V (i * 86 + 80))
/-- What the validator at an index weighs. -/
def wt (V : Nat → Value) (n j : Nat) : Nat := if j < n then effF V j else 0
def totB (t : Nat) : Nat := if t < 1000000000 then 1000000000 else t
theorem totB_max (t : Nat) : ((totB t : Nat) : Int) = if ((t : Nat) : Int) < 1000000000 then 1000000000 else ((t : Nat) : Int) := by
  unfold totB
  by_cases h : t < 1000000000
  · rw [if_pos h, if_pos (by omega)]; rfl
  · rw [if_neg h, if_neg (by omega)]
theorem sumTo_small {z : Nat → Nat} {k : Nat} (h : ∀ i, i < k → z i ≤ 32000000000) : sumTo z k ≤ k * 32000000000 := by
  induction k with
  | zero => exact Nat.zero_le _
  | succ k ih =>
    have h1 := ih fun i hi => h i (by omega)
    have h2 := h k (Nat.lt_succ_self k)
    show sumTo z k + z k ≤ _
    omega
theorem wt_le {V : Nat → Value} {n : Nat} (h : ∀ i, i < n → effF V i ≤ 32000000000) (j : Nat) : wt V n j ≤ 32000000000 := by
  unfold wt
  split
  · exact h j ‹_›
  · exact Nat.zero_le _

def isAct (V : Nat → Value) (e i : Nat) : Bool := actB (nat (V (i * 86 + 83))) e (nat (V (i * 86 + 84)))
def aw (V : Nat → Value) (e i : Nat) : Nat := if isAct V e i then effF V i else 0
def ac (V : Nat → Value) (e i : Nat) : Nat := if isAct V e i then 1 else 0
def actIx (V : Nat → Value) (e n : Nat) : List Nat := (List.range n).filter (isAct V e)
def ax (V : Nat → Value) (e n : Nat) : Nat → Nat := fun j => (actIx V e n).getD j 0
theorem actIx_t {V : Nat → Value} {e n : Nat} (h : isAct V e n = true) : actIx V e (n + 1) = actIx V e n ++ [n] := by
  unfold actIx; rw [List.range_succ, List.filter_append]; simp [h]
theorem actIx_f {V : Nat → Value} {e n : Nat} (h : isAct V e n = false) : actIx V e (n + 1) = actIx V e n := by
  unfold actIx; rw [List.range_succ, List.filter_append]; simp [h]
theorem actIx_len (V : Nat → Value) (e n : Nat) : (actIx V e n).length = sumTo (ac V e) n := by
  induction n with
  | zero => rfl
  | succ n ih =>
    show _ = sumTo (ac V e) n + ac V e n
    cases h : isAct V e n with
    | true => rw [actIx_t h, List.length_append, ih]; simp [ac, h]
    | false => rw [actIx_f h, ih]; simp [ac, h]
theorem actIx_le (V : Nat → Value) (e n : Nat) : (actIx V e n).length ≤ n := by
  have := List.length_filter_le (isAct V e) (List.range n)
  simpa [actIx] using this
theorem actIx_lt {V : Nat → Value} {e n j : Nat} (h : j ∈ actIx V e n) : j < n := by
  unfold actIx at h; exact List.mem_range.1 (List.mem_filter.1 h).1
theorem ax_lt {V : Nat → Value} {e n j : Nat} (h : j < (actIx V e n).length) : ax V e n j < n := by
  refine actIx_lt (V := V) (e := e) ?_
  unfold ax
  rw [show (actIx V e n).getD j 0 = (actIx V e n)[j] by simp [List.getD, h]]
  exact List.getElem_mem h
theorem sumTo_congr {y z : Nat → Nat} {n : Nat} (h : ∀ i, i < n → y i = z i) : sumTo y n = sumTo z n := by
  induction n with
  | zero => rfl
  | succ n ih => show sumTo y n + y n = sumTo z n + z n; rw [ih fun i hi => h i (by omega), h n (by omega)]
theorem sumTo_ax (V : Nat → Value) (e : Nat) {N : Nat} : ∀ n, n ≤ N → sumTo (fun k => wt V N (ax V e n k)) (actIx V e n).length = sumTo (aw V e) n
  | 0, _ => rfl
  | n + 1, h => by
    have ih := sumTo_ax V e (N := N) n (by omega)
    show _ = sumTo (aw V e) n + aw V e n
    cases hc : isAct V e n with
    | true =>
      have e1 : (actIx V e (n + 1)).length = (actIx V e n).length + 1 := by rw [actIx_t hc, List.length_append]; rfl
      rw [e1]
      show sumTo _ (actIx V e n).length + wt V N (ax V e (n + 1) (actIx V e n).length) = _
      have e2 : ax V e (n + 1) (actIx V e n).length = n := by unfold ax; rw [actIx_t hc]; simp [List.getD]
      rw [e2, ← ih]
      refine congr (congrArg _ (sumTo_congr fun i hi => ?_)) ?_
      · congr 1
        unfold ax
        rw [actIx_t hc]
        simp only [List.getD]
        rw [List.getElem?_append_left hi]
      · simp only [wt, aw, hc, if_true]; rw [if_pos (show n < N by omega)]
    | false =>
      have e1 : ax V e (n + 1) = ax V e n := by unfold ax; rw [actIx_f hc]
      rw [e1, actIx_f hc, ih]
      simp [aw, hc]
theorem ax_cat {V : Nat → Value} {e n : Nat} (h : isAct V e n = true) : ∀ i, i < (actIx V e n).length + 1 → catF (actIx V e n).length (fun j => .int .u64 ((ax V e n j : Nat) : Int)) (fun _ => .int .u64 ((n : Nat) : Int)) i = .int .u64 ((ax V e (n + 1) i : Nat) : Int) := fun i hi => by
  unfold catF ax
  rw [actIx_t h]
  simp only [List.getD]
  by_cases h1 : i < (actIx V e n).length
  · rw [if_pos h1, List.getElem?_append_left h1]
  · rw [if_neg h1, List.getElem?_append_right (by omega), show i - (actIx V e n).length = 0 by omega]; simp
end Go.Proofs.YtjhgndnpihnidaaDoor
/- Who is active: the lists of package look, and of its reference. -/
namespace Go.Proofs.YtjhgndnpihnidaaDoor
set_option maxRecDepth 40000
open Go.RowKit
theorem u64_info : (Tryd.prog.info? 22).map (fun i => (i.zero, i.size, i.bytes)) = some (some (.int .u64 0), 1, 8) := by kernel_rfl
theorem aw_le {V : Nat → Value} {e i : Nat} (h : effF V i ≤ 32000000000) : aw V e i ≤ 32000000000 := by
  unfold aw; split
  · exact h
  · exact Nat.zero_le _
theorem Own.weak {w : World} {base base' : Nat} {e : TypeId} {A : Option Addr} {n c : Nat} {f : Nat → Value} (h : Own w base' e A n c f) (hb : base ≤ base') : Own w base e A n c f := by
  obtain ⟨h1, h2⟩ := h
  refine ⟨h1, ?_⟩
  rcases h2 with h2 | ⟨g, cap, cur, hv, hg, r⟩
  · exact .inl h2
  · exact .inr ⟨g, cap, cur, hv, by omega, r⟩

set_option maxHeartbeats 1000000 in
theorem actives_look (F : Nat → Value) (A : Option Addr) (n c : Nat) (V : Nat → Value) (e : Nat) (w : World) (hV : VOk w w.heap.size F A n c V) (hn : n ≤ 65536) :
    Calls Tryd.prog 46 #[.agg (arr 1957 F), .int .u64 (e : Int)] w fun r w' => ∃ C cC, r = .returned (.slice C (actIx V e n).length cC) ∧ Own w' w.heap.size 22 C (actIx V e n).length cC (fun j => .int .u64 ((ax V e n j : Nat) : Int)) ∧ Below w.heap.size w w' := by
  have HV := Lib.hid hV
  clear hV
  go_enter Tryd.func46, Tryd.ntmps46
  go_wp2_with (refine wpList_box rfl _ _ rfl 1957 F rfl ?_; intro w1 hr1 hb1; have HR1 := Lib.hid hr1; have HB1 := Lib.hid hb1; have h721 := hr1.cell (i := 721) (by omega); rw [HV.out.f] at h721; clear hr1 hb1)
  have hlt := HR1.out.lt
  go_loopw [5, 11] (fun t i wr => ∃ (k : Nat) (C : Option Addr) (cC : Nat), t = .slice C (actIx V e k).length cC ∧ i = .int .i64 (k : Int) ∧ k ≤ n ∧ Own wr w1.heap.size 22 C (actIx V e k).length cC (fun j => .int .u64 ((ax V e k j : Nat) : Int)) ∧ Below w1.heap.size w1 wr) (fun _ i _ => n - (intOf i).toNat)
  case atStart => exact ⟨0, none, 0, rfl, rfl, Nat.zero_le _, Own.nil _ _ _ _, Below.refl _ _⟩
  case round =>
    obtain ⟨k, C, cC, rfl, rfl, hk, ho, hb⟩ := hrel
    have HO := Lib.hid ho
    have HB := Lib.hid hb
    have hsz := hb.size
    have hL := actIx_le V e k
    have h7 : wr.cell? ⟨w.heap.size, 721, none⟩ = some (.slice A n c) := (hb.cell hlt).trans h721
    clear ho hb h721
    by_cases h1 : k < n
    · obtain ⟨ad, rfl, hb2, hc1, hc2⟩ := ((HV.out.below HB1.out).more HB1.out.size).below HB.out |>.at_ h1
      have hc83 := hc2 83 (by omega) (by omega)
      have hc84 := hc2 84 (by omega) (by omega)
      obtain ⟨e83, -⟩ := (HV.out.sc _ h1).u64 83 (by kernel_rfl)
      obtain ⟨e84, -⟩ := (HV.out.sc _ h1).u64 84 (by kernel_rfl)
      rw [e83] at hc83
      rw [e84] at hc84
      have HC1 := Lib.hid hc1
      clear hc1 hc2 e83 e84
      have HI : Hid (isAct V e k = actB (nat (V (k * 86 + 83))) e (nat (V (k * 86 + 84)))) := Lib.hid rfl
      generalize nat (V (k * 86 + 83)) = x at *
      generalize nat (V (k * 86 + 84)) = y at *
      by_cases h2 : (x : Int) ≤ (e : Int)
      · by_cases h3 : (e : Int) < (y : Int)
        · have hI : isAct V e k = true := by rw [HI.out]; unfold actB; exact decide_eq_true (by omega)
          have HF := Lib.hid (ax_cat hI)
          have HL := Lib.hid (show (actIx V e (k + 1)).length = (actIx V e k).length + 1 by rw [actIx_t hI, List.length_append]; rfl)
          clear hI
          generalize hL2 : (actIx V e k).length = L at *
          go_wp2_with (at_builtin; refine wpList_app _ (.tmp 32) (.tmp 35) 37 w1.heap.size u64_info Tryd.underlying37 rfl rfl rfl (L + 1) (fun j => .int .u64 ((ax V e (k + 1) j : Nat) : Int)) rfl rfl (HO.out.alloc _) (Rd.one _ _ _) (fun _ _ => rfl) rfl HF.out ⟨by omega, by omega⟩ (by simp; omega) ?_; intro C2 c2 w2 o2 g2 b2; have O2 := Lib.hid (And.intro o2 (And.intro g2 b2)); clear o2 g2 b2)
          go_roundw
          case rel => exact ⟨k + 1, _, _, by rw [HL.out], by go_num, by omega, by rw [HL.out]; exact O2.out.1, below_app (HB.out.alloc hsz _) O2.out.2.1 (by simp; omega) (fun ad h => (HO.out.base_le ad h).1)⟩
          case measure => simp [intOf]; omega
        · have hI : isAct V e k = false := by rw [HI.out]; unfold actB; exact decide_eq_false (by omega)
          have HL := Lib.hid (actIx_f hI)
          have HX := Lib.hid (show ax V e (k + 1) = ax V e k by unfold ax; rw [actIx_f hI])
          clear hI
          go_wp2_with fail
          go_roundw
          case rel => exact ⟨k + 1, C, cC, by rw [HL.out], by go_num, by omega, by rw [HL.out, HX.out]; exact HO.out, HB.out⟩
          case measure => simp [intOf]; omega
      · have hI : isAct V e k = false := by rw [HI.out]; unfold actB; exact decide_eq_false (by omega)
        have HL := Lib.hid (actIx_f hI)
        have HX := Lib.hid (show ax V e (k + 1) = ax V e k by unfold ax; rw [actIx_f hI])
        clear hI
        go_wp2_with fail
        go_roundw
        case rel => exact ⟨k + 1, C, cC, by rw [HL.out], by go_num, by omega, by rw [HL.out, HX.out]; exact HO.out, HB.out⟩
        case measure => simp [intOf]; omega
    · obtain rfl : n = k := by omega
      have HL : ∃ L, L = (actIx V e n).length := ⟨_, rfl⟩
      go_wp2_with fail
      go_ret
      exact ⟨_, _, rfl, HO.out.weak (by omega), HB1.out.trans (HB.out.mono HB1.out.size)⟩

set_option maxHeartbeats 1000000 in
theorem actives_ref (F : Nat → Value) (A : Option Addr) (n c : Nat) (V : Nat → Value) (e : Nat) (w : World) (hV : VOk w w.heap.size F A n c V) (hn : n ≤ 65536) :
    Calls Tryd.prog 18 #[.agg (arr 1957 F), .int .u64 (e : Int)] w fun r w' => ∃ C cC, r = .returned (.slice C (actIx V e n).length cC) ∧ Own w' w.heap.size 22 C (actIx V e n).length cC (fun j => .int .u64 ((ax V e n j : Nat) : Int)) ∧ Below w.heap.size w w' := by
  have HV := Lib.hid hV
  clear hV
  go_enter Tryd.func18, Tryd.ntmps18
  go_wp2_with (refine wpList_box rfl _ _ rfl 1957 F rfl ?_; intro w1 hr1 hb1; have HR1 := Lib.hid hr1; have HB1 := Lib.hid hb1; have h721 := hr1.cell (i := 721) (by omega); rw [HV.out.f] at h721; clear hr1 hb1)
  have hlt := HR1.out.lt
  go_loopw [5, 6] (fun t i wr => ∃ (k : Nat) (C : Option Addr) (cC : Nat), t = .slice C (actIx V e k).length cC ∧ i = .int .i64 (k : Int) ∧ k ≤ n ∧ Own wr w1.heap.size 22 C (actIx V e k).length cC (fun j => .int .u64 ((ax V e k j : Nat) : Int)) ∧ Below w1.heap.size w1 wr) (fun _ i _ => n - (intOf i).toNat)
  case atStart => exact ⟨0, none, 0, rfl, rfl, Nat.zero_le _, Own.nil _ _ _ _, Below.refl _ _⟩
  case round =>
    obtain ⟨k, C, cC, rfl, rfl, hk, ho, hb⟩ := hrel
    have HO := Lib.hid ho
    have HB := Lib.hid hb
    have hsz := hb.size
    have hL := actIx_le V e k
    have h7 : wr.cell? ⟨w.heap.size, 721, none⟩ = some (.slice A n c) := (hb.cell hlt).trans h721
    clear ho hb h721
    by_cases h1 : k < n
    · obtain ⟨ad, rfl, hb2, hc1, -⟩ := ((HV.out.below HB1.out).more HB1.out.size).below HB.out |>.at_ h1
      have HC1 := Lib.hid hc1
      clear hc1
      cases hI : isAct V e k with
      | true =>
        have HI := Lib.hid hI
        have HF := Lib.hid (ax_cat hI)
        have HL := Lib.hid (show (actIx V e (k + 1)).length = (actIx V e k).length + 1 by rw [actIx_t hI, List.length_append]; rfl)
        clear hI
        generalize hL2 : (actIx V e k).length = L at *
        go_wp2_with (first
          | (refine wpList_load_rd rfl 57 _ rfl 86 _ Tryd.underlying57 rfl (by kernel_rfl) (ad.add (k * 86)) rfl (fun q => V (k * 86 + q)) HC1.out ?_)
          | (go_at_call 16; refine (active_ref (fun q => V (k * 86 + q)) (HV.out.sc _ h1) e _).mono ?_; rintro r w2 ⟨hr, hb2⟩; rw [show actB (nat (V (k * 86 + 83))) e (nat (V (k * 86 + 84))) = true from HI.out] at hr; subst hr; have HB2 := Lib.hid hb2; have hsz2 := hb2.size; clear hb2)
          | (at_builtin; refine wpList_app _ (.tmp 21) (.tmp 24) 37 w1.heap.size u64_info Tryd.underlying37 rfl rfl rfl (L + 1) (fun j => .int .u64 ((ax V e (k + 1) j : Nat) : Int)) rfl rfl ((HO.out.below HB2.out (fun ad h => (HO.out.base_le ad h).2)).alloc _) (Rd.one _ _ _) (fun _ _ => rfl) rfl HF.out ⟨by omega, by omega⟩ (by simp; omega) ?_; intro C2 c2 w3 o2 g2 b2; have O2 := Lib.hid (And.intro o2 (And.intro g2 b2)); clear o2 g2 b2))
        go_roundw
        case rel => exact ⟨k + 1, _, _, by rw [HL.out], by go_num, by omega, by rw [HL.out]; exact O2.out.1, below_app (((HB.out.trans (HB2.out.mono hsz))).alloc (by omega) _) O2.out.2.1 (by simp; omega) (fun ad h => (HO.out.base_le ad h).1)⟩
        case measure => simp [intOf]; omega
      | false =>
        have HI := Lib.hid hI
        have HL := Lib.hid (actIx_f hI)
        have HX := Lib.hid (show ax V e (k + 1) = ax V e k by unfold ax; rw [actIx_f hI])
        clear hI
        go_wp2_with (first
          | (refine wpList_load_rd rfl 57 _ rfl 86 _ Tryd.underlying57 rfl (by kernel_rfl) (ad.add (k * 86)) rfl (fun q => V (k * 86 + q)) HC1.out ?_)
          | (go_at_call 16; refine (active_ref (fun q => V (k * 86 + q)) (HV.out.sc _ h1) e _).mono ?_; rintro r w2 ⟨hr, hb2⟩; rw [show actB (nat (V (k * 86 + 83))) e (nat (V (k * 86 + 84))) = false from HI.out] at hr; subst hr; have HB2 := Lib.hid hb2; have hsz2 := hb2.size; clear hb2))
        go_roundw
        case rel => exact ⟨k + 1, C, cC, by rw [HL.out], by go_num, by omega, by rw [HL.out, HX.out]; exact HO.out.below HB2.out (fun ad h => (HO.out.base_le ad h).2), HB.out.trans (HB2.out.mono hsz)⟩
        case measure => simp [intOf]; omega
    · obtain rfl : n = k := by omega
      go_wp2_with fail
      go_ret
      exact ⟨_, _, rfl, HO.out.weak (by omega), HB1.out.trans (HB.out.mono HB1.out.size)⟩

end Go.Proofs.YtjhgndnpihnidaaDoor
/- The root of a number: Newton's way, and bit by bit. -/
namespace Go.Proofs.YtjhgndnpihnidaaDoor
set_option maxRecDepth 40000
open Go.RowKit

def IsRoot (n r : Nat) : Prop := r * r ≤ n ∧ n < (r + 1) * (r + 1)
theorem sq_mono {a b : Nat} (h : a ≤ b) : a * a ≤ b * b := Nat.mul_le_mul h h
theorem lt_of_sq {a b : Nat} (h : a * a < b * b) : a < b := by
  rcases Nat.lt_or_ge a b with h1 | h1
  · exact h1
  · have := sq_mono h1; omega
theorem IsRoot.unique {n r s : Nat} (h : IsRoot n r) (k : IsRoot n s) : r = s := by
  have h1 : r < s + 1 := lt_of_sq (Nat.lt_of_le_of_lt h.1 k.2)
  have h2 : s < r + 1 := lt_of_sq (Nat.lt_of_le_of_lt k.1 h.2)
  omega
theorem isRoot_ex (n : Nat) : ∃ r, IsRoot n r := by
  induction n with
  | zero => exact ⟨0, Nat.le_refl _, by decide⟩
  | succ n ih =>
    obtain ⟨r, h1, h2⟩ := ih
    by_cases h : n + 1 < (r + 1) * (r + 1)
    · exact ⟨r, by omega, h⟩
    · refine ⟨r + 1, by omega, ?_⟩
      have e : (r + 1 + 1) * (r + 1 + 1) = (r + 1) * (r + 1) + 2 * (r + 1) + 1 := by rw [Nat.add_mul, Nat.mul_add]; omega
      omega
noncomputable def isq (n : Nat) : Nat := Classical.choose (isRoot_ex n)
theorem isq_spec (n : Nat) : IsRoot n (isq n) := Classical.choose_spec (isRoot_ex n)
theorem isq_eq {n r : Nat} (h : IsRoot n r) : isq n = r := (isq_spec n).unique h
theorem isq_lt {n m : Nat} (h : n < m * m) : isq n < m := lt_of_sq (Nat.lt_of_le_of_lt (isq_spec n).1 h)
theorem isq_pos {n : Nat} (h : 0 < n) : 0 < isq n := by
  rcases Nat.eq_zero_or_pos (isq n) with h0 | h0
  · have := (isq_spec n).2; rw [h0] at this; omega
  · exact h0
/-- One step of Newton's way stays above the root. -/
theorem newton_ge {n x : Nat} (hx : 0 < x) : isq n ≤ (x + n / x) / 2 := by
  obtain ⟨h1, _⟩ := isq_spec n
  generalize isq n = r at *
  rw [Nat.le_div_iff_mul_le (by omega)]
  by_cases h : 2 * r ≤ x
  · generalize n / x = q; omega
  · have h2 : 2 * r - x ≤ n / x := by
      rw [Nat.le_div_iff_mul_le hx]
      refine Nat.le_trans ?_ h1
      by_cases h3 : x ≤ r
      · obtain ⟨d, rfl⟩ := Nat.exists_eq_add_of_le h3
        have e1 : 2 * (x + d) - x = x + 2 * d := by omega
        rw [e1, Nat.add_mul, Nat.add_mul, Nat.mul_add, Nat.mul_add, Nat.mul_comm d x, Nat.mul_assoc 2 d x, Nat.mul_comm d x]
        have := Nat.zero_le (d * d)
        omega
      · obtain ⟨d, rfl⟩ := Nat.exists_eq_add_of_le (Nat.le_of_lt (Nat.lt_of_not_le h3))
        have hd : d ≤ r := by omega
        have e1 : 2 * r - (r + d) = r - d := by omega
        rw [e1]
        obtain ⟨k, rfl⟩ := Nat.exists_eq_add_of_le hd
        rw [show d + k - d = k by omega]
        simp only [Nat.mul_add, Nat.add_mul, Nat.mul_comm k d]
        have := Nat.zero_le (d * d)
        omega
    omega
/-- Where it no more falls, it is the root. -/
theorem newton_end {n x : Nat} (hx : 0 < x) (hr : isq n ≤ x) (h : x ≤ (x + n / x) / 2) : isq n = x := by
  have h1 : x ≤ n / x := by
    rw [Nat.le_div_iff_mul_le (by omega)] at h
    omega
  rw [Nat.le_div_iff_mul_le hx] at h1
  have h2 := Nat.lt_of_le_of_lt h1 (isq_spec n).2
  have := lt_of_sq h2
  omega
theorem bitLen_lt {n : Nat} (h : n < 18446744073709551616) : n < 2 ^ Lib.bitLen n := by
  by_cases h0 : n = 0
  · subst h0; exact Nat.two_pow_pos _
  · exact (Lib.bitLenAux_bounds 64 n h h0).2.2
/-- Where it begins. -/
theorem newton_start {n : Nat} (h : n < 18446744073709551616) : isq n < 2 ^ ((Lib.bitLen n + 1) / 2) := by
  refine isq_lt (Nat.lt_of_lt_of_le (bitLen_lt h) ?_)
  rw [← Nat.pow_add]
  exact Nat.pow_le_pow_right (by omega) (by omega)

theorem wp_scope_two {P : Program} {a : Act} {w : World} {Q : Exit → Act → World → Prop} {c R : Code} (l : Nat) (J : Act → World → Prop) (μ : Act → World → Nat) (hf : findLabel c l = some (.seq .skip R))
    (pass : ∀ a w, J a w → R.wp P (Exit.jump l (fun a' w' => J a' w' ∧ μ a' w' < μ a w) Q) a w)
    (first : (∀ a w, J a w → R.wp P (Exit.jump l J Q) a w) → c.wp P (Exit.jump l J Q) a w) : (Code.scope c).wp P Q a w := by
  refine wp_scope_jumps l J μ hf (first fun a w h => wp_mono (pass a w h) ?_) fun a w h => wp_seq (wp_skip (pass a w h))
  intro e a' w' he
  cases e with
  | goto l' => exact ⟨he.1, he.2.1⟩
  | _ => exact he
def JRoot (n : Nat) (w : World) (a : Act) (w' : World) : Prop := w' = w ∧ ∃ (x : Nat) (u4 u5 u6 u7 u8 u9 u10 u11 u12 u13 u14 u15 u16 u17 u18 u19 u20 u21 u22 u23 u24 : Value),
  a = ⟨#[.int .u64 (n : Int), undef, .int .u64 0, .int .u64 (x : Int), u4, u5, u6, u7, u8, u9, u10, u11, u12, u13, u14, u15, u16, u17, u18, u19, u20, u21, u22, u23, u24], []⟩ ∧ isq n ≤ x ∧ 0 < x ∧ x ≤ 4294967295

theorem or_bit64 (r j : Nat) (hj : j ≤ 31) (hr : r < 4294967296) (hm : r % 2 ^ (j + 1) = 0) : bits .or .u64 (r : Int) (IntKind.u64.wrap (2 ^ j)) = ((r + 2 ^ j : Nat) : Int) := by
  have hp : 2 ^ j ≤ 2147483648 := Nat.pow_le_pow_right (n := 2) (by omega) hj
  have hc : ((2 : Int) ^ j) = ((2 ^ j : Nat) : Int) := by simp
  have h0 : IntKind.u64.wrap (2 ^ j) = ((2 ^ j : Nat) : Int) := by rw [hc, IntKind.wrap_u64]; omega
  rw [h0]
  have h1 : (BitVec.ofInt 64 (r : Int)).toNat = r := by
    rw [BitVec.ofInt_natCast, BitVec.toNat_ofNat]; exact Nat.mod_eq_of_lt (by omega)
  have h2 : (BitVec.ofInt 64 ((2 ^ j : Nat) : Int)).toNat = 2 ^ j := by
    rw [BitVec.ofInt_natCast, BitVec.toNat_ofNat]; exact Nat.mod_eq_of_lt (by omega)
  show IntKind.u64.wrap ((BitVec.ofInt 64 (r : Int) ||| BitVec.ofInt 64 ((2 ^ j : Nat) : Int)).toNat : Int) = _
  rw [BitVec.toNat_or, h1, h2]
  have h3 : r ||| 2 ^ j = r + 2 ^ j := by
    have h4 := Nat.two_pow_add_eq_or_of_lt (i := j + 1) (b := 2 ^ j) (Nat.pow_lt_pow_right (by omega) (by omega)) (r / 2 ^ (j + 1))
    rw [Nat.mul_div_cancel' (Nat.dvd_of_mod_eq_zero hm)] at h4
    exact h4.symm
  rw [h3, IntKind.wrap_u64]
  omega
/-- The bits from k on are found. -/
def RootI (n r k : Nat) : Prop := r * r ≤ n ∧ n < (r + 2 ^ k) * (r + 2 ^ k) ∧ r % 2 ^ k = 0 ∧ r < 4294967296
theorem rootI_room {n r j : Nat} (hj : j ≤ 31) (h : RootI n r (j + 1)) : r + 2 ^ j < 4294967296 := by
  obtain ⟨_, _, hm, hr⟩ := h
  have h1 : (4294967296 : Nat) = 2 ^ (j + 1) * 2 ^ (31 - j) := by rw [← Nat.pow_add, show j + 1 + (31 - j) = 32 by omega]
  have h2 := Nat.mul_div_cancel' (Nat.dvd_of_mod_eq_zero hm)
  have h3 : r / 2 ^ (j + 1) < 2 ^ (31 - j) := by rw [Nat.div_lt_iff_lt_mul (Nat.two_pow_pos _), Nat.mul_comm, ← h1]; exact hr
  have h4 := Nat.mul_le_mul_left (2 ^ (j + 1)) (show r / 2 ^ (j + 1) + 1 ≤ 2 ^ (31 - j) from h3)
  rw [← h1, Nat.mul_add, h2, Nat.mul_one] at h4
  have h5 : 2 ^ (j + 1) = 2 * 2 ^ j := by rw [Nat.pow_succ]; omega
  have h6 := Nat.two_pow_pos j
  omega
theorem mod_half {r j : Nat} (h : r % 2 ^ (j + 1) = 0) : r % 2 ^ j = 0 := by
  obtain ⟨q, rfl⟩ := Nat.dvd_of_mod_eq_zero h
  rw [Nat.pow_succ, Nat.mul_assoc, Nat.mul_mod_right]
theorem rootI_yes {n r j : Nat} (h : RootI n r (j + 1)) : (r + 2 ^ j) * (r + 2 ^ j) ≤ n → r + 2 ^ j < 4294967296 → RootI n (r + 2 ^ j) j := fun h1 h2 => by
  refine ⟨h1, ?_, ?_, h2⟩
  · have : r + 2 ^ j + 2 ^ j = r + 2 ^ (j + 1) := by rw [Nat.pow_succ]; omega
    rw [this]; exact h.2.1
  · rw [Nat.add_mod_right]; exact mod_half h.2.2.1
theorem rootI_no {n r j : Nat} (h : RootI n r (j + 1)) : n < (r + 2 ^ j) * (r + 2 ^ j) → RootI n r j := fun h1 => ⟨h.1, h1, mod_half h.2.2.1, h.2.2.2⟩
theorem rootI_step {n r j : Nat} (h : RootI n r j) (hj : j ≤ 31) : (∃ k : Nat, Value.int .i64 ((j : Int) - 1) = .int .i64 (k : Int) ∧ k ≤ 31 ∧ RootI n r (k + 1)) ∨ (Value.int .i64 ((j : Int) - 1) = .int .i64 (-1) ∧ RootI n r 0) := by
  cases j with
  | zero => exact .inr ⟨rfl, h⟩
  | succ k => exact .inl ⟨k, by congr 1; omega, by omega, h⟩
end Go.Proofs.YtjhgndnpihnidaaDoor
/- All that are active together, churn and rewards: package look, and its reference. (Printed by a program of mine.) -/
namespace Go.Proofs.YtjhgndnpihnidaaDoor
set_option maxRecDepth 40000
open Go.RowKit
theorem ent_epoch (vs : Array Value) (w : World) : (callFunc 49 vs).run Tryd.prog w = .ok (.enter 49 vs) w := by kernel_rfl
theorem ent_acts (vs : Array Value) (w : World) : (callFunc 18 vs).run Tryd.prog w = .ok (.enter 18 vs) w := by kernel_rfl
theorem run_quo64 (w : World) (t : TypeId) (a b q : Nat) (hb : 0 < b) (hq : a / b = q) (ha : a ≤ 9223372036854775807) : (binOp .quo t (.int .u64 (a : Int)) (.int .u64 (b : Int))).run Tryd.prog w = .ok (.int .u64 (q : Int)) w := by
  subst hq
  have h1 := Nat.div_le_self a b
  have h2 : (a : Int) / (b : Int) = ((a / b : Nat) : Int) := rfl
  have h3 : IntKind.u64.wrap ((a / b : Nat) : Int) = ((a / b : Nat) : Int) := by generalize a / b = q at *; rw [IntKind.wrap_u64]; omega
  rw [← h3, ← h2]
  simp [go_sem, Int.tdiv_eq_ediv_of_nonneg]
  omega
theorem run_mul64 (w : World) (t : TypeId) (a b m : Nat) (hm : a * b = m) (hb : m ≤ 9223372036854775807) : (binOp .mul t (.int .u64 (a : Int)) (.int .u64 (b : Int))).run Tryd.prog w = .ok (.int .u64 (m : Int)) w := by
  subst hm
  have h2 : (a : Int) * (b : Int) = ((a * b : Nat) : Int) := rfl
  have h3 : IntKind.u64.wrap ((a * b : Nat) : Int) = ((a * b : Nat) : Int) := by rw [IntKind.wrap_u64]; omega
  rw [← h3, ← h2]
  simp [go_sem]

theorem epoch_ref (F : Nat → Value) (s e : Nat) (hse : s / 4 = e) (hs : F 33 = .int .u64 (s : Int)) (hs2 : s < 1099511627776) (w : World) : Calls Tryd.prog 49 #[.agg (arr 1957 F)] w fun r w' => r = .returned (.int .u64 (e : Int)) ∧ Below w.heap.size w w' := by
  have HD := Lib.hid (show (s : Int) / 4 = (e : Int) by omega)
  have hs' := Lib.hid hs
  clear hse hs
  go_enter Tryd.func49, Tryd.ntmps49
  go_wp2_with (refine wpList_box rfl _ _ rfl 1957 F rfl ?_; intro w1 hr1 hb1; have HR1 := Lib.hid hr1; have HB1 := Lib.hid hb1; have h33 := hr1.cell (i := 33) (by omega); rw [hs'.out] at h33; clear hr1 hb1)
  go_ret
  rw [HD.out]
  exact ⟨rfl, HB1.out⟩

theorem totB_ge (t : Nat) : 1000000000 ≤ totB t := by unfold totB; split <;> omega
theorem totB_pos (t : Nat) : 0 < isq (totB t) := isq_pos (by have := totB_ge t; omega)
noncomputable def perB (t : Nat) : Nat := 64000000000 / isq t
theorem perB_le (t : Nat) : perB t ≤ 64000000000 := Nat.div_le_self _ _
def churnB (k : Nat) : Nat := if k / 32 < 2 then 2 else k / 32
theorem churnB_max (k : Nat) : ((churnB k : Nat) : Int) = if (2 : Int) < (k : Int) / 32 then (k : Int) / 32 else 2 := by
  unfold churnB
  by_cases h : k / 32 < 2
  · rw [if_pos h, if_neg (by omega)]; rfl
  · rw [if_neg h]
    split <;> omega
theorem ac_le (V : Nat → Value) (e n : Nat) : sumTo (ac V e) n ≤ n := by rw [← actIx_len]; exact actIx_le _ _ _
theorem run_cnv64 (w : World) (k : Nat) (hk : k ≤ 9223372036854775807) : (convert 3 22 (.int .i64 (k : Int))).run Tryd.prog w = .ok (.int .u64 (k : Int)) w := by
  have h3 : IntKind.u64.wrap (k : Int) = (k : Int) := by rw [IntKind.wrap_u64]; omega
  rw [show (.int .u64 (k : Int) : Value) = .int .u64 (IntKind.u64.wrap (k : Int)) by rw [h3]]
  simp [go_sem]

noncomputable def rewB (V : Nat → Value) (n i T : Nat) : Nat := if i < n then effF V i / 1000000000 * perB T else 0
def rewE (n i : Nat) : Int := if i < n then 0 else 1
theorem run_idxV (w : World) (ad : Addr) (n c i : Nat) (hi : i < n) : (Instr.indexAt 36 (.slice (some ad) n c) (.int .u64 (i : Int))).run Tryd.prog w = .ok (.pointer (some (ad.add (i * 86)))) w := by
  have hx : (0 : Int) ≤ (i : Int) ∧ (i : Int) < (n : Int) := by omega
  simp [go_sem, hi]
theorem run_ldV (w : World) (a : Addr) (A : Option Addr) (n c : Nat) (h : w.cell? a = some (.slice A n c)) : (Instr.loadAt 36 (.pointer (some a))).run Tryd.prog w = .ok (.slice A n c) w := by
  simp [go_sem, h]
theorem run_ldU (w : World) (a : Addr) (x : Int) (h : w.cell? a = some (.int .u64 x)) : (Instr.loadAt 22 (.pointer (some a))).run Tryd.prog w = .ok (.int .u64 x) w := by
  simp [go_sem, h]
theorem rew_le {a b : Nat} (h : a ≤ 32) (k : b ≤ 64000000000) : a * b ≤ 9223372036854775807 := by
  have := Nat.mul_le_mul h k
  omega

end Go.Proofs.YtjhgndnpihnidaaDoor
/- A state of zeros. -/
namespace Go.Proofs.YtjhgndnpihnidaaDoor
set_option maxRecDepth 40000
open Go.RowKit
noncomputable def pl49 : List (Nat × Nat) := match Tryd.prog.underlying 49 with
  | some (.struct fs) => (fs.toList.mapM fun f => (Tryd.prog.info? f.type).map fun i => (f.offset, i.size)).getD []
  | _ => []
noncomputable def z49 : Array Value := zeroOf Tryd.prog 49
theorem z49_size : z49.size = 1957 := by kernel_rfl
theorem z49_33 : z49.getD 33 undef = .int .u64 0 := by kernel_rfl
theorem z49_one : z49.toList.all (·.oneCell') = true := by kernel_rfl
theorem built49 (parts : List (Nat × Value)) : Tryd.prog.built 49 parts = Instr.fill (fun x => pl49.toArray[x]?) z49 parts := by kernel_rfl
theorem fill_cell {place : Nat → Option (Nat × Nat)} {cells : Array Value} {i off : Nat} {v : Value} {rest : List (Nat × Value)} (hp : place i = some (off, 1)) (hv : v.cells = #[v]) (ho : off < cells.size) : Instr.fill place cells ((i, v) :: rest) = Instr.fill place (cells.setIfInBounds off v) rest := by
  conv => lhs; unfold Instr.fill
  simp only [hp, hv]
  rw [if_neg (by simp; omega)]
  simp [Array.zipIdx]
end Go.Proofs.YtjhgndnpihnidaaDoor
/- The fixed answers of package look. -/
namespace Go.Proofs.YtjhgndnpihnidaaDoor
set_option maxRecDepth 40000
open Go.RowKit
def awParts : List (Nat × Value) := [(2, .int .u64 32000000000), (6, .int .u64 9)]
noncomputable def awCs : Array Value := (Tryd.prog.built 57 awParts).getD #[]
theorem awCs_built : Tryd.prog.built 57 awParts = some awCs := by
  have h : (Tryd.prog.built 57 awParts).isSome = true := by kernel_rfl
  unfold awCs
  cases hb : Tryd.prog.built 57 awParts with
  | none => rw [hb] at h; cases h
  | some x => rfl
theorem awCs_size : awCs.size = 86 := by kernel_rfl
noncomputable def awV : Nat → Value := fun q => awCs.getD q undef
theorem awCs_arr : awCs = arr 86 awV := by rw [← awCs_size]; exact arr_self awCs
theorem run_bsV (w : World) : (Instr.buildSlice 36 1 #[(0, .agg awCs)]).run Tryd.prog w = .ok (.slice (some ⟨w.heap.size, 0, none⟩) 1 1) (w.alloc (.cells awCs 57)) := by
  kernel_rfl
theorem awV_sc : Sc awV 57 := by
  have h : (DataW.trod (H := Unit) (fun _ => ()) Tryd.prog default 0 (fun _ => true) true 8 57 awCs.toList).isSome = true := by kernel_rfl
  obtain ⟨y, hy⟩ := Option.isSome_iff_exists.1 h
  refine TyF.sc (TyF.of_trod hy fun i v hv => ?_)
  unfold awV
  rw [Array.getElem?_toList] at hv
  simp [Array.getD, Array.getElem?_eq_some_iff] at hv ⊢
  obtain ⟨h1, h2⟩ := hv
  rw [dif_pos h1]; exact h2
noncomputable def awS (s1 s2 s3 s4 s5 : Value) : Array Value := ((((z49.setIfInBounds 721 s1).setIfInBounds 722 s2).setIfInBounds 987 s3).setIfInBounds 988 s4).setIfInBounds 1092 s5
theorem awS_built (a1 a2 a3 a4 a5 : Addr) : Tryd.prog.built 49 [(11, .slice (some a1) 1 1), (12, .slice (some a2) 1 1), (15, .slice (some a3) 1 1), (16, .slice (some a4) 1 1), (21, .slice (some a5) 1 1)] = some (awS (.slice (some a1) 1 1) (.slice (some a2) 1 1) (.slice (some a3) 1 1) (.slice (some a4) 1 1) (.slice (some a5) 1 1)) := by
  have hs := z49_size
  rw [built49, fill_cell (off := 721) (by kernel_rfl) rfl (by omega), fill_cell (off := 722) (by kernel_rfl) rfl (by simp; omega), fill_cell (off := 987) (by kernel_rfl) rfl (by simp; omega), fill_cell (off := 988) (by kernel_rfl) rfl (by simp; omega), fill_cell (off := 1092) (by kernel_rfl) rfl (by simp; omega)]
  rfl
section
variable (s1 s2 s3 s4 s5 : Value)
theorem awS_size : (awS s1 s2 s3 s4 s5).size = 1957 := by unfold awS; simp [z49_size]
theorem set_getD (cs : Array Value) (i j : Nat) (v : Value) : (cs.setIfInBounds i v).getD j undef = if i = j ∧ i < cs.size then v else cs.getD j undef := by
  simp only [Array.getD_eq_getD_getElem?, Array.getElem?_setIfInBounds]
  by_cases h : i = j
  · subst h
    by_cases h2 : i < cs.size
    · simp [h2]
    · simp [h2]
  · simp [h]
theorem awS_one (h1 : s1.oneCell' = true) (h2 : s2.oneCell' = true) (h3 : s3.oneCell' = true) (h4 : s4.oneCell' = true) (h5 : s5.oneCell' = true) : ∀ i, i < 1957 → ((awS s1 s2 s3 s4 s5).getD i undef).oneCell' = true := fun i hi => by
  have hz : (z49.getD i undef).oneCell' = true := by
    have := List.all_eq_true.1 z49_one (z49.getD i undef) (by
      have hs := z49_size
      simp [Array.getD, show i < z49.size by omega])
    exact this
  unfold awS
  simp only [set_getD]
  split
  · exact h5
  split
  · exact h4
  split
  · exact h3
  split
  · exact h2
  split
  · exact h1
  exact hz
theorem awS_33 : (awS s1 s2 s3 s4 s5).getD 33 undef = .int .u64 0 := by
  unfold awS
  simp only [set_getD]
  simp
  simpa [Array.getD_eq_getD_getElem?] using z49_33
theorem awS_721 : (awS s1 s2 s3 s4 s5).getD 721 undef = s1 := by
  unfold awS
  simp only [set_getD]
  simp [z49_size]
end
theorem z49_zero : (Tryd.prog.info? 49).bind (·.zero) = some (.agg z49) := by kernel_rfl
theorem aw_at (s1 s2 s3 s4 s5 : Value) : ∀ i, i < 1957 → (awS s1 s2 s3 s4 s5)[i]? = some ((awS s1 s2 s3 s4 s5).getD i undef) := fun i hi => arr_getD i (by rw [awS_size]; exact hi)
theorem aw_cells (s1 s2 s3 s4 s5 : Value) (h1 : s1.oneCell' = true) (h2 : s2.oneCell' = true) (h3 : s3.oneCell' = true) (h4 : s4.oneCell' = true) (h5 : s5.oneCell' = true) : ∀ i, i < 1957 → ∃ v, (awS s1 s2 s3 s4 s5)[i]? = some v ∧ v.oneCell' = true := fun i hi => ⟨_, aw_at s1 s2 s3 s4 s5 i hi, awS_one s1 s2 s3 s4 s5 h1 h2 h3 h4 h5 i hi⟩
theorem aw_below (w1 : World) : Below w1.heap.size w1 ((((w1.alloc (.cells #[.int .u64 0] 22)).alloc (.cells #[.int .u8 0] 5)).alloc (.cells #[.int .u8 0] 5)).alloc (.cells #[.int .u64 0] 22)) :=
  ((((Below.refl w1.heap.size w1).alloc (Nat.le_refl _) _).alloc (by rw [alloc_sz]; omega) _).alloc (by rw [alloc_sz, alloc_sz]; omega) _).alloc (by rw [alloc_sz, alloc_sz, alloc_sz]; omega) _
theorem aw_val : isAct awV 0 0 = true ∧ effF awV 0 = 32000000000 := ⟨by kernel_rfl, by kernel_rfl⟩
theorem sumTo_one (z : Nat → Nat) : sumTo z 1 = z 0 := Nat.zero_add _
theorem aw_sum : sumTo (aw awV 0) 1 = 32000000000 := by
  rw [sumTo_one]
  unfold aw
  rw [aw_val.1, aw_val.2]
  rfl
theorem aw_cnt : churnB (sumTo (ac awV 0) 1) = 2 := by
  rw [sumTo_one]
  unfold ac
  rw [aw_val.1]
  rfl
theorem aw_rew : rewB awV 1 0 (totB (sumTo (aw awV 0) 1)) = 11448672 := by
  have h : isq 32000000000 = 178885 := isq_eq ⟨by omega, by omega⟩
  rw [aw_sum]
  unfold rewB perB totB
  rw [if_pos (by omega), aw_val.2, if_neg (by omega), h]
theorem aw_acts : actB (nat (awV 83)) 8 (nat (awV 84)) = true ∧ actB (nat (awV 83)) 9 (nat (awV 84)) = false := ⟨by kernel_rfl, by kernel_rfl⟩
theorem aw_eff : ∀ i, i < 1 → effF awV i ≤ 32000000000 := fun i hi => by
  obtain rfl : i = 0 := by omega
  rw [aw_val.2]
  exact Nat.le_refl _
theorem aw_vok {w : World} {b1 : Nat} (s2 s3 s4 s5 : Value) {B : Nat} (hr : w.rowIs b1 57 86 awV) (hB : b1 < B) : VOk w B (fun i => (awS (.slice (some ⟨b1, 0, none⟩) 1 1) s2 s3 s4 s5).getD i undef) (some ⟨b1, 0, none⟩) 1 1 awV :=
  ⟨awS_721 _ _ _ _ _, Rd.of_row hr (Nat.le_refl _) hB, fun i hi => by
    obtain rfl : i = 0 := by omega
    exact awV_sc.congr fun q => by simp, by unfold maxLen; omega⟩

theorem wpList_bsV {ops : Array Oper} {rest : List Oper} {o : Oper} {a : Act} {w : World} {Q : Exit → Act → World → Prop} (hgd : o.guard = none) (x : Operand) (ho : o.op = .buildSlice 36 1 #[(0, x)]) (hx : a.eval x = .agg awCs)
    (hK : ∀ w', w'.rowIs w.heap.size 57 86 awV → Below w.heap.size w w' → wpList Tryd.prog ops Q rest (a.put o.dst (.slice (some ⟨w.heap.size, 0, none⟩) 1 1)) w') : wpList Tryd.prog ops Q (o :: rest) a w :=
  wpList_plain hgd fun _ hK' => by
    have hrun : (execOp a.eval o).run Tryd.prog w = .ok (.value (.slice (some ⟨w.heap.size, 0, none⟩) 1 1)) (w.alloc (.cells awCs 57)) := by
      unfold execOp
      rw [ho]
      simp only [List.map_toArray, List.map_cons, List.map_nil, hx]
      simp [run_bsV]
    unfold Oper.wp
    rw [hrun]
    exact hK' _ _ (hK _ ⟨awCs, heap_alloc_new w _, awCs_size, fun i hi => by rw [awCs_arr]; exact arr_at 86 awV i hi⟩ ((Below.refl _ _).alloc (Nat.le_refl _) _))
end Go.Proofs.YtjhgndnpihnidaaDoor
/- A start at which a call with a state as its argument is made. -/
namespace Go.Proofs.YtjhgndnpihnidaaDoor
set_option maxRecDepth 40000
open Go.ChangeShapes Go.WideShapes Go.ChangeAt Go.RowKit
theorem witness_st {H : Type} {enc : TypeId × Value → H} {C : Checked} {os : Os} {f : FuncId} {fn : Func} {s : ChangeSpec} {conds : List PathCond} {apart : Bool} (modest : Bool) (args : Array Value) (fuel : Nat)
    (hv : (World.plainHolding C.prog os ⟨#[], args, []⟩).variablesB C.prog = true)
    (hr : ((World.plainHolding C.prog os ⟨#[], args, []⟩).heap.toList.drop C.prog.globals.size).take ((begin C.prog (fun _ _ => 0) default).world.heap.size - C.prog.globals.size) =
      (begin C.prog (fun _ _ => 0) default).world.heap.toList.drop C.prog.globals.size)
    (hok : ∀ w base, Input.okWide C.prog w .any base f ⟨#[], args, []⟩)
    (hpre : s.preB enc C.prog fn conds apart (World.plainHolding C.prog os ⟨#[], args, []⟩).memory args fuel = true)
    (hsz : s.sizedB enc C.prog fn apart (World.plainHolding C.prog os ⟨#[], args, []⟩).memory args fuel = true) :
    ∃ (w : World) (tape : Tape) (i : Input), w.os = os ∧ (w.forCall tape i).Shaped C.prog ∧ i.vars = [] ∧ Input.okWide C.prog (w.forCall tape i) .any w.heap.size f i ∧
      s.pre6 enc C.prog fn conds apart (w.forCall tape i).memory i.args ∧ ({ modest := modest } : Assume).holds C.prog (lone (Frame.enter C.prog f i.args .normal) [] (w.forCall tape i)) :=
  ⟨World.holding C.prog os ⟨#[], args, []⟩, fun _ _ => 0, ⟨#[], args, []⟩, rfl, World.shaped_of_B hv hr, rfl, hok _ _, ⟨ChangeSpec.pre_of_preB hpre, sizedMet_of_sizedB hsz⟩, by
    simp only [Assume.holds]
    exact ⟨by simp, by simp, fun _ => Modest.zero, by simp, by simp⟩⟩
def chk (P : Program) (w : World) : List Value → List TypeId → Bool
  | [], [] => true
  | v :: vs, u :: us => Cell.okWideB P w u v && chk P w vs us
  | _, _ => false
theorem chk_len {P : Program} {w : World} : ∀ {vs : List Value} {us : List TypeId}, chk P w vs us = true → vs.length = us.length
  | [], [], _ => rfl
  | v :: vs, u :: us, h => by
    simp only [chk, Bool.and_eq_true] at h
    simp [chk_len h.2]
  | [], _ :: _, h => by cases h
  | _ :: _, [], h => by cases h
theorem chk_at {P : Program} {w : World} : ∀ {vs : List Value} {us : List TypeId}, chk P w vs us = true → ∀ (i : Nat) (v : Value), vs[i]? = some v → ∃ u, us[i]? = some u ∧ Cell.okWideB P w u v = true
  | [], [], _, i, v, h => by simp at h
  | v :: vs, u :: us, h, i, x, hx => by
    simp only [chk, Bool.and_eq_true] at h
    cases i with
    | zero => simp at hx; subst hx; exact ⟨u, rfl, h.1⟩
    | succ i => exact chk_at h.2 i x (by simpa using hx)
  | [], _ :: _, h, _, _, _ => by cases h
  | _ :: _, [], h, _, _, _ => by cases h
noncomputable def ts49 : List TypeId := (Tryd.prog.cellTypes Tryd.prog.depth 49).getD []
theorem ts49_some : Tryd.prog.cellTypes Tryd.prog.depth 49 = some ts49 := by
  have h : (Tryd.prog.cellTypes Tryd.prog.depth 49).isSome = true := by kernel_rfl
  unfold ts49
  cases hb : Tryd.prog.cellTypes Tryd.prog.depth 49 with
  | none => rw [hb] at h; cases h
  | some x => rfl
theorem chk49 (w : World) : chk Tryd.prog w z49.toList ts49 = true := by kernel_rfl
theorem cells49 : Tryd.prog.cellsOf 49 = 1957 := by kernel_rfl
theorem z49_ok (w : World) (base : Nat) : Value.okWide Tryd.prog w .any base 49 (.agg z49) := by
  unfold Value.okWide
  simp only [Tryd.underlying49]
  have hl := chk_len (chk49 w)
  have hl2 : z49.size = ts49.length := by simpa using hl
  refine ⟨z49, rfl, by rw [z49_size, cells49], ts49, ts49_some, ⟨1, by omega⟩, fun i v hv => ?_⟩
  have hi : i < z49.size := (Array.getElem?_eq_some_iff.1 hv).1
  obtain ⟨u, hu, hk⟩ := chk_at (chk49 w) i v (by rw [Array.getElem?_toList]; exact hv)
  exact ⟨u, by rw [Nat.mod_eq_of_lt (by omega)]; exact hu, Cell.okWide_of_okWideB hk⟩
end Go.Proofs.YtjhgndnpihnidaaDoor
