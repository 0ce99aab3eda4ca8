/- A part of what the proofs stand on: Tail, App. -/
import Derived.Test.YtjhgndnpihnidaaDoorGPic5
import Derived.Laws.CopyRow
import Derived.Laws.CopyOwn
/- Operations by themselves: cuts, fields, conversions; copies and calls at a region's end. -/
namespace Go.Proofs.YtjhgndnpihnidaaDoor
set_option maxRecDepth 40000
open Go.RowKit

/-- What an operand is known to be, if there is one. -/
def OpKo (lk : Tmp → SF) : Option Operand → Option Value → Prop
  | none, none => True
  | some x, some v => OpK lk x v
  | _, _ => False
section
variable {P : Program} {ops : Array Oper} {B : Nat} {w0 : World} {o : Oper} {lk : Tmp → SF} {ty rt : TypeId}
theorem OpKo.no : OpKo lk none none := trivial
theorem OpKo.tmp {i : Tmp} {v : Value} (h : lk i = SF.is v) : OpKo lk (some (.tmp i)) (some v) := OpK.tmp h
theorem OpKo.const {v : Value} : OpKo lk (some (.const v)) (some v) := OpK.const
theorem OpKo.eval {a : Act} {w : World} {x : Option Operand} {v : Option Value} (hk : OpKo lk x v) (hf : Opd lk o a w) (hm : ∀ y, x = some y → y ∈ o.op.operands) : x.map a.eval = v := by
  cases x with
  | none =>
    cases v with
    | none => rfl
    | some v => exact hk.elim
  | some x =>
    cases v with
    | none => exact hk.elim
    | some v => simp only [Option.map_some]; rw [OpK.eval hk hf (hm x rfl)]
theorem opOb_slc {x v : Value} {l h : Option Value} {xo : Operand} {lo ho : Option Operand} (hg : o.guard = none) (hop : o.op = .slice ty xo lo ho none) (hx : OpK lk xo x) (hl : OpKo lk lo l) (hh : OpKo lk ho h)
    (hr : ∀ w, (Instr.sliceAt ty x l h none).run P w = .ok v w) : opOb P ops B w0 o (SF.is v) lk :=
  opOb_val _ hg fun a w _ hf => by
    have h1 := hx.eval hf (by rw [hop]; simp [Op.operands])
    have h2 := hl.eval hf (fun y hy => by rw [hop, hy]; simp [Op.operands])
    have h3 := hh.eval hf (fun y hy => by rw [hop, hy]; simp [Op.operands])
    unfold execOp
    rw [hop]
    simp only [h1]
    rw [show lo.map (fun y => a.eval y) = l from h2, show ho.map (fun y => a.eval y) = h from h3]
    simp [hr w]
theorem opOb_fld {x v : Value} {xo : Operand} {k : Nat} (hg : o.guard = none) (hop : o.op = .fieldAddr ty xo k) (hx : OpK lk xo x) (hr : ∀ w, (Instr.fieldAt ty x k).run P w = .ok v w) : opOb P ops B w0 o (SF.is v) lk :=
  opOb_val _ hg fun a w _ hf => by
    have h1 := hx.eval hf (by rw [hop]; simp [Op.operands])
    unfold execOp
    rw [hop]
    simp only [h1]
    simp [hr w]
theorem opOb_cnv {x v : Value} {xo : Operand} {s d : TypeId} (hg : o.guard = none) (hop : o.op = .convert s d xo) (hx : OpK lk xo x) (hr : ∀ w, (convert s d x).run P w = .ok v w) : opOb P ops B w0 o (SF.is v) lk :=
  opOb_val _ hg fun a w _ hf => by
    have h1 := hx.eval hf (by rw [hop]; simp [Op.operands])
    unfold execOp
    rw [hop]
    simp only [h1]
    simp [hr w]
theorem opOb_len {A : Option Addr} {n c : Nat} {xo : Operand} {t e : TypeId} (hu : P.underlying t = some (.slice e)) (hg : o.guard = none) (hop : o.op = .call { callee := .builtin .len, args := #[xo], argTypes := #[t] }) (hx : OpK lk xo (.slice A n c)) : opOb P ops B w0 o (SF.is (.int .i64 (n : Int))) lk :=
  opOb_val _ hg fun a w _ hf => by
    have h1 := hx.eval hf (by rw [hop]; simp [Op.operands, Call.operands])
    unfold execOp
    simp only [hop, resolve, invoke, builtin, Sem.run_bind, Sem.run_pure, Result.andThen_ok, List.map_toArray, List.map_cons, List.map_nil, h1]
    simp [Builtin.len_, run_underlying hu, go_sem]
/-- A known function is called, with known values. -/
theorem opOb_fn {f : FuncId} (hent : ∀ vs w, (callFunc f vs).run P w = .ok (.enter f vs) w) {xs : Array Operand} {vs : Array Value} {ts : Array TypeId} {F : SF} (hg : o.guard = none) (hop : o.op = .call { callee := .value (.func f), args := xs, argTypes := ts }) (hx : ∀ a w, Opd lk o a w → xs.map a.eval = vs)
    (hr : ∀ w, Below B w0 w → Calls P f vs w fun e w' => ∃ v, e = .returned v ∧ F.F v w' ∧ Below w.heap.size w w') : opOb P ops B w0 o F lk :=
  opOb_call hg fun a w hb hf => ⟨f, vs, by
    unfold execOp
    rw [hop]
    have h := hx a w hf
    simp only [resolve]
    rw [show (Array.map (fun x => a.eval x) xs) = vs from h]
    simp [invoke, Deferred.ofValue, Act.eval, hent], hr w hb⟩
theorem opOb_fn1 {f : FuncId} (hent : ∀ vs w, (callFunc f vs).run P w = .ok (.enter f vs) w) {x : Operand} {v : Value} {ts : Array TypeId} {F : SF} (hg : o.guard = none) (hop : o.op = .call { callee := .value (.func f), args := #[x], argTypes := ts }) (hx : OpK lk x v)
    (hr : ∀ w, Below B w0 w → Calls P f #[v] w fun e w' => ∃ v, e = .returned v ∧ F.F v w' ∧ Below w.heap.size w w') : opOb P ops B w0 o F lk :=
  opOb_fn hent hg hop (fun a w hf => by
    have h := hx.eval hf (by rw [hop]; simp [Op.operands, Call.operands])
    simp [h]) hr
theorem opOb_fn2 {f : FuncId} (hent : ∀ vs w, (callFunc f vs).run P w = .ok (.enter f vs) w) {x y : Operand} {v u : Value} {ts : Array TypeId} {F : SF} (hg : o.guard = none) (hop : o.op = .call { callee := .value (.func f), args := #[x, y], argTypes := ts }) (hx : OpK lk x v) (hy : OpK lk y u)
    (hr : ∀ w, Below B w0 w → Calls P f #[v, u] w fun e w' => ∃ v, e = .returned v ∧ F.F v w' ∧ Below w.heap.size w w') : opOb P ops B w0 o F lk :=
  opOb_fn hent hg hop (fun a w hf => by
    have h := hx.eval hf (by rw [hop]; simp [Op.operands, Call.operands])
    have h' := hy.eval hf (by rw [hop]; simp [Op.operands, Call.operands])
    simp [h, h']) hr
theorem opOb_fn3 {f : FuncId} (hent : ∀ vs w, (callFunc f vs).run P w = .ok (.enter f vs) w) {x y z : Operand} {v u t : Value} {ts : Array TypeId} {F : SF} (hg : o.guard = none) (hop : o.op = .call { callee := .value (.func f), args := #[x, y, z], argTypes := ts }) (hx : OpK lk x v) (hy : OpK lk y u) (hz : OpK lk z t)
    (hr : ∀ w, Below B w0 w → Calls P f #[v, u, t] w fun e w' => ∃ v, e = .returned v ∧ F.F v w' ∧ Below w.heap.size w w') : opOb P ops B w0 o F lk :=
  opOb_fn hent hg hop (fun a w hf => by
    have h := hx.eval hf (by rw [hop]; simp [Op.operands, Call.operands])
    have h' := hy.eval hf (by rw [hop]; simp [Op.operands, Call.operands])
    have h'' := hz.eval hf (by rw [hop]; simp [Op.operands, Call.operands])
    simp [h, h', h'']) hr
theorem opOb_cnvW {x v : Value} {xo : Operand} {s d : TypeId} (hg : o.guard = none) (hop : o.op = .convert s d xo) (hx : OpK lk xo x) (hr : ∀ w, Below B w0 w → (convert s d x).run P w = .ok v w) : opOb P ops B w0 o (SF.is v) lk :=
  opOb_val _ hg fun a w hb hf => by
    have h1 := hx.eval hf (by rw [hop]; simp [Op.operands])
    unfold execOp
    rw [hop]
    simp only [h1]
    simp [hr w hb]
end

section
variable {P : Program} {a : Act} {w : World} {K : Act → World → Prop} {Q : Exit → Act → World → Prop} {o : Oper}
theorem wp_asg {x : Operand} (v : Value) (hop : o.op = .assign x ∨ o.op = .move x) (hx : a.eval x = v) (h : K (a.put o.dst v) w) : o.wp P a w K Q := by
  subst hx
  unfold Oper.wp execOp
  rcases hop with hop | hop <;> (rw [hop]; exact h)
/-- A copy into a row, from whatever reads as a function. -/
theorem run_copy_fn (w : World) {dT sT ty elem : TypeId} (hu : P.underlying dT = some (.slice elem)) (hs : (P.info? elem).map (·.size) = some 1) {g : Nat} {t : TypeId} {N : Nat} {F : Nat → Value} (hr : w.rowIs g t N F) (off dLen dCap : Nat)
    {A : Option Addr} {sLen sCap B : Nat} {fs : Nat → Value} (hsrc : Rd w B A sLen fs) (h1 : ∀ i, i < sLen → (fs i).oneCell' = true) (n : Nat) (hn : n = min sLen dLen) (hfit : off + n ≤ N) :
    ∃ w1, (Builtin.copy_ #[dT, sT] ty #[.slice (some ⟨g, off, none⟩) dLen dCap, .slice A sLen sCap]).run P w = .ok (.int .i64 (n : Int)) w1 ∧ w1.rowIs g t N (fun j => if off ≤ j ∧ j < off + n then fs (j - off) else F j) ∧ w.grownBy w1 (some g) := by
  by_cases h0 : n = 0
  · refine ⟨w, ?_, hr.congr (fun j _ => by rw [if_neg (by omega)]), World.grownBy.refl _ _⟩
    have := run_copy_none (P := P) w dT sT ty elem (some ⟨g, off, none⟩) A dLen dCap sLen sCap hu hs (hn.symm.trans h0)
    rw [this, h0]; rfl
  · obtain ⟨ad, rfl, _, hc⟩ := hsrc (by omega)
    obtain ⟨cur, hcur, hsz, hcc⟩ := hr
    have hlen : ((List.range n).map fs).length = n := by simp
    have hrun := run_copy_row (P := P) w dT sT ty elem g off dLen dCap ad sLen sCap cur t ((List.range n).map fs) hu hs hcur (by rw [hlen, hn]) (fun j v hj => by
      have hjl : j < n := by
        rcases Nat.lt_or_ge j n with h | h
        · exact h
        · simp [h] at hj
      rw [hc j (by omega)]
      simp [hjl] at hj
      exact congrArg some hj) (by rw [hlen]; omega) (fun v hv => by
      obtain ⟨j, hj, rfl⟩ := List.mem_map.1 hv
      exact h1 j (by have := List.mem_range.1 hj; omega))
    rw [hlen] at hrun
    refine ⟨_, hrun, ?_, ⟨rfl, rfl, rfl, by rw [size_setRow]; exact Nat.le_refl _, fun i _ hne => by
      unfold World.setRow
      have : ¬ g = i := fun e => hne (by rw [e])
      simp [Array.getElem?_modify, this]⟩⟩
    refine World.rowIs_setRow ⟨cur, hcur, hsz, hcc⟩ _ (by simp; omega) _ (fun i hi => ?_)
    have hci := hcc i hi
    simp only [List.getElem?_toArray, List.getElem?_append, List.length_take, List.length_append, List.length_map, List.length_range, Array.length_toList]
    by_cases h2 : i < off
    · rw [if_neg (show ¬ (off ≤ i ∧ i < off + n) by omega)]
      rw [if_pos (show i < min off cur.size + n by omega), if_pos (show i < min off cur.size by omega), List.getElem?_take, if_pos h2, Array.getElem?_toList, hci]
    · by_cases h3 : i < off + n
      · rw [if_pos (show off ≤ i ∧ i < off + n by omega)]
        simp [show min off cur.size = off by omega, h2, h3, List.getElem?_map, List.getElem?_range (show i - off < n by omega)]
      · rw [if_neg (show ¬ (off ≤ i ∧ i < off + n) by omega)]
        simp [show min off cur.size = off by omega, h3, show off + n + (i - (off + n)) = i by omega, hcc i hi]
theorem wp_copy_fn {d s : Operand} {dT sT elem : TypeId} (hop : o.op = .call { callee := .builtin .copy, args := #[d, s], argTypes := #[dT, sT] }) (hu : P.underlying dT = some (.slice elem)) (hs : (P.info? elem).map (·.size) = some 1) {g : Nat} {t : TypeId} {N : Nat} {F : Nat → Value} (hr : w.rowIs g t N F) (off dLen dCap : Nat)
    {A : Option Addr} {sLen sCap B : Nat} {fs : Nat → Value} (hsrc : Rd w B A sLen fs) (h1 : ∀ i, i < sLen → (fs i).oneCell' = true) (n : Nat) (hn : n = min sLen dLen) (hfit : off + n ≤ N) (hd : a.eval d = .slice (some ⟨g, off, none⟩) dLen dCap) (hss : a.eval s = .slice A sLen sCap)
    (hK : ∀ w1, w1.rowIs g t N (fun j => if off ≤ j ∧ j < off + n then fs (j - off) else F j) → w.grownBy w1 (some g) → K (a.put o.dst (.int .i64 (n : Int))) w1) : o.wp P a w K Q := by
  obtain ⟨w1, hrun, h2, h3⟩ := run_copy_fn (P := P) w (ty := o.type) hu hs hr off dLen dCap (sCap := sCap) hsrc h1 n hn hfit
  unfold Oper.wp execOp
  simp only [hop, resolve, invoke, builtin, Sem.run_bind, Sem.run_pure, Result.andThen_ok, List.map_toArray, List.map_cons, List.map_nil, hd, hss]
  rw [hrun]
  exact hK w1 h2 h3
/-- A call at the end. -/
theorem wp_fn {f : FuncId} (hent : ∀ vs w, (callFunc f vs).run P w = .ok (.enter f vs) w) {xs : Array Operand} {ts : Array TypeId} (vs : Array Value) (hop : o.op = .call { callee := .value (.func f), args := xs, argTypes := ts }) (hx : xs.toList.map a.eval = vs.toList)
    (hr : Calls P f vs w fun e w' => ∃ v, e = .returned v ∧ K (a.put o.dst v) w') : o.wp P a w K Q := by
  have hx' : xs.map (fun x => a.eval x) = vs := by
    apply Array.toList_inj.1
    rw [← hx]; simp
  have hrun : (execOp a.eval o).run P w = .ok (.enter f vs) w := by
    unfold execOp
    rw [hop]
    simp only [resolve]
    rw [hx']
    simp [invoke, Deferred.ofValue, Act.eval, hent]
  unfold Oper.wp
  rw [hrun]
  exact hr.mono fun e w' ⟨v, he, hk⟩ => by subst he; exact hk
/-- A part of an array, as a slice. -/
theorem cut_arr {T e : TypeId} {n : Nat} (hu : P.underlying T = some (.array n e)) (z : Nat) (hz : (P.info? e).map (·.size) = some z) {g o : Nat} (low high : Option Value) (l h : Nat)
    (hl : low = none ∧ l = 0 ∨ low = some (.int .i64 (l : Int))) (hh : high = none ∧ h = n ∨ high = some (.int .i64 (h : Int))) (hlh : l ≤ h) (hn : h ≤ n) (hln : l < n) {off len cap : Nat} (hoff : off = o + l * z) (hlen : len = h - l) (hcap : cap = n - l) :
    (Instr.sliceAt T (.pointer (some ⟨g, o, none⟩)) low high none).run P w = .ok (.slice (some ⟨g, off, none⟩) len cap) w := by
  rw [hoff, hlen, hcap]
  have hne : ¬ n = l := by omega
  have had : (⟨g, o, none⟩ : Addr).add (l * z) = ⟨g, o + l * z, none⟩ := by unfold Addr.add; split <;> simp_all
  have hsz : (sizeOf e).run P w = .ok z w := by
    cases hq : P.info? e with
    | none => rw [hq] at hz; simp at hz
    | some i => rw [hq] at hz; simp at hz; simp [sizeOf, typeInfo, hq, hz]
  have b1 : ∀ (y : Nat) (c : BoundsCode), l ≤ y → (Instr.sliceBound (.int .i64 (l : Int)) y c).run P w = .ok l w := fun y c hy => by
    rw [run_sliceBound w .i64 (l : Int) y c (by omega) (by omega)]; simp
  have b2 : ∀ (y : Nat) (c : BoundsCode), h ≤ y → (Instr.sliceBound (.int .i64 (h : Int)) y c).run P w = .ok h w := fun y c hy => by
    rw [run_sliceBound w .i64 (h : Int) y c (by omega) (by omega)]; simp
  rcases hl with ⟨rfl, rfl⟩ | rfl <;> rcases hh with ⟨rfl, rfl⟩ | rfl <;>
    simp [Instr.sliceAt, Instr.sureAddr, run_underlying hu, Instr.sliceBounds, b1, b2, hlh, hn, hsz, hne, had] <;> simp_all
/-- A' is A from place k on. -/
def Cut (A A' : Option Addr) (n k : Nat) : Prop :=
  (∀ (w : World) (B : Nat) (f : Nat → Value), Rd w B A n f → Rd w B A' (n - k) (fun i => f (k + i))) ∧ ∀ ad', A' = some ad' → ∃ ad, A = some ad ∧ ad'.block = ad.block
theorem sizeOf_run {e : TypeId} {z : Nat} (hz : (P.info? e).map (·.size) = some z) (w : World) : (sizeOf e).run P w = .ok z w := by
  cases hq : P.info? e with
  | none => rw [hq] at hz; simp at hz
  | some i => rw [hq] at hz; simp at hz; simp [sizeOf, typeInfo, hq, hz]
theorem add_zero' (a : Addr) : a.add 0 = a := by unfold Addr.add; simp
theorem cut_mid {t e : TypeId} (hu : P.underlying t = some (.slice e)) (hz : (P.info? e).map (·.size) = some 1) (A : Option Addr) (n c l h : Nat) (low high : Option Value)
    (hl : low = none ∧ l = 0 ∨ low = some (.int .i64 (l : Int))) (hh : high = none ∧ h = n ∨ high = some (.int .i64 (h : Int))) (hlh : l ≤ h) (hn : h ≤ n) (hnc : n ≤ c) :
    ∃ A', (∀ w, (Instr.sliceAt t (.slice A n c) low high none).run P w = .ok (.slice A' (h - l) (c - l)) w) ∧ Cut A A' h l := by
  have b1 : ∀ (y : Nat) (k : BoundsCode) (w : World), l ≤ y → (Instr.sliceBound (.int .i64 (l : Int)) y k).run P w = .ok l w := fun y k w hy => by
    rw [run_sliceBound w .i64 (l : Int) y k (by omega) (by omega)]; simp
  have b2 : ∀ (y : Nat) (k : BoundsCode) (w : World), h ≤ y → (Instr.sliceBound (.int .i64 (h : Int)) y k).run P w = .ok h w := fun y k w hy => by
    rw [run_sliceBound w .i64 (h : Int) y k (by omega) (by omega)]; simp
  refine ⟨if c = l then A else A.map (·.add (l * 1)), fun w => ?_, fun w B f hr => ?_, fun ad' had => ?_⟩
  · have hs := sizeOf_run hz
    have h9 : h ≤ c := by omega
    rcases hl with ⟨rfl, rfl⟩ | rfl <;> rcases hh with ⟨rfl, rfl⟩ | rfl <;>
      simp [Instr.sliceAt, Instr.slice, run_underlying hu, Instr.sliceBounds, b1, b2, hlh, h9, hs, add_zero'] <;> simp_all
  · intro h0
    obtain ⟨ad, rfl, hb, hc⟩ := hr (by omega)
    rw [if_neg (by omega)]
    refine ⟨ad.add (l * 1), rfl, by rw [block_of_add]; exact hb, fun i hi => ?_⟩
    rw [add_of_add, Nat.mul_one]
    exact hc (l + i) (by omega)
  · by_cases e : c = l
    · rw [if_pos e] at had; exact ⟨ad', had, rfl⟩
    · rw [if_neg e] at had
      cases A with
      | none => cases had
      | some ad => injection had with had; subst had; exact ⟨ad, rfl, block_of_add _ _⟩
theorem cut_from {t e : TypeId} (hu : P.underlying t = some (.slice e)) (hz : (P.info? e).map (·.size) = some 1) (A : Option Addr) (n c k : Nat) (hk : k ≤ n) (hnc : n ≤ c) :
    ∃ A', (∀ w, (Instr.sliceAt t (.slice A n c) (some (.int .i64 (k : Int))) none none).run P w = .ok (.slice A' (n - k) (c - k)) w) ∧ Cut A A' n k :=
  cut_mid hu hz A n c k n _ _ (.inr rfl) (.inl ⟨rfl, rfl⟩) hk (Nat.le_refl _) hnc
theorem cut_to {t e : TypeId} (hu : P.underlying t = some (.slice e)) (hz : (P.info? e).map (·.size) = some 1) (A : Option Addr) (n c h : Nat) (hh : h ≤ c) (w : World) :
    (Instr.sliceAt t (.slice A n c) none (some (.int .i64 (h : Int))) none).run P w = .ok (.slice A h c) w := by
  have b2 : (Instr.sliceBound (.int .i64 (h : Int)) c .sliceAcap).run P w = .ok h w := by
    rw [run_sliceBound w .i64 (h : Int) c _ (by omega) (by omega)]; simp
  simp [Instr.sliceAt, Instr.slice, run_underlying hu, Instr.sliceBounds, b2, sizeOf_run hz, add_zero']
theorem Cut.rd {A A' : Option Addr} {n k : Nat} (h : Cut A A' n k) {w : World} {B : Nat} {f : Nat → Value} (hr : Rd w B A n f) : Rd w B A' (n - k) (fun i => f (k + i)) := h.1 w B f hr
/-- The slice has no cell in block g. -/
def Apt (A : Option Addr) (n g : Nat) : Prop := 0 < n → ∀ ad, A = some ad → ad.block ≠ g
theorem Cut.apart {A A' : Option Addr} {n k g : Nat} (h : Cut A A' n k) (hg : Apt A n g) : Apt A' (n - k) g := fun h0 ad' e => by
  obtain ⟨ad, ha, hb⟩ := h.2 ad' e
  rw [hb]; exact hg (by omega) ad ha
/-- The slice lies in blocks from B on. -/
def Hi (A : Option Addr) (n B : Nat) : Prop := 0 < n → ∀ ad, A = some ad → B ≤ ad.block
theorem Cut.hi {A A' : Option Addr} {n k g : Nat} (h : Cut A A' n k) (hg : Hi A n g) : Hi A' (n - k) g := fun h0 ad' e => by
  obtain ⟨ad, ha, hb⟩ := h.2 ad' e
  rw [hb]; exact hg (by omega) ad ha
theorem Rd.apt {w : World} {B n g : Nat} {A : Option Addr} {f : Nat → Value} (h : Rd w B A n f) (hg : B ≤ g) : Apt A n g := fun h0 ad e => by
  obtain ⟨ad', e', hb, _⟩ := h h0
  rw [e] at e'; injection e' with e'; subst e'; omega
theorem Rd.apart {w w' : World} {B n g : Nat} {A : Option Addr} {f : Nat → Value} (h : Rd w B A n f) (hg : w.grownBy w' (some g)) (hB : B ≤ w.heap.size) (ha : 0 < n → ∀ ad, A = some ad → ad.block ≠ g) : Rd w' B A n f := fun hn => by
  obtain ⟨ad, rfl, hb, hc⟩ := h hn
  exact ⟨ad, rfl, hb, fun i hi => (World.cell?_of_block (a := ad.add i) (hg.block _ (by rw [block_of_add]; omega) (fun e => by injection e with e; rw [block_of_add] at e; exact ha hn ad rfl e))).trans (hc i hi)⟩
theorem Rd.hs {w w' : World} {rows : List RowSpec} {B n : Nat} {A : Option Addr} {f : Nat → Value} (h : Rd w B A n f) (hs : HS w w' rows) (hB : B ≤ w.heap.size) (ha : 0 < n → ∀ ad, A = some ad → ∀ r ∈ rows, r.b ≠ ad.block) : Rd w' B A n f := fun hn => by
  obtain ⟨ad, rfl, hb, hc⟩ := h hn
  exact ⟨ad, rfl, hb, fun i hi => (World.cell?_of_block (a := ad.add i) (hs.block _ (by rw [block_of_add]; omega) (fun r hr => by rw [block_of_add]; exact ha hn ad rfl r hr))).trans (hc i hi)⟩
theorem Rd.of_part {w : World} {g : Nat} {t : TypeId} {N o n : Nat} {F f : Nat → Value} (h : w.rowIs g t N F) (ho : o + n ≤ N) (e : ∀ i, i < n → F (o + i) = f i) : Rd w w.heap.size (some ⟨g, o, none⟩) n f := fun _ =>
  ⟨_, rfl, h.lt, fun i hi => by
    have had : (⟨g, o, none⟩ : Addr).add i = ⟨g, o + i, none⟩ := by unfold Addr.add; split <;> simp_all
    rw [had, h.cell (by omega), e i hi]⟩
theorem wpList_copy_fn {w : World} {ops : Array Oper} {rest : List Oper} {o : Oper} {a : Act} {Q : Exit → Act → World → Prop} (hgd : o.guard = none) (d s : Operand) (dT sT : TypeId)
    (hop : o.op = .call { callee := .builtin .copy, args := #[d, s], argTypes := #[dT, sT] }) {elem : TypeId} (hu : P.underlying dT = some (.slice elem)) (hs : (P.info? elem).map (·.size) = some 1) {g : Nat} {t : TypeId} {N : Nat} {F : Nat → Value} (hr : w.rowIs g t N F) (off dLen dCap : Nat)
    {A : Option Addr} {sLen sCap B : Nat} {fs : Nat → Value} (hsrc : Rd w B A sLen fs) (h1 : ∀ i, i < sLen → (fs i).oneCell' = true) (n : Nat) (hn : n = min sLen dLen) (hfit : off + n ≤ N) (hd : a.eval d = .slice (some ⟨g, off, none⟩) dLen dCap) (hss : a.eval s = .slice A sLen sCap)
    (hK : ∀ w1, w1.rowIs g t N (fun j => if off ≤ j ∧ j < off + n then fs (j - off) else F j) → w.grownBy w1 (some g) → wpList P ops Q rest (a.put o.dst (.int .i64 (n : Int))) w1) : wpList P ops Q (o :: rest) a w :=
  wpList_plain hgd fun _ hK' => wp_copy_fn hop hu hs hr off dLen dCap hsrc h1 n hn hfit hd hss fun w1 h2 h3 => hK' _ _ (hK w1 h2 h3)
theorem wp_sto_arr {a : Act} {K : Act → World → Prop} {Q : Exit → Act → World → Prop} {o : Oper} {ty : TypeId} {x y : Operand} (ho : o.op = .store ty x y)
    {b : Nat} {t : TypeId} {n : Nat} {f : Nat → Value} (hr : w.rowIs b t n f) (cs : Array Value) (hx : a.eval x = .pointer (some ⟨b, 0, none⟩)) (hy : a.eval y = .agg cs) (hn : cs.size = n) (hi : (P.info? ty).map (·.size) = some n)
    (h1 : ∀ i, i < n → ∃ v, cs[i]? = some v ∧ v.oneCell' = true) (hK : K (a.put o.dst undef) (w.setRow b cs)) : o.wp P a w K Q := by
  unfold Oper.wp execOp
  simp only [ho, hx, hy, Sem.run_bind, run_storeAt_arr hr ty cs hn hi h1, Result.andThen_ok, Sem.run_pure]
  exact hK
/-- x := (a whole value): a new variable, and the store behind it. -/
theorem wpList_new {w : World} {ops : Array Oper} {rest : List Oper} {o1 o2 : Oper} {a : Act} {Q : Exit → Act → World → Prop} (hg1 : o1.guard = none) (hg2 : o2.guard = none) (t ty : TypeId) (d : Tmp) (y : Operand) (ho1 : o1.op = .alloc t) (_hd : o1.dst = some d) (ho2 : o2.op = .store ty (.tmp d) y)
    (n : Nat) (cs0 : Array Value) (hz : (P.info? t).bind (·.zero) = some (.agg cs0)) (hn0 : cs0.size = n) (cs : Array Value) (hy : (a.put o1.dst (.pointer (some ⟨w.heap.size, 0, none⟩))).eval y = .agg cs) (hp : (a.put o1.dst (.pointer (some ⟨w.heap.size, 0, none⟩))).eval (.tmp d) = .pointer (some ⟨w.heap.size, 0, none⟩))
    (hn : cs.size = n) (hi : (P.info? ty).map (·.size) = some n) (h1 : ∀ i, i < n → ∃ v, cs[i]? = some v ∧ v.oneCell' = true) (f : Nat → Value) (hf : ∀ i, i < n → cs[i]? = some (f i))
    (hK : ∀ w', w'.rowIs w.heap.size t n f → Below w.heap.size w w' → wpList P ops Q rest ((a.put o1.dst (.pointer (some ⟨w.heap.size, 0, none⟩))).put o2.dst undef) w') : wpList P ops Q (o1 :: o2 :: rest) a w := by
  have h0 := (HS.nil w).allocB w.heap.size cs0 t n (fun i => cs0.getD i undef) hn0 (fun i hi => get_getD _ i (by omega)) rfl
  refine wpList_alloc_as hg1 t ho1 cs0 hz ?_
  refine wpList_store_arr hg2 ty (.tmp d) y ho2 (h0.row 0 rfl) cs hp hy hn hi h1 ?_
  have h2 := h0.setRow 0 rfl cs hn f hf
  exact hK _ (h2.row 0 rfl) (h2.out (by simp))
/-- A cut whose run is known. -/
theorem wpList_sliceM {w : World} {ops : Array Oper} {rest : List Oper} {o : Oper} {a : Act} {Q : Exit → Act → World → Prop} (hgd : o.guard = none) (t : TypeId) (x : Operand) (lo hi : Option Operand) (ho : o.op = .slice t x lo hi none)
    {v hv : Value} {l h : Option Value} (hx : a.eval x = v) (hr : ∀ w, (Instr.sliceAt t v l h none).run P w = .ok hv w) (hl : lo.map a.eval = l) (hh : hi.map a.eval = h)
    (hK : wpList P ops Q rest (a.put o.dst hv) w) : wpList P ops Q (o :: rest) a w :=
  wpList_plain hgd fun _ hK' => by
    have hrun : (execOp a.eval o).run P w = .ok (.value hv) w := by
      unfold execOp
      rw [ho]
      simp only [hx]
      rw [show lo.map (fun y => a.eval y) = l from hl, show hi.map (fun y => a.eval y) = h from hh]
      simp [hr w]
    unfold Oper.wp
    rw [hrun]
    exact hK' _ _ hK
end
end Go.Proofs.YtjhgndnpihnidaaDoor
/- append onto a new empty slice, in a region that draws its order. -/
namespace Go.Proofs.YtjhgndnpihnidaaDoor
set_option maxRecDepth 40000
open Go.RowKit

/-- A row of the call's own, as a slice. -/
def SF.own (base : Nat) (e : TypeId) (n : Nat) (f : Nat → Value) : SF := ⟨fun v w => ∃ A c, v = .slice A n c ∧ Own w base e A n c f, fun _ _ _ ⟨A, c, e1, h⟩ hb => ⟨A, c, e1, h.below hb fun ad ha => (h.base_le ad ha).2⟩⟩
/-- A new slice without cells. -/
def SF.own0 (base : Nat) (e : TypeId) : SF := ⟨fun v w => ∃ b, v = .slice (some ⟨b, 0, none⟩) 0 0 ∧ Own w base e (some ⟨b, 0, none⟩) 0 0 (fun _ => undef), fun _ _ _ ⟨b, e1, h⟩ hb => ⟨b, e1, h.below hb fun ad ha => (h.base_le ad ha).2⟩⟩

section
variable {P : Program} (w : World)
theorem app0_eq {t ty e : TypeId} {i : TypeInfo} {z : Value} (ht : P.underlying t = some (.slice e)) (hi : P.info? e = some i) (hz : i.zero = some z) (hsize : i.size = 1)
    (b a : Addr) (m cm B : Nat) (g : Nat → Value) (hr : Rd w B (some a) m g) (hm : 0 < m) (hbytes : m ≤ 9223372036854775807 ∧ m * i.bytes ≤ 140737488355328) :
    (Builtin.append_ #[t, t] ty #[.slice (some b) 0 0, .slice (some a) m cm]).run P w = (Builtin.append_ #[t, t] ty #[.slice none 0 0, .slice (some a) m cm]).run P w := by
  have hnews : ∀ j v, ((List.range m).map g)[j]? = some v → w.cell? (a.add j) = some v := fun j v hj => by
    have hjl : j < m := by
      rcases Nat.lt_or_ge j m with h | h
      · exact h
      · simp [h] at hj
    rw [hr.cell_ hjl]
    simp [hjl] at hj
    exact congrArg some hj
  have h1 := run_append_nil (P := P) w t ty e i z ht hi hz a m cm ((List.range m).map g) (by simp [hsize]) hnews hm (by omega) (by omega)
  have h2 := run_append_grow (P := P) w t ty e i z ht hi hz b 0 0 [] (by simp) (fun j v hj => by simp at hj) a m cm ((List.range m).map g) (by simp [hsize]) hnews (by omega) (by omega) (growslice_fits (by omega) (by rw [Nat.zero_add]; exact hbytes.2))
  rw [h1, h2]
  simp
/-- append onto a slice without room: only new memory is made. -/
theorem run_app0 (base : Nat) {t ty e : TypeId} {i : TypeInfo} {z : Value} {bytes : Nat} (ht : P.underlying t = some (.slice e)) (hi : P.info? e = some i) (hz : i.zero = some z)
    (hsize : i.size = 1) (hby : i.bytes = bytes) (hzs : z.cells.size = 1) {b : Addr} {f g : Nat → Value} (hown : Own w base e (some b) 0 0 f)
    {C : Option Addr} {m cm B : Nat} (hr : Rd w B C m g) (h1 : ∀ i, i < m → (g i).oneCell' = true) (hbytes : m ≤ 9223372036854775807 ∧ m * bytes ≤ 140737488355328) (hbase : base ≤ w.heap.size) :
    ∃ A' c' w', (Builtin.append_ #[t, t] ty #[.slice (some b) 0 0, .slice C m cm]).run P w = .ok (.slice A' m c') w' ∧ Own w' base e A' m c' g ∧ Below w.heap.size w w' := by
  by_cases hm : m = 0
  · subst hm
    obtain ⟨A', c', w', h2, h3, h4, h5⟩ := run_app (P := P) w base t ty e i z bytes ht hi hz hsize hby hzs (cm := cm) hown hr h1 (by omega) hbase
    have hrun : (Builtin.append_ #[t, t] ty #[.slice (some b) 0 0, .slice C 0 cm]).run P w = .ok (.slice (some b) 0 0) w := by
      rcases C with _ | ad <;> simp [Builtin.append_, run_underlying ht, sizeOf, typeInfo, hi, Builtin.lenOf, Builtin.firstCells, storeCells, loadCells, loadCellsFrom]
    exact ⟨_, _, _, hrun, hown.congr (fun i hi => absurd hi (by omega)), Below.refl _ _⟩
  · obtain ⟨ad, rfl, _⟩ := hr (by omega)
    obtain ⟨A', c', w', h2, h3, h4, _⟩ := run_app (P := P) w base t ty e i z bytes ht hi hz hsize hby hzs (cm := cm) (Own.nil w base e g) hr h1 (by rw [Nat.zero_add]; exact hbytes) hbase
    refine ⟨A', c', w', ?_, ?_, ⟨h4.os, h4.tape, h4.output, h4.size, fun k hk => h4.block k hk (by simp)⟩⟩
    · rw [app0_eq w ht hi hz hsize b ad m cm B g hr (by omega) (by rw [hby]; exact hbytes), h2, Nat.zero_add]
    · rw [Nat.zero_add] at h3
      exact h3.congr (fun i _ => by simp [catF])
end

section
variable {P : Program} {ops : Array Oper} {B : Nat} {w0 : World} {o : Oper} {lk : Tmp → SF}
/-- []T{}. -/
theorem opOb_bs0 {t e : TypeId} (hg : o.guard = none) (hop : o.op = .buildSlice t 0 #[]) (hr : ∀ w : World, (Instr.buildSlice t 0 #[]).run P w = .ok (.slice (some ⟨w.heap.size, 0, none⟩) 0 0) (w.alloc (.cells #[] e))) (base : Nat) (hb : base ≤ w0.heap.size) : opOb P ops B w0 o (SF.own0 base e) lk :=
  opOb_of hg fun a w hbel hf => by
    unfold Oper.wp execOp
    rw [hop]
    simp only [List.map_toArray, List.map_nil, Sem.run_bind, hr w, Result.andThen_ok, Sem.run_pure]
    exact ⟨_, rfl, ⟨w.heap.size, rfl, Own.new0 w base e _ (Nat.le_trans hb hbel.size)⟩, (Below.refl _ _).alloc (Nat.le_refl _) _⟩
/-- append([]T{}, x...). -/
theorem opOb_app0 {s x : Tmp} {t : TypeId} (base : Nat) {e : TypeId} {z : Value} {bytes : Nat} (hinfo : (P.info? e).map (fun i => (i.zero, i.size, i.bytes)) = some (some z, 1, bytes)) (ht : P.underlying t = some (.slice e)) (hzs : z.cells.size = 1)
    (hg : o.guard = none) (hop : o.op = .call { callee := .builtin .append, args := #[.tmp s, .tmp x], argTypes := #[t, t] }) (hs : lk s = SF.own0 base e)
    {C : Option Addr} {m cm Bx : Nat} {g : Nat → Value} (hx : lk x = SF.is (.slice C m cm)) (hr : ∀ w, Below B w0 w → Rd w Bx C m g) (h1 : ∀ i, i < m → (g i).oneCell' = true) (hbytes : m ≤ 9223372036854775807 ∧ m * bytes ≤ 140737488355328) (hbase : base ≤ w0.heap.size) :
    opOb P ops B w0 o (SF.own base e m g) lk :=
  opOb_of hg fun a w hbel hf => by
    obtain ⟨i, hi, hz, hsize, hby⟩ := info_parts hinfo
    have h2 := hf s (by rw [hop]; simp [Op.operands, Call.operands])
    have h3 := hf x (by rw [hop]; simp [Op.operands, Call.operands])
    rw [hs] at h2
    rw [hx] at h3
    obtain ⟨b, h4, hown⟩ := h2
    have e1 : a.eval (.tmp s) = .slice (some ⟨b, 0, none⟩) 0 0 := (getD_eq _ _).trans h4
    have e2 : a.eval (.tmp x) = .slice C m cm := (getD_eq _ _).trans h3
    obtain ⟨A', c', w', hrun, h5, h6⟩ := run_app0 (P := P) w base (ty := o.type) ht hi hz hsize hby hzs (cm := cm) hown (hr w hbel) h1 hbytes (Nat.le_trans hbase hbel.size)
    unfold Oper.wp execOp
    simp only [hop, resolve, invoke, builtin, Sem.run_bind, Sem.run_pure, Result.andThen_ok, List.map_toArray, List.map_cons, List.map_nil, e1, e2]
    rw [hrun]
    exact ⟨_, rfl, ⟨A', c', rfl, h5⟩, h6⟩
end
end Go.Proofs.YtjhgndnpihnidaaDoor
