/- A part of what the proofs stand on: Tail, ShaSum, ShaTwo, ShaRot, ShaOps. -/
import Derived.Test.YtlcpflaofggmeaaDoorGTre5
import Derived.Test.YtlcpflaofggmeaaDoorGTre4
import Derived.Laws.CopyRow
import Derived.Laws.CopyOwn
/- Operations by themselves: cuts, fields, conversions; copies and calls at a region's end. -/
namespace Go.Proofs.YtlcpflaofggmeaaDoor
set_option maxRecDepth 40000
open Go.RowKit

/-- What an operand is known to be, if there is one. -/
def OpKo (lk : Tmp → SF) : Option Operand → Option Value → Prop
  | none, none => True
  | some x, some v => OpK lk x v
  | _, _ => False
section
variable {P : Program} {ops : Array Oper} {B : Nat} {w0 : World} {o : Oper} {lk : Tmp → SF} {ty rt : TypeId}
theorem OpKo.no : OpKo lk none none := trivial
theorem OpKo.tmp {i : Tmp} {v : Value} (h : lk i = SF.is v) : OpKo lk (some (.tmp i)) (some v) := OpK.tmp h
theorem OpKo.const {v : Value} : OpKo lk (some (.const v)) (some v) := OpK.const
theorem OpKo.eval {a : Act} {w : World} {x : Option Operand} {v : Option Value} (hk : OpKo lk x v) (hf : Opd lk o a w) (hm : ∀ y, x = some y → y ∈ o.op.operands) : x.map a.eval = v := by
  cases x with
  | none =>
    cases v with
    | none => rfl
    | some v => exact hk.elim
  | some x =>
    cases v with
    | none => exact hk.elim
    | some v => simp only [Option.map_some]; rw [OpK.eval hk hf (hm x rfl)]
theorem opOb_slc {x v : Value} {l h : Option Value} {xo : Operand} {lo ho : Option Operand} (hg : o.guard = none) (hop : o.op = .slice ty xo lo ho none) (hx : OpK lk xo x) (hl : OpKo lk lo l) (hh : OpKo lk ho h)
    (hr : ∀ w, (Instr.sliceAt ty x l h none).run P w = .ok v w) : opOb P ops B w0 o (SF.is v) lk :=
  opOb_val _ hg fun a w _ hf => by
    have h1 := hx.eval hf (by rw [hop]; simp [Op.operands])
    have h2 := hl.eval hf (fun y hy => by rw [hop, hy]; simp [Op.operands])
    have h3 := hh.eval hf (fun y hy => by rw [hop, hy]; simp [Op.operands])
    unfold execOp
    rw [hop]
    simp only [h1]
    rw [show lo.map (fun y => a.eval y) = l from h2, show ho.map (fun y => a.eval y) = h from h3]
    simp [hr w]
theorem opOb_fld {x v : Value} {xo : Operand} {k : Nat} (hg : o.guard = none) (hop : o.op = .fieldAddr ty xo k) (hx : OpK lk xo x) (hr : ∀ w, (Instr.fieldAt ty x k).run P w = .ok v w) : opOb P ops B w0 o (SF.is v) lk :=
  opOb_val _ hg fun a w _ hf => by
    have h1 := hx.eval hf (by rw [hop]; simp [Op.operands])
    unfold execOp
    rw [hop]
    simp only [h1]
    simp [hr w]
theorem opOb_cnv {x v : Value} {xo : Operand} {s d : TypeId} (hg : o.guard = none) (hop : o.op = .convert s d xo) (hx : OpK lk xo x) (hr : ∀ w, (convert s d x).run P w = .ok v w) : opOb P ops B w0 o (SF.is v) lk :=
  opOb_val _ hg fun a w _ hf => by
    have h1 := hx.eval hf (by rw [hop]; simp [Op.operands])
    unfold execOp
    rw [hop]
    simp only [h1]
    simp [hr w]
theorem opOb_len {A : Option Addr} {n c : Nat} {xo : Operand} {t e : TypeId} (hu : P.underlying t = some (.slice e)) (hg : o.guard = none) (hop : o.op = .call { callee := .builtin .len, args := #[xo], argTypes := #[t] }) (hx : OpK lk xo (.slice A n c)) : opOb P ops B w0 o (SF.is (.int .i64 (n : Int))) lk :=
  opOb_val _ hg fun a w _ hf => by
    have h1 := hx.eval hf (by rw [hop]; simp [Op.operands, Call.operands])
    unfold execOp
    simp only [hop, resolve, invoke, builtin, Sem.run_bind, Sem.run_pure, Result.andThen_ok, List.map_toArray, List.map_cons, List.map_nil, h1]
    simp [Builtin.len_, run_underlying hu, go_sem]
/-- A known function is called, with known values. -/
theorem opOb_fn {f : FuncId} (hent : ∀ vs w, (callFunc f vs).run P w = .ok (.enter f vs) w) {xs : Array Operand} {vs : Array Value} {ts : Array TypeId} {F : SF} (hg : o.guard = none) (hop : o.op = .call { callee := .value (.func f), args := xs, argTypes := ts }) (hx : ∀ a w, Opd lk o a w → xs.map a.eval = vs)
    (hr : ∀ w, Below B w0 w → Calls P f vs w fun e w' => ∃ v, e = .returned v ∧ F.F v w' ∧ Below w.heap.size w w') : opOb P ops B w0 o F lk :=
  opOb_call hg fun a w hb hf => ⟨f, vs, by
    unfold execOp
    rw [hop]
    have h := hx a w hf
    simp only [resolve]
    rw [show (Array.map (fun x => a.eval x) xs) = vs from h]
    simp [invoke, Deferred.ofValue, Act.eval, hent], hr w hb⟩
theorem opOb_fn1 {f : FuncId} (hent : ∀ vs w, (callFunc f vs).run P w = .ok (.enter f vs) w) {x : Operand} {v : Value} {ts : Array TypeId} {F : SF} (hg : o.guard = none) (hop : o.op = .call { callee := .value (.func f), args := #[x], argTypes := ts }) (hx : OpK lk x v)
    (hr : ∀ w, Below B w0 w → Calls P f #[v] w fun e w' => ∃ v, e = .returned v ∧ F.F v w' ∧ Below w.heap.size w w') : opOb P ops B w0 o F lk :=
  opOb_fn hent hg hop (fun a w hf => by
    have h := hx.eval hf (by rw [hop]; simp [Op.operands, Call.operands])
    simp [h]) hr
theorem opOb_fn2 {f : FuncId} (hent : ∀ vs w, (callFunc f vs).run P w = .ok (.enter f vs) w) {x y : Operand} {v u : Value} {ts : Array TypeId} {F : SF} (hg : o.guard = none) (hop : o.op = .call { callee := .value (.func f), args := #[x, y], argTypes := ts }) (hx : OpK lk x v) (hy : OpK lk y u)
    (hr : ∀ w, Below B w0 w → Calls P f #[v, u] w fun e w' => ∃ v, e = .returned v ∧ F.F v w' ∧ Below w.heap.size w w') : opOb P ops B w0 o F lk :=
  opOb_fn hent hg hop (fun a w hf => by
    have h := hx.eval hf (by rw [hop]; simp [Op.operands, Call.operands])
    have h' := hy.eval hf (by rw [hop]; simp [Op.operands, Call.operands])
    simp [h, h']) hr
theorem opOb_fn3 {f : FuncId} (hent : ∀ vs w, (callFunc f vs).run P w = .ok (.enter f vs) w) {x y z : Operand} {v u t : Value} {ts : Array TypeId} {F : SF} (hg : o.guard = none) (hop : o.op = .call { callee := .value (.func f), args := #[x, y, z], argTypes := ts }) (hx : OpK lk x v) (hy : OpK lk y u) (hz : OpK lk z t)
    (hr : ∀ w, Below B w0 w → Calls P f #[v, u, t] w fun e w' => ∃ v, e = .returned v ∧ F.F v w' ∧ Below w.heap.size w w') : opOb P ops B w0 o F lk :=
  opOb_fn hent hg hop (fun a w hf => by
    have h := hx.eval hf (by rw [hop]; simp [Op.operands, Call.operands])
    have h' := hy.eval hf (by rw [hop]; simp [Op.operands, Call.operands])
    have h'' := hz.eval hf (by rw [hop]; simp [Op.operands, Call.operands])
    simp [h, h', h'']) hr
theorem opOb_cnvW {x v : Value} {xo : Operand} {s d : TypeId} (hg : o.guard = none) (hop : o.op = .convert s d xo) (hx : OpK lk xo x) (hr : ∀ w, Below B w0 w → (convert s d x).run P w = .ok v w) : opOb P ops B w0 o (SF.is v) lk :=
  opOb_val _ hg fun a w hb hf => by
    have h1 := hx.eval hf (by rw [hop]; simp [Op.operands])
    unfold execOp
    rw [hop]
    simp only [h1]
    simp [hr w hb]
end

section
variable {P : Program} {a : Act} {w : World} {K : Act → World → Prop} {Q : Exit → Act → World → Prop} {o : Oper}
theorem wp_asg {x : Operand} (v : Value) (hop : o.op = .assign x ∨ o.op = .move x) (hx : a.eval x = v) (h : K (a.put o.dst v) w) : o.wp P a w K Q := by
  subst hx
  unfold Oper.wp execOp
  rcases hop with hop | hop <;> (rw [hop]; exact h)
/-- A copy into a row, from whatever reads as a function. -/
theorem run_copy_fn (w : World) {dT sT ty elem : TypeId} (hu : P.underlying dT = some (.slice elem)) (hs : (P.info? elem).map (·.size) = some 1) {g : Nat} {t : TypeId} {N : Nat} {F : Nat → Value} (hr : w.rowIs g t N F) (off dLen dCap : Nat)
    {A : Option Addr} {sLen sCap B : Nat} {fs : Nat → Value} (hsrc : Rd w B A sLen fs) (h1 : ∀ i, i < sLen → (fs i).oneCell' = true) (n : Nat) (hn : n = min sLen dLen) (hfit : off + n ≤ N) :
    ∃ w1, (Builtin.copy_ #[dT, sT] ty #[.slice (some ⟨g, off, none⟩) dLen dCap, .slice A sLen sCap]).run P w = .ok (.int .i64 (n : Int)) w1 ∧ w1.rowIs g t N (fun j => if off ≤ j ∧ j < off + n then fs (j - off) else F j) ∧ w.grownBy w1 (some g) := by
  by_cases h0 : n = 0
  · refine ⟨w, ?_, hr.congr (fun j _ => by rw [if_neg (by omega)]), World.grownBy.refl _ _⟩
    have := run_copy_none (P := P) w dT sT ty elem (some ⟨g, off, none⟩) A dLen dCap sLen sCap hu hs (hn.symm.trans h0)
    rw [this, h0]; rfl
  · obtain ⟨ad, rfl, _, hc⟩ := hsrc (by omega)
    obtain ⟨cur, hcur, hsz, hcc⟩ := hr
    have hlen : ((List.range n).map fs).length = n := by simp
    have hrun := run_copy_row (P := P) w dT sT ty elem g off dLen dCap ad sLen sCap cur t ((List.range n).map fs) hu hs hcur (by rw [hlen, hn]) (fun j v hj => by
      have hjl : j < n := by
        rcases Nat.lt_or_ge j n with h | h
        · exact h
        · simp [h] at hj
      rw [hc j (by omega)]
      simp [hjl] at hj
      exact congrArg some hj) (by rw [hlen]; omega) (fun v hv => by
      obtain ⟨j, hj, rfl⟩ := List.mem_map.1 hv
      exact h1 j (by have := List.mem_range.1 hj; omega))
    rw [hlen] at hrun
    refine ⟨_, hrun, ?_, ⟨rfl, rfl, rfl, by rw [size_setRow]; exact Nat.le_refl _, fun i _ hne => by
      unfold World.setRow
      have : ¬ g = i := fun e => hne (by rw [e])
      simp [Array.getElem?_modify, this]⟩⟩
    refine World.rowIs_setRow ⟨cur, hcur, hsz, hcc⟩ _ (by simp; omega) _ (fun i hi => ?_)
    have hci := hcc i hi
    simp only [List.getElem?_toArray, List.getElem?_append, List.length_take, List.length_append, List.length_map, List.length_range, Array.length_toList]
    by_cases h2 : i < off
    · rw [if_neg (show ¬ (off ≤ i ∧ i < off + n) by omega)]
      rw [if_pos (show i < min off cur.size + n by omega), if_pos (show i < min off cur.size by omega), List.getElem?_take, if_pos h2, Array.getElem?_toList, hci]
    · by_cases h3 : i < off + n
      · rw [if_pos (show off ≤ i ∧ i < off + n by omega)]
        simp [show min off cur.size = off by omega, h2, h3, List.getElem?_map, List.getElem?_range (show i - off < n by omega)]
      · rw [if_neg (show ¬ (off ≤ i ∧ i < off + n) by omega)]
        simp [show min off cur.size = off by omega, h3, show off + n + (i - (off + n)) = i by omega, hcc i hi]
theorem wp_copy_fn {d s : Operand} {dT sT elem : TypeId} (hop : o.op = .call { callee := .builtin .copy, args := #[d, s], argTypes := #[dT, sT] }) (hu : P.underlying dT = some (.slice elem)) (hs : (P.info? elem).map (·.size) = some 1) {g : Nat} {t : TypeId} {N : Nat} {F : Nat → Value} (hr : w.rowIs g t N F) (off dLen dCap : Nat)
    {A : Option Addr} {sLen sCap B : Nat} {fs : Nat → Value} (hsrc : Rd w B A sLen fs) (h1 : ∀ i, i < sLen → (fs i).oneCell' = true) (n : Nat) (hn : n = min sLen dLen) (hfit : off + n ≤ N) (hd : a.eval d = .slice (some ⟨g, off, none⟩) dLen dCap) (hss : a.eval s = .slice A sLen sCap)
    (hK : ∀ w1, w1.rowIs g t N (fun j => if off ≤ j ∧ j < off + n then fs (j - off) else F j) → w.grownBy w1 (some g) → K (a.put o.dst (.int .i64 (n : Int))) w1) : o.wp P a w K Q := by
  obtain ⟨w1, hrun, h2, h3⟩ := run_copy_fn (P := P) w (ty := o.type) hu hs hr off dLen dCap (sCap := sCap) hsrc h1 n hn hfit
  unfold Oper.wp execOp
  simp only [hop, resolve, invoke, builtin, Sem.run_bind, Sem.run_pure, Result.andThen_ok, List.map_toArray, List.map_cons, List.map_nil, hd, hss]
  rw [hrun]
  exact hK w1 h2 h3
/-- A call at the end. -/
theorem wp_fn {f : FuncId} (hent : ∀ vs w, (callFunc f vs).run P w = .ok (.enter f vs) w) {xs : Array Operand} {ts : Array TypeId} (vs : Array Value) (hop : o.op = .call { callee := .value (.func f), args := xs, argTypes := ts }) (hx : xs.toList.map a.eval = vs.toList)
    (hr : Calls P f vs w fun e w' => ∃ v, e = .returned v ∧ K (a.put o.dst v) w') : o.wp P a w K Q := by
  have hx' : xs.map (fun x => a.eval x) = vs := by
    apply Array.toList_inj.1
    rw [← hx]; simp
  have hrun : (execOp a.eval o).run P w = .ok (.enter f vs) w := by
    unfold execOp
    rw [hop]
    simp only [resolve]
    rw [hx']
    simp [invoke, Deferred.ofValue, Act.eval, hent]
  unfold Oper.wp
  rw [hrun]
  exact hr.mono fun e w' ⟨v, he, hk⟩ => by subst he; exact hk
/-- A part of an array, as a slice. -/
theorem cut_arr {T e : TypeId} {n : Nat} (hu : P.underlying T = some (.array n e)) (z : Nat) (hz : (P.info? e).map (·.size) = some z) {g o : Nat} (low high : Option Value) (l h : Nat)
    (hl : low = none ∧ l = 0 ∨ low = some (.int .i64 (l : Int))) (hh : high = none ∧ h = n ∨ high = some (.int .i64 (h : Int))) (hlh : l ≤ h) (hn : h ≤ n) (hln : l < n) {off len cap : Nat} (hoff : off = o + l * z) (hlen : len = h - l) (hcap : cap = n - l) :
    (Instr.sliceAt T (.pointer (some ⟨g, o, none⟩)) low high none).run P w = .ok (.slice (some ⟨g, off, none⟩) len cap) w := by
  rw [hoff, hlen, hcap]
  have hne : ¬ n = l := by omega
  have had : (⟨g, o, none⟩ : Addr).add (l * z) = ⟨g, o + l * z, none⟩ := by unfold Addr.add; split <;> simp_all
  have hsz : (sizeOf e).run P w = .ok z w := by
    cases hq : P.info? e with
    | none => rw [hq] at hz; simp at hz
    | some i => rw [hq] at hz; simp at hz; simp [sizeOf, typeInfo, hq, hz]
  have b1 : ∀ (y : Nat) (c : BoundsCode), l ≤ y → (Instr.sliceBound (.int .i64 (l : Int)) y c).run P w = .ok l w := fun y c hy => by
    rw [run_sliceBound w .i64 (l : Int) y c (by omega) (by omega)]; simp
  have b2 : ∀ (y : Nat) (c : BoundsCode), h ≤ y → (Instr.sliceBound (.int .i64 (h : Int)) y c).run P w = .ok h w := fun y c hy => by
    rw [run_sliceBound w .i64 (h : Int) y c (by omega) (by omega)]; simp
  rcases hl with ⟨rfl, rfl⟩ | rfl <;> rcases hh with ⟨rfl, rfl⟩ | rfl <;>
    simp [Instr.sliceAt, Instr.sureAddr, run_underlying hu, Instr.sliceBounds, b1, b2, hlh, hn, hsz, hne, had] <;> simp_all
/-- A' is A from place k on. -/
def Cut (A A' : Option Addr) (n k : Nat) : Prop :=
  (∀ (w : World) (B : Nat) (f : Nat → Value), Rd w B A n f → Rd w B A' (n - k) (fun i => f (k + i))) ∧ ∀ ad', A' = some ad' → ∃ ad, A = some ad ∧ ad'.block = ad.block
theorem sizeOf_run {e : TypeId} {z : Nat} (hz : (P.info? e).map (·.size) = some z) (w : World) : (sizeOf e).run P w = .ok z w := by
  cases hq : P.info? e with
  | none => rw [hq] at hz; simp at hz
  | some i => rw [hq] at hz; simp at hz; simp [sizeOf, typeInfo, hq, hz]
theorem add_zero' (a : Addr) : a.add 0 = a := by unfold Addr.add; simp
theorem cut_mid {t e : TypeId} (hu : P.underlying t = some (.slice e)) (hz : (P.info? e).map (·.size) = some 1) (A : Option Addr) (n c l h : Nat) (low high : Option Value)
    (hl : low = none ∧ l = 0 ∨ low = some (.int .i64 (l : Int))) (hh : high = none ∧ h = n ∨ high = some (.int .i64 (h : Int))) (hlh : l ≤ h) (hn : h ≤ n) (hnc : n ≤ c) :
    ∃ A', (∀ w, (Instr.sliceAt t (.slice A n c) low high none).run P w = .ok (.slice A' (h - l) (c - l)) w) ∧ Cut A A' h l := by
  have b1 : ∀ (y : Nat) (k : BoundsCode) (w : World), l ≤ y → (Instr.sliceBound (.int .i64 (l : Int)) y k).run P w = .ok l w := fun y k w hy => by
    rw [run_sliceBound w .i64 (l : Int) y k (by omega) (by omega)]; simp
  have b2 : ∀ (y : Nat) (k : BoundsCode) (w : World), h ≤ y → (Instr.sliceBound (.int .i64 (h : Int)) y k).run P w = .ok h w := fun y k w hy => by
    rw [run_sliceBound w .i64 (h : Int) y k (by omega) (by omega)]; simp
  refine ⟨if c = l then A else A.map (·.add (l * 1)), fun w => ?_, fun w B f hr => ?_, fun ad' had => ?_⟩
  · have hs := sizeOf_run hz
    have h9 : h ≤ c := by omega
    rcases hl with ⟨rfl, rfl⟩ | rfl <;> rcases hh with ⟨rfl, rfl⟩ | rfl <;>
      simp [Instr.sliceAt, Instr.slice, run_underlying hu, Instr.sliceBounds, b1, b2, hlh, h9, hs, add_zero'] <;> simp_all
  · intro h0
    obtain ⟨ad, rfl, hb, hc⟩ := hr (by omega)
    rw [if_neg (by omega)]
    refine ⟨ad.add (l * 1), rfl, by rw [block_of_add]; exact hb, fun i hi => ?_⟩
    rw [add_of_add, Nat.mul_one]
    exact hc (l + i) (by omega)
  · by_cases e : c = l
    · rw [if_pos e] at had; exact ⟨ad', had, rfl⟩
    · rw [if_neg e] at had
      cases A with
      | none => cases had
      | some ad => injection had with had; subst had; exact ⟨ad, rfl, block_of_add _ _⟩
theorem cut_from {t e : TypeId} (hu : P.underlying t = some (.slice e)) (hz : (P.info? e).map (·.size) = some 1) (A : Option Addr) (n c k : Nat) (hk : k ≤ n) (hnc : n ≤ c) :
    ∃ A', (∀ w, (Instr.sliceAt t (.slice A n c) (some (.int .i64 (k : Int))) none none).run P w = .ok (.slice A' (n - k) (c - k)) w) ∧ Cut A A' n k :=
  cut_mid hu hz A n c k n _ _ (.inr rfl) (.inl ⟨rfl, rfl⟩) hk (Nat.le_refl _) hnc
theorem cut_to {t e : TypeId} (hu : P.underlying t = some (.slice e)) (hz : (P.info? e).map (·.size) = some 1) (A : Option Addr) (n c h : Nat) (hh : h ≤ c) (w : World) :
    (Instr.sliceAt t (.slice A n c) none (some (.int .i64 (h : Int))) none).run P w = .ok (.slice A h c) w := by
  have b2 : (Instr.sliceBound (.int .i64 (h : Int)) c .sliceAcap).run P w = .ok h w := by
    rw [run_sliceBound w .i64 (h : Int) c _ (by omega) (by omega)]; simp
  simp [Instr.sliceAt, Instr.slice, run_underlying hu, Instr.sliceBounds, b2, sizeOf_run hz, add_zero']
theorem Cut.rd {A A' : Option Addr} {n k : Nat} (h : Cut A A' n k) {w : World} {B : Nat} {f : Nat → Value} (hr : Rd w B A n f) : Rd w B A' (n - k) (fun i => f (k + i)) := h.1 w B f hr
/-- The slice has no cell in block g. -/
def Apt (A : Option Addr) (n g : Nat) : Prop := 0 < n → ∀ ad, A = some ad → ad.block ≠ g
theorem Cut.apart {A A' : Option Addr} {n k g : Nat} (h : Cut A A' n k) (hg : Apt A n g) : Apt A' (n - k) g := fun h0 ad' e => by
  obtain ⟨ad, ha, hb⟩ := h.2 ad' e
  rw [hb]; exact hg (by omega) ad ha
/-- The slice lies in blocks from B on. -/
def Hi (A : Option Addr) (n B : Nat) : Prop := 0 < n → ∀ ad, A = some ad → B ≤ ad.block
theorem Cut.hi {A A' : Option Addr} {n k g : Nat} (h : Cut A A' n k) (hg : Hi A n g) : Hi A' (n - k) g := fun h0 ad' e => by
  obtain ⟨ad, ha, hb⟩ := h.2 ad' e
  rw [hb]; exact hg (by omega) ad ha
theorem Rd.apt {w : World} {B n g : Nat} {A : Option Addr} {f : Nat → Value} (h : Rd w B A n f) (hg : B ≤ g) : Apt A n g := fun h0 ad e => by
  obtain ⟨ad', e', hb, _⟩ := h h0
  rw [e] at e'; injection e' with e'; subst e'; omega
theorem Rd.apart {w w' : World} {B n g : Nat} {A : Option Addr} {f : Nat → Value} (h : Rd w B A n f) (hg : w.grownBy w' (some g)) (hB : B ≤ w.heap.size) (ha : 0 < n → ∀ ad, A = some ad → ad.block ≠ g) : Rd w' B A n f := fun hn => by
  obtain ⟨ad, rfl, hb, hc⟩ := h hn
  exact ⟨ad, rfl, hb, fun i hi => (World.cell?_of_block (a := ad.add i) (hg.block _ (by rw [block_of_add]; omega) (fun e => by injection e with e; rw [block_of_add] at e; exact ha hn ad rfl e))).trans (hc i hi)⟩
theorem Rd.hs {w w' : World} {rows : List RowSpec} {B n : Nat} {A : Option Addr} {f : Nat → Value} (h : Rd w B A n f) (hs : HS w w' rows) (hB : B ≤ w.heap.size) (ha : 0 < n → ∀ ad, A = some ad → ∀ r ∈ rows, r.b ≠ ad.block) : Rd w' B A n f := fun hn => by
  obtain ⟨ad, rfl, hb, hc⟩ := h hn
  exact ⟨ad, rfl, hb, fun i hi => (World.cell?_of_block (a := ad.add i) (hs.block _ (by rw [block_of_add]; omega) (fun r hr => by rw [block_of_add]; exact ha hn ad rfl r hr))).trans (hc i hi)⟩
theorem Rd.of_part {w : World} {g : Nat} {t : TypeId} {N o n : Nat} {F f : Nat → Value} (h : w.rowIs g t N F) (ho : o + n ≤ N) (e : ∀ i, i < n → F (o + i) = f i) : Rd w w.heap.size (some ⟨g, o, none⟩) n f := fun _ =>
  ⟨_, rfl, h.lt, fun i hi => by
    have had : (⟨g, o, none⟩ : Addr).add i = ⟨g, o + i, none⟩ := by unfold Addr.add; split <;> simp_all
    rw [had, h.cell (by omega), e i hi]⟩
theorem wpList_copy_fn {w : World} {ops : Array Oper} {rest : List Oper} {o : Oper} {a : Act} {Q : Exit → Act → World → Prop} (hgd : o.guard = none) (d s : Operand) (dT sT : TypeId)
    (hop : o.op = .call { callee := .builtin .copy, args := #[d, s], argTypes := #[dT, sT] }) {elem : TypeId} (hu : P.underlying dT = some (.slice elem)) (hs : (P.info? elem).map (·.size) = some 1) {g : Nat} {t : TypeId} {N : Nat} {F : Nat → Value} (hr : w.rowIs g t N F) (off dLen dCap : Nat)
    {A : Option Addr} {sLen sCap B : Nat} {fs : Nat → Value} (hsrc : Rd w B A sLen fs) (h1 : ∀ i, i < sLen → (fs i).oneCell' = true) (n : Nat) (hn : n = min sLen dLen) (hfit : off + n ≤ N) (hd : a.eval d = .slice (some ⟨g, off, none⟩) dLen dCap) (hss : a.eval s = .slice A sLen sCap)
    (hK : ∀ w1, w1.rowIs g t N (fun j => if off ≤ j ∧ j < off + n then fs (j - off) else F j) → w.grownBy w1 (some g) → wpList P ops Q rest (a.put o.dst (.int .i64 (n : Int))) w1) : wpList P ops Q (o :: rest) a w :=
  wpList_plain hgd fun _ hK' => wp_copy_fn hop hu hs hr off dLen dCap hsrc h1 n hn hfit hd hss fun w1 h2 h3 => hK' _ _ (hK w1 h2 h3)
theorem wp_sto_arr {a : Act} {K : Act → World → Prop} {Q : Exit → Act → World → Prop} {o : Oper} {ty : TypeId} {x y : Operand} (ho : o.op = .store ty x y)
    {b : Nat} {t : TypeId} {n : Nat} {f : Nat → Value} (hr : w.rowIs b t n f) (cs : Array Value) (hx : a.eval x = .pointer (some ⟨b, 0, none⟩)) (hy : a.eval y = .agg cs) (hn : cs.size = n) (hi : (P.info? ty).map (·.size) = some n)
    (h1 : ∀ i, i < n → ∃ v, cs[i]? = some v ∧ v.oneCell' = true) (hK : K (a.put o.dst undef) (w.setRow b cs)) : o.wp P a w K Q := by
  unfold Oper.wp execOp
  simp only [ho, hx, hy, Sem.run_bind, run_storeAt_arr hr ty cs hn hi h1, Result.andThen_ok, Sem.run_pure]
  exact hK
/-- x := (a whole value): a new variable, and the store behind it. -/
theorem wpList_new {w : World} {ops : Array Oper} {rest : List Oper} {o1 o2 : Oper} {a : Act} {Q : Exit → Act → World → Prop} (hg1 : o1.guard = none) (hg2 : o2.guard = none) (t ty : TypeId) (d : Tmp) (y : Operand) (ho1 : o1.op = .alloc t) (_hd : o1.dst = some d) (ho2 : o2.op = .store ty (.tmp d) y)
    (n : Nat) (cs0 : Array Value) (hz : (P.info? t).bind (·.zero) = some (.agg cs0)) (hn0 : cs0.size = n) (cs : Array Value) (hy : (a.put o1.dst (.pointer (some ⟨w.heap.size, 0, none⟩))).eval y = .agg cs) (hp : (a.put o1.dst (.pointer (some ⟨w.heap.size, 0, none⟩))).eval (.tmp d) = .pointer (some ⟨w.heap.size, 0, none⟩))
    (hn : cs.size = n) (hi : (P.info? ty).map (·.size) = some n) (h1 : ∀ i, i < n → ∃ v, cs[i]? = some v ∧ v.oneCell' = true) (f : Nat → Value) (hf : ∀ i, i < n → cs[i]? = some (f i))
    (hK : ∀ w', w'.rowIs w.heap.size t n f → Below w.heap.size w w' → wpList P ops Q rest ((a.put o1.dst (.pointer (some ⟨w.heap.size, 0, none⟩))).put o2.dst undef) w') : wpList P ops Q (o1 :: o2 :: rest) a w := by
  have h0 := (HS.nil w).allocB w.heap.size cs0 t n (fun i => cs0.getD i undef) hn0 (fun i hi => get_getD _ i (by omega)) rfl
  refine wpList_alloc_as hg1 t ho1 cs0 hz ?_
  refine wpList_store_arr hg2 ty (.tmp d) y ho2 (h0.row 0 rfl) cs hp hy hn hi h1 ?_
  have h2 := h0.setRow 0 rfl cs hn f hf
  exact hK _ (h2.row 0 rfl) (h2.out (by simp))
/-- A cut whose run is known. -/
theorem wpList_sliceM {w : World} {ops : Array Oper} {rest : List Oper} {o : Oper} {a : Act} {Q : Exit → Act → World → Prop} (hgd : o.guard = none) (t : TypeId) (x : Operand) (lo hi : Option Operand) (ho : o.op = .slice t x lo hi none)
    {v hv : Value} {l h : Option Value} (hx : a.eval x = v) (hr : ∀ w, (Instr.sliceAt t v l h none).run P w = .ok hv w) (hl : lo.map a.eval = l) (hh : hi.map a.eval = h)
    (hK : wpList P ops Q rest (a.put o.dst hv) w) : wpList P ops Q (o :: rest) a w :=
  wpList_plain hgd fun _ hK' => by
    have hrun : (execOp a.eval o).run P w = .ok (.value hv) w := by
      unfold execOp
      rw [ho]
      simp only [hx]
      rw [show lo.map (fun y => a.eval y) = l from hl, show hi.map (fun y => a.eval y) = h from hh]
      simp [hr w]
    unfold Oper.wp
    rw [hrun]
    exact hK' _ _ hK
end
end Go.Proofs.YtlcpflaofggmeaaDoor
/- The walks of the digest's Sum and Copy, and of Sum. (Printed by a program of mine.) -/
namespace Go.Proofs.YtlcpflaofggmeaaDoor
set_option maxRecDepth 40000
open Go.RowKit

theorem w8_at (H : Nat → W32) : ∀ i, i < 8 → (#[wv (H 0), wv (H 1), wv (H 2), wv (H 3), wv (H 4), wv (H 5), wv (H 6), wv (H 7)] : Array Value)[i]? = some (wv (H i)) := by
  intro i hi
  match i, hi with
  | 0, _ | 1, _ | 2, _ | 3, _ | 4, _ | 5, _ | 6, _ | 7, _ => rfl
end Go.Proofs.YtlcpflaofggmeaaDoor
/- The walk of Two. (Printed by a program of mine.) -/
namespace Go.Proofs.YtlcpflaofggmeaaDoor
set_option maxRecDepth 40000
open Go.RowKit

theorem h0_at : ∀ i, i < 8 → (#[wv (h0 0), wv (h0 1), wv (h0 2), wv (h0 3), wv (h0 4), wv (h0 5), wv (h0 6), wv (h0 7)] : Array Value)[i]? = some (wv (h0 i)) := by
  intro i hi
  match i, hi with
  | 0, _ | 1, _ | 2, _ | 3, _ | 4, _ | 5, _ | 6, _ | 7, _ => rfl
theorem padOf (m : Nat → Nat) : ∀ i, i < 64 → (if i = 62 then 2 else if i = 0 then 128 else 0 : Nat) = blk (padF 64 m) 1 i := by
  intro i hi
  unfold blk padF
  rw [if_neg (show ¬ 64 * 1 + i < 64 by omega)]
  by_cases e : i = 0
  · subst e; simp
  · rw [if_neg (show ¬ 64 * 1 + i = 64 by omega), if_neg (show ¬ i = 0 from e)]
    by_cases e2 : i = 62
    · subst e2; decide
    · rw [if_neg e2]
      by_cases e3 : i = 63
      · subst e3; decide
      · by_cases e4 : 64 * 1 + i < 64 * nb 64 - 8
        · rw [if_pos e4]
        · rw [if_neg e4]
          have : i = 56 ∨ i = 57 ∨ i = 58 ∨ i = 59 ∨ i = 60 ∨ i = 61 := by
            have : nb 64 = 2 := rfl
            omega
          rcases this with rfl | rfl | rfl | rfl | rfl | rfl <;> decide

set_option maxHeartbeats 2000000 in
theorem two_any (x y : Nat → Nat) (hx : ∀ i, x i < 256) (hy : ∀ i, y i < 256) (w : World) (hp : ShaPkg w) :
    Calls Tryd.prog 28 #[rootV x, rootV y] w fun e w' => e = .returned (rootV (shaB (catN 32 x y) 64)) ∧ Below w.heap.size w w' := by
  have HP := Lib.hid hp
  clear hp
  obtain ⟨M, hMd⟩ : ∃ M, M = padF 64 (catN 32 x y) := ⟨_, rfl⟩
  have hM : ∀ i, M i < 256 := fun i => by rw [hMd]; exact padF_lt _ _ (catN_lt hx hy) i
  have hres : shaB (catN 32 x y) 64 = rootOf (Hs M 2) := by rw [hMd]; rfl
  have pad_cells : ∀ f : Nat → Value, (∀ j, j < 64 → f j = .int .u8 0) → ∀ j, j < 64 → (if j = 62 then .int .u8 2 else if j = 0 then .int .u8 128 else f j) = u8v (blk M 1) j := fun f hf j hj => by
    rw [hMd, hf j hj]; show _ = Value.int .u8 ((blk _ 1 j : Nat) : Int)
    rw [← padOf (catN 32 x y) j hj]
    by_cases e : j = 62
    · subst e; rfl
    · rw [if_neg e, if_neg e]
      by_cases e2 : j = 0
      · subst e2; rfl
      · rw [if_neg e2, if_neg e2]; rfl
  have both_cells : ∀ f : Nat → Value, ∀ j, j < 64 → (if 32 ≤ j ∧ j < 32 + 32 then u8v y (j - 32) else if 0 ≤ j ∧ j < 0 + 32 then u8v x (j - 0) else f j) = u8v (blk M 0) j := fun f j hj => by
    have hb : blk M 0 j = catN 32 x y j := by
      rw [hMd]; unfold blk padF; rw [if_pos (by omega), show 64 * 0 + j = j by omega]
    show _ = Value.int .u8 ((blk M 0 j : Nat) : Int)
    rw [hb]
    unfold catN
    by_cases e : j < 32
    · rw [if_neg (by omega), if_pos (by omega), if_pos e]; rfl
    · rw [if_pos (by omega), if_neg e]
  rw [hres]
  have HB := Lib.hid both_cells
  have HD := Lib.hid pad_cells
  clear both_cells pad_cells hres hMd
  go_enter Tryd.func28, Tryd.ntmps28
  go_wp2
  refine HS.go (w0 := w) (rows := [⟨w.heap.size + 4, 71, 64, u8v fun _ => 0⟩, ⟨w.heap.size + 3, 71, 64, u8v fun _ => 0⟩, ⟨w.heap.size + 2, 30, 32, u8v fun _ => 0⟩, ⟨w.heap.size + 1, 30, 32, u8v y⟩, ⟨w.heap.size, 30, 32, u8v x⟩])
    (by
      have h := (((((HS.nil w).alloc (arr 32 (u8v x)) 30 32 _ (size_arr _ _) (arr_at _ _)).alloc (arr 32 (u8v y)) 30 32 _ (size_arr _ _) (arr_at _ _)).alloc (Array.replicate 32 (.int .u8 0)) 30 32 _ (by simp) (zero_at 32 _)).alloc (Array.replicate 64 (.int .u8 0)) 71 64 _ (by simp) (zero_at 64 _)).alloc (Array.replicate 64 (.int .u8 0)) 71 64 _ (by simp) (zero_at 64 _)
      simp only [alloc_sz] at h
      exact h) (fun wr hs => ?_)
  refine wp_region_factsS (l := [_, _]) (tl := []) (B := wr.heap.size) (w0 := wr) [SF.is (.slice (some ⟨w.heap.size + 3, 0, none⟩) (32) (64)), SF.is (.slice (some ⟨w.heap.size, 0, none⟩) (32) (32))] (by kernel_rfl) (by kernel_rfl) rfl (Nat.le_refl _) (Below.refl _ _) ⟨?_, ?_, trivial⟩ ?_
  · exact opOb_slc rfl rfl (OpK.tmp rfl) (OpKo.no) (OpKo.const) (fun w => cut_arr Tryd.underlying71 1 (by kernel_rfl) none (some _) (0) (32) (.inl ⟨rfl, rfl⟩) (.inr rfl) (by omega) (by omega) (by omega) (by omega) (by omega) (by omega))
  · exact opOb_slc rfl rfl (OpK.tmp rfl) (OpKo.no) (OpKo.no) (fun w => cut_arr Tryd.underlying30 1 (by kernel_rfl) none none (0) (32) (.inl ⟨rfl, rfl⟩) (.inl ⟨rfl, rfl⟩) (by omega) (by omega) (by omega) (by omega) (by omega) (by omega))
  · intro w' hb
    simp only [fin, SF.is, forall_eq]
    simp only [Act.put, List.setIfInBounds_toArray, List.set_cons_succ, List.set_cons_zero]
    have hs1 := hs.below hb
    refine wp_copy_fn rfl Tryd.underlying72 (by kernel_rfl) (hs1.row 1 rfl) 0 32 64 (Rd.of_row (hs1.row 4 rfl) (Nat.le_refl _) (hs1.lt 4 rfl)) (fun _ _ => rfl) 32 rfl (show _ ≤ 64 by decide) rfl rfl (fun w1 hr hg => ?_)
    have hs2 := hs1.write 1 rfl hg hr
    clear hs hs1 hb hr hg
    simp only [seqWp]
    have HS2 := Lib.hid hs2
    clear hs2
    go_wp2_with fail
    have hs := HS2.out
    clear HS2
    refine wp_region_factsS (l := [_, _]) (tl := []) (B := w1.heap.size) (w0 := w1) [SF.is (.slice (some ⟨w.heap.size + 3, 32, none⟩) (32) (32)), SF.is (.slice (some ⟨w.heap.size + 1, 0, none⟩) (32) (32))] (by kernel_rfl) (by kernel_rfl) rfl (Nat.le_refl _) (Below.refl _ _) ⟨?_, ?_, trivial⟩ ?_
    · exact opOb_slc rfl rfl (OpK.tmp rfl) (OpKo.const) (OpKo.no) (fun w => cut_arr Tryd.underlying71 1 (by kernel_rfl) (some _) none (32) (64) (.inr rfl) (.inl ⟨rfl, rfl⟩) (by omega) (by omega) (by omega) (by omega) (by omega) (by omega))
    · exact opOb_slc rfl rfl (OpK.tmp rfl) (OpKo.no) (OpKo.no) (fun w => cut_arr Tryd.underlying30 1 (by kernel_rfl) none none (0) (32) (.inl ⟨rfl, rfl⟩) (.inl ⟨rfl, rfl⟩) (by omega) (by omega) (by omega) (by omega) (by omega) (by omega))
    · intro w' hb
      simp only [fin, SF.is, forall_eq]
      simp only [Act.put, List.setIfInBounds_toArray, List.set_cons_succ, List.set_cons_zero]
      have hs1 := hs.below hb
      refine wp_copy_fn rfl Tryd.underlying72 (by kernel_rfl) (hs1.row 1 rfl) 32 32 32 (Rd.of_row (hs1.row 3 rfl) (Nat.le_refl _) (hs1.lt 3 rfl)) (fun _ _ => rfl) 32 rfl (show _ ≤ 64 by decide) rfl rfl (fun w2 hr hg => ?_)
      have hs2 := hs1.write 1 rfl hg hr
      have hsz2 : w.heap.size ≤ w2.heap.size := hs2.size
      clear hs hs1 hb hr hg
      simp only [seqWp]
      have HS2 := Lib.hid hs2
      have c0 := hs2.cell 0 0 rfl (by omega)
      have c62 := hs2.cell 0 62 rfl (by omega)
      have f0 := hs2.frozen 0 0 rfl
      have f62 := hs2.frozen 0 62 rfl
      clear hs2
      go_wp2_with (first
        | (refine wpList_load_part rfl 73 (.global 0) rfl 0 0 8 (fun i => wv (h0 i)) rfl _ (by intro i hi; rw [Nat.zero_add]; exact (HP.out.below (((HS2.out.set 0 0 rfl _).set 0 62 rfl _).out (by simp))).start i hi) Tryd.underlying73 rfl (by kernel_rfl) #[wv (h0 0), wv (h0 1), wv (h0 2), wv (h0 3), wv (h0 4), wv (h0 5), wv (h0 6), wv (h0 7)] rfl ?_))
      refine HS.goC (w0 := w) (rows := [⟨w2.heap.size, 74, 8, fun i => wv (h0 i)⟩, ⟨w.heap.size + 4, 71, 64, u8v (blk M 1)⟩, ⟨w.heap.size + 3, 71, 64, u8v (blk M 0)⟩, ⟨w.heap.size + 2, 30, 32, u8v fun _ => 0⟩, ⟨w.heap.size + 1, 30, 32, u8v y⟩, ⟨w.heap.size, 30, 32, u8v x⟩])
        (by exact ((((HS2.out.set 0 0 rfl _).set 0 62 rfl _).congr 0 rfl (g := u8v (blk M 1)) (fun j hj => HD.out _ (fun _ _ => rfl) j hj)).congr 1 rfl (g := u8v (blk M 0)) (fun j hj => HB.out _ j hj)).allocB _ _ _ 8 _ rfl h0_at (by simp)) (fun w3 hs => ?_)
      have hpk := HP.out.below (hs.out (by simp [hsz2]))
      have HP3 := Lib.hid hpk
      refine (mix_any w2.heap.size 0 64 64 w3.heap.size _ 74 8 (fun i => wv (h0 i)) h0 (blk M 0) w3 (hs.row 0 rfl) (Nat.le_refl _) (fun i _ => by rw [Nat.zero_add]) (fun i => hM _) (Rd.of_row (hs.row 2 rfl) (Nat.le_refl _) (hs.lt 2 rfl)) (Nat.le_refl _) (Nat.le_refl _) (by omega) hpk.round).mono ?_
      rintro e w4 ⟨rfl, hr, hg⟩
      have hs4 := (hs.write 0 rfl hg hr).congr 0 rfl (g := fun i => wv (Hs M 1 i)) (fun j hj => by rw [if_pos (by omega)]; rfl)
      have HS4 := Lib.hid hs4
      have HP4 := Lib.hid (HP.out.below (hs4.out (by simp [hsz2])))
      clear hs hr hg hs4 hpk
      simp only []
      go_wp2_with fail
      have hs := HS4.out
      have hpk := HP4.out
      refine (mix_any w2.heap.size 0 64 64 w4.heap.size _ 74 8 (fun i => wv (Hs M 1 i)) (Hs M 1) (blk M 1) w4 (hs.row 0 rfl) (Nat.le_refl _) (fun i _ => by rw [Nat.zero_add]) (fun i => hM _) (Rd.of_row (hs.row 1 rfl) (Nat.le_refl _) (hs.lt 1 rfl)) (Nat.le_refl _) (Nat.le_refl _) (by omega) hpk.round).mono ?_
      rintro e w5 ⟨rfl, hr, hg⟩
      have hs5 := (hs.write 0 rfl hg hr).congr 0 rfl (g := fun i => wv (Hs M 2 i)) (fun j hj => by rw [if_pos (by omega)]; rfl)
      have HS5 := Lib.hid hs5
      clear hs hr hg hs5 hpk HS4
      simp only []
      go_wp2_with fail
      have hs := HS5.out
      refine (root_any w2.heap.size 0 (Hs M 2) w5 (fun i hi => by rw [Nat.zero_add]; exact hs.cell 0 i rfl hi)).mono ?_
      rintro e w6 ⟨rfl, hb⟩
      have hs6 := hs.below hb
      have HS6 := Lib.hid hs6
      have HR := Lib.hid (hs6.row 3 rfl)
      clear hs hb hs6 HS5
      simp only []
      go_wp2_with (refine wpList_store_arr rfl 30 (.tmp 4) (.tmp 21) rfl HR.out _ rfl rfl (size_arr _ _) (by kernel_rfl) (fun i hi => ⟨_, arr_at _ _ i hi, rfl⟩) ?_)
      have hend := HS6.out.setRow 3 rfl (arr 32 (u8v (rootOf (Hs M 2)))) (size_arr _ _) _ (fun i hi => arr_at _ _ i hi)
      exact ret_rowIs rfl (hend.row 3 rfl) _ rfl Tryd.underlying30 rfl (by kernel_rfl) rfl ⟨rfl, hend.out (by simp [hsz2])⟩
end Go.Proofs.YtlcpflaofggmeaaDoor
/- rot of the reference, at each constant. (Printed by a program of mine.) -/
namespace Go.Proofs.YtlcpflaofggmeaaDoor
set_option maxRecDepth 40000
open Go.RowKit

set_option maxHeartbeats 400000 in
theorem rot_2 (x : W32) (w : World) : Calls Tryd.prog 50 #[wv x, .int .u64 2] w fun e w' => e = .returned (wv (rotr x 2)) ∧ w = w' := by
  have h1 := Lib.hid (show (x.toNat : Int) * (1073741824 : Int) % (4294967296 : Int) = (((x <<< 30).toNat : Nat) : Int) from u32_shl x 30)
  have h2 := Lib.hid (show (x.toNat : Int) / (4 : Int) = (((x >>> 2).toNat : Nat) : Int) from u32_shr x 2)
  have h3 := Lib.hid (u32_or (x >>> 2) (x <<< 30))
  go_enter Tryd.func50, Tryd.ntmps50
  go_wp2
  go_ret
  exact ⟨ret_int (by rw [h1.out, h2.out, h3.out]; rfl), rfl⟩

set_option maxHeartbeats 400000 in
theorem rot_6 (x : W32) (w : World) : Calls Tryd.prog 50 #[wv x, .int .u64 6] w fun e w' => e = .returned (wv (rotr x 6)) ∧ w = w' := by
  have h1 := Lib.hid (show (x.toNat : Int) * (67108864 : Int) % (4294967296 : Int) = (((x <<< 26).toNat : Nat) : Int) from u32_shl x 26)
  have h2 := Lib.hid (show (x.toNat : Int) / (64 : Int) = (((x >>> 6).toNat : Nat) : Int) from u32_shr x 6)
  have h3 := Lib.hid (u32_or (x >>> 6) (x <<< 26))
  go_enter Tryd.func50, Tryd.ntmps50
  go_wp2
  go_ret
  exact ⟨ret_int (by rw [h1.out, h2.out, h3.out]; rfl), rfl⟩

set_option maxHeartbeats 400000 in
theorem rot_7 (x : W32) (w : World) : Calls Tryd.prog 50 #[wv x, .int .u64 7] w fun e w' => e = .returned (wv (rotr x 7)) ∧ w = w' := by
  have h1 := Lib.hid (show (x.toNat : Int) * (33554432 : Int) % (4294967296 : Int) = (((x <<< 25).toNat : Nat) : Int) from u32_shl x 25)
  have h2 := Lib.hid (show (x.toNat : Int) / (128 : Int) = (((x >>> 7).toNat : Nat) : Int) from u32_shr x 7)
  have h3 := Lib.hid (u32_or (x >>> 7) (x <<< 25))
  go_enter Tryd.func50, Tryd.ntmps50
  go_wp2
  go_ret
  exact ⟨ret_int (by rw [h1.out, h2.out, h3.out]; rfl), rfl⟩

set_option maxHeartbeats 400000 in
theorem rot_11 (x : W32) (w : World) : Calls Tryd.prog 50 #[wv x, .int .u64 11] w fun e w' => e = .returned (wv (rotr x 11)) ∧ w = w' := by
  have h1 := Lib.hid (show (x.toNat : Int) * (2097152 : Int) % (4294967296 : Int) = (((x <<< 21).toNat : Nat) : Int) from u32_shl x 21)
  have h2 := Lib.hid (show (x.toNat : Int) / (2048 : Int) = (((x >>> 11).toNat : Nat) : Int) from u32_shr x 11)
  have h3 := Lib.hid (u32_or (x >>> 11) (x <<< 21))
  go_enter Tryd.func50, Tryd.ntmps50
  go_wp2
  go_ret
  exact ⟨ret_int (by rw [h1.out, h2.out, h3.out]; rfl), rfl⟩

set_option maxHeartbeats 400000 in
theorem rot_13 (x : W32) (w : World) : Calls Tryd.prog 50 #[wv x, .int .u64 13] w fun e w' => e = .returned (wv (rotr x 13)) ∧ w = w' := by
  have h1 := Lib.hid (show (x.toNat : Int) * (524288 : Int) % (4294967296 : Int) = (((x <<< 19).toNat : Nat) : Int) from u32_shl x 19)
  have h2 := Lib.hid (show (x.toNat : Int) / (8192 : Int) = (((x >>> 13).toNat : Nat) : Int) from u32_shr x 13)
  have h3 := Lib.hid (u32_or (x >>> 13) (x <<< 19))
  go_enter Tryd.func50, Tryd.ntmps50
  go_wp2
  go_ret
  exact ⟨ret_int (by rw [h1.out, h2.out, h3.out]; rfl), rfl⟩

set_option maxHeartbeats 400000 in
theorem rot_17 (x : W32) (w : World) : Calls Tryd.prog 50 #[wv x, .int .u64 17] w fun e w' => e = .returned (wv (rotr x 17)) ∧ w = w' := by
  have h1 := Lib.hid (show (x.toNat : Int) * (32768 : Int) % (4294967296 : Int) = (((x <<< 15).toNat : Nat) : Int) from u32_shl x 15)
  have h2 := Lib.hid (show (x.toNat : Int) / (131072 : Int) = (((x >>> 17).toNat : Nat) : Int) from u32_shr x 17)
  have h3 := Lib.hid (u32_or (x >>> 17) (x <<< 15))
  go_enter Tryd.func50, Tryd.ntmps50
  go_wp2
  go_ret
  exact ⟨ret_int (by rw [h1.out, h2.out, h3.out]; rfl), rfl⟩

set_option maxHeartbeats 400000 in
theorem rot_18 (x : W32) (w : World) : Calls Tryd.prog 50 #[wv x, .int .u64 18] w fun e w' => e = .returned (wv (rotr x 18)) ∧ w = w' := by
  have h1 := Lib.hid (show (x.toNat : Int) * (16384 : Int) % (4294967296 : Int) = (((x <<< 14).toNat : Nat) : Int) from u32_shl x 14)
  have h2 := Lib.hid (show (x.toNat : Int) / (262144 : Int) = (((x >>> 18).toNat : Nat) : Int) from u32_shr x 18)
  have h3 := Lib.hid (u32_or (x >>> 18) (x <<< 14))
  go_enter Tryd.func50, Tryd.ntmps50
  go_wp2
  go_ret
  exact ⟨ret_int (by rw [h1.out, h2.out, h3.out]; rfl), rfl⟩

set_option maxHeartbeats 400000 in
theorem rot_19 (x : W32) (w : World) : Calls Tryd.prog 50 #[wv x, .int .u64 19] w fun e w' => e = .returned (wv (rotr x 19)) ∧ w = w' := by
  have h1 := Lib.hid (show (x.toNat : Int) * (8192 : Int) % (4294967296 : Int) = (((x <<< 13).toNat : Nat) : Int) from u32_shl x 13)
  have h2 := Lib.hid (show (x.toNat : Int) / (524288 : Int) = (((x >>> 19).toNat : Nat) : Int) from u32_shr x 19)
  have h3 := Lib.hid (u32_or (x >>> 19) (x <<< 13))
  go_enter Tryd.func50, Tryd.ntmps50
  go_wp2
  go_ret
  exact ⟨ret_int (by rw [h1.out, h2.out, h3.out]; rfl), rfl⟩

set_option maxHeartbeats 400000 in
theorem rot_22 (x : W32) (w : World) : Calls Tryd.prog 50 #[wv x, .int .u64 22] w fun e w' => e = .returned (wv (rotr x 22)) ∧ w = w' := by
  have h1 := Lib.hid (show (x.toNat : Int) * (1024 : Int) % (4294967296 : Int) = (((x <<< 10).toNat : Nat) : Int) from u32_shl x 10)
  have h2 := Lib.hid (show (x.toNat : Int) / (4194304 : Int) = (((x >>> 22).toNat : Nat) : Int) from u32_shr x 22)
  have h3 := Lib.hid (u32_or (x >>> 22) (x <<< 10))
  go_enter Tryd.func50, Tryd.ntmps50
  go_wp2
  go_ret
  exact ⟨ret_int (by rw [h1.out, h2.out, h3.out]; rfl), rfl⟩

set_option maxHeartbeats 400000 in
theorem rot_25 (x : W32) (w : World) : Calls Tryd.prog 50 #[wv x, .int .u64 25] w fun e w' => e = .returned (wv (rotr x 25)) ∧ w = w' := by
  have h1 := Lib.hid (show (x.toNat : Int) * (128 : Int) % (4294967296 : Int) = (((x <<< 7).toNat : Nat) : Int) from u32_shl x 7)
  have h2 := Lib.hid (show (x.toNat : Int) / (33554432 : Int) = (((x >>> 25).toNat : Nat) : Int) from u32_shr x 25)
  have h3 := Lib.hid (u32_or (x >>> 25) (x <<< 7))
  go_enter Tryd.func50, Tryd.ntmps50
  go_wp2
  go_ret
  exact ⟨ret_int (by rw [h1.out, h2.out, h3.out]; rfl), rfl⟩

end Go.Proofs.YtlcpflaofggmeaaDoor
/- More operations on words. -/
namespace Go.Proofs.YtlcpflaofggmeaaDoor
set_option maxRecDepth 40000
open Go.RowKit
section
variable {P : Program} {ops : Array Oper} {B : Nat} {w0 : World} {o : Oper} {lk : Tmp → SF} {ty rt : TypeId}
theorem opOb_nsub (a c d : Nat) {xo yo : Operand} (he : a = d + c) (hb : a ≤ 9223372036854775807) (hg : o.guard = none) (hop : o.op = .binOp .sub ty xo yo rt) (hx : OpK lk xo (.int .i64 (a : Int))) (hy : OpK lk yo (.int .i64 (c : Int))) : opOb P ops B w0 o (SF.is (.int .i64 (d : Int))) lk := by
  rw [show (d : Int) = (a : Int) - (c : Int) by omega]; exact opOb_isub a c (by omega) hg hop hx hy
theorem u32_not (x : W32) : bits .xor .u32 (if IntKind.u32.signed = true then -1 else IntKind.u32.max) (x.toNat : Int) = (((~~~x).toNat : Nat) : Int) := by
  have h : bits .xor .u32 ((BitVec.allOnes 32).toNat : Int) (x.toNat : Int) = _ := u32_xor (BitVec.allOnes 32) x
  rw [BitVec.allOnes_xor] at h
  exact h
theorem opOb_not (x : W32) {xo : Operand} (hg : o.guard = none) (hop : o.op = .unOp .xor ty xo) (hx : OpK lk xo (wv x)) : opOb P ops B w0 o (SF.is (wv (~~~x))) lk :=
  opOb_val _ hg fun a w _ hf => by
    have h1 := hx.eval hf (by rw [hop]; simp [Op.operands])
    unfold execOp
    rw [hop]
    simp only [h1, wv]
    rw [← u32_not]
    simp [go_sem]
end
theorem run_idx8a (w : World) (g o i : Nat) (hi : i < 8) : (Instr.indexAt 73 (.pointer (some ⟨g, o, none⟩)) (.int .i64 (i : Int))).run Tryd.prog w = .ok (.pointer (some ⟨g, o + i, none⟩)) w := by
  have hx : (i : Int) < 8 := by omega
  simp [go_sem, hx]
end Go.Proofs.YtlcpflaofggmeaaDoor
