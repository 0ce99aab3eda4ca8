/- A part of what the proofs stand on: EqDeep, PickSumsLaw. -/
import Derived.Test.YtjhgndnpihnidaaDoorGPic7
import Derived.Test.YtjhgndnpihnidaaDoorGPic4
import Derived.Test.YtjhgndnpihnidaaDoorGPic21
import Derived.Test.YtjhgndnpihnidaaDoorGPickSums1
import Derived.Test.YtjhgndnpihnidaaDoorGPic13
/- Equality of values that lie flat: structs and arrays of numbers and bools, however deep. -/
namespace Go.Proofs.YtjhgndnpihnidaaDoor
set_option maxRecDepth 40000
open Go.RowKit
def fieldsB (chk : TypeId → Bool) (sz : TypeId → Nat) : List Field → Nat → Nat → Bool
  | [], o, n => o == n
  | x :: r, o, n => x.offset == o && x.name != "_" && chk x.type && decide (0 < sz x.type) && fieldsB chk sz r (o + sz x.type) n
/-- Numbers, bools, arrays and structs of these: n cells. -/
def flatB (P : Program) : Nat → TypeId → Nat → Bool
  | 0, _, _ => false
  | f + 1, t, n => decide ((P.info? t).map (·.size) = some n) && match P.underlying t with
    | some (.int _) => n == 1
    | some .bool => n == 1
    | some (.array m e) => flatB P f e (P.cellsOf e) && (m * P.cellsOf e == n) && decide (0 < P.cellsOf e)
    | some (.struct fs) => !P.stoodInHeld t && fieldsB (fun e => flatB P f e (P.cellsOf e)) P.cellsOf fs.toList 0 n
    | _ => false
/-- Cells that can be compared as cells of this type. -/
def kindsOk (P : Program) (l : TypeId) (a b : Value) : Prop := match P.underlying l with
  | some (.int k) => ∃ x y, a = .int k x ∧ b = .int k y
  | some .bool => ∃ x y, a = .bool x ∧ b = .bool y
  | _ => True
/-- The value of type t whose cells lie from o on. -/
def vAt (P : Program) (t : TypeId) (n o : Nat) (F : Nat → Value) : Value := match P.underlying t with
  | some (.array _ _) => .agg (arr n fun q => F (o + q))
  | some (.struct _) => .agg (arr n fun q => F (o + q))
  | _ => F o
theorem arr_extract (N : Nat) (F : Nat → Value) (a z : Nat) (h : a + z ≤ N) : (arr N F).extract a (a + z) = arr z (fun q => F (a + q)) := by
  apply Array.ext_getElem?
  intro i
  by_cases hi : i < z
  · rw [arr_at _ _ i hi, Array.getElem?_extract]
    simp only [size_arr]
    rw [if_pos (by omega), arr_at N F (a + i) (by omega)]
  · rw [Array.getElem?_eq_none (by simp [size_arr]; omega), Array.getElem?_eq_none (by rw [size_arr]; omega)]
section
variable {P : Program}
theorem run_part_flat (w : World) {e : TypeId} {z f : Nat} (hf : flatB P f e z = true) (N : Nat) (F : Nat → Value) (o a : Nat) (h : a + z ≤ N) (hz : 0 < z) : (part e (arr N fun q => F (o + q)) a).run P w = .ok (vAt P e z (o + a) F) w := by
  cases f with
  | zero => cases hf
  | succ f =>
    unfold flatB at hf
    simp only [Bool.and_eq_true, decide_eq_true_eq] at hf
    obtain ⟨h1, h2⟩ := hf
    have hs := sizeOf_run h1
    have one : ∀ (hag : (isAgg e).run P w = .ok false w), (part e (arr N fun q => F (o + q)) a).run P w = .ok (F (o + a)) w := fun hag => by
      have ha : (arr N fun q => F (o + q))[a]? = some (F (o + a)) := arr_at _ _ a (by omega)
      simp [part, hag, ha]
    have many : ∀ (hag : (isAgg e).run P w = .ok true w), (part e (arr N fun q => F (o + q)) a).run P w = .ok (.agg (arr z fun q => F (o + a + q))) w := fun hag => by
      simp only [part, Sem.run_bind, hag, hs, Result.andThen_ok, Sem.run_pure, if_true, arr_extract N _ a z h]
      exact congrArg (fun c => Result.ok (Value.agg c) w) (arr_congr fun i _ => by rw [Nat.add_assoc])
    cases hu : P.underlying e with
    | none => rw [hu] at h2; cases h2
    | some d =>
      have hag : (isAgg e).run P w = .ok (match d with | .struct _ | .array _ _ => true | _ => false) w := by
        unfold isAgg
        rw [Sem.run_bind, run_underlying hu w]
        cases d <;> rfl
      unfold vAt
      rw [hu] at h2 ⊢
      cases d <;> first | (cases h2; done) | exact one hag | exact many hag
theorem fields_get {chk : TypeId → Bool} {sz : TypeId → Nat} : ∀ (l : List Field) (o n : Nat), fieldsB chk sz l o n = true → o ≤ n ∧ ∀ x ∈ l, x.name ≠ "_" ∧ chk x.type = true ∧ 0 < sz x.type ∧ o ≤ x.offset ∧ x.offset + sz x.type ≤ n ∧
    ∀ j, j < sz x.type → l.find? (fun y => decide (y.offset ≤ x.offset + j) && decide (x.offset + j < y.offset + sz y.type)) = some x
  | [], o, n, h => ⟨by simp [fieldsB] at h; omega, fun x hx => by cases hx⟩
  | y :: r, o, n, h => by
    simp only [fieldsB, Bool.and_eq_true, beq_iff_eq, bne_iff_ne, decide_eq_true_eq] at h
    obtain ⟨⟨⟨⟨h1, h2⟩, h3⟩, h4⟩, h5⟩ := h
    obtain ⟨h6, h7⟩ := fields_get r _ _ h5
    refine ⟨by omega, fun x hx => ?_⟩
    rcases List.mem_cons.1 hx with rfl | hx
    · refine ⟨h2, h3, h4, by omega, by omega, fun j hj => ?_⟩
      rw [List.find?_cons_of_pos]
      simp only [Bool.and_eq_true, decide_eq_true_eq]; omega
    · obtain ⟨a1, a2, a3, a4, a5, a6⟩ := h7 x hx
      refine ⟨a1, a2, a3, by omega, a5, fun j hj => ?_⟩
      rw [List.find?_cons_of_neg, a6 j hj]
      simp only [Bool.and_eq_true, decide_eq_true_eq]; omega
/-- The fields of a struct, one behind the other. -/
theorem run_eqFields {chk : TypeId → Bool} (w : World) (D N : Nat) (o : Nat) (F G : Nat → Value) (hpart : ∀ e, chk e = true → ∃ f, flatB P f e (P.cellsOf e) = true) :
    ∀ (l : List Field) (a n : Nat), n ≤ N → fieldsB chk P.cellsOf l a n = true →
      (∀ x ∈ l, ∃ b, (Op.equalIn D x.type (vAt P x.type (P.cellsOf x.type) (o + x.offset) F) (vAt P x.type (P.cellsOf x.type) (o + x.offset) G)).run P w = .ok b w ∧ (b = true ↔ ∀ q, q < P.cellsOf x.type → F (o + x.offset + q) = G (o + x.offset + q))) →
      ∃ b, (Op.eqFields D (arr N fun q => F (o + q)) (arr N fun q => G (o + q)) l).run P w = .ok b w ∧ (b = true ↔ ∀ i, a ≤ i → i < n → F (o + i) = G (o + i))
  | [], a, n, _, h, _ => by
    refine ⟨true, by simp [Op.eqFields], ?_⟩
    simp [fieldsB] at h
    exact ⟨fun _ i h1 h2 => by omega, fun _ => rfl⟩
  | x :: r, a, n, hN, h, he => by
    simp only [fieldsB, Bool.and_eq_true, beq_iff_eq, bne_iff_ne, decide_eq_true_eq] at h
    obtain ⟨⟨⟨⟨h1, h2⟩, h3⟩, h4⟩, h5⟩ := h
    obtain ⟨f, hf⟩ := hpart _ h3
    have h6 := (fields_get r _ _ h5).1
    obtain ⟨b1, hb1, hq1⟩ := he x List.mem_cons_self
    obtain ⟨b2, hb2, hq2⟩ := run_eqFields w D N o F G hpart r _ _ hN h5 (fun y hy => he y (List.mem_cons_of_mem _ hy))
    have hrun : (Op.eqFields D (arr N fun q => F (o + q)) (arr N fun q => G (o + q)) (x :: r)).run P w = .ok (b1 && b2) w := by
      rw [Op.eqFields]
      simp only [ne_eq, h2, not_false_eq_true, if_true, Sem.run_bind, run_part_flat w hf N _ o x.offset (by omega) h4, Result.andThen_ok, hb1]
      cases b1 with
      | false => simp
      | true => simp [hb2]
    refine ⟨_, hrun, ?_⟩
    rw [Bool.and_eq_true, hq1, hq2]
    constructor
    · rintro ⟨k1, k2⟩ i hi1 hi2
      by_cases hi : i < a + P.cellsOf x.type
      · have := k1 (i - x.offset) (by omega)
        rwa [show o + x.offset + (i - x.offset) = o + i by omega] at this
      · exact k2 i (by omega) hi2
    · intro k
      refine ⟨fun q hq => ?_, fun i hi1 hi2 => k i (by omega) hi2⟩
      have := k (x.offset + q) (by omega) (by omega)
      rwa [← Nat.add_assoc] at this
/-- Two such values are equal where all their cells are. -/
theorem equal_flat (w : World) : ∀ (f D : Nat) (t : TypeId) (n o : Nat) (F G : Nat → Value), flatB P f t n = true → f ≤ D → (∀ i l, i < n → leafAt P f t i = some l → kindsOk P l (F (o + i)) (G (o + i))) →
    ∃ b, (Op.equalIn D t (vAt P t n o F) (vAt P t n o G)).run P w = .ok b w ∧ (b = true ↔ ∀ i, i < n → F (o + i) = G (o + i)) := by
  intro f
  induction f with
  | zero => intro D t n o F G h _ _; cases h
  | succ f ih =>
    intro D t n o F G hf hD hk
    obtain ⟨D, rfl⟩ : ∃ D', D = D' + 1 := ⟨D - 1, by omega⟩
    unfold flatB at hf
    simp only [Bool.and_eq_true, decide_eq_true_eq] at hf
    obtain ⟨hsz, hf⟩ := hf
    cases hu : P.underlying t with
    | none => rw [hu] at hf; cases hf
    | some d =>
      rw [hu] at hf
      cases d with
      | int k =>
        have hn : n = 1 := by simpa using hf
        subst hn
        have h1 := hk 0 t (by omega) (by unfold leafAt; rw [hu]; rfl)
        unfold kindsOk at h1
        rw [hu] at h1
        obtain ⟨x, y, hx, hy⟩ := h1
        rw [Nat.add_zero] at hx hy
        unfold vAt
        simp only [hu, hx, hy]
        refine ⟨x == y, run_equalIn_int w D t k k x y hu, ?_⟩
        rw [beq_iff_eq]
        refine ⟨fun e i hi => ?_, fun h => ?_⟩
        · obtain rfl : i = 0 := by omega
          rw [Nat.add_zero, hx, hy, e]
        · have := h 0 (by omega)
          rw [Nat.add_zero, hx, hy] at this
          injection this
      | bool =>
        have hn : n = 1 := by simpa using hf
        subst hn
        have h1 := hk 0 t (by omega) (by unfold leafAt; rw [hu]; rfl)
        unfold kindsOk at h1
        rw [hu] at h1
        obtain ⟨x, y, hx, hy⟩ := h1
        rw [Nat.add_zero] at hx hy
        unfold vAt
        simp only [hu, hx, hy]
        refine ⟨x == y, run_equalIn_bool' w D t x y hu, ?_⟩
        rw [beq_iff_eq]
        refine ⟨fun e i hi => ?_, fun h => ?_⟩
        · obtain rfl : i = 0 := by omega
          rw [Nat.add_zero, hx, hy, e]
        · have := h 0 (by omega)
          rw [Nat.add_zero, hx, hy] at this
          injection this
      | array m e =>
        simp only [Bool.and_eq_true, beq_iff_eq, decide_eq_true_eq] at hf
        obtain ⟨⟨he, hmn⟩, hz⟩ := hf
        obtain ⟨z, hzd⟩ : ∃ z, z = P.cellsOf e := ⟨_, rfl⟩
        rw [← hzd] at he hmn hz
        have hes : (P.info? e).map (·.size) = some z := by
          cases f with
          | zero => cases he
          | succ f => unfold flatB at he; simp only [Bool.and_eq_true, decide_eq_true_eq] at he; exact he.1
        have hs := sizeOf_run hes
        have fit : ∀ i, i < m → i * z + z ≤ n := fun i hi => by
          have := Nat.mul_le_mul_right z (show i + 1 ≤ m from hi)
          rw [Nat.succ_mul] at this; omega
        have each : ∀ i, i < m → ∃ b, (Op.equalIn D e (vAt P e z (o + i * z) F) (vAt P e z (o + i * z) G)).run P w = .ok b w ∧ (b = true ↔ ∀ q, q < z → F (o + i * z + q) = G (o + i * z + q)) := fun i hi =>
          ih D e z (o + i * z) F G he (by omega) (fun q l hq hl => by
            have := hk (i * z + q) l (by have := fit i hi; omega) (by
              unfold leafAt
              rw [hu]
              simp only
              rw [← hzd, show (i * z + q) / z = i by rw [Nat.mul_comm, Nat.mul_add_div hz]; simp [Nat.div_eq_of_lt hq], if_pos hi, show (i * z + q) % z = q by rw [Nat.mul_comm, Nat.mul_add_mod]; exact Nat.mod_eq_of_lt hq]
              exact hl)
            rwa [← Nat.add_assoc] at this)
        have key : ∀ j a, j + a = m → (∀ i, i < a → ∀ q, q < z → F (o + i * z + q) = G (o + i * z + q)) → ∃ b, (forIn (List.range' a j) ((none, ()) : Option Bool × Unit) fun i __s => (do
            let __do_lift ← part e (arr n fun q => F (o + q)) (i * z)
            let __do_lift_1 ← part e (arr n fun q => G (o + q)) (i * z)
            let __do_lift ← Op.equalIn D e __do_lift __do_lift_1
            if __do_lift = false then pure (ForInStep.done (some false, ())) else pure (ForInStep.yield (none, ())) : Sem (ForInStep (Option Bool × Unit)))).run P w = .ok (if b = true then (none, ()) else (some false, ())) w ∧ (b = true ↔ ∀ i, i < m → ∀ q, q < z → F (o + i * z + q) = G (o + i * z + q)) := by
          intro j
          induction j with
          | zero =>
            intro a ha hlt
            exact ⟨true, by simp, ⟨fun _ i hi => hlt i (by omega), fun _ => rfl⟩⟩
          | succ j jh =>
            intro a ha hlt
            obtain ⟨b, hb, hq⟩ := each a (by omega)
            simp only [List.range'_succ, List.forIn_cons, Sem.run_bind, run_part_flat w he n F o (a * z) (fit a (by omega)) hz, run_part_flat w he n G o (a * z) (fit a (by omega)) hz, Result.andThen_ok, hb]
            cases b with
            | true =>
              simp only [Bool.true_eq_false, if_false, Sem.run_pure, Result.andThen_ok]
              exact jh (a + 1) (by omega) (fun i hi => by
                by_cases h : i = a
                · subst h; exact hq.1 rfl
                · exact hlt i (by omega))
            | false =>
              refine ⟨false, by simp, ⟨(fun h => by cases h), fun h => ?_⟩⟩
              exact hq.2 (h a (by omega))
        obtain ⟨b, hb, hq⟩ := key m 0 (by omega) (fun i hi => by omega)
        refine ⟨b, ?_, ?_⟩
        · unfold vAt
          simp only [hu]
          rw [Op.equalIn]
          simp [run_underlying hu, hs]
          rw [hb]
          cases b <;> simp
        · rw [hq]
          constructor
          · intro h i hi
            have h1 : i / z < m := by rw [Nat.div_lt_iff_lt_mul hz]; omega
            have := h (i / z) h1 (i % z) (Nat.mod_lt _ hz)
            rwa [show o + i / z * z + i % z = o + i by rw [Nat.add_assoc, Nat.div_add_mod']] at this
          · intro h i hi q hq
            have := h (i * z + q) (by have := fit i hi; omega)
            rwa [← Nat.add_assoc] at this
      | struct fs =>
        simp only [Bool.and_eq_true, Bool.not_eq_true'] at hf
        obtain ⟨hst, hfs⟩ := hf
        have hfo : P.fieldsOf t = fs := by unfold Program.fieldsOf; rw [hu]
        obtain ⟨b, hb, hq⟩ := run_eqFields (P := P) w D n o F G (fun e he => ⟨f, he⟩) fs.toList 0 n (Nat.le_refl _) hfs (fun x hx => by
          obtain ⟨_, a2, a3, _, a5, a6⟩ := (fields_get _ _ _ hfs).2 x hx
          refine ih D x.type (P.cellsOf x.type) (o + x.offset) F G a2 (by omega) (fun q l hq hl => ?_)
          have := hk (x.offset + q) l (by omega) (by
            unfold leafAt
            rw [hu]
            simp only
            rw [a6 q hq]
            simp only [Option.bind_some]
            rw [show x.offset + q - x.offset = q by omega]
            exact hl)
          rwa [← Nat.add_assoc] at this)
        refine ⟨b, ?_, ?_⟩
        · unfold vAt
          simp only [hu]
          rw [run_equalIn_struct w D t _ _ (by rw [hfo]; exact hu) hst, hfo]
          exact hb
        · rw [hq]
          exact ⟨fun h i hi => h i (Nat.zero_le _) hi, fun h i _ hi => h i hi⟩
      | _ => cases hf
/-- The comparison of two such values, as an operation. -/
theorem equal_agg (w : World) {f : Nat} {ty : TypeId} {n : Nat} {F G : Nat → Value} {b : Bool} {d : TypeDesc} (hu : P.underlying ty = some d) (hd : (match d with | .struct _ | .array _ _ => true | _ => false) = true) (hf : flatB P f ty n = true) (hf2 : f ≤ 10000)
    (hk : ∀ i l, i < n → leafAt P f ty i = some l → kindsOk P l (F i) (G i)) (hb : b = true ↔ ∀ i, i < n → F i = G i) : (Op.equal ty (.agg (arr n F)) (.agg (arr n G))).run P w = .ok b w := by
  obtain ⟨b', h1, h2⟩ := equal_flat (P := P) w f 10000 ty n 0 F G hf hf2 (fun i l hi hl => by rw [Nat.zero_add]; exact hk i l hi hl)
  have hbb : b' = b := by
    have h3 : b' = true ↔ b = true := by rw [h2, hb]; simp only [Nat.zero_add]
    cases b <;> cases b' <;> simp_all
  subst hbb
  have hv : ∀ F : Nat → Value, vAt P ty n 0 F = .agg (arr n F) := fun F => by
    unfold vAt
    rw [hu]
    cases d <;> first | (cases hd; done) | simp only [Nat.zero_add]
  rw [hv, hv] at h1
  exact h1
theorem ex_eqFlat {o : Oper} {a : Act} {ty rt : TypeId} {xo yo : Operand} {w : World} (f n : Nat) (F G : Nat → Value) (b : Bool) {d : TypeDesc} (hop : o.op = .binOp .eql ty xo yo rt) (hx : a.eval xo = .agg (arr n F)) (hy : a.eval yo = .agg (arr n G)) (hu : P.underlying ty = some d) (hd : (match d with | .struct _ | .array _ _ => true | _ => false) = true) (hf : flatB P f ty n = true) (hf2 : f ≤ 10000) (hq : P.eqGuardType P.depth ty = false)
    (hk : ∀ i l, i < n → leafAt P f ty i = some l → kindsOk P l (F i) (G i)) (hb : b = true ↔ ∀ i, i < n → F i = G i) : (execOp a.eval o).run P w = .ok (.value (.bool b)) w := by
  unfold execOp
  rw [hop]
  simp only [hx, hy]
  simp [eqGuard, hq, binOp, equal_agg w hu hd hf hf2 hk hb]
theorem ex_neFlat {o : Oper} {a : Act} {ty rt : TypeId} {xo yo : Operand} {w : World} (f n : Nat) (F G : Nat → Value) (b : Bool) {d : TypeDesc} (hop : o.op = .binOp .neq ty xo yo rt) (hx : a.eval xo = .agg (arr n F)) (hy : a.eval yo = .agg (arr n G)) (hu : P.underlying ty = some d) (hd : (match d with | .struct _ | .array _ _ => true | _ => false) = true) (hf : flatB P f ty n = true) (hf2 : f ≤ 10000) (hq : P.eqGuardType P.depth ty = false)
    (hk : ∀ i l, i < n → leafAt P f ty i = some l → kindsOk P l (F i) (G i)) (hb : b = true ↔ ∀ i, i < n → F i = G i) : (execOp a.eval o).run P w = .ok (.value (.bool (!b))) w := by
  unfold execOp
  rw [hop]
  simp only [hx, hy]
  simp [eqGuard, hq, binOp, equal_agg w hu hd hf hf2 hk hb]
end
end Go.Proofs.YtjhgndnpihnidaaDoor
/- The law PickSums. (Printed by a program of mine.) -/
namespace Go.Proofs.YtjhgndnpihnidaaDoor
set_option maxRecDepth 40000
open Go.RowKit
namespace PickSumsLaw
theorem key_leaf : ∀ q, q < 48 → leafAt Tryd.prog 3 44 q = some 5 := fun q hq => by
  have h : (List.range 48).all (fun q => leafAt Tryd.prog 3 44 q == some 5) = true := by kernel_rfl
  exact eq_of_beq (List.all_eq_true.1 h q (List.mem_range.2 hq))
theorem key_kinds (y z : Nat → Nat) : ∀ i l, i < 48 → leafAt Tryd.prog 3 44 i = some l → kindsOk Tryd.prog l (u8v y i) (u8v z i) := fun i l hi hl => by
  rw [key_leaf i hi] at hl
  injection hl with hl
  subst hl
  unfold kindsOk
  rw [show Tryd.prog.underlying 5 = some (.int .u8) from Tryd.underlying5]
  exact ⟨_, _, rfl, rfl⟩
theorem ex_neK {o : Oper} {a : Act} {rt : TypeId} {xo yo : Operand} {w : World} {y : Nat → Nat} (hop : o.op = .binOp .neq 44 xo yo rt) (hx : a.eval xo = .agg (arr 48 (u8v y))) (hy : a.eval yo = .agg (arr 48 (u8v y))) : (execOp a.eval o).run Tryd.prog w = .ok (.value (.bool false)) w :=
  ex_neFlat 3 48 (u8v y) (u8v y) true hop hx hy Tryd.underlying44 rfl (by kernel_rfl) (by omega) (by kernel_rfl) (key_kinds y y) (by simp)
theorem opOb_neKey {ops : Array Oper} {B : Nat} {w0 : World} {o : Oper} {lk : Tmp → SF} {rt : TypeId} {xo yo : Operand} {y : Nat → Nat} (hg : o.guard = none) (hop : o.op = .binOp .neq 44 xo yo rt) (hx : OpK lk xo (.agg (arr 48 (u8v y)))) (hy : OpK lk yo (.agg (arr 48 (u8v y)))) : opOb Tryd.prog ops B w0 o (SF.is (.bool false)) lk :=
  opOb_val _ hg fun a w _ hf => ex_neK hop (hx.eval hf (by rw [hop]; simp [Op.operands])) (hy.eval hf (by rw [hop]; simp [Op.operands]))
theorem run_bs0_K (w : World) : (Instr.buildSlice 74 0 #[]).run Tryd.prog w = .ok (.slice (some ⟨w.heap.size, 0, none⟩) 0 0) (w.alloc (.cells #[] 44)) := by simp [go_sem]
end PickSumsLaw
open PickSumsLaw in
set_option maxHeartbeats 8000000 in
theorem pickSums_law (w : World) (A : Option Addr) (n c : Nat) (x : Nat → Nat) (hX : Rd w w.heap.size A (n * 48) (u8v x)) (hx : ∀ i, x i < 256) (hn : n * 48 ≤ 140737488351232) (_hnc : n ≤ c) (hp : ShaPkg w) (hpr : RefPkg w) : Calls Tryd.prog 7 #[.slice A n c] w fun r w' => r = .returned (.bool true) ∧ Below w.heap.size w w' := by
  have HX := Lib.hid hX
  have HXl := Lib.hid hx
  have HP := Lib.hid hp
  have HPR := Lib.hid hpr
  have HS0 := Lib.hid (HS.nil w)
  clear hX hx hp hpr
  go_enter Tryd.func7, Tryd.ntmps7
  go_wp2_with (first
    | (go_at_call 12; refine (awake15_any _ HP.out).mono ?_; rintro r w1 ⟨rfl, hb⟩; have HS1 := Lib.hid (HS0.out.below hb); clear hb)
    | (refine wpList_bs0L rfl 48 rfl run_bs0_K HS1.out ?_; intro b7 w2 hb7 hs ho; have HS2 := Lib.hid hs; have HO2 := Lib.hid ho; clear hs ho)
    | (at_builtin; refine wpList_app0L rfl (.tmp 7) (.tmp 8) 74 w1.heap.size (z := .agg (Array.replicate 48 (.int .u8 0))) (k := 48) (bytes := 48) (by kernel_rfl) Tryd.underlying74 (by rfl) (by omega) rfl rfl HO2.out rfl (HX.out.below (HS2.out.out (by simp))) (fun _ _ => rfl) ⟨by omega, by omega⟩ (by have := HO2.out.base_le _ rfl; omega) HS2.out ?_; intro A9 c9 w3 ho hs; have HR3 := Lib.hid (show Rd w3 w3.heap.size A9 (n * 48) (u8v x) from ho.rd); have hc9 := ho.cap; have HS3 := Lib.hid hs; clear ho hs)
    | (go_at_call 27; refine (psum_look n c9 A9 x _ HR3.out HXl.out (by omega) hc9 (HP.out.below (HS3.out.out (by simp)))).mono ?_; rintro r w4 ⟨rfl, hb⟩; have HR4 := Lib.hid ((HR3.out.below hb).more hb.size); have HS4 := Lib.hid (HS3.out.below hb); clear hb)
    | (go_at_call 28; refine (psum_ref n c A x _ ((HX.out.below (HS4.out.out (by simp))).more HS4.out.size) HXl.out (by omega) (HPR.out.below (HS4.out.out (by simp)))).mono ?_; rintro r w5 ⟨rfl, hb⟩; have HR5 := Lib.hid ((HR4.out.below hb).more hb.size); have HS5 := Lib.hid (HS4.out.below hb); clear hb)
    | (refine wpList_as rfl 14 rfl (.bool false) ?_ ?_; (· exact ex_neK rfl rfl rfl)))
  clear HR4 HR3 HS4 HS3 HS2 HS1 HO2
  go_loopw [4] (fun i wr => ∃ j : Nat, i = .int .i64 (j : Int) ∧ j ≤ n ∧ Below w5.heap.size w5 wr) (fun i _ => n - (intOf i).toNat)
  case atStart => exact ⟨0, rfl, by omega, Below.refl _ _⟩
  case round =>
    obtain ⟨i, rfl, hi, hbw⟩ := hrel
    have HWb := Lib.hid hbw
    have HB0 := Lib.hid ((HS5.out.below hbw).out (by simp))
    clear hbw
    by_cases hin : i < n
    · have HXq := Lib.hid ((HX.out.below HB0.out).more HB0.out.size)
      have HRq := Lib.hid ((HR5.out.below HWb.out).more HWb.out.size)
      obtain ⟨ad, hA, _, _⟩ := HXq.out (by omega)
      subst hA
      obtain ⟨a9, hA9, _, _⟩ := HRq.out (by omega)
      subst hA9
      go_upto_region 9 with fail
      refine wp_region_facts (B := wr.heap.size) (w0 := wr) [SF.is (.slice (some a9) (n) (c9)), SF.is (.int .i64 ((i : Nat) : Int)), SF.is (.pointer (some (a9.add (i * 48)))), SF.is (.agg (arr 48 (u8v fun q => x (i * 48 + q)))), SF.is (.slice (some ad) (n) (c)), SF.is (.int .i64 ((i : Nat) : Int)), SF.is (.pointer (some (ad.add (i * 48)))), SF.is (.agg (arr 48 (u8v fun q => x (i * 48 + q)))), SF.is (.bool false)] (by kernel_rfl) (by kernel_rfl) rfl (Nat.le_refl _) (Below.refl _ _) ⟨?_, ?_, ?_, ?_, ?_, ?_, ?_, ?_, ?_, trivial⟩ ?_
      · exact (opOb_move _ rfl (.inl rfl) rfl)
      · exact (opOb_move _ rfl (.inl rfl) rfl)
      · exact opOb_idx rfl rfl (OpK.tmp rfl) (OpK.tmp rfl) (fun w => run_idxZ (z := 48) w Tryd.underlying74 (by kernel_rfl) a9 (by omega))
      · exact opOb_ld rfl rfl (OpK.tmp rfl) (fun w' hb => run_loadAt_rd w' (a9.add (i * 48)) 48 44 _ (u8v fun q => x (i * 48 + q)) (fun q hq => by rw [add_add]; exact (HRq.out.below hb).cell_ (show i * 48 + q < n * 48 by omega)) Tryd.underlying44 rfl (by kernel_rfl))
      · exact (opOb_move _ rfl (.inl rfl) rfl)
      · exact (opOb_move _ rfl (.inl rfl) rfl)
      · exact opOb_idx rfl rfl (OpK.tmp rfl) (OpK.tmp rfl) (fun w => run_idxZ (z := 48) w Tryd.underlying74 (by kernel_rfl) ad (by omega))
      · exact opOb_ld rfl rfl (OpK.tmp rfl) (fun w' hb => run_loadAt_rd w' (ad.add (i * 48)) 48 44 _ (u8v fun q => x (i * 48 + q)) (fun q hq => by rw [add_add]; exact (HXq.out.below hb).cell_ (show i * 48 + q < n * 48 by omega)) Tryd.underlying44 rfl (by kernel_rfl))
      · exact opOb_neKey rfl rfl (OpK.tmp rfl) (OpK.tmp rfl)
      · intro w' hb
        simp only [fin, SF.is, forall_eq]
        simp only [Act.put, List.setIfInBounds_toArray, List.set_cons_succ, List.set_cons_zero]
        have HBe := Lib.hid (HWb.out.trans (hb.mono HWb.out.size))
        clear hb
        go_wp2_with fail
        go_roundw
        case rel => exact ⟨i + 1, by go_num, by omega, HBe.out⟩
        case measure => simp [intOf]; omega
    · go_wp2_with fail
      go_ret
      exact ⟨rfl, HB0.out⟩
end Go.Proofs.YtjhgndnpihnidaaDoor
