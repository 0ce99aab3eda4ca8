/- A part of what the proofs stand on: TreeRef, AppZ, TreeZeros, CutZ, TreeTree, Fold, Lev. -/
import Derived.Test.YtjhgndnpihnidaaDoorGPic13
/- Zero roots and depths, by the reference. -/
namespace Go.Proofs.YtjhgndnpihnidaaDoor
set_option maxRecDepth 40000
open Go.RowKit
/-- The least d with l ≤ 2^d. -/
def dep (l : Nat) : Nat := if l ≤ 1 then 0 else Nat.log2 (l - 1) + 1
theorem dep_ge (l : Nat) : l ≤ 2 ^ dep l := by
  unfold dep
  by_cases h : l ≤ 1
  · rw [if_pos h]; simpa using h
  · rw [if_neg h]
    have := Nat.lt_log2_self (n := l - 1)
    omega
theorem dep_lt {l e : Nat} (h : e < dep l) : 2 ^ e < l := by
  unfold dep at h
  by_cases h1 : l ≤ 1
  · rw [if_pos h1] at h; omega
  · rw [if_neg h1] at h
    have h2 := Nat.log2_self_le (n := l - 1) (by omega)
    have h3 : 2 ^ e ≤ 2 ^ Nat.log2 (l - 1) := Nat.pow_le_pow_right (by omega) (by omega)
    omega
theorem dep_le {l k : Nat} (h : l ≤ 2 ^ k) : dep l ≤ k := by
  rcases Nat.lt_or_ge k (dep l) with h1 | h1
  · have := dep_lt h1; omega
  · exact h1
/-- The zero root of depth k. -/
def zrN : Nat → Nat → Nat
  | 0 => fun _ => 0
  | k + 1 => shaB (catN 32 (zrN k) (zrN k)) 64
theorem zrN_lt (k : Nat) : ∀ i, zrN k i < 256 := by
  cases k with
  | zero => intro i; show 0 < 256; omega
  | succ k => exact fun i => shaB_lt _ _ i
/-- The list of zero roots. -/
def zrL : Nat → Nat := fun i => zrN (i / 32) (i % 32)
theorem zrL_at (k q : Nat) (hq : q < 32) : zrL (k * 32 + q) = zrN k q := by
  unfold zrL
  rw [show (k * 32 + q) / 32 = k by omega, show (k * 32 + q) % 32 = q by omega]
namespace TreeRef
theorem shl1 (d : Nat) (hd : d < 63) (w : World) : (binOp .shl 3 (.int .i64 1) (.int .u64 (d : Int))).run Tryd.prog w = .ok (.int .i64 ((2 ^ d : Nat) : Int)) w := by
  have h1 : 2 ^ d ≤ 2 ^ 62 := Nat.pow_le_pow_right (by omega) (by omega)
  have h2 : ((2 ^ d : Nat) : Int) ≤ 4611686018427387904 := by have : (2 : Nat) ^ 62 = 4611686018427387904 := by decide
                                                              omega
  have h0 : (0 : Int) ≤ ((2 ^ d : Nat) : Int) := Int.natCast_nonneg _
  have e : ((2 ^ d : Nat) : Int) = (2 : Int) ^ d := by simp
  rw [e] at h2 h0
  simp [go_sem, IntKind.wrap, IntKind.bits, IntKind.signed]
  generalize (2 : Int) ^ d = y at h2 h0
  rw [Int.emod_eq_of_lt h0 (by omega), if_neg (by omega)]
theorem cvu (m : Nat) (hm : m < 9223372036854775808) (w : World) : (convert 3 108 (.int .i64 (m:Int))).run Tryd.prog w = .ok (.int .u64 (m:Int)) w := by
  simp [go_sem, IntKind.wrap, IntKind.bits, IntKind.signed]; omega
end TreeRef
theorem ex_bin {P : Program} {o : Oper} {a : Act} {b : BinOp} {ty rt : TypeId} {x y : Operand} {u v r : Value} (hne : (b matches .eql | .neq) = false) (ho : o.op = .binOp b ty x y rt) (hx : a.eval x = u) (hy : a.eval y = v) (hr : ∀ w, (binOp b ty u v).run P w = .ok r w) : ∀ w, (execOp a.eval o).run P w = .ok (.value r) w := fun w => by
  unfold execOp
  rw [ho]
  simp only [hx, hy]
  cases b <;> simp at hne <;> simp [eqGuard, hr]
theorem ex_cnv {P : Program} {o : Oper} {a : Act} {s d : TypeId} {x : Operand} {u r : Value} (ho : o.op = .convert s d x) (hx : a.eval x = u) (hr : ∀ w, (convert s d u).run P w = .ok r w) : ∀ w, (execOp a.eval o).run P w = .ok (.value r) w := fun w => by
  unfold execOp
  rw [ho]
  simp only [hx]
  simp [hr w]
open TreeRef in
set_option maxHeartbeats 1000000 in
theorem depth_ref (l : Nat) (hl : l ≤ 1099511627776) (w : World) : Calls Tryd.prog 69 #[.int .i64 (l : Int)] w fun e w' => e = .returned (.int .i64 (dep l : Int)) ∧ w' = w := by
  have hd40 : dep l ≤ 40 := dep_le (k := 40) (by omega)
  go_enter Tryd.func69, Tryd.ntmps69
  go_wp2_with fail
  go_loopw [3] (fun i wr => ∃ d : Nat, i = .int .i64 (d : Int) ∧ d ≤ dep l ∧ wr = w) (fun i _ => 41 - (intOf i).toNat)
  case atStart => exact ⟨0, rfl, by omega, rfl⟩
  case round =>
    obtain ⟨d, rfl, hd, rfl⟩ := hrel
    obtain ⟨p, hp⟩ : ∃ p, p = 2 ^ d := ⟨_, rfl⟩
    have HP := Lib.hid hp
    by_cases hlt : d < dep l
    · have hpl : p < l := by rw [hp]; exact dep_lt hlt
      clear hp
      go_wp2_with (refine wpList_as rfl 6 rfl (.int .i64 (p : Int)) ?_ ?_; (· rw [HP.out]; exact ex_bin rfl rfl rfl rfl (fun w => shl1 d (by omega) w) _))
      go_roundw
      case rel => exact ⟨d + 1, by go_num, by omega, trivial⟩
      case measure => simp [intOf]; omega
    · obtain rfl : d = dep l := by omega
      have hpl : l ≤ p := by rw [hp]; exact dep_ge l
      clear hp
      go_wp2_with (refine wpList_as rfl 6 rfl (.int .i64 (p : Int)) ?_ ?_; (· rw [HP.out]; exact ex_bin rfl rfl rfl rfl (fun w => shl1 _ (by omega) w) _))
      go_ret
      exact ⟨rfl, rfl⟩
end Go.Proofs.YtjhgndnpihnidaaDoor
/- Copies of lists whose elements have many cells. -/
namespace Go.Proofs.YtjhgndnpihnidaaDoor
set_option maxRecDepth 40000
open Go.RowKit
theorem OwnZ.new0 (w : World) (base : Nat) (e : TypeId) (z : Nat) (f : Nat → Value) (hb : base ≤ w.heap.size) : OwnZ (w.alloc (.cells #[] e)) base e z (some ⟨w.heap.size, 0, none⟩) 0 0 f :=
  ⟨by simp, .inr ⟨w.heap.size, 0, #[], rfl, hb, heap_alloc_new w _, Nat.le_refl _, Nat.zero_le _, by simp, by simp⟩⟩
/-- A row of the call's own, as a slice of elements of z cells. -/
def SF.ownZ (base : Nat) (e : TypeId) (z n : Nat) (f : Nat → Value) : SF := ⟨fun v w => ∃ A c, v = .slice A n c ∧ OwnZ w base e z A n c f, fun _ _ _ ⟨A, c, e1, h⟩ hb => ⟨A, c, e1, h.all hb⟩⟩
def SF.own0Z (base : Nat) (e : TypeId) (z : Nat) : SF := ⟨fun v w => ∃ b, v = .slice (some ⟨b, 0, none⟩) 0 0 ∧ OwnZ w base e z (some ⟨b, 0, none⟩) 0 0 (fun _ => undef), fun _ _ _ ⟨b, e1, h⟩ hb => ⟨b, e1, h.all hb⟩⟩
section
variable {P : Program} (w : World)
theorem app0Z_eq {t ty e : TypeId} {i : TypeInfo} {z : Value} {k : Nat} (ht : P.underlying t = some (.slice e)) (hi : P.info? e = some i) (hz : i.zero = some z) (hsize : i.size = k) (hk : 0 < k)
    (b a : Addr) (m cm B : Nat) (g : Nat → Value) (hr : Rd w B (some a) (m * k) g) (hm : 0 < m) (hbytes : m ≤ 9223372036854775807 ∧ m * i.bytes ≤ 140737488355328) :
    (Builtin.append_ #[t, t] ty #[.slice (some b) 0 0, .slice (some a) m cm]).run P w = (Builtin.append_ #[t, t] ty #[.slice none 0 0, .slice (some a) m cm]).run P w := by
  have hmk : 0 < m * k := Nat.mul_pos hm hk
  have hnews : ∀ j v, ((List.range (m * k)).map g)[j]? = some v → w.cell? (a.add j) = some v := fun j v hj => by
    have hjl : j < m * k := by
      rcases Nat.lt_or_ge j (m * k) with h | h
      · exact h
      · simp [h] at hj
    rw [hr.cell_ hjl]
    simp [hjl] at hj
    exact congrArg some hj
  have h1 := run_append_nil (P := P) w t ty e i z ht hi hz a m cm ((List.range (m * k)).map g) (by simp [hsize]) hnews hm (by omega) (by omega)
  have h2 := run_append_grow (P := P) w t ty e i z ht hi hz b 0 0 [] (by simp) (fun j v hj => by simp at hj) a m cm ((List.range (m * k)).map g) (by simp [hsize]) hnews (by omega) (by omega) (growslice_fits (by omega) (by rw [Nat.zero_add]; exact hbytes.2))
  rw [h1, h2]
  simp
theorem run_app0Z (base : Nat) {t ty e : TypeId} {i : TypeInfo} {z : Value} {k bytes : Nat} (ht : P.underlying t = some (.slice e)) (hi : P.info? e = some i) (hz : i.zero = some z)
    (hsize : i.size = k) (hk : 0 < k) (hby : i.bytes = bytes) (hzs : z.cells.size = k) {b : Addr} {f g : Nat → Value} (hown : OwnZ w base e k (some b) 0 0 f)
    {C : Option Addr} {m cm B : Nat} (hr : Rd w B C (m * k) g) (h1 : ∀ i, i < m * k → (g i).oneCell' = true) (hbytes : m ≤ 9223372036854775807 ∧ m * bytes ≤ 140737488355328) (hbase : base ≤ w.heap.size) :
    ∃ A' c' w', (Builtin.append_ #[t, t] ty #[.slice (some b) 0 0, .slice C m cm]).run P w = .ok (.slice A' m c') w' ∧ OwnZ w' base e k A' m c' g ∧ Below w.heap.size w w' := by
  by_cases hm : m = 0
  · subst hm
    have hrun : (Builtin.append_ #[t, t] ty #[.slice (some b) 0 0, .slice C 0 cm]).run P w = .ok (.slice (some b) 0 0) w := by
      rcases C with _ | ad <;> simp [Builtin.append_, run_underlying ht, sizeOf, typeInfo, hi, Builtin.lenOf, Builtin.firstCells, storeCells, loadCells, loadCellsFrom]
    exact ⟨_, _, _, hrun, hown.congr (fun i hi => absurd hi (by omega)), Below.refl _ _⟩
  · obtain ⟨ad, rfl, _⟩ := hr (Nat.mul_pos (by omega) hk)
    obtain ⟨A', c', w', h2, h3, h4, _⟩ := run_appZ (P := P) w base t ty e i z k bytes ht hi hz hsize hby hzs hk (cm := cm) (OwnZ.nil w base e k g) hr h1 (by rw [Nat.zero_add]; exact hbytes) hbase
    refine ⟨A', c', w', ?_, ?_, ⟨h4.os, h4.tape, h4.output, h4.size, fun k hk => h4.block k hk (by simp)⟩⟩
    · rw [app0Z_eq w ht hi hz hsize hk b ad m cm B g hr (by omega) (by rw [hby]; exact hbytes), h2, Nat.zero_add]
    · rw [Nat.zero_add] at h3
      exact h3.congr (fun i _ => by simp [catF])
theorem infoZ {e : TypeId} {z : Value} {k bytes : Nat} (hinfo : (P.info? e).map (fun i => (i.zero, i.size, i.bytes)) = some (some z, k, bytes)) : ∃ i, P.info? e = some i ∧ i.zero = some z ∧ i.size = k ∧ i.bytes = bytes := by
  cases hq : P.info? e with
  | none => rw [hq] at hinfo; simp at hinfo
  | some i => rw [hq] at hinfo; simp at hinfo; exact ⟨i, rfl, hinfo.1, hinfo.2.1, hinfo.2.2⟩
/-- append([]T{}, x...), two operations of a list. -/
theorem wpList_bs0L {ops : Array Oper} {rest : List Oper} {o : Oper} {a : Act} {w w0 : World} {Q : Exit → Act → World → Prop} {rows : List RowSpec} (hgd : o.guard = none) {t e : TypeId} (z : Nat) (ho : o.op = .buildSlice t 0 #[]) (hr : ∀ w : World, (Instr.buildSlice t 0 #[]).run P w = .ok (.slice (some ⟨w.heap.size, 0, none⟩) 0 0) (w.alloc (.cells #[] e))) (h : HS w0 w rows)
    (hK : ∀ b w', w0.heap.size ≤ b → HS w0 w' rows → OwnZ w' w.heap.size e z (some ⟨b, 0, none⟩) 0 0 (fun _ => undef) → wpList P ops Q rest (a.put o.dst (.slice (some ⟨b, 0, none⟩) 0 0)) w') : wpList P ops Q (o :: rest) a w :=
  wpList_plain hgd fun _ hK' => by
    unfold Oper.wp execOp
    rw [ho]
    simp only [List.map_toArray, List.map_nil, Sem.run_bind, hr w, Result.andThen_ok, Sem.run_pure]
    exact hK' _ _ (hK _ _ h.size (h.below ((Below.refl _ _).alloc (Nat.le_refl _) _)) (OwnZ.new0 w w.heap.size e z _ (Nat.le_refl _)))
theorem wpList_app0L {ops : Array Oper} {rest : List Oper} {o : Oper} {a : Act} {w w0 : World} {Q : Exit → Act → World → Prop} {rows : List RowSpec} (hgd : o.guard = none) (s x : Operand) (t base : Nat) {e : TypeId} {z : Value} {k bytes : Nat}
    (hinfo : (P.info? e).map (fun i => (i.zero, i.size, i.bytes)) = some (some z, k, bytes)) (ht : P.underlying t = some (.slice e)) (hzs : z.cells.size = k) (hk : 0 < k)
    (ho : o.op = .call { callee := .builtin .append, args := #[s, x], argTypes := #[t, t] }) {b : Addr} {f : Nat → Value} (hs : a.eval s = .slice (some b) 0 0) (hown : OwnZ w base e k (some b) 0 0 f)
    {C : Option Addr} {m cm B : Nat} {g : Nat → Value} (hx : a.eval x = .slice C m cm) (hr : Rd w B C (m * k) g) (h1 : ∀ i, i < m * k → (g i).oneCell' = true) (hbytes : m ≤ 9223372036854775807 ∧ m * bytes ≤ 140737488355328) (hbase : base ≤ w.heap.size) (h : HS w0 w rows)
    (hK : ∀ A' c' w', OwnZ w' base e k A' m c' g → HS w0 w' rows → wpList P ops Q rest (a.put o.dst (.slice A' m c')) w') : wpList P ops Q (o :: rest) a w :=
  wpList_plain hgd fun _ hK' => by
    obtain ⟨i, hi, hz, hsize, hby⟩ := infoZ hinfo
    obtain ⟨A', c', w', hrun, h5, h6⟩ := run_app0Z (P := P) w base (ty := o.type) ht hi hz hsize hk hby hzs (cm := cm) hown hr h1 hbytes hbase
    unfold Oper.wp execOp
    simp only [ho, resolve, invoke, builtin, Sem.run_bind, Sem.run_pure, Result.andThen_ok, List.map_toArray, List.map_cons, List.map_nil, hs, hx]
    rw [hrun]
    exact hK' _ _ (hK _ _ _ h5 (h.below h6))
end
section
variable {P : Program} {ops : Array Oper} {B : Nat} {w0 : World} {o : Oper} {lk : Tmp → SF} {ty rt : TypeId}
theorem opOb_bs0Z {t e : TypeId} (z : Nat) (hg : o.guard = none) (hop : o.op = .buildSlice t 0 #[]) (hr : ∀ w : World, (Instr.buildSlice t 0 #[]).run P w = .ok (.slice (some ⟨w.heap.size, 0, none⟩) 0 0) (w.alloc (.cells #[] e))) (base : Nat) (hb : base ≤ w0.heap.size) : opOb P ops B w0 o (SF.own0Z base e z) lk :=
  opOb_of hg fun a w hbel hf => by
    unfold Oper.wp execOp
    rw [hop]
    simp only [List.map_toArray, List.map_nil, Sem.run_bind, hr w, Result.andThen_ok, Sem.run_pure]
    exact ⟨_, rfl, ⟨w.heap.size, rfl, OwnZ.new0 w base e z _ (Nat.le_trans hb hbel.size)⟩, (Below.refl _ _).alloc (Nat.le_refl _) _⟩
theorem opOb_app0Z {s x : Tmp} {t : TypeId} (base : Nat) {e : TypeId} {z : Value} {k bytes : Nat} (hinfo : (P.info? e).map (fun i => (i.zero, i.size, i.bytes)) = some (some z, k, bytes)) (ht : P.underlying t = some (.slice e)) (hzs : z.cells.size = k) (hk : 0 < k)
    (hg : o.guard = none) (hop : o.op = .call { callee := .builtin .append, args := #[.tmp s, .tmp x], argTypes := #[t, t] }) (hs : lk s = SF.own0Z base e k)
    {C : Option Addr} {m cm Bx : Nat} {g : Nat → Value} (hx : lk x = SF.is (.slice C m cm)) (hr : ∀ w, Below B w0 w → Rd w Bx C (m * k) g) (h1 : ∀ i, i < m * k → (g i).oneCell' = true) (hbytes : m ≤ 9223372036854775807 ∧ m * bytes ≤ 140737488355328) (hbase : base ≤ w0.heap.size) :
    opOb P ops B w0 o (SF.ownZ base e k m g) lk :=
  opOb_of hg fun a w hbel hf => by
    obtain ⟨i, hi, hz, hsize, hby⟩ := infoZ hinfo
    have h2 := hf s (by rw [hop]; simp [Op.operands, Call.operands])
    have h3 := hf x (by rw [hop]; simp [Op.operands, Call.operands])
    rw [hs] at h2
    rw [hx] at h3
    obtain ⟨b, h4, hown⟩ := h2
    have e1 : a.eval (.tmp s) = .slice (some ⟨b, 0, none⟩) 0 0 := (getD_eq _ _).trans h4
    have e2 : a.eval (.tmp x) = .slice C m cm := (getD_eq _ _).trans h3
    obtain ⟨A', c', w', hrun, h5, h6⟩ := run_app0Z (P := P) w base (ty := o.type) ht hi hz hsize hk hby hzs (cm := cm) hown (hr w hbel) h1 hbytes (Nat.le_trans hbase hbel.size)
    unfold Oper.wp execOp
    simp only [hop, resolve, invoke, builtin, Sem.run_bind, Sem.run_pure, Result.andThen_ok, List.map_toArray, List.map_cons, List.map_nil, e1, e2]
    rw [hrun]
    exact ⟨_, rfl, ⟨A', c', rfl, h5⟩, h6⟩
/-- []T{x}. -/
theorem opOb_bs1Z {t e : TypeId} {z : Nat} (ht : P.underlying t = some (.slice e)) (hz : (P.info? e).map (·.size) = some z) (hlen : z ≤ 16777216) (h0 : 0 < z) {v0 : Value} (hzero : (P.info? e).bind (·.zero) = some v0)
    {x : Operand} (hg : o.guard = none) (hop : o.op = .buildSlice t 1 #[(0, x)]) (f : Nat → Value) (hx : OpK lk x (.agg (arr z f))) : opOb P ops B w0 o (SF.rdZ 1 z f) lk :=
  opOb_of hg fun a w hbel hf => by
    have h1 := hx.eval hf (by rw [hop]; simp [Op.operands])
    have hr := run_bsN (P := P) w (t := t) (len := 1) ht hz (by omega) (by omega) hzero #[(0, .agg (arr z f))] f (fun g => by
      rw [show (#[((0 : Nat), Value.agg (arr z f))] : Array (Nat × Value)).toList = [(0, .agg (arr z f))] from rfl, fill_step z (1 * z) 0 f g [] (by omega)]
      show some _ = some _
      exact congrArg some (arr_congr fun i hi => by rw [if_pos (by omega)]; simp))
    rw [Nat.one_mul] at hr
    have hrun : (execOp a.eval o).run P w = .ok (.value (.slice (some ⟨w.heap.size, 0, none⟩) 1 1)) (w.alloc (.cells (arr z f) e)) := by
      unfold execOp
      rw [hop]
      simp only [List.map_toArray, List.map_cons, List.map_nil, h1]
      simp [hr]
    have h2 := (HS.nil w).alloc (arr z f) e z f (size_arr _ _) (fun i hi => arr_at _ _ i hi)
    unfold Oper.wp
    rw [hrun]
    exact ⟨_, rfl, ⟨_, _, rfl, by rw [Nat.one_mul]; exact Rd.of_row (h2.row 0 rfl) (Nat.le_refl _) (h2.lt 0 rfl)⟩, h2.out (by simp)⟩
theorem opOb_eqBool {xo yo : Operand} (b : Bool) (hu : P.underlying ty = some .bool) (hg : o.guard = none) (hop : o.op = .binOp .eql ty xo yo rt) (hx : OpK lk xo (.bool b)) (hy : OpK lk yo (.bool b)) : opOb P ops B w0 o (SF.is (.bool true)) lk :=
  opOb_val _ hg fun a w _ hf => by
    have h1 := hx.eval hf (by rw [hop]; simp [Op.operands])
    have h2 := hy.eval hf (by rw [hop]; simp [Op.operands])
    unfold execOp
    rw [hop]
    simp only [h1, h2]
    cases b <;> simp [eqGuard, go_sem, hu]
theorem opOb_notB {xo : Operand} (b : Bool) (hg : o.guard = none) (hop : o.op = .unOp .not ty xo) (hx : OpK lk xo (.bool b)) : opOb P ops B w0 o (SF.is (.bool (!b))) lk :=
  opOb_val _ hg fun a w _ hf => by
    have h1 := hx.eval hf (by rw [hop]; simp [Op.operands])
    unfold execOp
    rw [hop]
    simp only [h1]
    simp [go_sem]
end
end Go.Proofs.YtjhgndnpihnidaaDoor
/- The zero roots, by the reference. (Printed by a program of mine.) -/
namespace Go.Proofs.YtjhgndnpihnidaaDoor
set_option maxRecDepth 40000
open Go.RowKit
namespace TreeZeros
theorem ent_two (vs : Array Value) (w : World) : (callFunc 94 vs).run Tryd.prog w = .ok (.enter 94 vs) w := by kernel_rfl
theorem sub1 (m : Nat) (h : 1 ≤ m) (hm : m ≤ 9223372036854775807) (w : World) : (binOp .sub 3 (.int .i64 (m : Int)) (.int .i64 1)).run Tryd.prog w = .ok (.int .i64 ((m - 1 : Nat) : Int)) w := by
  rw [show ((m - 1 : Nat) : Int) = (m : Int) - 1 by omega]
  simp [go_sem, IntKind.wrap, IntKind.bits, IntKind.signed]
  omega
theorem cat_z {m : Nat} : ∀ i, i < (m + 1) * 32 → catF (m * 32) (u8v zrL) (u8v (zrN m)) i = u8v zrL i := fun i hi => by
  simp only [catF, u8v]
  split
  · rfl
  · rename_i h
    have := zrL_at m (i - m * 32) (by omega)
    rw [show m * 32 + (i - m * 32) = i by omega] at this
    rw [this]
end TreeZeros
open TreeZeros in
set_option maxHeartbeats 4000000 in
theorem zeros_ref (d : Nat) (hd : d ≤ 40) (w : World) (hp : RefPkg w) :
    Calls Tryd.prog 89 #[.int .i64 (d : Int)] w fun e w' => ∃ A c, e = .returned (.slice A (d + 1) c) ∧ OwnZ w' w.heap.size 24 32 A (d + 1) c (u8v zrL) ∧ Below w.heap.size w w' := by
  have HP := Lib.hid hp
  have HS0 := Lib.hid (HS.nil w)
  clear hp
  go_enter Tryd.func89, Tryd.ntmps89
  go_wp2_with (first
    | (refine wpList_build_as rfl 24 #[] rfl [] rfl (arr 32 (u8v fun _ => 0)) (by kernel_rfl) ?_)
    | (refine wpList_bs1 rfl Tryd.underlying32 (z := 32) (by kernel_rfl) (by omega) (by omega) (v0 := .agg (Array.replicate 32 (.int .u8 0))) (by kernel_rfl) _ rfl (u8v fun _ => 0) rfl HS0.out ?_; intro b5 w5 hb5 hc5 hs5; have HS5 := Lib.hid hs5; clear hs5))
  go_loopw [3] (fun v wr => ∃ (m : Nat) (A : Option Addr) (c : Nat), v = .slice A m c ∧ 1 ≤ m ∧ m ≤ d + 1 ∧ OwnZ wr w.heap.size 24 32 A m c (u8v zrL) ∧ Below w.heap.size w wr) (fun v _ => match v with | .slice _ m _ => 100 - m | _ => 0)
  case atStart => exact ⟨1, some ⟨b5, 0, none⟩, 1, rfl, by omega, by omega, (OwnZ.of_row (m := 1) (HS5.out.row 0 rfl) hb5 (by unfold maxLen; omega)).congr (fun i hi => by rw [← Nat.zero_add i]; have := zrL_at 0 i (by omega); simp only [u8v]; rw [show 0 + i = 0 * 32 + i by omega, this]; rfl), HS5.out.out (by simp; omega)⟩
  case round =>
    obtain ⟨m, A, c, rfl, hm1, hm, ho, hbw⟩ := hrel
    have HO := Lib.hid ho
    have HW := Lib.hid hbw
    have hsz := hbw.size
    clear ho hbw
    by_cases hmd : m ≤ d
    · obtain ⟨ad, hA, _, _⟩ := HO.out.rd (show 0 < m * 32 by omega)
      subst hA
      have HCL : Hid (∀ w', Below wr.heap.size wr w' → ∀ i, i < m * 32 → w'.cell? (ad.add i) = some (u8v zrL i)) := Lib.hid (fun w' hb i hi => (HO.out.rd.below hb).cells hi)
      have HZ := Lib.hid (show Ending.returned (rootV (shaB (catN 32 (zrN (m - 1)) (zrN (m - 1))) 64)) = .returned (rootV (zrN m)) by obtain ⟨q, rfl⟩ : ∃ q, m = q + 1 := ⟨m - 1, by omega⟩; rfl)
      go_wp2_with fail
      refine wp_region_factsS (l := [_, _, _, _, _, _, _, _, _, _, _, _, _, _, _]) (tl := [_]) (B := wr.heap.size) (w0 := wr) [SF.is (.slice (some ad) (m) (c)), SF.is (.slice (some ad) (m) (c)), SF.is (.slice (some ad) (m) (c)), SF.is (.int .i64 ((m : Nat) : Int)), SF.is (.int .i64 ((m - 1 : Nat) : Int)), SF.is (.pointer (some (ad.add ((m - 1) * 32)))), SF.is (rootV (zrN (m - 1))), SF.is (.slice (some ad) (m) (c)), SF.is (.slice (some ad) (m) (c)), SF.is (.int .i64 ((m : Nat) : Int)), SF.is (.int .i64 ((m - 1 : Nat) : Int)), SF.is (.pointer (some (ad.add ((m - 1) * 32)))), SF.is (rootV (zrN (m - 1))), SF.is (rootV (zrN m)), SF.rdZ 1 32 (u8v (zrN m))] (by kernel_rfl) (by kernel_rfl) rfl (Nat.le_refl _) (Below.refl _ _) ⟨?_, ?_, ?_, ?_, ?_, ?_, ?_, ?_, ?_, ?_, ?_, ?_, ?_, ?_, ?_, trivial⟩ ?_
      · exact (opOb_move _ rfl (.inl rfl) rfl)
      · exact (opOb_move _ rfl (.inl rfl) rfl)
      · exact (opOb_move _ rfl (.inl rfl) rfl)
      · exact opOb_len Tryd.underlying32 rfl rfl (OpK.tmp rfl)
      · exact opOb_bin rfl rfl rfl (OpK.tmp rfl) OpK.const (fun w => sub1 m (by omega) (by omega) w)
      · exact opOb_idx rfl rfl (OpK.tmp rfl) (OpK.tmp rfl) (fun w => run_idxZ w Tryd.underlying32 (by kernel_rfl) ad (by omega))
      · exact opOb_ld rfl rfl (OpK.tmp rfl) (fun w' hb => run_loadAt_rd w' (ad.add ((m - 1) * 32)) 32 _ _ (u8v (zrN (m - 1))) (fun i hi => by rw [add_add, HCL.out w' hb ((m - 1) * 32 + i) (by omega)]; simp only [u8v]; rw [zrL_at _ _ hi]) Tryd.underlying24 rfl (by kernel_rfl))
      · exact (opOb_move _ rfl (.inl rfl) rfl)
      · exact (opOb_move _ rfl (.inl rfl) rfl)
      · exact opOb_len Tryd.underlying32 rfl rfl (OpK.tmp rfl)
      · exact opOb_bin rfl rfl rfl (OpK.tmp rfl) OpK.const (fun w => sub1 m (by omega) (by omega) w)
      · exact opOb_idx rfl rfl (OpK.tmp rfl) (OpK.tmp rfl) (fun w => run_idxZ w Tryd.underlying32 (by kernel_rfl) ad (by omega))
      · exact opOb_ld rfl rfl (OpK.tmp rfl) (fun w' hb => run_loadAt_rd w' (ad.add ((m - 1) * 32)) 32 _ _ (u8v (zrN (m - 1))) (fun i hi => by rw [add_add, HCL.out w' hb ((m - 1) * 32 + i) (by omega)]; simp only [u8v]; rw [zrL_at _ _ hi]) Tryd.underlying24 rfl (by kernel_rfl))
      · exact opOb_fn2 ent_two rfl rfl (OpK.tmp rfl) (OpK.tmp rfl) (fun w' hb => (refTwo_any (zrN (m - 1)) (zrN (m - 1)) (zrN_lt _) (zrN_lt _) w' (HP.out.below (HW.out.trans (hb.mono HW.out.size)))).mono fun e w'' ⟨he, hb2⟩ => ⟨_, he.trans HZ.out, rfl, hb2⟩)
      · exact opOb_bs1Z Tryd.underlying32 (z := 32) (by kernel_rfl) (by omega) (by omega) (v0 := .agg (Array.replicate 32 (.int .u8 0))) (by kernel_rfl) rfl rfl (u8v (zrN m)) (OpK.tmp rfl)
      · intro w' hb
        simp only [fin, SF.is, SF.rdZ, forall_eq]
        simp only [Act.put, List.setIfInBounds_toArray, List.set_cons_succ, List.set_cons_zero]
        rintro _ ⟨A24, c24, rfl, hr24⟩
        have hw' := HW.out.trans (hb.mono HW.out.size)
        have ho' := HO.out.all hb
        refine wp_appZ w' (.tmp 10) (.tmp 24) 32 w.heap.size (z := .agg (Array.replicate 32 (.int .u8 0))) (k := 32) (bytes := 32) (by kernel_rfl) Tryd.underlying32 (by rfl) (by omega) rfl (m + 1) (u8v zrL) rfl rfl ho' hr24 (fun _ _ => rfl) rfl cat_z ⟨by omega, by omega⟩ hw'.size ?_
        intro A25 c25 w25 ho25 hg25 _
        have HB := Lib.hid (below_app hw' hg25 hw'.size (fun ad e => (HO.out.base_le ad e).1))
        have HO2 := Lib.hid ho25
        clear ho25 hg25 hr24 ho' hw' hb
        refine wp_asg (.slice A25 (m + 1) c25) (.inl rfl) rfl ?_
        simp only [seqWp, Act.put, List.setIfInBounds_toArray, List.set_cons_succ, List.set_cons_zero]
        go_wp2_with fail
        go_roundw
        case rel => exact ⟨m + 1, A25, c25, rfl, by omega, by omega, HO2.out, HB.out⟩
        case measure => show 100 - (m + 1) < 100 - m; omega
    · obtain rfl : m = d + 1 := by omega
      go_wp2_with fail
      go_ret
      exact ⟨A, c, rfl, HO.out, HW.out⟩
end Go.Proofs.YtjhgndnpihnidaaDoor
/- Parts of slices whose elements have many cells. -/
namespace Go.Proofs.YtjhgndnpihnidaaDoor
set_option maxRecDepth 40000
open Go.RowKit
section
variable {P : Program}
theorem cut_midZ {t e : TypeId} {z : Nat} (hu : P.underlying t = some (.slice e)) (hz : (P.info? e).map (·.size) = some z) (_hz0 : 0 < z) (A : Option Addr) (n c l h : Nat) (low high : Option Value)
    (hl : low = none ∧ l = 0 ∨ low = some (.int .i64 (l : Int))) (hh : high = none ∧ h = n ∨ high = some (.int .i64 (h : Int))) (hlh : l ≤ h) (hn : h ≤ n) (hnc : n ≤ c) :
    ∃ A', (∀ w, (Instr.sliceAt t (.slice A n c) low high none).run P w = .ok (.slice A' (h - l) (c - l)) w) ∧ ∀ w B f, Rd w B A (h * z) f → Rd w B A' ((h - l) * z) (fun i => f (l * z + i)) := by
  have b1 : ∀ (y : Nat) (k : BoundsCode) (w : World), l ≤ y → (Instr.sliceBound (.int .i64 (l : Int)) y k).run P w = .ok l w := fun y k w hy => by
    rw [run_sliceBound w .i64 (l : Int) y k (by omega) (by omega)]; simp
  have b2 : ∀ (y : Nat) (k : BoundsCode) (w : World), h ≤ y → (Instr.sliceBound (.int .i64 (h : Int)) y k).run P w = .ok h w := fun y k w hy => by
    rw [run_sliceBound w .i64 (h : Int) y k (by omega) (by omega)]; simp
  refine ⟨if c = l then A else A.map (·.add (l * z)), fun w => ?_, fun w B f hr => ?_⟩
  · have hs := sizeOf_run hz
    have h9 : h ≤ c := by omega
    rcases hl with ⟨rfl, rfl⟩ | rfl <;> rcases hh with ⟨rfl, rfl⟩ | rfl <;>
      simp [Instr.sliceAt, Instr.slice, run_underlying hu, Instr.sliceBounds, b1, b2, hlh, h9, hs, add_zero'] <;> simp_all
  · intro h0
    have hpos : 0 < h - l := by
      rcases Nat.eq_zero_or_pos (h - l) with e | e
      · rw [e] at h0; simp at h0
      · exact e
    have e1 : (h - l) * z + l * z = h * z := by rw [← Nat.add_mul]; congr 1; omega
    obtain ⟨ad, rfl, hb, hc⟩ := hr (by omega)
    rw [if_neg (by omega)]
    refine ⟨ad.add (l * z), rfl, by rw [block_of_add]; exact hb, fun i hi => ?_⟩
    rw [add_of_add]
    exact hc (l * z + i) (by omega)
theorem cut_fromZ {t e : TypeId} {z : Nat} (hu : P.underlying t = some (.slice e)) (hz : (P.info? e).map (·.size) = some z) (hz0 : 0 < z) (A : Option Addr) (n c k : Nat) (hk : k ≤ n) (hnc : n ≤ c) :
    ∃ A', (∀ w, (Instr.sliceAt t (.slice A n c) (some (.int .i64 (k : Int))) none none).run P w = .ok (.slice A' (n - k) (c - k)) w) ∧ ∀ w B f, Rd w B A (n * z) f → Rd w B A' ((n - k) * z) (fun i => f (k * z + i)) :=
  cut_midZ hu hz hz0 A n c k n _ _ (.inr rfl) (.inl ⟨rfl, rfl⟩) hk (Nat.le_refl _) hnc
theorem cut_toZ {t e : TypeId} {z : Nat} (hu : P.underlying t = some (.slice e)) (hz : (P.info? e).map (·.size) = some z) (A : Option Addr) (n c h : Nat) (hh : h ≤ c) (w : World) :
    (Instr.sliceAt t (.slice A n c) none (some (.int .i64 (h : Int))) none).run P w = .ok (.slice A h c) w := by
  have b2 : (Instr.sliceBound (.int .i64 (h : Int)) c .sliceAcap).run P w = .ok h w := by
    rw [run_sliceBound w .i64 (h : Int) c _ (by omega) (by omega)]; simp
  simp [Instr.sliceAt, Instr.slice, run_underlying hu, Instr.sliceBounds, b2, sizeOf_run hz, add_zero']
end
end Go.Proofs.YtjhgndnpihnidaaDoor
/- The root of a tree of chunks, by the reference. (Printed by a program of mine.) -/
namespace Go.Proofs.YtjhgndnpihnidaaDoor
set_option maxRecDepth 40000
open Go.RowKit
/-- The root of n chunks in a tree of depth d. -/
def treeN : Nat → Nat → (Nat → Nat) → Nat → Nat
  | 0, n, x => if n = 0 then zrN 0 else x
  | d + 1, n, x => if n = 0 then zrN (d + 1) else shaB (catN 32 (treeN d (min (2 ^ d) n) x) (treeN d (n - min (2 ^ d) n) (fun i => x (min (2 ^ d) n * 32 + i)))) 64
theorem treeN_lt {x : Nat → Nat} (hx : ∀ i, x i < 256) (d n : Nat) : ∀ i, treeN d n x i < 256 := by
  intro i
  cases d with
  | zero => unfold treeN; split; exact zrN_lt _ _; exact hx _
  | succ d => unfold treeN; split; exact zrN_lt _ _; exact shaB_lt _ _ _
theorem treeN_zero (d : Nat) (x : Nat → Nat) : treeN d 0 x = zrN d := by cases d <;> rfl
theorem treeN_leaf (n : Nat) (x : Nat → Nat) (hn : n ≠ 0) : treeN 0 n x = x := by unfold treeN; rw [if_neg hn]
theorem treeN_succ (d n h : Nat) (x : Nat → Nat) (hn : n ≠ 0) (hh : min (2 ^ d) n = h) : treeN (d + 1) n x = shaB (catN 32 (treeN d h x) (treeN d (n - h) (fun i => x (h * 32 + i)))) 64 := by
  subst hh
  rw [treeN, if_neg hn]
theorem subd (d : Nat) (hd : d ≤ 1000) (w : World) : (binOp .sub 3 (.int .i64 ((d + 1 : Nat) : Int)) (.int .i64 1)).run Tryd.prog w = .ok (.int .i64 (d : Int)) w := by
  have := TreeZeros.sub1 (d + 1) (by omega) (by omega) w
  rw [show d + 1 - 1 = d by omega] at this
  exact this
namespace TreeTree
theorem ent_tree (vs : Array Value) (w : World) : (callFunc 88 vs).run Tryd.prog w = .ok (.enter 88 vs) w := by kernel_rfl
theorem ent_two (vs : Array Value) (w : World) : (callFunc 94 vs).run Tryd.prog w = .ok (.enter 94 vs) w := by kernel_rfl
end TreeTree
open TreeTree in
set_option maxHeartbeats 8000000 in
theorem tree_ref : ∀ (d n c : Nat) (A : Option Addr) (x : Nat → Nat) (m cz : Nat) (Z : Option Addr) (w : World), d < m → d ≤ 40 → n ≤ c → Rd w w.heap.size A (n * 32) (u8v x) → (∀ i, x i < 256) → Rd w w.heap.size Z (m * 32) (u8v zrL) → n ≤ 4611686018427387904 → RefPkg w →
    Calls Tryd.prog 88 #[.slice A n c, .int .i64 (d : Int), .slice Z m cz] w fun e w' => e = .returned (rootV (treeN d n x)) ∧ Below w.heap.size w w' := by
  intro d
  induction d with
  | zero =>
    intro n c A x m cz Z w hdm _ hnc hb hx hz hn hp
    have HX := Lib.hid hb
    have HS0 := Lib.hid (HS.nil w)
    by_cases hn0 : n = 0
    · subst hn0
      obtain ⟨ad, hZ, _, _⟩ := hz (by omega)
      subst hZ
      have HZ := Lib.hid hz
      clear hb hx hz hp
      go_enter Tryd.func88, Tryd.ntmps88
      go_wp2_with (first
      | (refine wpList_allocL rfl 24 6 rfl rfl HS0.out (Array.replicate 32 (.int .u8 0)) (by kernel_rfl) 32 (u8v fun _ => 0) (by rfl) (zero_at 32 (.int .u8 0)) ?_; intro b6 w6 hb6 hc6 hs6; have HS6 := Lib.hid hs6; clear hs6)
      | (refine wpList_load_rd rfl 24 _ rfl 32 _ Tryd.underlying24 rfl (by kernel_rfl) (ad.add (0 * 32)) rfl (u8v (zrN 0)) (fun q hq => by rw [add_add]; exact ((HZ.out.below (HS6.out.out (by simp; omega))).cells (by omega)).trans (congrArg some (by simp only [u8v]; rw [zrL_at 0 q hq]))) ?_)
      | (refine wpList_storeH rfl 24 (.tmp 6) (.tmp 14) rfl HS6.out 0 rfl (u8v (zrN 0)) rfl rfl (by kernel_rfl) (fun _ _ => rfl) ?_; intro wy hs; have HY := Lib.hid hs; clear hs))
      exact ret_rowIs rfl (HY.out.row 0 rfl) _ rfl Tryd.underlying24 rfl (by kernel_rfl) rfl ⟨by rw [treeN_zero], HY.out.out (by simp; omega)⟩
    · obtain ⟨ad, hA, _, _⟩ := hb (by omega)
      subst hA
      clear hb hx hz hp
      go_enter Tryd.func88, Tryd.ntmps88
      go_wp2_with (first
      | (refine wpList_allocL rfl 24 6 rfl rfl HS0.out (Array.replicate 32 (.int .u8 0)) (by kernel_rfl) 32 (u8v fun _ => 0) (by rfl) (zero_at 32 (.int .u8 0)) ?_; intro b6 w6 hb6 hc6 hs6; have HS6 := Lib.hid hs6; clear hs6)
      | (refine wpList_load_rd rfl 24 _ rfl 32 _ Tryd.underlying24 rfl (by kernel_rfl) (ad.add (0)) rfl (u8v x) (fun q hq => by rw [add_add]; exact ((HX.out.below (HS6.out.out (by simp; omega))).cells (by omega)).trans (congrArg some (by rw [Nat.zero_add]))) ?_)
      | (refine wpList_storeH rfl 24 (.tmp 6) (.tmp 19) rfl HS6.out 0 rfl (u8v x) rfl rfl (by kernel_rfl) (fun _ _ => rfl) ?_; intro wy hs; have HY := Lib.hid hs; clear hs))
      exact ret_rowIs rfl (HY.out.row 0 rfl) _ rfl Tryd.underlying24 rfl (by kernel_rfl) rfl ⟨by rw [treeN_leaf n x hn0], HY.out.out (by simp; omega)⟩
  | succ d ih =>
    intro n c A x m cz Z w hdm hd40 hnc hb hx hz hn hp
    have HP := Lib.hid hp
    have HX := Lib.hid hb
    have HXl := Lib.hid hx
    have HZ := Lib.hid hz
    have HS0 := Lib.hid (HS.nil w)
    by_cases hn0 : n = 0
    · subst hn0
      obtain ⟨ad, hZ, _, _⟩ := hz (by omega)
      subst hZ
      clear hb hx hz hp ih
      go_enter Tryd.func88, Tryd.ntmps88
      go_wp2_with (first
      | (refine wpList_allocL rfl 24 6 rfl rfl HS0.out (Array.replicate 32 (.int .u8 0)) (by kernel_rfl) 32 (u8v fun _ => 0) (by rfl) (zero_at 32 (.int .u8 0)) ?_; intro b6 w6 hb6 hc6 hs6; have HS6 := Lib.hid hs6; clear hs6)
      | (refine wpList_load_rd rfl 24 _ rfl 32 _ Tryd.underlying24 rfl (by kernel_rfl) (ad.add ((d + 1) * 32)) rfl (u8v (zrN (d + 1))) (fun q hq => by rw [add_add]; exact ((HZ.out.below (HS6.out.out (by simp; omega))).cells (by omega)).trans (congrArg some (by simp only [u8v]; rw [zrL_at (d + 1) q hq]))) ?_)
      | (refine wpList_storeH rfl 24 (.tmp 6) (.tmp 14) rfl HS6.out 0 rfl (u8v (zrN (d + 1))) rfl rfl (by kernel_rfl) (fun _ _ => rfl) ?_; intro wy hs; have HY := Lib.hid hs; clear hs))
      exact ret_rowIs rfl (HY.out.row 0 rfl) _ rfl Tryd.underlying24 rfl (by kernel_rfl) rfl ⟨by rw [treeN_zero], HY.out.out (by simp; omega)⟩
    · obtain ⟨p, hp2⟩ : ∃ p, p = 2 ^ d := ⟨_, rfl⟩
      have HPw := Lib.hid hp2
      by_cases hpn : p ≤ n
      · have hmin : min (2 ^ d) n = p := by omega
        clear hb hx hz hp hp2
        go_enter Tryd.func88, Tryd.ntmps88
        have hh : p ≤ n := by omega
        obtain ⟨A2, hct⟩ := cut_fromZ (P := Tryd.prog) Tryd.underlying32 (z := 32) (by kernel_rfl) (by omega) A n c p hh hnc
        have HCt := Lib.hid hct
        clear hct
        go_wp2_with (first
          | (refine wpList_allocL rfl 24 6 rfl rfl HS0.out (Array.replicate 32 (.int .u8 0)) (by kernel_rfl) 32 (u8v fun _ => 0) (by rfl) (zero_at 32 (.int .u8 0)) ?_; intro b6 w6 hb6 hc6 hs6; have HS6 := Lib.hid hs6; clear hs6)
          | (refine wpList_as rfl 21 rfl (.int .i64 (d : Int)) ?_ ?_; (· exact ex_bin rfl rfl rfl rfl (fun w => subd d (by omega) w) _))
          | (refine wpList_as rfl 23 rfl (.int .i64 (p : Int)) ?_ ?_; (· rw [HPw.out]; exact ex_bin rfl rfl rfl rfl (fun w => TreeRef.shl1 d (by omega) w) _)))
        have HW6 := Lib.hid (HS6.out.out (by simp; omega))
        refine wp_region_factsS (l := [_, _, _, _, _, _, _, _, _, _, _, _, _, _, _]) (tl := []) (B := w6.heap.size) (w0 := w6) [SF.is (.slice (A) (n) (c)), SF.is (.int .i64 ((p : Nat) : Int)), SF.is (.slice (A) (p) (c)), SF.is (.int .i64 ((d + 1 : Nat) : Int)), SF.is (.int .i64 ((d : Nat) : Int)), SF.is (.slice (Z) (m) (cz)), SF.is (rootV (treeN d p x)), SF.is (.slice (A) (n) (c)), SF.is (.int .i64 ((p : Nat) : Int)), SF.is (.slice (A2) (n - p) (c - p)), SF.is (.int .i64 ((d + 1 : Nat) : Int)), SF.is (.int .i64 ((d : Nat) : Int)), SF.is (.slice (Z) (m) (cz)), SF.is (rootV (treeN d (n - p) (fun i => x (p * 32 + i)))), SF.is (rootV (shaB (catN 32 (treeN d p x) (treeN d (n - p) (fun i => x (p * 32 + i)))) 64))] (by kernel_rfl) (by kernel_rfl) rfl (Nat.le_refl _) (Below.refl _ _) ⟨?_, ?_, ?_, ?_, ?_, ?_, ?_, ?_, ?_, ?_, ?_, ?_, ?_, ?_, ?_, trivial⟩ ?_
        · exact (opOb_move _ rfl (.inl rfl) rfl)
        · exact (opOb_move _ rfl (.inl rfl) rfl)
        · exact opOb_slc rfl rfl (OpK.tmp rfl) OpKo.no (OpKo.tmp rfl) (fun w => cut_toZ (z := 32) Tryd.underlying32 (by kernel_rfl) A n c p (by omega) w)
        · exact (opOb_move _ rfl (.inl rfl) rfl)
        · exact opOb_bin rfl rfl rfl (OpK.tmp rfl) OpK.const (fun w => subd d (by omega) w)
        · exact (opOb_move _ rfl (.inl rfl) rfl)
        · exact opOb_fn3 ent_tree rfl rfl (OpK.tmp rfl) (OpK.tmp rfl) (OpK.tmp rfl) (fun w' hb => (ih p c A x m cz Z w' (by omega) (by omega) (by omega) (((HX.out.below (HW6.out.trans (hb.mono HW6.out.size))).more (Nat.le_trans HW6.out.size hb.size)).short (by omega)) (fun i => HXl.out _) ((HZ.out.below (HW6.out.trans (hb.mono HW6.out.size))).more (Nat.le_trans HW6.out.size hb.size)) (by omega) (HP.out.below (HW6.out.trans (hb.mono HW6.out.size)))).mono fun e w'' ⟨he, hb2⟩ => ⟨_, he, rfl, hb2⟩)
        · exact (opOb_move _ rfl (.inl rfl) rfl)
        · exact (opOb_move _ rfl (.inl rfl) rfl)
        · exact opOb_slc rfl rfl (OpK.tmp rfl) (OpKo.tmp rfl) OpKo.no (fun w => HCt.out.1 w)
        · exact (opOb_move _ rfl (.inl rfl) rfl)
        · exact opOb_bin rfl rfl rfl (OpK.tmp rfl) OpK.const (fun w => subd d (by omega) w)
        · exact (opOb_move _ rfl (.inl rfl) rfl)
        · exact opOb_fn3 ent_tree rfl rfl (OpK.tmp rfl) (OpK.tmp rfl) (OpK.tmp rfl) (fun w' hb => (ih (n - p) (c - p) A2 (fun i => x (p * 32 + i)) m cz Z w' (by omega) (by omega) (by omega) (HCt.out.2 w' _ (u8v x) ((HX.out.below (HW6.out.trans (hb.mono HW6.out.size))).more (Nat.le_trans HW6.out.size hb.size))) (fun i => HXl.out _) ((HZ.out.below (HW6.out.trans (hb.mono HW6.out.size))).more (Nat.le_trans HW6.out.size hb.size)) (by omega) (HP.out.below (HW6.out.trans (hb.mono HW6.out.size)))).mono fun e w'' ⟨he, hb2⟩ => ⟨_, he, rfl, hb2⟩)
        · exact opOb_fn2 ent_two rfl rfl (OpK.tmp rfl) (OpK.tmp rfl) (fun w' hb => (refTwo_any (treeN d p x) (treeN d (n - p) (fun i => x (p * 32 + i))) (treeN_lt HXl.out _ _) (treeN_lt (fun i => HXl.out _) _ _) w' (HP.out.below (HW6.out.trans (hb.mono HW6.out.size)))).mono fun e w'' ⟨he, hb2⟩ => ⟨_, he, rfl, hb2⟩)
        · intro w' hb
          simp only [fin, SF.is, forall_eq]
          simp only [Act.put, List.setIfInBounds_toArray, List.set_cons_succ, List.set_cons_zero]
          have hs := HS6.out.below hb
          refine wp_storeL 24 (.tmp 6) (.tmp 44) rfl hs 0 rfl (u8v (shaB (catN 32 (treeN d p x) (treeN d (n - p) (fun i => x (p * 32 + i)))) 64)) rfl rfl (by kernel_rfl) (fun _ _ => rfl) ?_
          clear hs hb
          intro wy hs
          have HY := Lib.hid hs
          clear hs
          simp only [seqWp]
          go_wp2_with fail
          exact ret_rowIs rfl (HY.out.row 0 rfl) _ rfl Tryd.underlying24 rfl (by kernel_rfl) rfl ⟨by rw [treeN_succ d n p x hn0 hmin], HY.out.out (by simp; omega)⟩
      · have hmin : min (2 ^ d) n = n := by omega
        clear hb hx hz hp hp2
        go_enter Tryd.func88, Tryd.ntmps88
        have hh : n ≤ n := by omega
        obtain ⟨A2, hct⟩ := cut_fromZ (P := Tryd.prog) Tryd.underlying32 (z := 32) (by kernel_rfl) (by omega) A n c n hh hnc
        have HCt := Lib.hid hct
        clear hct
        go_wp2_with (first
          | (refine wpList_allocL rfl 24 6 rfl rfl HS0.out (Array.replicate 32 (.int .u8 0)) (by kernel_rfl) 32 (u8v fun _ => 0) (by rfl) (zero_at 32 (.int .u8 0)) ?_; intro b6 w6 hb6 hc6 hs6; have HS6 := Lib.hid hs6; clear hs6)
          | (refine wpList_as rfl 21 rfl (.int .i64 (d : Int)) ?_ ?_; (· exact ex_bin rfl rfl rfl rfl (fun w => subd d (by omega) w) _))
          | (refine wpList_as rfl 23 rfl (.int .i64 (p : Int)) ?_ ?_; (· rw [HPw.out]; exact ex_bin rfl rfl rfl rfl (fun w => TreeRef.shl1 d (by omega) w) _)))
        have HW6 := Lib.hid (HS6.out.out (by simp; omega))
        refine wp_region_factsS (l := [_, _, _, _, _, _, _, _, _, _, _, _, _, _, _]) (tl := []) (B := w6.heap.size) (w0 := w6) [SF.is (.slice (A) (n) (c)), SF.is (.int .i64 ((n : Nat) : Int)), SF.is (.slice (A) (n) (c)), SF.is (.int .i64 ((d + 1 : Nat) : Int)), SF.is (.int .i64 ((d : Nat) : Int)), SF.is (.slice (Z) (m) (cz)), SF.is (rootV (treeN d n x)), SF.is (.slice (A) (n) (c)), SF.is (.int .i64 ((n : Nat) : Int)), SF.is (.slice (A2) (n - n) (c - n)), SF.is (.int .i64 ((d + 1 : Nat) : Int)), SF.is (.int .i64 ((d : Nat) : Int)), SF.is (.slice (Z) (m) (cz)), SF.is (rootV (treeN d (n - n) (fun i => x (n * 32 + i)))), SF.is (rootV (shaB (catN 32 (treeN d n x) (treeN d (n - n) (fun i => x (n * 32 + i)))) 64))] (by kernel_rfl) (by kernel_rfl) rfl (Nat.le_refl _) (Below.refl _ _) ⟨?_, ?_, ?_, ?_, ?_, ?_, ?_, ?_, ?_, ?_, ?_, ?_, ?_, ?_, ?_, trivial⟩ ?_
        · exact (opOb_move _ rfl (.inl rfl) rfl)
        · exact (opOb_move _ rfl (.inl rfl) rfl)
        · exact opOb_slc rfl rfl (OpK.tmp rfl) OpKo.no (OpKo.tmp rfl) (fun w => cut_toZ (z := 32) Tryd.underlying32 (by kernel_rfl) A n c n (by omega) w)
        · exact (opOb_move _ rfl (.inl rfl) rfl)
        · exact opOb_bin rfl rfl rfl (OpK.tmp rfl) OpK.const (fun w => subd d (by omega) w)
        · exact (opOb_move _ rfl (.inl rfl) rfl)
        · exact opOb_fn3 ent_tree rfl rfl (OpK.tmp rfl) (OpK.tmp rfl) (OpK.tmp rfl) (fun w' hb => (ih n c A x m cz Z w' (by omega) (by omega) (by omega) (((HX.out.below (HW6.out.trans (hb.mono HW6.out.size))).more (Nat.le_trans HW6.out.size hb.size)).short (by omega)) (fun i => HXl.out _) ((HZ.out.below (HW6.out.trans (hb.mono HW6.out.size))).more (Nat.le_trans HW6.out.size hb.size)) (by omega) (HP.out.below (HW6.out.trans (hb.mono HW6.out.size)))).mono fun e w'' ⟨he, hb2⟩ => ⟨_, he, rfl, hb2⟩)
        · exact (opOb_move _ rfl (.inl rfl) rfl)
        · exact (opOb_move _ rfl (.inl rfl) rfl)
        · exact opOb_slc rfl rfl (OpK.tmp rfl) (OpKo.tmp rfl) OpKo.no (fun w => HCt.out.1 w)
        · exact (opOb_move _ rfl (.inl rfl) rfl)
        · exact opOb_bin rfl rfl rfl (OpK.tmp rfl) OpK.const (fun w => subd d (by omega) w)
        · exact (opOb_move _ rfl (.inl rfl) rfl)
        · exact opOb_fn3 ent_tree rfl rfl (OpK.tmp rfl) (OpK.tmp rfl) (OpK.tmp rfl) (fun w' hb => (ih (n - n) (c - n) A2 (fun i => x (n * 32 + i)) m cz Z w' (by omega) (by omega) (by omega) (HCt.out.2 w' _ (u8v x) ((HX.out.below (HW6.out.trans (hb.mono HW6.out.size))).more (Nat.le_trans HW6.out.size hb.size))) (fun i => HXl.out _) ((HZ.out.below (HW6.out.trans (hb.mono HW6.out.size))).more (Nat.le_trans HW6.out.size hb.size)) (by omega) (HP.out.below (HW6.out.trans (hb.mono HW6.out.size)))).mono fun e w'' ⟨he, hb2⟩ => ⟨_, he, rfl, hb2⟩)
        · exact opOb_fn2 ent_two rfl rfl (OpK.tmp rfl) (OpK.tmp rfl) (fun w' hb => (refTwo_any (treeN d n x) (treeN d (n - n) (fun i => x (n * 32 + i))) (treeN_lt HXl.out _ _) (treeN_lt (fun i => HXl.out _) _ _) w' (HP.out.below (HW6.out.trans (hb.mono HW6.out.size)))).mono fun e w'' ⟨he, hb2⟩ => ⟨_, he, rfl, hb2⟩)
        · intro w' hb
          simp only [fin, SF.is, forall_eq]
          simp only [Act.put, List.setIfInBounds_toArray, List.set_cons_succ, List.set_cons_zero]
          have hs := HS6.out.below hb
          refine wp_storeL 24 (.tmp 6) (.tmp 44) rfl hs 0 rfl (u8v (shaB (catN 32 (treeN d n x) (treeN d (n - n) (fun i => x (n * 32 + i)))) 64)) rfl rfl (by kernel_rfl) (fun _ _ => rfl) ?_
          clear hs hb
          intro wy hs
          have HY := Lib.hid hs
          clear hs
          simp only [seqWp]
          go_wp2_with fail
          exact ret_rowIs rfl (HY.out.row 0 rfl) _ rfl Tryd.underlying24 rfl (by kernel_rfl) rfl ⟨by rw [treeN_succ d n n x hn0 hmin], HY.out.out (by simp; omega)⟩
end Go.Proofs.YtjhgndnpihnidaaDoor
/- A tree's root, level by level. -/
namespace Go.Proofs.YtjhgndnpihnidaaDoor
set_option maxRecDepth 40000
/-- The root of 2^d chunks. -/
def fullN : Nat → (Nat → Nat) → Nat → Nat
  | 0, x => x
  | d + 1, x => shaB (catN 32 (fullN d x) (fullN d (fun i => x (2 ^ d * 32 + i)))) 64
theorem full_succ (d : Nat) (x : Nat → Nat) : fullN (d + 1) x = shaB (catN 32 (fullN d x) (fullN d (fun i => x (2 ^ d * 32 + i)))) 64 := rfl
/-- The level above: two by two. -/
def lvl (x : Nat → Nat) : Nat → Nat := fun i => shaB (catN 32 (fun q => x (2 * (i / 32) * 32 + q)) (fun q => x ((2 * (i / 32) + 1) * 32 + q))) 64 (i % 32)
theorem two_congr {a b c d : Nat → Nat} (h1 : ∀ i, i < 32 → a i = c i) (h2 : ∀ i, i < 32 → b i = d i) : shaB (catN 32 a b) 64 = shaB (catN 32 c d) 64 := shaB_congr fun i hi => by
  unfold catN
  by_cases h : i < 32
  · rw [if_pos h, if_pos h, h1 i h]
  · rw [if_neg h, if_neg h, h2 _ (by omega)]
theorem fullN_congr : ∀ (d : Nat) (x y : Nat → Nat), (∀ i, i < 2 ^ d * 32 → x i = y i) → ∀ i, i < 32 → fullN d x i = fullN d y i := by
  intro d
  induction d with
  | zero => intro x y h i hi; exact h i (by simpa using hi)
  | succ d ih =>
    intro x y h i _
    have hp : 2 ^ (d + 1) = 2 * 2 ^ d := by rw [Nat.pow_succ]; omega
    rw [full_succ d x, full_succ d y]
    rw [two_congr (ih x y (fun i hi => h i (by omega))) (ih _ _ (fun i hi => h (2 ^ d * 32 + i) (by omega)))]
theorem fullN_lvl : ∀ (d : Nat) (x : Nat → Nat) (i : Nat), i < 32 → fullN (d + 1) x i = fullN d (lvl x) i := by
  intro d
  induction d with
  | zero =>
    intro x i hi
    have e : shaB (catN 32 x (fun i => x (2 ^ 0 * 32 + i))) 64 = shaB (catN 32 (fun q => x (2 * (i / 32) * 32 + q)) (fun q => x ((2 * (i / 32) + 1) * 32 + q))) 64 :=
      two_congr (fun q _ => congrArg x (by omega)) (fun q _ => congrArg x (by omega))
    exact (congrFun e i).trans (congrArg _ (show i = i % 32 by omega))
  | succ d ih =>
    intro x i hi
    rw [full_succ (d + 1) x, full_succ d (lvl x)]
    rw [two_congr (ih x) (ih (fun i => x (2 ^ (d + 1) * 32 + i)))]
    rw [two_congr (fun i _ => rfl) (fullN_congr d (lvl (fun i => x (2 ^ (d + 1) * 32 + i))) (fun i => lvl x (2 ^ d * 32 + i)) (fun j _ => by
      have hp : 2 ^ (d + 1) = 2 * 2 ^ d := by rw [Nat.pow_succ]; omega
      unfold lvl
      rw [show (2 ^ d * 32 + j) / 32 = 2 ^ d + j / 32 by omega, show (2 ^ d * 32 + j) % 32 = j % 32 by omega]
      rw [two_congr (c := fun q => x (2 * (2 ^ d + j / 32) * 32 + q)) (d := fun q => x ((2 * (2 ^ d + j / 32) + 1) * 32 + q)) (fun q _ => congrArg x (by rw [hp]; omega)) (fun q _ => congrArg x (by rw [hp]; omega))]))]
theorem zr_full : ∀ (d : Nat) (i : Nat), i < 32 → zrN d i = fullN d (fun _ => 0) i := by
  intro d
  induction d with
  | zero => intro i _; rfl
  | succ d ih => intro i _; rw [full_succ]; unfold zrN; rw [two_congr ih ih]
theorem tree_full : ∀ (d n : Nat) (x : Nat → Nat), n ≤ 2 ^ d → ∀ i, i < 32 → treeN d n x i = fullN d (padN (n * 32) x) i := by
  intro d
  induction d with
  | zero =>
    intro n x hn i hi
    unfold treeN fullN padN
    by_cases h : n = 0
    · subst h; rw [if_pos rfl, if_neg (by omega)]; rfl
    · rw [if_neg h, if_pos (by omega)]
  | succ d ih =>
    intro n x hn i hi
    have hp : 2 ^ (d + 1) = 2 * 2 ^ d := by rw [Nat.pow_succ]; omega
    by_cases h : n = 0
    · subst h
      rw [treeN_zero, zr_full _ i hi]
      refine fullN_congr _ _ _ (fun j _ => ?_) i hi
      unfold padN; rw [if_neg (by omega)]
    · obtain ⟨m, hm⟩ : ∃ m, min (2 ^ d) n = m := ⟨_, rfl⟩
      rw [treeN_succ d n m x h hm, full_succ]
      rw [two_congr (ih m x (by omega)) (ih (n - m) _ (by omega))]
      rw [two_congr (c := fullN d (padN (n * 32) x)) (d := fullN d (fun i => padN (n * 32) x (2 ^ d * 32 + i))) (fullN_congr d _ _ (fun j hj => ?_)) (fullN_congr d _ _ (fun j hj => ?_))]
      · unfold padN
        by_cases h1 : j < m * 32
        · rw [if_pos h1, if_pos (by omega)]
        · rw [if_neg h1, if_neg (by omega)]
      · unfold padN
        by_cases h1 : j < (n - m) * 32
        · rw [if_pos h1, if_pos (by omega), show m = 2 ^ d by omega]
        · rw [if_neg h1, if_neg (by omega)]
end Go.Proofs.YtjhgndnpihnidaaDoor
/- A tree, level by level: what each level holds; branches, and where they lead. -/
namespace Go.Proofs.YtjhgndnpihnidaaDoor
set_option maxRecDepth 40000
/-- Level d over these chunks. -/
def levN : Nat → (Nat → Nat) → Nat → Nat
  | 0, x => x
  | d + 1, x => levN d (lvl x)
theorem levN_succ : ∀ (d : Nat) (x : Nat → Nat), levN (d + 1) x = lvl (levN d x) := by
  intro d
  induction d with
  | zero => intro x; rfl
  | succ d ih => intro x; exact ih (lvl x)
theorem full_lev : ∀ (d : Nat) (x : Nat → Nat) (i : Nat), i < 32 → fullN d x i = levN d x i := by
  intro d
  induction d with
  | zero => intro x i _; rfl
  | succ d ih => intro x i hi; rw [fullN_lvl d x i hi]; exact ih (lvl x) i hi
theorem lvl_shift (x : Nat → Nat) (m i : Nat) : lvl (fun j => x (2 * m * 32 + j)) i = lvl x (m * 32 + i) := by
  unfold lvl
  rw [show (m * 32 + i) / 32 = m + i / 32 by omega, show (m * 32 + i) % 32 = i % 32 by omega]
  rw [two_congr (c := fun q => x (2 * (m + i / 32) * 32 + q)) (d := fun q => x ((2 * (m + i / 32) + 1) * 32 + q)) (fun q _ => congrArg x (by omega)) (fun q _ => congrArg x (by omega))]
theorem full_lev_at : ∀ (d k : Nat) (x : Nat → Nat) (q : Nat), q < 32 → fullN d (fun i => x (k * 2 ^ d * 32 + i)) q = levN d x (k * 32 + q) := by
  intro d
  induction d with
  | zero => intro k x q _; exact congrArg x (by simp)
  | succ d ih =>
    intro k x q hq
    rw [fullN_lvl d _ q hq, levN, ← ih k (lvl x) q hq]
    refine fullN_congr d _ _ (fun i _ => ?_) q hq
    have hp : k * 2 ^ (d + 1) = 2 * (k * 2 ^ d) := by rw [Nat.pow_succ]; rw [Nat.mul_comm 2, Nat.mul_assoc]
    rw [hp]
    exact lvl_shift x (k * 2 ^ d) i
/-- Where no chunks are any more, a level holds the zero root. -/
theorem lev_zero (d k n : Nat) (x : Nat → Nat) (h : n ≤ k * 2 ^ d) (q : Nat) (hq : q < 32) : levN d (padN (n * 32) x) (k * 32 + q) = zrN d q := by
  rw [← full_lev_at d k _ q hq, zr_full d q hq]
  refine fullN_congr d _ _ (fun i _ => ?_) q hq
  unfold padN
  have := Nat.mul_le_mul_right 32 h
  rw [if_neg (by omega)]
/-- How many chunks a level has. -/
def cnt : Nat → Nat → Nat
  | 0, n => n
  | d + 1, n => (cnt d n + 1) / 2
theorem cnt_ge : ∀ (d n : Nat), n ≤ cnt d n * 2 ^ d := by
  intro d
  induction d with
  | zero => intro n; simp [cnt]
  | succ d ih =>
    intro n
    have h := ih n
    have h2 : cnt d n ≤ 2 * ((cnt d n + 1) / 2) := by omega
    have h3 := Nat.mul_le_mul_right (2 ^ d) h2
    rw [cnt, Nat.pow_succ]
    have e : (cnt d n + 1) / 2 * (2 ^ d * 2) = 2 * ((cnt d n + 1) / 2) * 2 ^ d := by rw [Nat.mul_comm (2 ^ d) 2, ← Nat.mul_assoc, Nat.mul_comm _ 2]
    rw [e]; omega
theorem cnt_lt : ∀ (d n : Nat), cnt d n * 2 ^ d < n + 2 ^ d := by
  intro d
  induction d with
  | zero => intro n; simp [cnt]
  | succ d ih =>
    intro n
    have h := ih n
    have h2 : 2 * ((cnt d n + 1) / 2) ≤ cnt d n + 1 := by omega
    have h3 := Nat.mul_le_mul_right (2 ^ d) h2
    rw [cnt, Nat.pow_succ]
    have e : (cnt d n + 1) / 2 * (2 ^ d * 2) = 2 * ((cnt d n + 1) / 2) * 2 ^ d := by rw [Nat.mul_comm (2 ^ d) 2, ← Nat.mul_assoc, Nat.mul_comm _ 2]
    rw [Nat.add_mul] at h3
    rw [e]; omega
theorem cnt_pos : ∀ (d n : Nat), 1 ≤ n → 1 ≤ cnt d n := by
  intro d
  induction d with
  | zero => intro n h; exact h
  | succ d ih => intro n h; have := ih n h; rw [cnt]; omega
theorem cnt_one (d n : Nat) (h1 : 1 ≤ n) (h : n ≤ 2 ^ d) : cnt d n = 1 := by
  have h2 := cnt_lt d n
  have h3 := cnt_pos d n h1
  have h4 : cnt d n < 2 := by
    rcases Nat.lt_or_ge (cnt d n) 2 with h5 | h5
    · exact h5
    · have := Nat.mul_le_mul_right (2 ^ d) h5; omega
  omega
theorem cnt_le : ∀ (d n : Nat), cnt d n ≤ n := by
  intro d
  induction d with
  | zero => intro n; exact Nat.le_refl _
  | succ d ih => intro n; have := ih n; rw [cnt]; omega
theorem lvl_congr {x y : Nat → Nat} {M : Nat} (h : ∀ i, i < 2 * M * 32 → x i = y i) : ∀ i, i < M * 32 → lvl x i = lvl y i := fun i hi => by
  unfold lvl
  rw [two_congr (fun q hq => h _ (by omega)) (fun q hq => h _ (by omega))]
/-- A level, of which what is missing is filled up, makes the next one. -/
theorem up_lev (d n : Nat) (x c : Nat → Nat) (hc : ∀ i, i < cnt d n * 32 → c i = levN d (padN (n * 32) x) i) : ∀ i, i < cnt (d + 1) n * 32 → lvl (catN (cnt d n * 32) c (zrN d)) i = levN (d + 1) (padN (n * 32) x) i := fun i hi => by
  rw [levN_succ]
  refine lvl_congr (M := cnt (d + 1) n) (fun j hj => ?_) i hi
  have hcs : cnt (d + 1) n = (cnt d n + 1) / 2 := rfl
  unfold catN
  by_cases h : j < cnt d n * 32
  · rw [if_pos h]; exact hc j h
  · rw [if_neg h]
    have := lev_zero d (cnt d n) n x (cnt_ge d n) (j - cnt d n * 32) (by omega)
    rw [← this]
    exact congrArg _ (by omega)
/-- What the branch of chunk i holds at depth d: its neighbour there. -/
def brN (n : Nat) (x : Nat → Nat) (i : Nat) : Nat → Nat := fun j => levN (j / 32) (padN (n * 32) x) ((i / 2 ^ (j / 32) ^^^ 1) * 32 + j % 32)
theorem brN_at (n : Nat) (x : Nat → Nat) (i d q : Nat) (hq : q < 32) : brN n x i (d * 32 + q) = levN d (padN (n * 32) x) ((i / 2 ^ d ^^^ 1) * 32 + q) := by
  unfold brN
  rw [show (d * 32 + q) / 32 = d by omega, show (d * 32 + q) % 32 = q by omega]
/-- What comes out of a leaf and the first k of a branch. -/
def upN (leaf b : Nat → Nat) (p : Nat) : Nat → Nat → Nat
  | 0 => leaf
  | k + 1 => if p / 2 ^ k % 2 = 1 then shaB (catN 32 (fun q => b (k * 32 + q)) (upN leaf b p k)) 64 else shaB (catN 32 (upN leaf b p k) (fun q => b (k * 32 + q))) 64
theorem upN_lt {leaf b : Nat → Nat} (hl : ∀ i, leaf i < 256) (p : Nat) : ∀ k i, upN leaf b p k i < 256 := by
  intro k i
  cases k with
  | zero => exact hl i
  | succ k => unfold upN; split <;> exact shaB_lt _ _ _
theorem xor_one (m : Nat) : m ^^^ 1 = if m % 2 = 1 then m - 1 else m + 1 := by
  have h := Nat.div_add_mod m 2
  apply Nat.eq_of_testBit_eq
  intro j
  rw [Nat.testBit_xor]
  cases j with
  | zero =>
    simp only [Nat.testBit_zero]
    split
    · rename_i h1
      have : (m - 1) % 2 = 0 := by omega
      simp [h1, this]
    · rename_i h1
      have h0 : m % 2 = 0 := by omega
      have : (m + 1) % 2 = 1 := by omega
      simp [h0, this]
  | succ j =>
    rw [Nat.testBit_succ, Nat.testBit_succ, Nat.testBit_succ]
    have h1 : (1 : Nat) / 2 = 0 := rfl
    rw [h1, Nat.zero_testBit, Bool.xor_false]
    congr 1
    split <;> omega
/-- The branch of a chunk leads to the root. -/
theorem up_branch (n : Nat) (x : Nat → Nat) (i : Nat) (leaf : Nat → Nat) (hl : ∀ q, q < 32 → leaf q = padN (n * 32) x (i * 32 + q)) : ∀ (k q : Nat), q < 32 → upN leaf (brN n x i) i k q = levN k (padN (n * 32) x) (i / 2 ^ k * 32 + q) := by
  intro k
  induction k with
  | zero => intro q hq; simpa [upN, levN] using hl q hq
  | succ k ih =>
    intro q hq
    rw [levN_succ, Nat.pow_succ, ← Nat.div_div_eq_div_mul]
    obtain ⟨m, hm⟩ : ∃ m, m = i / 2 ^ k := ⟨_, rfl⟩
    rw [← hm] at ih ⊢
    have hb : ∀ q, q < 32 → brN n x i (k * 32 + q) = levN k (padN (n * 32) x) ((m ^^^ 1) * 32 + q) := fun q hq => by rw [brN_at n x i k q hq, ← hm]
    rw [xor_one] at hb
    unfold upN lvl
    rw [← hm, show (m / 2 * 32 + q) / 32 = m / 2 by omega, show (m / 2 * 32 + q) % 32 = q by omega]
    by_cases h : m % 2 = 1
    · rw [if_pos h]
      rw [if_pos h] at hb
      rw [two_congr (c := fun q => levN k (padN (n * 32) x) (2 * (m / 2) * 32 + q)) (d := fun q => levN k (padN (n * 32) x) ((2 * (m / 2) + 1) * 32 + q)) (fun q hq => (hb q hq).trans (congrArg _ (by omega))) (fun q hq => (ih q hq).trans (congrArg _ (by omega)))]
    · rw [if_neg h]
      rw [if_neg h] at hb
      rw [two_congr (c := fun q => levN k (padN (n * 32) x) (2 * (m / 2) * 32 + q)) (d := fun q => levN k (padN (n * 32) x) ((2 * (m / 2) + 1) * 32 + q)) (fun q hq => (ih q hq).trans (congrArg _ (by omega))) (fun q hq => (hb q hq).trans (congrArg _ (by omega)))]
/-- The root is the one chunk of the highest level. -/
theorem tree_lev (d n : Nat) (x : Nat → Nat) (hn : n ≤ 2 ^ d) (q : Nat) (hq : q < 32) : treeN d n x q = levN d (padN (n * 32) x) q := by
  rw [tree_full d n x hn q hq, full_lev d _ q hq]
/-- A part of the chunks as a tree of its own: one chunk of a level. -/
theorem part_lev (d k n a b : Nat) (x : Nat → Nat) (ha : a = min (k * 2 ^ d) n) (hb : b = min (k * 2 ^ d + 2 ^ d) n) : ∀ q, q < 32 → treeN d (b - a) (fun i => x (a * 32 + i)) q = levN d (padN (n * 32) x) (k * 32 + q) := fun q hq => by
  obtain ⟨p, hp⟩ : ∃ p, p = 2 ^ d := ⟨_, rfl⟩
  obtain ⟨kp, hkp⟩ : ∃ kp, kp = k * 2 ^ d := ⟨_, rfl⟩
  rw [← hkp] at ha hb
  rw [← hp] at hb
  rw [tree_full d (b - a) _ (by rw [← hp]; omega) q hq, ← full_lev_at d k _ q hq, ← hkp]
  refine fullN_congr d _ _ (fun i hi => ?_) q hq
  rw [← hp] at hi
  unfold padN
  by_cases h : i < (b - a) * 32
  · rw [if_pos h, if_pos (by omega)]; exact congrArg x (by omega)
  · rw [if_neg h, if_neg (by omega)]
end Go.Proofs.YtjhgndnpihnidaaDoor
