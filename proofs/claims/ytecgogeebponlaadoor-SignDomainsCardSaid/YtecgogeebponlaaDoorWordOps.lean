/- Operations on words of 32 bits and on indices, in a region shown operation by operation. -/
import Derived.Test.YtecgogeebponlaaDoorShaPlain
namespace Go.Proofs.YtecgogeebponlaaDoor
set_option maxRecDepth 40000
open Go.RowKit

/-- What an operand is known to be. -/
def OpK (lk : Tmp → SF) (x : Operand) (v : Value) : Prop := (∃ i, x = .tmp i ∧ lk i = SF.is v) ∨ x = .const v ∨ ∃ g, x = .global g ∧ v = .pointer (some ⟨g, 0, none⟩)
section
variable {P : Program} {ops : Array Oper} {B : Nat} {w0 : World} {o : Oper} {lk : Tmp → SF} {ty rt : TypeId}
theorem OpK.tmp {i : Tmp} {v : Value} (h : lk i = SF.is v) : OpK lk (.tmp i) v := .inl ⟨i, rfl, h⟩
theorem OpK.const {v : Value} : OpK lk (.const v) v := .inr (.inl rfl)
theorem OpK.glob {g : Nat} : OpK lk (.global g) (.pointer (some ⟨g, 0, none⟩)) := .inr (.inr ⟨g, rfl, rfl⟩)
theorem OpK.eval {a : Act} {w : World} {x : Operand} {v : Value} (hk : OpK lk x v) (hf : Opd lk o a w) (hm : x ∈ o.op.operands) : a.eval x = v := by
  rcases hk with ⟨i, rfl, hi⟩ | rfl | ⟨g, rfl, rfl⟩
  · have h := hf i (List.mem_filterMap.2 ⟨.tmp i, by simpa using hm, rfl⟩)
    rw [hi] at h
    exact (getD_eq _ _).trans h
  · rfl
  · rfl
theorem opOb_bin {b : BinOp} {x y v : Value} {xo yo : Operand} (hne : (b matches .eql | .neq) = false) (hg : o.guard = none) (hop : o.op = .binOp b ty xo yo rt) (hx : OpK lk xo x) (hy : OpK lk yo y)
    (hr : ∀ w, (binOp b ty x y).run P w = .ok v w) : opOb P ops B w0 o (SF.is v) lk :=
  opOb_val v hg fun a w _ hf => by
    have h1 := hx.eval hf (by rw [hop]; simp [Op.operands])
    have h2 := hy.eval hf (by rw [hop]; simp [Op.operands])
    unfold execOp
    rw [hop]
    simp only [h1, h2]
    cases b <;> simp at hne <;> simp [eqGuard, hr]
theorem opOb_add (x y : W32) {xo yo : Operand} (hg : o.guard = none) (hop : o.op = .binOp .add ty xo yo rt) (hx : OpK lk xo (wv x)) (hy : OpK lk yo (wv y)) : opOb P ops B w0 o (SF.is (wv (x + y))) lk :=
  opOb_bin rfl hg hop hx hy fun w => by simp only [wv]; rw [← u32_wrap_add]; simp [go_sem]
theorem opOb_xor (x y : W32) {xo yo : Operand} (hg : o.guard = none) (hop : o.op = .binOp .xor ty xo yo rt) (hx : OpK lk xo (wv x)) (hy : OpK lk yo (wv y)) : opOb P ops B w0 o (SF.is (wv (x ^^^ y))) lk :=
  opOb_bin rfl hg hop hx hy fun w => by simp only [wv]; rw [← u32_xor]; simp [go_sem]
theorem opOb_and (x y : W32) {xo yo : Operand} (hg : o.guard = none) (hop : o.op = .binOp .and ty xo yo rt) (hx : OpK lk xo (wv x)) (hy : OpK lk yo (wv y)) : opOb P ops B w0 o (SF.is (wv (x &&& y))) lk :=
  opOb_bin rfl hg hop hx hy fun w => by simp only [wv]; rw [← u32_and]; simp [go_sem]
theorem opOb_or (x y : W32) {xo yo : Operand} (hg : o.guard = none) (hop : o.op = .binOp .or ty xo yo rt) (hx : OpK lk xo (wv x)) (hy : OpK lk yo (wv y)) : opOb P ops B w0 o (SF.is (wv (x ||| y))) lk :=
  opOb_bin rfl hg hop hx hy fun w => by simp only [wv]; rw [← u32_or]; simp [go_sem]
theorem opOb_shl (x : W32) (k : Nat) (hk : k < 32) {xo : Operand} (hg : o.guard = none) (hop : o.op = .binOp .shl ty xo (.const (.int .u64 (k : Int))) rt) (hx : OpK lk xo (wv x)) : opOb P ops B w0 o (SF.is (wv (x <<< k))) lk :=
  opOb_bin rfl hg hop hx OpK.const fun w => by simp only [wv]; rw [← u32_shl]; simp [go_sem, IntKind.wrap_u32]
theorem opOb_shr (x : W32) (k : Nat) (hk : k < 32) {xo : Operand} (hg : o.guard = none) (hop : o.op = .binOp .shr ty xo (.const (.int .u64 (k : Int))) rt) (hx : OpK lk xo (wv x)) : opOb P ops B w0 o (SF.is (wv (x >>> k))) lk :=
  opOb_bin rfl hg hop hx OpK.const fun w => by simp only [wv]; rw [← u32_shr]; simp [go_sem]
theorem opOb_iadd (a c : Int) {xo yo : Operand} (hb : -9223372036854775808 ≤ a + c ∧ a + c ≤ 9223372036854775807) (hg : o.guard = none) (hop : o.op = .binOp .add ty xo yo rt) (hx : OpK lk xo (.int .i64 a)) (hy : OpK lk yo (.int .i64 c)) : opOb P ops B w0 o (SF.is (.int .i64 (a + c))) lk :=
  opOb_bin rfl hg hop hx hy fun w => by rw [← IntWalk.i64_in _ hb]; simp [go_sem]
theorem opOb_isub (a c : Int) {xo yo : Operand} (hb : -9223372036854775808 ≤ a - c ∧ a - c ≤ 9223372036854775807) (hg : o.guard = none) (hop : o.op = .binOp .sub ty xo yo rt) (hx : OpK lk xo (.int .i64 a)) (hy : OpK lk yo (.int .i64 c)) : opOb P ops B w0 o (SF.is (.int .i64 (a - c))) lk :=
  opOb_bin rfl hg hop hx hy fun w => by rw [← IntWalk.i64_in _ hb]; simp [go_sem]
theorem opOb_imul (a c : Int) {xo yo : Operand} (hb : -9223372036854775808 ≤ a * c ∧ a * c ≤ 9223372036854775807) (hg : o.guard = none) (hop : o.op = .binOp .mul ty xo yo rt) (hx : OpK lk xo (.int .i64 a)) (hy : OpK lk yo (.int .i64 c)) : opOb P ops B w0 o (SF.is (.int .i64 (a * c))) lk :=
  opOb_bin rfl hg hop hx hy fun w => by rw [← IntWalk.i64_in _ hb]; simp [go_sem]
theorem i64_and_low (a p : Nat) (ha : a < 9223372036854775808) (hp : p ≤ 62) : bits .and .i64 (a : Int) ((2 ^ p - 1 : Nat) : Int) = ((a % 2 ^ p : Nat) : Int) := by
  have hpp : 2 ^ p ≤ 2 ^ 62 := Nat.pow_le_pow_right (by omega) hp
  have h0 : ∀ b : Nat, b < 9223372036854775808 → (BitVec.ofInt 64 (b : Int)).toNat = b := fun b hb => by
    rw [BitVec.ofInt_natCast, BitVec.toNat_ofNat]; exact Nat.mod_eq_of_lt (by omega)
  show IntKind.i64.wrap ((BitVec.ofInt 64 (a : Int) &&& BitVec.ofInt 64 ((2 ^ p - 1 : Nat) : Int)).toNat : Int) = _
  rw [BitVec.toNat_and, h0 a ha, h0 _ (by omega), Nat.and_two_pow_sub_one_eq_mod]
  have h1 : a % 2 ^ p ≤ a := Nat.mod_le _ _
  rw [IntKind.wrap_i64]; omega
theorem opOb_iand (a p : Nat) (ha : a < 9223372036854775808) (hp : p ≤ 62) {xo : Operand} {m : Int} (hm : m = ((2 ^ p - 1 : Nat) : Int)) (hg : o.guard = none) (hop : o.op = .binOp .and ty xo (.const (.int .i64 m)) rt) (hx : OpK lk xo (.int .i64 (a : Int))) : opOb P ops B w0 o (SF.is (.int .i64 ((a % 2 ^ p : Nat) : Int))) lk :=
  opOb_bin rfl hg hop hx OpK.const fun w => by rw [← i64_and_low a p ha hp, ← hm]; simp [go_sem]
theorem opOb_nadd (a c : Nat) {xo yo : Operand} (hb : a + c ≤ 9223372036854775807) (hg : o.guard = none) (hop : o.op = .binOp .add ty xo yo rt) (hx : OpK lk xo (.int .i64 (a : Int))) (hy : OpK lk yo (.int .i64 (c : Int))) : opOb P ops B w0 o (SF.is (.int .i64 ((a + c : Nat) : Int))) lk := by
  rw [Int.natCast_add]; exact opOb_iadd a c (by omega) hg hop hx hy
theorem opOb_nmul (a c : Nat) {xo yo : Operand} (hb : a * c ≤ 9223372036854775807) (hg : o.guard = none) (hop : o.op = .binOp .mul ty xo yo rt) (hx : OpK lk xo (.int .i64 (a : Int))) (hy : OpK lk yo (.int .i64 (c : Int))) : opOb P ops B w0 o (SF.is (.int .i64 ((a * c : Nat) : Int))) lk := by
  rw [Int.natCast_mul]; refine opOb_imul a c ?_ hg hop hx hy
  rw [← Int.natCast_mul]; omega
/-- A byte as a word. -/
theorem opOb_wide (b : Nat) (hb : b < 256) {xo : Operand} {t8 t32 : TypeId} (h8 : P.underlying t8 = some (.int .u8)) (h32 : P.underlying t32 = some (.int .u32)) (hg : o.guard = none) (hop : o.op = .convert t8 t32 xo) (hx : OpK lk xo (.int .u8 (b : Int))) : opOb P ops B w0 o (SF.is (wv (BitVec.ofNat 32 b))) lk :=
  opOb_val _ hg fun a w _ hf => by
    have h1 := hx.eval hf (by rw [hop]; simp [Op.operands])
    have e : (b : Int) = (((BitVec.ofNat 32 b : W32).toNat : Nat) : Int) := by rw [BitVec.toNat_ofNat]; omega
    unfold execOp
    rw [hop]
    simp only [h1, wv]
    rw [← e]
    have h2 : IntKind.u32.wrap (b : Int) = b := by rw [IntKind.wrap_u32]; omega
    simp [go_sem, h8, h32, h2]
theorem opOb_nil (a : Addr) {xo : Operand} (hg : o.guard = none) (hop : o.op = .nilCheck xo) (hx : OpK lk xo (.pointer (some a))) : opOb P ops B w0 o (SF.is (.pointer (some a))) lk :=
  opOb_val _ hg fun a w _ hf => by
    have h1 := hx.eval hf (by rw [hop]; simp [Op.operands])
    unfold execOp
    rw [hop]
    simp only [h1]
    rfl
theorem opOb_idx {x i v : Value} {xo io : Operand} (hg : o.guard = none) (hop : o.op = .indexAddr ty xo io) (hx : OpK lk xo x) (hi : OpK lk io i) (hr : ∀ w, (Instr.indexAt ty x i).run P w = .ok v w) : opOb P ops B w0 o (SF.is v) lk :=
  opOb_val _ hg fun a w _ hf => by
    have h1 := hx.eval hf (by rw [hop]; simp [Op.operands])
    have h2 := hi.eval hf (by rw [hop]; simp [Op.operands])
    unfold execOp
    rw [hop]
    simp only [h1, h2]
    simp [hr w]
theorem opOb_ld {p v : Value} {xo : Operand} (hg : o.guard = none) (hop : o.op = .load ty xo) (hx : OpK lk xo p) (hr : ∀ w, Below B w0 w → (Instr.loadAt ty p).run P w = .ok v w) : opOb P ops B w0 o (SF.is v) lk :=
  opOb_val _ hg fun a w hb hf => by
    have h1 := hx.eval hf (by rw [hop]; simp [Op.operands])
    unfold execOp
    rw [hop]
    simp only [h1]
    simp [hr w hb]
theorem wp_store {a : Act} {w : World} {K : Act → World → Prop} {Q : Exit → Act → World → Prop} {p x : Operand} {ad : Addr} {v : Value} (hop : o.op = .store ty p x) (hd : o.dst = none) (hp : a.eval p = .pointer (some ad)) (hx : a.eval x = v)
    (hr : (Instr.storeAt ty (.pointer (some ad)) v).run P w = .ok () (w.setCell ad v)) (h : K a (w.setCell ad v)) : o.wp P a w K Q := by
  unfold Oper.wp execOp
  rw [hop]
  simp only [hp, hx]
  rw [Sem.run_bind, hr]
  simp only [Result.andThen_ok, Sem.run_pure, Oper.upon, hd, Act.put]
  exact h
end

theorem cell_lt0 {w : World} {a : Addr} {v : Value} (h : w.cell? a = some v) : a.block < w.heap.size := by
  rcases Nat.lt_or_ge a.block w.heap.size with hl | hl
  · exact hl
  · exfalso
    unfold World.cell? at h
    rw [Array.getElem?_eq_none hl] at h
    simp at h
end Go.Proofs.YtecgogeebponlaaDoor
