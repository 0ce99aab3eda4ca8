/- A part of what the proofs stand on: ShaWalks, WordOps, ShaIdx, ShaMix. -/
import Derived.Test.YtlcpflaofggmeaaDoorGTre3
import Derived.Deep.DeepCutAuto
import Derived.Deep.Light
/- The walks of package sha. -/
namespace Go.Proofs.YtlcpflaofggmeaaDoor
set_option maxRecDepth 40000
open Go.RowKit

set_option maxHeartbeats 400000 in
theorem turn_2 (x : W32) (w : World) : Calls Tryd.prog 42 #[wv x, .int .i64 2] w fun e w' => e = .returned (wv (rotr x 2)) ∧ w = w' := by
  have hs : bits BinOp.and IntKind.u64 (IntKind.u64.wrap (-2)) 31 = 30 := by decide
  have h1 := Lib.hid (show (x.toNat : Int) * (1073741824 : Int) % (4294967296 : Int) = (((x <<< 30).toNat : Nat) : Int) from u32_shl x 30)
  have h2 := Lib.hid (show (x.toNat : Int) / (4 : Int) = (((x >>> 2).toNat : Nat) : Int) from u32_shr x 2)
  have h3 := Lib.hid (u32_or (x <<< 30) (x >>> 2))
  go_enter Tryd.func42, Tryd.ntmps42
  go_wp2
  go_ret
  exact ⟨ret_int (by rw [h1.out, h2.out, h3.out, BitVec.or_comm]; rfl), rfl⟩

set_option maxHeartbeats 400000 in
theorem turn_6 (x : W32) (w : World) : Calls Tryd.prog 42 #[wv x, .int .i64 6] w fun e w' => e = .returned (wv (rotr x 6)) ∧ w = w' := by
  have hs : bits BinOp.and IntKind.u64 (IntKind.u64.wrap (-6)) 31 = 26 := by decide
  have h1 := Lib.hid (show (x.toNat : Int) * (67108864 : Int) % (4294967296 : Int) = (((x <<< 26).toNat : Nat) : Int) from u32_shl x 26)
  have h2 := Lib.hid (show (x.toNat : Int) / (64 : Int) = (((x >>> 6).toNat : Nat) : Int) from u32_shr x 6)
  have h3 := Lib.hid (u32_or (x <<< 26) (x >>> 6))
  go_enter Tryd.func42, Tryd.ntmps42
  go_wp2
  go_ret
  exact ⟨ret_int (by rw [h1.out, h2.out, h3.out, BitVec.or_comm]; rfl), rfl⟩

set_option maxHeartbeats 400000 in
theorem turn_7 (x : W32) (w : World) : Calls Tryd.prog 42 #[wv x, .int .i64 7] w fun e w' => e = .returned (wv (rotr x 7)) ∧ w = w' := by
  have hs : bits BinOp.and IntKind.u64 (IntKind.u64.wrap (-7)) 31 = 25 := by decide
  have h1 := Lib.hid (show (x.toNat : Int) * (33554432 : Int) % (4294967296 : Int) = (((x <<< 25).toNat : Nat) : Int) from u32_shl x 25)
  have h2 := Lib.hid (show (x.toNat : Int) / (128 : Int) = (((x >>> 7).toNat : Nat) : Int) from u32_shr x 7)
  have h3 := Lib.hid (u32_or (x <<< 25) (x >>> 7))
  go_enter Tryd.func42, Tryd.ntmps42
  go_wp2
  go_ret
  exact ⟨ret_int (by rw [h1.out, h2.out, h3.out, BitVec.or_comm]; rfl), rfl⟩

set_option maxHeartbeats 400000 in
theorem turn_11 (x : W32) (w : World) : Calls Tryd.prog 42 #[wv x, .int .i64 11] w fun e w' => e = .returned (wv (rotr x 11)) ∧ w = w' := by
  have hs : bits BinOp.and IntKind.u64 (IntKind.u64.wrap (-11)) 31 = 21 := by decide
  have h1 := Lib.hid (show (x.toNat : Int) * (2097152 : Int) % (4294967296 : Int) = (((x <<< 21).toNat : Nat) : Int) from u32_shl x 21)
  have h2 := Lib.hid (show (x.toNat : Int) / (2048 : Int) = (((x >>> 11).toNat : Nat) : Int) from u32_shr x 11)
  have h3 := Lib.hid (u32_or (x <<< 21) (x >>> 11))
  go_enter Tryd.func42, Tryd.ntmps42
  go_wp2
  go_ret
  exact ⟨ret_int (by rw [h1.out, h2.out, h3.out, BitVec.or_comm]; rfl), rfl⟩

set_option maxHeartbeats 400000 in
theorem turn_13 (x : W32) (w : World) : Calls Tryd.prog 42 #[wv x, .int .i64 13] w fun e w' => e = .returned (wv (rotr x 13)) ∧ w = w' := by
  have hs : bits BinOp.and IntKind.u64 (IntKind.u64.wrap (-13)) 31 = 19 := by decide
  have h1 := Lib.hid (show (x.toNat : Int) * (524288 : Int) % (4294967296 : Int) = (((x <<< 19).toNat : Nat) : Int) from u32_shl x 19)
  have h2 := Lib.hid (show (x.toNat : Int) / (8192 : Int) = (((x >>> 13).toNat : Nat) : Int) from u32_shr x 13)
  have h3 := Lib.hid (u32_or (x <<< 19) (x >>> 13))
  go_enter Tryd.func42, Tryd.ntmps42
  go_wp2
  go_ret
  exact ⟨ret_int (by rw [h1.out, h2.out, h3.out, BitVec.or_comm]; rfl), rfl⟩

set_option maxHeartbeats 400000 in
theorem turn_17 (x : W32) (w : World) : Calls Tryd.prog 42 #[wv x, .int .i64 17] w fun e w' => e = .returned (wv (rotr x 17)) ∧ w = w' := by
  have hs : bits BinOp.and IntKind.u64 (IntKind.u64.wrap (-17)) 31 = 15 := by decide
  have h1 := Lib.hid (show (x.toNat : Int) * (32768 : Int) % (4294967296 : Int) = (((x <<< 15).toNat : Nat) : Int) from u32_shl x 15)
  have h2 := Lib.hid (show (x.toNat : Int) / (131072 : Int) = (((x >>> 17).toNat : Nat) : Int) from u32_shr x 17)
  have h3 := Lib.hid (u32_or (x <<< 15) (x >>> 17))
  go_enter Tryd.func42, Tryd.ntmps42
  go_wp2
  go_ret
  exact ⟨ret_int (by rw [h1.out, h2.out, h3.out, BitVec.or_comm]; rfl), rfl⟩

set_option maxHeartbeats 400000 in
theorem turn_18 (x : W32) (w : World) : Calls Tryd.prog 42 #[wv x, .int .i64 18] w fun e w' => e = .returned (wv (rotr x 18)) ∧ w = w' := by
  have hs : bits BinOp.and IntKind.u64 (IntKind.u64.wrap (-18)) 31 = 14 := by decide
  have h1 := Lib.hid (show (x.toNat : Int) * (16384 : Int) % (4294967296 : Int) = (((x <<< 14).toNat : Nat) : Int) from u32_shl x 14)
  have h2 := Lib.hid (show (x.toNat : Int) / (262144 : Int) = (((x >>> 18).toNat : Nat) : Int) from u32_shr x 18)
  have h3 := Lib.hid (u32_or (x <<< 14) (x >>> 18))
  go_enter Tryd.func42, Tryd.ntmps42
  go_wp2
  go_ret
  exact ⟨ret_int (by rw [h1.out, h2.out, h3.out, BitVec.or_comm]; rfl), rfl⟩

set_option maxHeartbeats 400000 in
theorem turn_19 (x : W32) (w : World) : Calls Tryd.prog 42 #[wv x, .int .i64 19] w fun e w' => e = .returned (wv (rotr x 19)) ∧ w = w' := by
  have hs : bits BinOp.and IntKind.u64 (IntKind.u64.wrap (-19)) 31 = 13 := by decide
  have h1 := Lib.hid (show (x.toNat : Int) * (8192 : Int) % (4294967296 : Int) = (((x <<< 13).toNat : Nat) : Int) from u32_shl x 13)
  have h2 := Lib.hid (show (x.toNat : Int) / (524288 : Int) = (((x >>> 19).toNat : Nat) : Int) from u32_shr x 19)
  have h3 := Lib.hid (u32_or (x <<< 13) (x >>> 19))
  go_enter Tryd.func42, Tryd.ntmps42
  go_wp2
  go_ret
  exact ⟨ret_int (by rw [h1.out, h2.out, h3.out, BitVec.or_comm]; rfl), rfl⟩

set_option maxHeartbeats 400000 in
theorem turn_22 (x : W32) (w : World) : Calls Tryd.prog 42 #[wv x, .int .i64 22] w fun e w' => e = .returned (wv (rotr x 22)) ∧ w = w' := by
  have hs : bits BinOp.and IntKind.u64 (IntKind.u64.wrap (-22)) 31 = 10 := by decide
  have h1 := Lib.hid (show (x.toNat : Int) * (1024 : Int) % (4294967296 : Int) = (((x <<< 10).toNat : Nat) : Int) from u32_shl x 10)
  have h2 := Lib.hid (show (x.toNat : Int) / (4194304 : Int) = (((x >>> 22).toNat : Nat) : Int) from u32_shr x 22)
  have h3 := Lib.hid (u32_or (x <<< 10) (x >>> 22))
  go_enter Tryd.func42, Tryd.ntmps42
  go_wp2
  go_ret
  exact ⟨ret_int (by rw [h1.out, h2.out, h3.out, BitVec.or_comm]; rfl), rfl⟩

set_option maxHeartbeats 400000 in
theorem turn_25 (x : W32) (w : World) : Calls Tryd.prog 42 #[wv x, .int .i64 25] w fun e w' => e = .returned (wv (rotr x 25)) ∧ w = w' := by
  have hs : bits BinOp.and IntKind.u64 (IntKind.u64.wrap (-25)) 31 = 7 := by decide
  have h1 := Lib.hid (show (x.toNat : Int) * (128 : Int) % (4294967296 : Int) = (((x <<< 7).toNat : Nat) : Int) from u32_shl x 7)
  have h2 := Lib.hid (show (x.toNat : Int) / (33554432 : Int) = (((x >>> 25).toNat : Nat) : Int) from u32_shr x 25)
  have h3 := Lib.hid (u32_or (x <<< 7) (x >>> 25))
  go_enter Tryd.func42, Tryd.ntmps42
  go_wp2
  go_ret
  exact ⟨ret_int (by rw [h1.out, h2.out, h3.out, BitVec.or_comm]; rfl), rfl⟩
end Go.Proofs.YtlcpflaofggmeaaDoor
/- Operations on words of 32 bits and on indices, in a region shown operation by operation. -/
namespace Go.Proofs.YtlcpflaofggmeaaDoor
set_option maxRecDepth 40000
open Go.RowKit

/-- What an operand is known to be. -/
def OpK (lk : Tmp → SF) (x : Operand) (v : Value) : Prop := (∃ i, x = .tmp i ∧ lk i = SF.is v) ∨ x = .const v ∨ ∃ g, x = .global g ∧ v = .pointer (some ⟨g, 0, none⟩)
section
variable {P : Program} {ops : Array Oper} {B : Nat} {w0 : World} {o : Oper} {lk : Tmp → SF} {ty rt : TypeId}
theorem OpK.tmp {i : Tmp} {v : Value} (h : lk i = SF.is v) : OpK lk (.tmp i) v := .inl ⟨i, rfl, h⟩
theorem OpK.const {v : Value} : OpK lk (.const v) v := .inr (.inl rfl)
theorem OpK.glob {g : Nat} : OpK lk (.global g) (.pointer (some ⟨g, 0, none⟩)) := .inr (.inr ⟨g, rfl, rfl⟩)
theorem OpK.eval {a : Act} {w : World} {x : Operand} {v : Value} (hk : OpK lk x v) (hf : Opd lk o a w) (hm : x ∈ o.op.operands) : a.eval x = v := by
  rcases hk with ⟨i, rfl, hi⟩ | rfl | ⟨g, rfl, rfl⟩
  · have h := hf i (List.mem_filterMap.2 ⟨.tmp i, by simpa using hm, rfl⟩)
    rw [hi] at h
    exact (getD_eq _ _).trans h
  · rfl
  · rfl
theorem opOb_bin {b : BinOp} {x y v : Value} {xo yo : Operand} (hne : (b matches .eql | .neq) = false) (hg : o.guard = none) (hop : o.op = .binOp b ty xo yo rt) (hx : OpK lk xo x) (hy : OpK lk yo y)
    (hr : ∀ w, (binOp b ty x y).run P w = .ok v w) : opOb P ops B w0 o (SF.is v) lk :=
  opOb_val v hg fun a w _ hf => by
    have h1 := hx.eval hf (by rw [hop]; simp [Op.operands])
    have h2 := hy.eval hf (by rw [hop]; simp [Op.operands])
    unfold execOp
    rw [hop]
    simp only [h1, h2]
    cases b <;> simp at hne <;> simp [eqGuard, hr]
theorem opOb_add (x y : W32) {xo yo : Operand} (hg : o.guard = none) (hop : o.op = .binOp .add ty xo yo rt) (hx : OpK lk xo (wv x)) (hy : OpK lk yo (wv y)) : opOb P ops B w0 o (SF.is (wv (x + y))) lk :=
  opOb_bin rfl hg hop hx hy fun w => by simp only [wv]; rw [← u32_wrap_add]; simp [go_sem]
theorem opOb_xor (x y : W32) {xo yo : Operand} (hg : o.guard = none) (hop : o.op = .binOp .xor ty xo yo rt) (hx : OpK lk xo (wv x)) (hy : OpK lk yo (wv y)) : opOb P ops B w0 o (SF.is (wv (x ^^^ y))) lk :=
  opOb_bin rfl hg hop hx hy fun w => by simp only [wv]; rw [← u32_xor]; simp [go_sem]
theorem opOb_and (x y : W32) {xo yo : Operand} (hg : o.guard = none) (hop : o.op = .binOp .and ty xo yo rt) (hx : OpK lk xo (wv x)) (hy : OpK lk yo (wv y)) : opOb P ops B w0 o (SF.is (wv (x &&& y))) lk :=
  opOb_bin rfl hg hop hx hy fun w => by simp only [wv]; rw [← u32_and]; simp [go_sem]
theorem opOb_or (x y : W32) {xo yo : Operand} (hg : o.guard = none) (hop : o.op = .binOp .or ty xo yo rt) (hx : OpK lk xo (wv x)) (hy : OpK lk yo (wv y)) : opOb P ops B w0 o (SF.is (wv (x ||| y))) lk :=
  opOb_bin rfl hg hop hx hy fun w => by simp only [wv]; rw [← u32_or]; simp [go_sem]
theorem opOb_shl (x : W32) (k : Nat) (hk : k < 32) {xo : Operand} (hg : o.guard = none) (hop : o.op = .binOp .shl ty xo (.const (.int .u64 (k : Int))) rt) (hx : OpK lk xo (wv x)) : opOb P ops B w0 o (SF.is (wv (x <<< k))) lk :=
  opOb_bin rfl hg hop hx OpK.const fun w => by simp only [wv]; rw [← u32_shl]; simp [go_sem, IntKind.wrap_u32]
theorem opOb_shr (x : W32) (k : Nat) (hk : k < 32) {xo : Operand} (hg : o.guard = none) (hop : o.op = .binOp .shr ty xo (.const (.int .u64 (k : Int))) rt) (hx : OpK lk xo (wv x)) : opOb P ops B w0 o (SF.is (wv (x >>> k))) lk :=
  opOb_bin rfl hg hop hx OpK.const fun w => by simp only [wv]; rw [← u32_shr]; simp [go_sem]
theorem opOb_iadd (a c : Int) {xo yo : Operand} (hb : -9223372036854775808 ≤ a + c ∧ a + c ≤ 9223372036854775807) (hg : o.guard = none) (hop : o.op = .binOp .add ty xo yo rt) (hx : OpK lk xo (.int .i64 a)) (hy : OpK lk yo (.int .i64 c)) : opOb P ops B w0 o (SF.is (.int .i64 (a + c))) lk :=
  opOb_bin rfl hg hop hx hy fun w => by rw [← IntWalk.i64_in _ hb]; simp [go_sem]
theorem opOb_isub (a c : Int) {xo yo : Operand} (hb : -9223372036854775808 ≤ a - c ∧ a - c ≤ 9223372036854775807) (hg : o.guard = none) (hop : o.op = .binOp .sub ty xo yo rt) (hx : OpK lk xo (.int .i64 a)) (hy : OpK lk yo (.int .i64 c)) : opOb P ops B w0 o (SF.is (.int .i64 (a - c))) lk :=
  opOb_bin rfl hg hop hx hy fun w => by rw [← IntWalk.i64_in _ hb]; simp [go_sem]
theorem opOb_imul (a c : Int) {xo yo : Operand} (hb : -9223372036854775808 ≤ a * c ∧ a * c ≤ 9223372036854775807) (hg : o.guard = none) (hop : o.op = .binOp .mul ty xo yo rt) (hx : OpK lk xo (.int .i64 a)) (hy : OpK lk yo (.int .i64 c)) : opOb P ops B w0 o (SF.is (.int .i64 (a * c))) lk :=
  opOb_bin rfl hg hop hx hy fun w => by rw [← IntWalk.i64_in _ hb]; simp [go_sem]
theorem i64_and_low (a p : Nat) (ha : a < 9223372036854775808) (hp : p ≤ 62) : bits .and .i64 (a : Int) ((2 ^ p - 1 : Nat) : Int) = ((a % 2 ^ p : Nat) : Int) := by
  have hpp : 2 ^ p ≤ 2 ^ 62 := Nat.pow_le_pow_right (by omega) hp
  have h0 : ∀ b : Nat, b < 9223372036854775808 → (BitVec.ofInt 64 (b : Int)).toNat = b := fun b hb => by
    rw [BitVec.ofInt_natCast, BitVec.toNat_ofNat]; exact Nat.mod_eq_of_lt (by omega)
  show IntKind.i64.wrap ((BitVec.ofInt 64 (a : Int) &&& BitVec.ofInt 64 ((2 ^ p - 1 : Nat) : Int)).toNat : Int) = _
  rw [BitVec.toNat_and, h0 a ha, h0 _ (by omega), Nat.and_two_pow_sub_one_eq_mod]
  have h1 : a % 2 ^ p ≤ a := Nat.mod_le _ _
  rw [IntKind.wrap_i64]; omega
theorem opOb_iand (a p : Nat) (ha : a < 9223372036854775808) (hp : p ≤ 62) {xo : Operand} {m : Int} (hm : m = ((2 ^ p - 1 : Nat) : Int)) (hg : o.guard = none) (hop : o.op = .binOp .and ty xo (.const (.int .i64 m)) rt) (hx : OpK lk xo (.int .i64 (a : Int))) : opOb P ops B w0 o (SF.is (.int .i64 ((a % 2 ^ p : Nat) : Int))) lk :=
  opOb_bin rfl hg hop hx OpK.const fun w => by rw [← i64_and_low a p ha hp, ← hm]; simp [go_sem]
theorem opOb_nadd (a c : Nat) {xo yo : Operand} (hb : a + c ≤ 9223372036854775807) (hg : o.guard = none) (hop : o.op = .binOp .add ty xo yo rt) (hx : OpK lk xo (.int .i64 (a : Int))) (hy : OpK lk yo (.int .i64 (c : Int))) : opOb P ops B w0 o (SF.is (.int .i64 ((a + c : Nat) : Int))) lk := by
  rw [Int.natCast_add]; exact opOb_iadd a c (by omega) hg hop hx hy
theorem opOb_nmul (a c : Nat) {xo yo : Operand} (hb : a * c ≤ 9223372036854775807) (hg : o.guard = none) (hop : o.op = .binOp .mul ty xo yo rt) (hx : OpK lk xo (.int .i64 (a : Int))) (hy : OpK lk yo (.int .i64 (c : Int))) : opOb P ops B w0 o (SF.is (.int .i64 ((a * c : Nat) : Int))) lk := by
  rw [Int.natCast_mul]; refine opOb_imul a c ?_ hg hop hx hy
  rw [← Int.natCast_mul]; omega
/-- A byte as a word. -/
theorem opOb_wide (b : Nat) (hb : b < 256) {xo : Operand} {t8 t32 : TypeId} (h8 : P.underlying t8 = some (.int .u8)) (h32 : P.underlying t32 = some (.int .u32)) (hg : o.guard = none) (hop : o.op = .convert t8 t32 xo) (hx : OpK lk xo (.int .u8 (b : Int))) : opOb P ops B w0 o (SF.is (wv (BitVec.ofNat 32 b))) lk :=
  opOb_val _ hg fun a w _ hf => by
    have h1 := hx.eval hf (by rw [hop]; simp [Op.operands])
    have e : (b : Int) = (((BitVec.ofNat 32 b : W32).toNat : Nat) : Int) := by rw [BitVec.toNat_ofNat]; omega
    unfold execOp
    rw [hop]
    simp only [h1, wv]
    rw [← e]
    have h2 : IntKind.u32.wrap (b : Int) = b := by rw [IntKind.wrap_u32]; omega
    simp [go_sem, h8, h32, h2]
theorem opOb_nil (a : Addr) {xo : Operand} (hg : o.guard = none) (hop : o.op = .nilCheck xo) (hx : OpK lk xo (.pointer (some a))) : opOb P ops B w0 o (SF.is (.pointer (some a))) lk :=
  opOb_val _ hg fun a w _ hf => by
    have h1 := hx.eval hf (by rw [hop]; simp [Op.operands])
    unfold execOp
    rw [hop]
    simp only [h1]
    rfl
theorem opOb_idx {x i v : Value} {xo io : Operand} (hg : o.guard = none) (hop : o.op = .indexAddr ty xo io) (hx : OpK lk xo x) (hi : OpK lk io i) (hr : ∀ w, (Instr.indexAt ty x i).run P w = .ok v w) : opOb P ops B w0 o (SF.is v) lk :=
  opOb_val _ hg fun a w _ hf => by
    have h1 := hx.eval hf (by rw [hop]; simp [Op.operands])
    have h2 := hi.eval hf (by rw [hop]; simp [Op.operands])
    unfold execOp
    rw [hop]
    simp only [h1, h2]
    simp [hr w]
theorem opOb_ld {p v : Value} {xo : Operand} (hg : o.guard = none) (hop : o.op = .load ty xo) (hx : OpK lk xo p) (hr : ∀ w, Below B w0 w → (Instr.loadAt ty p).run P w = .ok v w) : opOb P ops B w0 o (SF.is v) lk :=
  opOb_val _ hg fun a w hb hf => by
    have h1 := hx.eval hf (by rw [hop]; simp [Op.operands])
    unfold execOp
    rw [hop]
    simp only [h1]
    simp [hr w hb]
theorem wp_store {a : Act} {w : World} {K : Act → World → Prop} {Q : Exit → Act → World → Prop} {p x : Operand} {ad : Addr} {v : Value} (hop : o.op = .store ty p x) (hd : o.dst = none) (hp : a.eval p = .pointer (some ad)) (hx : a.eval x = v)
    (hr : (Instr.storeAt ty (.pointer (some ad)) v).run P w = .ok () (w.setCell ad v)) (h : K a (w.setCell ad v)) : o.wp P a w K Q := by
  unfold Oper.wp execOp
  rw [hop]
  simp only [hp, hx]
  rw [Sem.run_bind, hr]
  simp only [Result.andThen_ok, Sem.run_pure, Oper.upon, hd, Act.put]
  exact h
end

theorem cell_lt0 {w : World} {a : Addr} {v : Value} (h : w.cell? a = some v) : a.block < w.heap.size := by
  rcases Nat.lt_or_ge a.block w.heap.size with hl | hl
  · exact hl
  · exfalso
    unfold World.cell? at h
    rw [Array.getElem?_eq_none hl] at h
    simp at h
end Go.Proofs.YtlcpflaofggmeaaDoor
/- Indices, loads and stores of package sha's arrays. -/
namespace Go.Proofs.YtlcpflaofggmeaaDoor
set_option maxRecDepth 40000
open Go.RowKit
section
theorem run_idx_slice (w : World) (ad : Addr) (n c i : Nat) (hi : i < n) : (Instr.indexAt 72 (.slice (some ad) n c) (.int .i64 (i : Int))).run Tryd.prog w = .ok (.pointer (some (ad.add i))) w := by
  have hx : (0 : Int) ≤ (i : Int) ∧ (i : Int) < (n : Int) := by omega
  simp [go_sem, hi]
theorem run_idx16 (w : World) (g o i : Nat) (hi : i < 16) : (Instr.indexAt 77 (.pointer (some ⟨g, o, none⟩)) (.int .i64 (i : Int))).run Tryd.prog w = .ok (.pointer (some ⟨g, o + i, none⟩)) w := by
  have hx : (i : Int) < 16 := by omega
  simp [go_sem, hx]
theorem run_idx64 (w : World) (g o i : Nat) (hi : i < 64) : (Instr.indexAt 79 (.pointer (some ⟨g, o, none⟩)) (.int .i64 (i : Int))).run Tryd.prog w = .ok (.pointer (some ⟨g, o + i, none⟩)) w := by
  have hx : (i : Int) < 64 := by omega
  simp [go_sem, hx]
theorem run_idx8 (w : World) (g o i : Nat) (hi : i < 8) : (Instr.indexAt 74 (.pointer (some ⟨g, o, none⟩)) (.int .i64 (i : Int))).run Tryd.prog w = .ok (.pointer (some ⟨g, o + i, none⟩)) w := by
  have hx : (i : Int) < 8 := by omega
  simp [go_sem, hx]
theorem run_ld32 (w : World) (a : Addr) (x : W32) (h : w.cell? a = some (wv x)) : (Instr.loadAt 69 (.pointer (some a))).run Tryd.prog w = .ok (wv x) w := by
  simp [go_sem, h]
theorem run_ld8 (w : World) (a : Addr) (b : Nat) (h : w.cell? a = some (.int .u8 (b : Int))) : (Instr.loadAt 5 (.pointer (some a))).run Tryd.prog w = .ok (.int .u8 (b : Int)) w := by
  simp [go_sem, h]
theorem run_st32 (w : World) (a : Addr) (x : W32) (y : Value) (h : w.cell? a = some y) (hf : w.frozen? a = false) : (Instr.storeAt 69 (.pointer (some a)) (wv x)).run Tryd.prog w = .ok () (w.setCell a (wv x)) := by
  simp [go_sem, h, hf]
end
end Go.Proofs.YtlcpflaofggmeaaDoor
/- The walk of mix. (Printed by a program of mine.) -/
namespace Go.Proofs.YtlcpflaofggmeaaDoor
set_option maxRecDepth 40000
open Go.RowKit

/-- The ring of sixteen words when t rounds are done. -/
def ring (m : Nat → W32) (t j : Nat) : W32 := Wt m (t + (j + 16 - t % 16) % 16)
theorem ring_at (m : Nat → W32) (t d : Nat) (h : d < 16) : ring m t ((t + d) % 16) = Wt m (t + d) := by
  unfold ring; rw [show t + ((t + d) % 16 + 16 - t % 16) % 16 = t + d by omega]
theorem ring_step (m : Nat → W32) (t j : Nat) (hj : j < 16) : (if j = t % 16 then wv (Wt m (t + 16)) else wv (ring m t j)) = wv (ring m (t + 1) j) := by
  unfold ring
  by_cases e : j = t % 16
  · rw [if_pos e, show t + 1 + (j + 16 - (t + 1) % 16) % 16 = t + 16 by omega]
  · rw [if_neg e, show t + 1 + (j + 16 - (t + 1) % 16) % 16 = t + (j + 16 - t % 16) % 16 by omega]
/-- A frame, slot by slot. -/
theorem lit_frame (a : Array Value) (n : Nat) (h : a.size = n) : a = ((List.range n).map fun i => a.getD i undef).toArray := by
  apply Array.ext
  · simp [h]
  · intro i h1 h2
    simp [Array.getD, h1]
/-- What holds at the label. -/
def JMix (g o : Nat) (A : Option Addr) (n c : Nat) (H : Nat → W32) (m : Nat → Nat) (w : World) (a' : Act) (w' : World) : Prop :=
  ∃ (t : Nat) (s : S8), t < 64 ∧ s = rounds (word m) (S8.of H) t ∧ w'.rowIs w.heap.size 77 16 (fun j => wv (ring (word m) t j)) ∧ Below w.heap.size w w' ∧
    a'.defers = [] ∧ a'.tmps.size = 217 ∧ a'.tmps.getD 0 undef = .pointer (some ⟨g, o, none⟩) ∧ a'.tmps.getD 1 undef = .slice A n c ∧ a'.tmps.getD 4 undef = .pointer (some ⟨w.heap.size, 0, none⟩) ∧ a'.tmps.getD 14 undef = .int .i64 (t : Int) ∧ a'.tmps.getD 6 undef = wv s.a ∧ a'.tmps.getD 7 undef = wv s.b ∧ a'.tmps.getD 8 undef = wv s.c ∧ a'.tmps.getD 9 undef = wv s.d ∧ a'.tmps.getD 10 undef = wv s.e ∧ a'.tmps.getD 11 undef = wv s.f ∧ a'.tmps.getD 12 undef = wv s.g ∧ a'.tmps.getD 13 undef = wv s.h

theorem run_agg8 (w : World) (s : S8) (k : Nat) (hk : k < 8) : (Instr.index 73 (.agg #[wv s.a, wv s.b, wv s.c, wv s.d, wv s.e, wv s.f, wv s.g, wv s.h]) (.int .i64 (k : Int))).run Tryd.prog w = .ok (wv (s.get k)) w := by
  obtain ⟨a, b, c, d, e, f, g, h⟩ := s
  have hk8 : k = 0 ∨ k = 1 ∨ k = 2 ∨ k = 3 ∨ k = 4 ∨ k = 5 ∨ k = 6 ∨ k = 7 := by omega
  have i0 : (Instr.index 73 (.agg #[wv a, wv b, wv c, wv d, wv e, wv f, wv g, wv h]) (.int .i64 ((0 : Nat) : Int))).run Tryd.prog w = .ok (wv a) w := by kernel_rfl
  have i1 : (Instr.index 73 (.agg #[wv a, wv b, wv c, wv d, wv e, wv f, wv g, wv h]) (.int .i64 ((1 : Nat) : Int))).run Tryd.prog w = .ok (wv b) w := by kernel_rfl
  have i2 : (Instr.index 73 (.agg #[wv a, wv b, wv c, wv d, wv e, wv f, wv g, wv h]) (.int .i64 ((2 : Nat) : Int))).run Tryd.prog w = .ok (wv c) w := by kernel_rfl
  have i3 : (Instr.index 73 (.agg #[wv a, wv b, wv c, wv d, wv e, wv f, wv g, wv h]) (.int .i64 ((3 : Nat) : Int))).run Tryd.prog w = .ok (wv d) w := by kernel_rfl
  have i4 : (Instr.index 73 (.agg #[wv a, wv b, wv c, wv d, wv e, wv f, wv g, wv h]) (.int .i64 ((4 : Nat) : Int))).run Tryd.prog w = .ok (wv e) w := by kernel_rfl
  have i5 : (Instr.index 73 (.agg #[wv a, wv b, wv c, wv d, wv e, wv f, wv g, wv h]) (.int .i64 ((5 : Nat) : Int))).run Tryd.prog w = .ok (wv f) w := by kernel_rfl
  have i6 : (Instr.index 73 (.agg #[wv a, wv b, wv c, wv d, wv e, wv f, wv g, wv h]) (.int .i64 ((6 : Nat) : Int))).run Tryd.prog w = .ok (wv g) w := by kernel_rfl
  have i7 : (Instr.index 73 (.agg #[wv a, wv b, wv c, wv d, wv e, wv f, wv g, wv h]) (.int .i64 ((7 : Nat) : Int))).run Tryd.prog w = .ok (wv h) w := by kernel_rfl
  rcases hk8 with rfl | rfl | rfl | rfl | rfl | rfl | rfl | rfl
  · exact i0
  · exact i1
  · exact i2
  · exact i3
  · exact i4
  · exact i5
  · exact i6
  · exact i7

/-- A scope with one label: what follows it is walked once, for the first pass and for those behind a jump. -/
theorem wp_scope_twice {P : Program} {a : Act} {w : World} {Q : Exit → Act → World → Prop} {c R : Code} (l : Nat) (J : Act → World → Prop) (μ : Act → World → Nat) (hf : findLabel c l = some (.seq .skip R))
    (pass : ∀ a w, J a w → R.wp P (Exit.jump l (fun a' w' => J a' w' ∧ μ a' w' < μ a w) Q) a w)
    (first : (∀ a w, J a w → R.wp P (Exit.jump l J Q) a w) → c.wp P (Exit.jump l J Q) a w) : (Code.scope c).wp P Q a w := by
  refine wp_scope_jumps l J μ hf (first fun a w h => wp_mono (pass a w h) ?_) fun a w h => wp_seq (wp_skip (pass a w h))
  intro e a' w' he
  cases e with
  | goto l' => exact ⟨he.1, he.2.1⟩
  | _ => exact he

set_option maxRecDepth 100000 in
set_option maxHeartbeats 8000000 in
theorem mix_any (g o n c B : Nat) (A : Option Addr) (t0 : TypeId) (N : Nat) (F : Nat → Value) (H : Nat → W32) (m : Nat → Nat) (w : World) (hrow : w.rowIs g t0 N F) (ho : o + 8 ≤ N) (hF : ∀ i, i < 8 → F (o + i) = wv (H i))
    (hm : ∀ i, m i < 256) (hb : Rd w B A n (fun i => .int .u8 ((m i : Nat) : Int))) (hB : B ≤ w.heap.size) (hn : 64 ≤ n) (hn2 : n ≤ 140737488355328)
    (hK0 : ∀ i, i < 64 → w.cell? ⟨2, i, none⟩ = some (wv (kw i))) :
    Calls Tryd.prog 39 #[.pointer (some ⟨g, o, none⟩), .slice A n c] w fun e w' => e = .returned (.tuple #[]) ∧
      w'.rowIs g t0 N (fun j => if o ≤ j ∧ j < o + 8 then wv (comp H m (j - o)) else F j) ∧ w.grownBy w' (some g) := by
  have hglt := hrow.lt
  have hG0 : 2 < w.heap.size := by have h := hK0 0 (by omega); have := cell_lt0 h; exact this
  have HH := Lib.hid (show ∀ i, i < 8 → w.cell? ⟨g, o + i, none⟩ = some (wv (H i)) from fun i hi => by rw [hrow.cell (by omega), hF i hi])
  have HF := Lib.hid hF
  have Hrow := Lib.hid hrow
  have HK := Lib.hid hK0
  clear hrow hF hK0
  go_enter Tryd.func39, Tryd.ntmps39
  refine wp_scope_twice 0 (JMix g o A n c H m w) (fun a' _ => 64 - (intOf (a'.tmps.getD 14 undef)).toNat) rfl ?_ ?_
  · rintro ⟨tm, df⟩ wr ⟨t, s, ht, hs, hW, hbel, hdf, hsz, f0, f1, f4, f14, f6, f7, f8, f9, f10, f11, f12, f13⟩
    simp only at hdf hsz f0 f1 f4 f14 f6 f7 f8 f9 f10 f11 f12 f13
    subst hdf
    have hl := lit_frame tm 217 hsz
    simp only [List.range, List.range.loop, List.map, f0, f1, f4, f14, f6, f7, f8, f9, f10, f11, f12, f13] at hl
    rw [hl]
    clear hl
    clear f0 f1 f4 f14 f6 f7 f8 f9 f10 f11 f12 f13 hsz
    have HS := Lib.hid hs
    have hWB := hW.lt
    have hGB : 2 < wr.heap.size := Nat.lt_of_lt_of_le hG0 hbel.size
    have hK : ∀ i, i < 64 → wr.cell? ⟨2, i, none⟩ = some (wv (kw i)) := fun i hi => (hbel.cell (p := ⟨2, i, none⟩) hG0).trans (HK.out i hi)
    have hring : ∀ d, d < 16 → wr.cell? ⟨w.heap.size, 0 + ((t + d) % 2 ^ 4), none⟩ = some (wv (Wt (word m) (t + d))) := fun d hd => by
      rw [show 0 + (t + d) % 2 ^ 4 = (t + d) % 16 by omega, hW.cell (Nat.mod_lt _ (by omega)), ring_at _ _ _ hd]
    have c8 : wr.cell? ⟨w.heap.size, t % 16, none⟩ = some (wv (Wt (word m) t)) := by have := hring 0 (by omega); rwa [show 0 + (t + 0) % 2 ^ 4 = t % 16 by omega] at this
    have h15 : bits .and .i64 (t : Int) 15 = ((t % 16 : Nat) : Int) := i64_and_low t 4 (by omega) (by omega)
    have HW := Lib.hid hW
    have Hbel := Lib.hid hbel
    have Hring := Lib.hid hring
    have HK2 := Lib.hid hK
    clear hs hW hbel hring hK hb hm
    have ht16 : t % 16 < 16 := Nat.mod_lt _ (by omega)
    go_wp2_with fail
    clear h15 c8
    have hring := Hring.out
    have hK := HK2.out
    refine wp_region_facts (B := wr.heap.size) (w0 := wr) [SF.is (wv (s.h)), SF.is (wv (s.e)), SF.is (wv (rotr (s.e) 6)), SF.is (wv (s.e)), SF.is (wv (rotr (s.e) 11)), SF.is (wv ((rotr (s.e) 6) ^^^ (rotr (s.e) 11))), SF.is (wv (s.e)), SF.is (wv (rotr (s.e) 25)), SF.is (wv (((rotr (s.e) 6) ^^^ (rotr (s.e) 11)) ^^^ (rotr (s.e) 25))), SF.is (wv ((s.h) + (((rotr (s.e) 6) ^^^ (rotr (s.e) 11)) ^^^ (rotr (s.e) 25)))), SF.is (wv (s.g)), SF.is (wv (s.e)), SF.is (wv (s.f)), SF.is (wv (s.g)), SF.is (wv ((s.f) ^^^ (s.g))), SF.is (wv ((s.e) &&& ((s.f) ^^^ (s.g)))), SF.is (wv ((s.g) ^^^ ((s.e) &&& ((s.f) ^^^ (s.g))))), SF.is (wv (((s.h) + (((rotr (s.e) 6) ^^^ (rotr (s.e) 11)) ^^^ (rotr (s.e) 25))) + ((s.g) ^^^ ((s.e) &&& ((s.f) ^^^ (s.g)))))), SF.is (.int .i64 ((t : Nat) : Int)), SF.is (.int .i64 (((t) % 2 ^ 6 : Nat) : Int)), SF.is (.pointer (some ⟨2, 0 + ((t) % 2 ^ 6), none⟩)), SF.is (wv (kw t)), SF.is (wv ((((s.h) + (((rotr (s.e) 6) ^^^ (rotr (s.e) 11)) ^^^ (rotr (s.e) 25))) + ((s.g) ^^^ ((s.e) &&& ((s.f) ^^^ (s.g))))) + (kw t))), SF.is (wv (Wt (word m) t)), SF.is (wv (((((s.h) + (((rotr (s.e) 6) ^^^ (rotr (s.e) 11)) ^^^ (rotr (s.e) 25))) + ((s.g) ^^^ ((s.e) &&& ((s.f) ^^^ (s.g))))) + (kw t)) + (Wt (word m) t))), SF.is (wv (((((s.h) + (((rotr (s.e) 6) ^^^ (rotr (s.e) 11)) ^^^ (rotr (s.e) 25))) + ((s.g) ^^^ ((s.e) &&& ((s.f) ^^^ (s.g))))) + (kw t)) + (Wt (word m) t)))] (by kernel_rfl) (by kernel_rfl) rfl (Nat.le_refl _) (Below.refl _ _) ⟨?_, ?_, ?_, ?_, ?_, ?_, ?_, ?_, ?_, ?_, ?_, ?_, ?_, ?_, ?_, ?_, ?_, ?_, ?_, ?_, ?_, ?_, ?_, ?_, ?_, ?_, trivial⟩ ?_
    · exact (opOb_move _ rfl (.inl rfl) rfl)
    · exact (opOb_move _ rfl (.inl rfl) rfl)
    · refine (opOb_call rfl fun a w' hb hf => ?_)
      have h98 : a.tmps[98]?.getD undef = wv (s.e) := hf 98 List.mem_cons_self
      refine ⟨42, #[wv (s.e), .int .i64 6], ?_, (turn_6 _ _).mono fun e w'' ⟨he, hw⟩ => ⟨_, he, rfl, hw ▸ Below.refl _ _⟩⟩
      go_light
      simp [go_sem, h98]
    · exact (opOb_move _ rfl (.inl rfl) rfl)
    · refine (opOb_call rfl fun a w' hb hf => ?_)
      have h100 : a.tmps[100]?.getD undef = wv (s.e) := hf 100 List.mem_cons_self
      refine ⟨42, #[wv (s.e), .int .i64 11], ?_, (turn_11 _ _).mono fun e w'' ⟨he, hw⟩ => ⟨_, he, rfl, hw ▸ Below.refl _ _⟩⟩
      go_light
      simp [go_sem, h100]
    · exact opOb_xor _ _ rfl rfl (OpK.tmp rfl) (OpK.tmp rfl)
    · exact (opOb_move _ rfl (.inl rfl) rfl)
    · refine (opOb_call rfl fun a w' hb hf => ?_)
      have h103 : a.tmps[103]?.getD undef = wv (s.e) := hf 103 List.mem_cons_self
      refine ⟨42, #[wv (s.e), .int .i64 25], ?_, (turn_25 _ _).mono fun e w'' ⟨he, hw⟩ => ⟨_, he, rfl, hw ▸ Below.refl _ _⟩⟩
      go_light
      simp [go_sem, h103]
    · exact opOb_xor _ _ rfl rfl (OpK.tmp rfl) (OpK.tmp rfl)
    · exact opOb_add _ _ rfl rfl (OpK.tmp rfl) (OpK.tmp rfl)
    · exact (opOb_move _ rfl (.inl rfl) rfl)
    · exact (opOb_move _ rfl (.inl rfl) rfl)
    · exact (opOb_move _ rfl (.inl rfl) rfl)
    · exact (opOb_move _ rfl (.inl rfl) rfl)
    · exact opOb_xor _ _ rfl rfl (OpK.tmp rfl) (OpK.tmp rfl)
    · exact opOb_and _ _ rfl rfl (OpK.tmp rfl) (OpK.tmp rfl)
    · exact opOb_xor _ _ rfl rfl (OpK.tmp rfl) (OpK.tmp rfl)
    · exact opOb_add _ _ rfl rfl (OpK.tmp rfl) (OpK.tmp rfl)
    · exact (opOb_move _ rfl (.inl rfl) rfl)
    · exact opOb_iand (t) 6 (by omega) (by omega) rfl rfl rfl (OpK.tmp rfl)
    · exact opOb_idx rfl rfl (OpK.glob) (OpK.tmp rfl) (fun w => run_idx64 w _ _ ((t) % 2 ^ 6) (by omega))
    · exact opOb_ld rfl rfl (OpK.tmp rfl) (fun w' hb => run_ld32 w' _ _ ((hb.cell (p := ⟨2, 0 + (t % 2 ^ 6), none⟩) hGB).trans (by rw [show 0 + t % 2 ^ 6 = t by omega]; exact hK t (by omega))))
    · exact opOb_add _ _ rfl rfl (OpK.tmp rfl) (OpK.tmp rfl)
    · exact (opOb_move _ rfl (.inl rfl) rfl)
    · exact opOb_add _ _ rfl rfl (OpK.tmp rfl) (OpK.tmp rfl)
    · exact (opOb_move _ rfl (.inr rfl) rfl)
    · intro w' hb
      simp only [fin, SF.is, forall_eq]
      simp only [Act.put, List.setIfInBounds_toArray, List.set_cons_succ, List.set_cons_zero]
      clear hring hK
      have b9 := hb
      clear hb
      obtain ⟨T1, hT1⟩ : ∃ x, x = ((((s.h) + (((rotr (s.e) 6) ^^^ (rotr (s.e) 11)) ^^^ (rotr (s.e) 25))) + ((s.g) ^^^ ((s.e) &&& ((s.f) ^^^ (s.g))))) + (kw t)) + (Wt (word m) t) := ⟨_, rfl⟩
      rw [← hT1]
      have HT1 := Lib.hid hT1
      clear hT1
      go_wp2_with (first
        | (go_at_call_of 42 (Value.int IntKind.i64 2); refine (turn_2 _ _).mono ?_; rintro e w9 ⟨rfl, rfl⟩)
        | (go_at_call_of 42 (Value.int IntKind.i64 13); refine (turn_13 _ _).mono ?_; rintro e w9 ⟨rfl, rfl⟩)
        | (go_at_call_of 42 (Value.int IntKind.i64 22); refine (turn_22 _ _).mono ?_; rintro e w9 ⟨rfl, rfl⟩))
      simp only [u32_xor, u32_and, u32_or, u32_add]
      obtain ⟨T0, hT0⟩ : ∃ x, x = (rotr s.a 2 ^^^ rotr s.a 13 ^^^ rotr s.a 22) + (s.a &&& s.b ||| s.c &&& (s.a ||| s.b)) := ⟨_, rfl⟩
      rw [← hT0]
      obtain ⟨T2, hT2⟩ : ∃ x, x = T1 + T0 := ⟨_, rfl⟩
      rw [← hT2]
      obtain ⟨T3, hT3⟩ : ∃ x, x = s.d + T1 := ⟨_, rfl⟩
      rw [← hT3]
      have E2 := Lib.hid (show T2 = (step (kw t) (Wt (word m) t) s).a by rw [hT2, hT0, HT1.out]; rfl)
      have E3 := Lib.hid (show T3 = (step (kw t) (Wt (word m) t) s).e by rw [hT3, HT1.out]; rfl)
      clear hT0 hT2 hT3
      have hring := Hring.out
      have hK := HK2.out
      refine wp_region_facts (B := wr.heap.size) (w0 := wr) [SF.is (.int .i64 ((t : Nat) : Int)), SF.is (.int .i64 ((t + 1 : Nat) : Int)), SF.is (.int .i64 (((t + 1) % 2 ^ 4 : Nat) : Int)), SF.is (.pointer (some ⟨w.heap.size, 0 + ((t + 1) % 2 ^ 4), none⟩)), SF.is (wv (Wt (word m) (t + 1))), SF.is (.int .i64 ((t : Nat) : Int)), SF.is (.int .i64 ((t + 14 : Nat) : Int)), SF.is (.int .i64 (((t + 14) % 2 ^ 4 : Nat) : Int)), SF.is (.pointer (some ⟨w.heap.size, 0 + ((t + 14) % 2 ^ 4), none⟩)), SF.is (wv (Wt (word m) (t + 14))), SF.is (wv (Wt (word m) (t + 1))), SF.is (wv (Wt (word m) (t + 14)))] (by kernel_rfl) (by kernel_rfl) rfl (Nat.le_refl _) b9 ⟨?_, ?_, ?_, ?_, ?_, ?_, ?_, ?_, ?_, ?_, ?_, ?_, trivial⟩ ?_
      · exact (opOb_move _ rfl (.inl rfl) rfl)
      · exact opOb_nadd _ _ (by omega) rfl rfl (OpK.tmp rfl) (OpK.const)
      · exact opOb_iand (t + 1) 4 (by omega) (by omega) rfl rfl rfl (OpK.tmp rfl)
      · exact opOb_idx rfl rfl (OpK.tmp rfl) (OpK.tmp rfl) (fun w => run_idx16 w _ _ ((t + 1) % 2 ^ 4) (by omega))
      · exact opOb_ld rfl rfl (OpK.tmp rfl) (fun w' hb => run_ld32 w' _ _ ((hb.cell (p := ⟨w.heap.size, 0 + ((t + 1) % 2 ^ 4), none⟩) hWB).trans (hring 1 (by omega))))
      · exact (opOb_move _ rfl (.inl rfl) rfl)
      · exact opOb_nadd _ _ (by omega) rfl rfl (OpK.tmp rfl) (OpK.const)
      · exact opOb_iand (t + 14) 4 (by omega) (by omega) rfl rfl rfl (OpK.tmp rfl)
      · exact opOb_idx rfl rfl (OpK.tmp rfl) (OpK.tmp rfl) (fun w => run_idx16 w _ _ ((t + 14) % 2 ^ 4) (by omega))
      · exact opOb_ld rfl rfl (OpK.tmp rfl) (fun w' hb => run_ld32 w' _ _ ((hb.cell (p := ⟨w.heap.size, 0 + ((t + 14) % 2 ^ 4), none⟩) hWB).trans (hring 14 (by omega))))
      · exact (opOb_move _ rfl (.inr rfl) rfl)
      · exact (opOb_move _ rfl (.inr rfl) rfl)
      · intro w' hb
        simp only [fin, SF.is, forall_eq]
        simp only [Act.put, List.setIfInBounds_toArray, List.set_cons_succ, List.set_cons_zero]
        clear hring hK
        have b12 := hb
        clear hb b9
        go_wp2_with fail
        have hring := Hring.out
        have hK := HK2.out
        refine wp_region_factsT (l := [_, _, _, _, _, _, _, _, _, _, _, _, _, _, _, _, _, _, _, _, _, _, _, _, _, _, _, _]) (B := wr.heap.size) (w0 := wr) [SF.is (.int .i64 ((t : Nat) : Int)), SF.is (.int .i64 (((t) % 2 ^ 4 : Nat) : Int)), SF.is (wv (Wt (word m) t)), SF.is (wv (Wt (word m) (t + 1))), SF.is (wv (rotr (Wt (word m) (t + 1)) 7)), SF.is (wv (Wt (word m) (t + 1))), SF.is (wv (rotr (Wt (word m) (t + 1)) 18)), SF.is (wv ((rotr (Wt (word m) (t + 1)) 7) ^^^ (rotr (Wt (word m) (t + 1)) 18))), SF.is (wv (Wt (word m) (t + 1))), SF.is (wv ((Wt (word m) (t + 1)) >>> (3 : Nat))), SF.is (wv (((rotr (Wt (word m) (t + 1)) 7) ^^^ (rotr (Wt (word m) (t + 1)) 18)) ^^^ ((Wt (word m) (t + 1)) >>> (3 : Nat)))), SF.is (wv ((Wt (word m) t) + (((rotr (Wt (word m) (t + 1)) 7) ^^^ (rotr (Wt (word m) (t + 1)) 18)) ^^^ ((Wt (word m) (t + 1)) >>> (3 : Nat))))), SF.is (.int .i64 ((t : Nat) : Int)), SF.is (.int .i64 ((t + 9 : Nat) : Int)), SF.is (.int .i64 (((t + 9) % 2 ^ 4 : Nat) : Int)), SF.is (.pointer (some ⟨w.heap.size, 0 + ((t + 9) % 2 ^ 4), none⟩)), SF.is (wv (Wt (word m) (t + 9))), SF.is (wv (((Wt (word m) t) + (((rotr (Wt (word m) (t + 1)) 7) ^^^ (rotr (Wt (word m) (t + 1)) 18)) ^^^ ((Wt (word m) (t + 1)) >>> (3 : Nat)))) + (Wt (word m) (t + 9)))), SF.is (wv (Wt (word m) (t + 14))), SF.is (wv (rotr (Wt (word m) (t + 14)) 17)), SF.is (wv (Wt (word m) (t + 14))), SF.is (wv (rotr (Wt (word m) (t + 14)) 19)), SF.is (wv ((rotr (Wt (word m) (t + 14)) 17) ^^^ (rotr (Wt (word m) (t + 14)) 19))), SF.is (wv (Wt (word m) (t + 14))), SF.is (wv ((Wt (word m) (t + 14)) >>> (10 : Nat))), SF.is (wv (((rotr (Wt (word m) (t + 14)) 17) ^^^ (rotr (Wt (word m) (t + 14)) 19)) ^^^ ((Wt (word m) (t + 14)) >>> (10 : Nat)))), SF.is (wv ((((Wt (word m) t) + (((rotr (Wt (word m) (t + 1)) 7) ^^^ (rotr (Wt (word m) (t + 1)) 18)) ^^^ ((Wt (word m) (t + 1)) >>> (3 : Nat)))) + (Wt (word m) (t + 9))) + (((rotr (Wt (word m) (t + 14)) 17) ^^^ (rotr (Wt (word m) (t + 14)) 19)) ^^^ ((Wt (word m) (t + 14)) >>> (10 : Nat))))), SF.is (.pointer (some ⟨w.heap.size, 0 + ((t) % 2 ^ 4), none⟩))] (by kernel_rfl) (by kernel_rfl) rfl (Nat.le_refl _) b12 ⟨?_, ?_, ?_, ?_, ?_, ?_, ?_, ?_, ?_, ?_, ?_, ?_, ?_, ?_, ?_, ?_, ?_, ?_, ?_, ?_, ?_, ?_, ?_, ?_, ?_, ?_, ?_, ?_, trivial⟩ ?_
        · exact (opOb_move _ rfl (.inl rfl) rfl)
        · exact opOb_iand (t) 4 (by omega) (by omega) rfl rfl rfl (OpK.tmp rfl)
        · exact (opOb_move _ rfl (.inl rfl) rfl)
        · exact (opOb_move _ rfl (.inl rfl) rfl)
        · refine (opOb_call rfl fun a w' hb hf => ?_)
          have h165 : a.tmps[165]?.getD undef = wv (Wt (word m) (t + 1)) := hf 165 List.mem_cons_self
          refine ⟨42, #[wv (Wt (word m) (t + 1)), .int .i64 7], ?_, (turn_7 _ _).mono fun e w'' ⟨he, hw⟩ => ⟨_, he, rfl, hw ▸ Below.refl _ _⟩⟩
          go_light
          simp [go_sem, h165]
        · exact (opOb_move _ rfl (.inl rfl) rfl)
        · refine (opOb_call rfl fun a w' hb hf => ?_)
          have h167 : a.tmps[167]?.getD undef = wv (Wt (word m) (t + 1)) := hf 167 List.mem_cons_self
          refine ⟨42, #[wv (Wt (word m) (t + 1)), .int .i64 18], ?_, (turn_18 _ _).mono fun e w'' ⟨he, hw⟩ => ⟨_, he, rfl, hw ▸ Below.refl _ _⟩⟩
          go_light
          simp [go_sem, h167]
        · exact opOb_xor _ _ rfl rfl (OpK.tmp rfl) (OpK.tmp rfl)
        · exact (opOb_move _ rfl (.inl rfl) rfl)
        · exact opOb_shr _ 3 (by omega) rfl rfl (OpK.tmp rfl)
        · exact opOb_xor _ _ rfl rfl (OpK.tmp rfl) (OpK.tmp rfl)
        · exact opOb_add _ _ rfl rfl (OpK.tmp rfl) (OpK.tmp rfl)
        · exact (opOb_move _ rfl (.inl rfl) rfl)
        · exact opOb_nadd _ _ (by omega) rfl rfl (OpK.tmp rfl) (OpK.const)
        · exact opOb_iand (t + 9) 4 (by omega) (by omega) rfl rfl rfl (OpK.tmp rfl)
        · exact opOb_idx rfl rfl (OpK.tmp rfl) (OpK.tmp rfl) (fun w => run_idx16 w _ _ ((t + 9) % 2 ^ 4) (by omega))
        · exact opOb_ld rfl rfl (OpK.tmp rfl) (fun w' hb => run_ld32 w' _ _ ((hb.cell (p := ⟨w.heap.size, 0 + ((t + 9) % 2 ^ 4), none⟩) hWB).trans (hring 9 (by omega))))
        · exact opOb_add _ _ rfl rfl (OpK.tmp rfl) (OpK.tmp rfl)
        · exact (opOb_move _ rfl (.inl rfl) rfl)
        · refine (opOb_call rfl fun a w' hb hf => ?_)
          have h180 : a.tmps[180]?.getD undef = wv (Wt (word m) (t + 14)) := hf 180 List.mem_cons_self
          refine ⟨42, #[wv (Wt (word m) (t + 14)), .int .i64 17], ?_, (turn_17 _ _).mono fun e w'' ⟨he, hw⟩ => ⟨_, he, rfl, hw ▸ Below.refl _ _⟩⟩
          go_light
          simp [go_sem, h180]
        · exact (opOb_move _ rfl (.inl rfl) rfl)
        · refine (opOb_call rfl fun a w' hb hf => ?_)
          have h182 : a.tmps[182]?.getD undef = wv (Wt (word m) (t + 14)) := hf 182 List.mem_cons_self
          refine ⟨42, #[wv (Wt (word m) (t + 14)), .int .i64 19], ?_, (turn_19 _ _).mono fun e w'' ⟨he, hw⟩ => ⟨_, he, rfl, hw ▸ Below.refl _ _⟩⟩
          go_light
          simp [go_sem, h182]
        · exact opOb_xor _ _ rfl rfl (OpK.tmp rfl) (OpK.tmp rfl)
        · exact (opOb_move _ rfl (.inl rfl) rfl)
        · exact opOb_shr _ 10 (by omega) rfl rfl (OpK.tmp rfl)
        · exact opOb_xor _ _ rfl rfl (OpK.tmp rfl) (OpK.tmp rfl)
        · exact opOb_add _ _ rfl rfl (OpK.tmp rfl) (OpK.tmp rfl)
        · exact opOb_idx rfl rfl (OpK.tmp rfl) (OpK.tmp rfl) (fun w => run_idx16 w _ _ ((t) % 2 ^ 4) (by omega))
        · intro w' hb
          simp only [fin, SF.is, forall_eq]
          simp only [Act.put, List.setIfInBounds_toArray, List.set_cons_succ, List.set_cons_zero]
          clear hring hK b12
          have hW' := row_below HW.out hb HW.out.lt
          refine wp_store (v := wv (Wt (word m) (t + 16))) rfl rfl rfl (congrArg wv (Wt_step (word m) t).symm) (run_st32 w' _ _ _ (by rw [Nat.zero_add]; exact hW'.cell (i := t % 16) ht16) (hW'.frozen _)) ?_
          have hW2 : (w'.setCell ⟨w.heap.size, 0 + t % 2 ^ 4, none⟩ (wv (Wt (word m) (t + 16)))).rowIs w.heap.size 77 16 (fun j => wv (ring (word m) (t + 1) j)) := by
            rw [Nat.zero_add]
            exact (hW'.set (t % 16) _).congr (fun j hj => ring_step (word m) t j hj)
          have hbel2 : Below w.heap.size w (w'.setCell ⟨w.heap.size, 0 + t % 2 ^ 4, none⟩ (wv (Wt (word m) (t + 16)))) := (Hbel.out.trans (hb.mono Hbel.out.size)).setCell (Nat.le_refl _) _
          generalize w'.setCell ⟨w.heap.size, 0 + t % 2 ^ 4, none⟩ (wv (Wt (word m) (t + 16))) = w2 at *
          have HW2 := Lib.hid hW2
          have Hbel2 := Lib.hid hbel2
          have Hs2 := Lib.hid (show rounds (word m) (S8.of H) (t + 1) = (step (kw t) (Wt (word m) t) s) by rw [HS.out]; rfl)
          clear hW2 hbel2 hW' hb
          by_cases hlast : t + 1 < 64
          · go_wp2_with fail
            go_step3
            refine ⟨rfl, ⟨t + 1, (step (kw t) (Wt (word m) t) s), hlast, Hs2.out.symm, HW2.out, Hbel2.out, rfl, rfl, rfl, rfl, rfl, (by rw [Int.natCast_succ]; rfl), (congrArg wv E2.out), rfl, rfl, rfl, (congrArg wv E3.out), rfl, rfl, rfl⟩, ?_⟩
            show 64 - (intOf (.int .i64 ((t : Int) + 1))).toNat < 64 - (intOf (.int .i64 (t : Int))).toNat
            simp only [intOf]
            omega
          · have h64 : t + 1 = 64 := by omega
            obtain ⟨s2, hs2⟩ : ∃ x, x = (step (kw t) (Wt (word m) t) s) := ⟨_, rfl⟩
            have HS2 := Lib.hid hs2
            clear hs2
            have HG2 := Lib.hid (grown_of_below Hbel2.out (some g))
            have HR2 := Lib.hid (show w2.rowIs g t0 N (fun j => if o ≤ j ∧ j < o + 0 then wv (comp H m (j - o)) else F j) from (row_below Hrow.out Hbel2.out hglt).congr (fun j _ => by rw [if_neg (by omega)]))
            go_wp2_with fail
            go_loopw [203] (fun i wq => ∃ k : Nat, k ≤ 8 ∧ i = .int .i64 k ∧ wq.rowIs g t0 N (fun j => if o ≤ j ∧ j < o + k then wv (comp H m (j - o)) else F j) ∧ w.grownBy wq (some g)) (fun i _ => 8 - (intOf i).toNat)
            case atStart => exact ⟨0, Nat.zero_le _, rfl, HR2.out, HG2.out⟩
            case round =>
              obtain ⟨k, hk, rfl, hR, hgr⟩ := hrel
              by_cases hk8 : k < 8
              · have hidx : ∀ w : World, (Instr.index 73 (.agg #[wv T2, wv s.a, wv s.b, wv s.c, wv T3, wv s.e, wv s.f, wv s.g]) (.int .i64 (k : Int))).run Tryd.prog w = .ok (wv (s2.get k)) w := fun w => by
                  rw [E2.out, E3.out, HS2.out]
                  clear HR2 hR hgr HG2
                  exact run_agg8 w (step (kw t) (Wt (word m) t) s) k hk8
                have HR := Lib.hid hR
                have Hgr := Lib.hid hgr
                clear hR hgr
                go_wp2_with fail
                have hgB2 : g < wr.heap.size := Nat.lt_of_lt_of_le hglt Hgr.out.size
                have hHk : wr.cell? ⟨g, o + k, none⟩ = some (wv (H k)) := by rw [HR.out.cell (by omega), if_neg (by omega), HF.out k hk8]
                refine wp_region_factsT (l := [_, _, _, _, _, _, _, _, _]) (B := wr.heap.size) (w0 := wr) [SF.is (.pointer (some ⟨g, o, none⟩)), SF.is (.int .i64 ((k : Nat) : Int)), SF.is (.pointer (some ⟨g, o, none⟩)), SF.is (.pointer (some ⟨g, o + (k), none⟩)), SF.is (wv (H k)), SF.is (wv (s2.get k)), SF.is (wv ((H k) + (s2.get k))), SF.is (.pointer (some ⟨g, o, none⟩)), SF.is (.pointer (some ⟨g, o + (k), none⟩))] (by kernel_rfl) (by kernel_rfl) rfl (Nat.le_refl _) (Below.refl _ _) ⟨?_, ?_, ?_, ?_, ?_, ?_, ?_, ?_, ?_, trivial⟩ ?_
                · exact (opOb_move _ rfl (.inl rfl) rfl)
                · exact (opOb_move _ rfl (.inl rfl) rfl)
                · exact opOb_nil _ rfl rfl (OpK.tmp rfl)
                · exact opOb_idx rfl rfl (OpK.tmp rfl) (OpK.tmp rfl) (fun w => run_idx8 w _ _ (k) (by omega))
                · exact opOb_ld rfl rfl (OpK.tmp rfl) (fun w' hb => run_ld32 w' _ _ ((hb.cell hgB2).trans hHk))
                · exact (opOb_move _ rfl (.inl rfl) rfl)
                · exact opOb_add _ _ rfl rfl (OpK.tmp rfl) (OpK.tmp rfl)
                · exact opOb_nil _ rfl rfl (OpK.tmp rfl)
                · exact opOb_idx rfl rfl (OpK.tmp rfl) (OpK.tmp rfl) (fun w => run_idx8 w _ _ (k) (by omega))
                · intro w' hb
                  simp only [fin, SF.is, forall_eq]
                  simp only [Act.put, List.setIfInBounds_toArray, List.set_cons_succ, List.set_cons_zero]
                  have hR' := row_below HR.out hb HR.out.lt
                  have hck : H k + s2.get k = comp H m k := by
                    unfold comp
                    rw [HS2.out, ← Hs2.out, h64]
                  refine wp_store (v := wv (comp H m k)) rfl rfl rfl (congrArg wv hck) (run_st32 w' _ _ _ (hR'.cell (by omega)) (hR'.frozen _)) ?_
                  have hR2 : (w'.setCell ⟨g, o + k, none⟩ (wv (comp H m k))).rowIs g t0 N (fun j => if o ≤ j ∧ j < o + (k + 1) then wv (comp H m (j - o)) else F j) :=
                    (hR'.set (o + k) _).congr (fun j _ => by
                      by_cases e : j = o + k
                      · subst e; rw [if_pos rfl, if_pos (by omega), show o + k - o = k by omega]
                      · rw [if_neg e]
                        by_cases e2 : o ≤ j ∧ j < o + k
                        · rw [if_pos e2, if_pos (by omega)]
                        · rw [if_neg e2, if_neg (by omega)])
                  have hg2 : w.grownBy (w'.setCell ⟨g, o + k, none⟩ (wv (comp H m k))) (some g) := grown_setCell (grown_trans Hgr.out (grown_of_below hb (some g))) (.inl rfl) _
                  generalize w'.setCell ⟨g, o + k, none⟩ (wv (comp H m k)) = w3 at *
                  have HR2 := Lib.hid hR2
                  have HG2 := Lib.hid hg2
                  clear hR2 hg2 hR' hb hck
                  go_wp2_with fail
                  go_roundw
                  case rel => exact ⟨k + 1, by omega, by go_num, HR2.out, HG2.out⟩
                  case measure => simp [intOf]; omega
              · obtain rfl : k = 8 := by omega
                go_wp2_with fail
                simp only [Exit.jump]
                go_end0
                exact ⟨rfl, hR, hgr⟩
  · intro again
    go_wp2_with fail
    go_loopw [22] (fun i wr => ∃ k : Nat, k ≤ 16 ∧ i = .int .i64 k ∧ wr.rowIs w.heap.size 77 16 (fun j => if j < k then wv (word m j) else wv 0) ∧ Below w.heap.size w wr) (fun i _ => 16 - (intOf i).toNat)
    case atStart => exact ⟨0, Nat.zero_le _, rfl, (World.rowIs_alloc w _ _ (fun _ => wv 0) (fun i hi => by
      have hi : i < 16 := hi
      match i, hi with
      | 0, _ | 1, _ | 2, _ | 3, _ | 4, _ | 5, _ | 6, _ | 7, _ | 8, _ | 9, _ | 10, _ | 11, _ | 12, _ | 13, _ | 14, _ | 15, _ => rfl
      | n + 16, h => omega)).congr (fun i _ => by simp), (Below.refl _ _).alloc (Nat.le_refl _) _⟩
    case round =>
      obtain ⟨k, hk, rfl, hW, hbel⟩ := hrel
      by_cases hk16 : k < 16
      · have hr := hb.below (hbel.mono hB)
        obtain ⟨ad, hA, hbl, c0⟩ := hr.at_ (k := 4 * k) (by omega)
        subst hA
        have C0 := Lib.hid c0
        have C1 := Lib.hid (hr.cell_ (k := 4 * k + 1) (by omega))
        have C2 := Lib.hid (hr.cell_ (k := 4 * k + 2) (by omega))
        have C3 := Lib.hid (hr.cell_ (k := 4 * k + 3) (by omega))
        have hadB : ad.block < wr.heap.size := Nat.lt_of_lt_of_le hbl (Nat.le_trans hB hbel.size)
        have b0 := hm (4 * k)
        have b1 := hm (4 * k + 1)
        have b2 := hm (4 * k + 2)
        have b3 := hm (4 * k + 3)
        have HW := Lib.hid hW
        have Hbel := Lib.hid hbel
        clear hW hbel hb hm hr c0
        go_wp2_with fail
        refine wp_region_factsT (l := [_, _, _, _, _, _, _, _, _, _, _, _, _, _, _, _, _, _, _, _, _, _, _, _, _, _, _, _, _, _, _, _, _, _, _]) (B := wr.heap.size) (w0 := wr) [SF.is (.int .i64 ((k : Nat) : Int)), SF.is (.slice (some ad) n c), SF.is (.int .i64 ((k : Nat) : Int)), SF.is (.int .i64 ((4 * k : Nat) : Int)), SF.is (.pointer (some (ad.add (4 * k)))), SF.is (.int .u8 ((m (4 * k) : Nat) : Int)), SF.is (wv (BitVec.ofNat 32 (m (4 * k)))), SF.is (wv ((BitVec.ofNat 32 (m (4 * k))) <<< (24 : Nat))), SF.is (.slice (some ad) n c), SF.is (.int .i64 ((k : Nat) : Int)), SF.is (.int .i64 ((4 * k : Nat) : Int)), SF.is (.int .i64 (((4 * k) + (1) : Nat) : Int)), SF.is (.pointer (some (ad.add (4 * k + 1)))), SF.is (.int .u8 ((m (4 * k + 1) : Nat) : Int)), SF.is (wv (BitVec.ofNat 32 (m (4 * k + 1)))), SF.is (wv ((BitVec.ofNat 32 (m (4 * k + 1))) <<< (16 : Nat))), SF.is (wv (((BitVec.ofNat 32 (m (4 * k))) <<< (24 : Nat)) ||| ((BitVec.ofNat 32 (m (4 * k + 1))) <<< (16 : Nat)))), SF.is (.slice (some ad) n c), SF.is (.int .i64 ((k : Nat) : Int)), SF.is (.int .i64 ((4 * k : Nat) : Int)), SF.is (.int .i64 (((4 * k) + (2) : Nat) : Int)), SF.is (.pointer (some (ad.add (4 * k + 2)))), SF.is (.int .u8 ((m (4 * k + 2) : Nat) : Int)), SF.is (wv (BitVec.ofNat 32 (m (4 * k + 2)))), SF.is (wv ((BitVec.ofNat 32 (m (4 * k + 2))) <<< (8 : Nat))), SF.is (wv ((((BitVec.ofNat 32 (m (4 * k))) <<< (24 : Nat)) ||| ((BitVec.ofNat 32 (m (4 * k + 1))) <<< (16 : Nat))) ||| ((BitVec.ofNat 32 (m (4 * k + 2))) <<< (8 : Nat)))), SF.is (.slice (some ad) n c), SF.is (.int .i64 ((k : Nat) : Int)), SF.is (.int .i64 ((4 * k : Nat) : Int)), SF.is (.int .i64 (((4 * k) + (3) : Nat) : Int)), SF.is (.pointer (some (ad.add (4 * k + 3)))), SF.is (.int .u8 ((m (4 * k + 3) : Nat) : Int)), SF.is (wv (BitVec.ofNat 32 (m (4 * k + 3)))), SF.is (wv (((((BitVec.ofNat 32 (m (4 * k))) <<< (24 : Nat)) ||| ((BitVec.ofNat 32 (m (4 * k + 1))) <<< (16 : Nat))) ||| ((BitVec.ofNat 32 (m (4 * k + 2))) <<< (8 : Nat))) ||| (BitVec.ofNat 32 (m (4 * k + 3))))), SF.is (.pointer (some ⟨w.heap.size, 0 + (k), none⟩))] (by kernel_rfl) (by kernel_rfl) rfl (Nat.le_refl _) (Below.refl _ _) ⟨?_, ?_, ?_, ?_, ?_, ?_, ?_, ?_, ?_, ?_, ?_, ?_, ?_, ?_, ?_, ?_, ?_, ?_, ?_, ?_, ?_, ?_, ?_, ?_, ?_, ?_, ?_, ?_, ?_, ?_, ?_, ?_, ?_, ?_, ?_, trivial⟩ ?_
        · exact (opOb_move _ rfl (.inl rfl) rfl)
        · exact (opOb_move _ rfl (.inl rfl) rfl)
        · exact (opOb_move _ rfl (.inl rfl) rfl)
        · exact opOb_nmul _ _ (by omega) rfl rfl (OpK.const) (OpK.tmp rfl)
        · exact opOb_idx rfl rfl (OpK.tmp rfl) (OpK.tmp rfl) (fun w => run_idx_slice w ad n c (4 * k) (by omega))
        · exact opOb_ld rfl rfl (OpK.tmp rfl) (fun w' hb => run_ld8 w' _ _ ((hb.cell (by rw [block_of_add]; exact hadB)).trans C0.out))
        · exact opOb_wide _ b0 Tryd.underlying5 Tryd.underlying69 rfl rfl (OpK.tmp rfl)
        · exact opOb_shl _ 24 (by omega) rfl rfl (OpK.tmp rfl)
        · exact (opOb_move _ rfl (.inl rfl) rfl)
        · exact (opOb_move _ rfl (.inl rfl) rfl)
        · exact opOb_nmul _ _ (by omega) rfl rfl (OpK.const) (OpK.tmp rfl)
        · exact opOb_nadd _ _ (by omega) rfl rfl (OpK.tmp rfl) (OpK.const)
        · exact opOb_idx rfl rfl (OpK.tmp rfl) (OpK.tmp rfl) (fun w => run_idx_slice w ad n c (4 * k + 1) (by omega))
        · exact opOb_ld rfl rfl (OpK.tmp rfl) (fun w' hb => run_ld8 w' _ _ ((hb.cell (by rw [block_of_add]; exact hadB)).trans C1.out))
        · exact opOb_wide _ b1 Tryd.underlying5 Tryd.underlying69 rfl rfl (OpK.tmp rfl)
        · exact opOb_shl _ 16 (by omega) rfl rfl (OpK.tmp rfl)
        · exact opOb_or _ _ rfl rfl (OpK.tmp rfl) (OpK.tmp rfl)
        · exact (opOb_move _ rfl (.inl rfl) rfl)
        · exact (opOb_move _ rfl (.inl rfl) rfl)
        · exact opOb_nmul _ _ (by omega) rfl rfl (OpK.const) (OpK.tmp rfl)
        · exact opOb_nadd _ _ (by omega) rfl rfl (OpK.tmp rfl) (OpK.const)
        · exact opOb_idx rfl rfl (OpK.tmp rfl) (OpK.tmp rfl) (fun w => run_idx_slice w ad n c (4 * k + 2) (by omega))
        · exact opOb_ld rfl rfl (OpK.tmp rfl) (fun w' hb => run_ld8 w' _ _ ((hb.cell (by rw [block_of_add]; exact hadB)).trans C2.out))
        · exact opOb_wide _ b2 Tryd.underlying5 Tryd.underlying69 rfl rfl (OpK.tmp rfl)
        · exact opOb_shl _ 8 (by omega) rfl rfl (OpK.tmp rfl)
        · exact opOb_or _ _ rfl rfl (OpK.tmp rfl) (OpK.tmp rfl)
        · exact (opOb_move _ rfl (.inl rfl) rfl)
        · exact (opOb_move _ rfl (.inl rfl) rfl)
        · exact opOb_nmul _ _ (by omega) rfl rfl (OpK.const) (OpK.tmp rfl)
        · exact opOb_nadd _ _ (by omega) rfl rfl (OpK.tmp rfl) (OpK.const)
        · exact opOb_idx rfl rfl (OpK.tmp rfl) (OpK.tmp rfl) (fun w => run_idx_slice w ad n c (4 * k + 3) (by omega))
        · exact opOb_ld rfl rfl (OpK.tmp rfl) (fun w' hb => run_ld8 w' _ _ ((hb.cell (by rw [block_of_add]; exact hadB)).trans C3.out))
        · exact opOb_wide _ b3 Tryd.underlying5 Tryd.underlying69 rfl rfl (OpK.tmp rfl)
        · exact opOb_or _ _ rfl rfl (OpK.tmp rfl) (OpK.tmp rfl)
        · exact opOb_idx rfl rfl (OpK.tmp rfl) (OpK.tmp rfl) (fun w => run_idx16 w _ _ (k) (by omega))
        · intro w' hb
          simp only [fin, SF.is, forall_eq]
          simp only [Act.put, List.setIfInBounds_toArray, List.set_cons_succ, List.set_cons_zero]
          have hW' := row_below HW.out hb HW.out.lt
          refine wp_store (v := wv (word m k)) rfl rfl rfl rfl (run_st32 w' _ _ _ (by rw [Nat.zero_add]; exact hW'.cell hk16) (hW'.frozen _)) ?_
          go_wp2_with fail
          go_roundw
          case rel => exact ⟨k + 1, by omega, by go_num, (hW'.set k _).congr (fun j _ => by
            by_cases e : j = k
            · subst e; rw [if_pos rfl, if_pos (by omega)]
            · rw [if_neg e]
              by_cases e2 : j < k
              · rw [if_pos e2, if_pos (by omega)]
              · rw [if_neg e2, if_neg (by omega)]), (Hbel.out.trans (hb.mono Hbel.out.size)).setCell (Nat.le_refl _) _⟩
          case measure => simp [intOf]; omega
      · obtain rfl : k = 16 := by omega
        have hgB : g < wr.heap.size := Nat.lt_of_lt_of_le hglt hbel.size
        have hH : ∀ i, i < 8 → wr.cell? ⟨g, o + i, none⟩ = some (wv (H i)) := fun i hi => (hbel.cell (p := ⟨g, o + i, none⟩) hglt).trans (HH.out i hi)
        have HH2 := Lib.hid hH
        have HW := Lib.hid hW
        have Hbel := Lib.hid hbel
        clear hW hbel hb hm hH
        go_wp2_with fail
        have hH := HH2.out
        refine wp_region_facts (B := wr.heap.size) (w0 := wr) [SF.is (.pointer (some ⟨g, o, none⟩)), SF.is (.pointer (some ⟨g, o, none⟩)), SF.is (.pointer (some ⟨g, o + (0), none⟩)), SF.is (wv (H 0)), SF.is (.pointer (some ⟨g, o, none⟩)), SF.is (.pointer (some ⟨g, o, none⟩)), SF.is (.pointer (some ⟨g, o + (1), none⟩)), SF.is (wv (H 1)), SF.is (.pointer (some ⟨g, o, none⟩)), SF.is (.pointer (some ⟨g, o, none⟩)), SF.is (.pointer (some ⟨g, o + (2), none⟩)), SF.is (wv (H 2)), SF.is (.pointer (some ⟨g, o, none⟩)), SF.is (.pointer (some ⟨g, o, none⟩)), SF.is (.pointer (some ⟨g, o + (3), none⟩)), SF.is (wv (H 3)), SF.is (.pointer (some ⟨g, o, none⟩)), SF.is (.pointer (some ⟨g, o, none⟩)), SF.is (.pointer (some ⟨g, o + (4), none⟩)), SF.is (wv (H 4)), SF.is (.pointer (some ⟨g, o, none⟩)), SF.is (.pointer (some ⟨g, o, none⟩)), SF.is (.pointer (some ⟨g, o + (5), none⟩)), SF.is (wv (H 5)), SF.is (.pointer (some ⟨g, o, none⟩)), SF.is (.pointer (some ⟨g, o, none⟩)), SF.is (.pointer (some ⟨g, o + (6), none⟩)), SF.is (wv (H 6)), SF.is (.pointer (some ⟨g, o, none⟩)), SF.is (.pointer (some ⟨g, o, none⟩)), SF.is (.pointer (some ⟨g, o + (7), none⟩)), SF.is (wv (H 7)), SF.is (wv (H 0)), SF.is (wv (H 1)), SF.is (wv (H 2)), SF.is (wv (H 3)), SF.is (wv (H 4)), SF.is (wv (H 5)), SF.is (wv (H 6)), SF.is (wv (H 7))] (by kernel_rfl) (by kernel_rfl) rfl (Nat.le_refl _) (Below.refl _ _) ⟨?_, ?_, ?_, ?_, ?_, ?_, ?_, ?_, ?_, ?_, ?_, ?_, ?_, ?_, ?_, ?_, ?_, ?_, ?_, ?_, ?_, ?_, ?_, ?_, ?_, ?_, ?_, ?_, ?_, ?_, ?_, ?_, ?_, ?_, ?_, ?_, ?_, ?_, ?_, ?_, trivial⟩ ?_
        · exact (opOb_move _ rfl (.inl rfl) rfl)
        · exact opOb_nil _ rfl rfl (OpK.tmp rfl)
        · exact opOb_idx rfl rfl (OpK.tmp rfl) (OpK.const) (fun w => run_idx8 w _ _ (0) (by omega))
        · exact opOb_ld rfl rfl (OpK.tmp rfl) (fun w' hb => run_ld32 w' _ _ ((hb.cell hgB).trans (hH 0 (by omega))))
        · exact (opOb_move _ rfl (.inl rfl) rfl)
        · exact opOb_nil _ rfl rfl (OpK.tmp rfl)
        · exact opOb_idx rfl rfl (OpK.tmp rfl) (OpK.const) (fun w => run_idx8 w _ _ (1) (by omega))
        · exact opOb_ld rfl rfl (OpK.tmp rfl) (fun w' hb => run_ld32 w' _ _ ((hb.cell hgB).trans (hH 1 (by omega))))
        · exact (opOb_move _ rfl (.inl rfl) rfl)
        · exact opOb_nil _ rfl rfl (OpK.tmp rfl)
        · exact opOb_idx rfl rfl (OpK.tmp rfl) (OpK.const) (fun w => run_idx8 w _ _ (2) (by omega))
        · exact opOb_ld rfl rfl (OpK.tmp rfl) (fun w' hb => run_ld32 w' _ _ ((hb.cell hgB).trans (hH 2 (by omega))))
        · exact (opOb_move _ rfl (.inl rfl) rfl)
        · exact opOb_nil _ rfl rfl (OpK.tmp rfl)
        · exact opOb_idx rfl rfl (OpK.tmp rfl) (OpK.const) (fun w => run_idx8 w _ _ (3) (by omega))
        · exact opOb_ld rfl rfl (OpK.tmp rfl) (fun w' hb => run_ld32 w' _ _ ((hb.cell hgB).trans (hH 3 (by omega))))
        · exact (opOb_move _ rfl (.inl rfl) rfl)
        · exact opOb_nil _ rfl rfl (OpK.tmp rfl)
        · exact opOb_idx rfl rfl (OpK.tmp rfl) (OpK.const) (fun w => run_idx8 w _ _ (4) (by omega))
        · exact opOb_ld rfl rfl (OpK.tmp rfl) (fun w' hb => run_ld32 w' _ _ ((hb.cell hgB).trans (hH 4 (by omega))))
        · exact (opOb_move _ rfl (.inl rfl) rfl)
        · exact opOb_nil _ rfl rfl (OpK.tmp rfl)
        · exact opOb_idx rfl rfl (OpK.tmp rfl) (OpK.const) (fun w => run_idx8 w _ _ (5) (by omega))
        · exact opOb_ld rfl rfl (OpK.tmp rfl) (fun w' hb => run_ld32 w' _ _ ((hb.cell hgB).trans (hH 5 (by omega))))
        · exact (opOb_move _ rfl (.inl rfl) rfl)
        · exact opOb_nil _ rfl rfl (OpK.tmp rfl)
        · exact opOb_idx rfl rfl (OpK.tmp rfl) (OpK.const) (fun w => run_idx8 w _ _ (6) (by omega))
        · exact opOb_ld rfl rfl (OpK.tmp rfl) (fun w' hb => run_ld32 w' _ _ ((hb.cell hgB).trans (hH 6 (by omega))))
        · exact (opOb_move _ rfl (.inl rfl) rfl)
        · exact opOb_nil _ rfl rfl (OpK.tmp rfl)
        · exact opOb_idx rfl rfl (OpK.tmp rfl) (OpK.const) (fun w => run_idx8 w _ _ (7) (by omega))
        · exact opOb_ld rfl rfl (OpK.tmp rfl) (fun w' hb => run_ld32 w' _ _ ((hb.cell hgB).trans (hH 7 (by omega))))
        · exact (opOb_move _ rfl (.inr rfl) rfl)
        · exact (opOb_move _ rfl (.inr rfl) rfl)
        · exact (opOb_move _ rfl (.inr rfl) rfl)
        · exact (opOb_move _ rfl (.inr rfl) rfl)
        · exact (opOb_move _ rfl (.inr rfl) rfl)
        · exact (opOb_move _ rfl (.inr rfl) rfl)
        · exact (opOb_move _ rfl (.inr rfl) rfl)
        · exact (opOb_move _ rfl (.inr rfl) rfl)
        · intro w' hb
          simp only [fin, SF.is, forall_eq]
          simp only [Act.put, List.setIfInBounds_toArray, List.set_cons_succ, List.set_cons_zero]
          clear hH
          have b6 := hb
          clear hb
          go_wp2_with fail
          go_step3
          rename_i K1 hK1
          refine hK1 _ _ (again _ _ ⟨0, S8.of H, by omega, rfl, (row_below HW.out b6 HW.out.lt).congr (fun j hj => ?_), Hbel.out.trans (b6.mono Hbel.out.size), rfl, rfl, rfl, rfl, rfl, rfl, rfl, rfl, rfl, rfl, rfl, rfl, rfl, rfl⟩)
          rw [if_pos hj]
          unfold ring
          rw [show 0 + (j + 16 - 0 % 16) % 16 = j by omega, Wt_lo _ _ hj]
end Go.Proofs.YtlcpflaofggmeaaDoor
