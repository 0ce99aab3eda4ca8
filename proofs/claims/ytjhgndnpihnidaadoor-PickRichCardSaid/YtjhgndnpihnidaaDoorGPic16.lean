/- A part of what the proofs stand on: ShufFn, ShufRounds, PickPlain, WordFn, LookLeak, RootAt, LookSeed, ShufWalk, PickFn. -/
import Derived.Test.YtjhgndnpihnidaaDoorGPic12
import Derived.Test.YtjhgndnpihnidaaDoorGPic13
import Derived.Test.YtjhgndnpihnidaaDoorGPic14
import Derived.Test.YtjhgndnpihnidaaDoorGPic15
import Derived.Test.YtjhgndnpihnidaaDoorGPic11
import Derived.Test.YtjhgndnpihnidaaDoorGPic2
import Derived.Test.YtjhgndnpihnidaaDoorGPic8
import Derived.Shelf.Spec.BitsCarry
/- Numbers out of bytes, by the program and by the reference; flips and bits. -/
namespace Go.Proofs.YtjhgndnpihnidaaDoor
set_option maxRecDepth 40000
open Go.RowKit
/-- A number is loaded from where it lies. -/
theorem run_ld1 {P : Program} (w : World) (ad : Addr) (ty : TypeId) (k : IntKind) (v : Value) (h : w.cell? ad = some v) (hu : P.underlying ty = some (.int k)) : (Instr.loadAt ty (.pointer (some ad))).run P w = .ok v w := by
  simp only [Instr.loadAt, Instr.sureAddr, Sem.run_bind, Sem.run_pure, Result.andThen]
  have hagg : (isAgg ty).run P w = .ok false w := by
    unfold isAgg
    rw [Sem.run_bind, run_underlying hu w]
    rfl
  simp [loadVar, Sem.run_bind, hagg, h]
theorem ex_ld1 {P : Program} {w : World} {o : Oper} {a : Act} {ty : TypeId} {x : Operand} {ad : Addr} {v : Value} (k : IntKind) (ho : o.op = .load ty x) (hx : a.eval x = .pointer (some ad)) (hu : P.underlying ty = some (.int k)) (h : w.cell? ad = some v) : (execOp a.eval o).run P w = .ok (.value v) w := by
  unfold execOp
  rw [ho]
  simp only [hx]
  simp [run_ld1 w ad ty k v h hu]
namespace ShufFn
theorem or_add (a b k : Nat) (ha : a < 2 ^ k) : a ||| b * 2 ^ k = a + b * 2 ^ k := by
  rw [Nat.or_comm, Nat.mul_comm, ← Nat.two_pow_add_eq_or_of_lt ha, Nat.add_comm]
theorem shlB (b k : Nat) (hb : b < 256) (hk : k < 8) (w : World) : (binOp .shl 22 (.int .u64 (b : Int)) (.int .i64 (8 * (k : Int)))).run Tryd.prog w = .ok (.int .u64 ((b * 2 ^ (8 * k) : Nat) : Int)) w := by
  have h : b * 2 ^ (8 * k) < 18446744073709551616 := by
    have h1 : 2 ^ (8 * k) ≤ 2 ^ 56 := Nat.pow_le_pow_right (by omega) (by omega)
    have h2 : b * 2 ^ (8 * k) ≤ 255 * 2 ^ (8 * k) := Nat.mul_le_mul_right _ (by omega)
    omega
  have e : ((b * 2 ^ (8 * k) : Nat) : Int) = (b : Int) * (2 : Int) ^ (8 * k) := by simp
  rw [e]
  rw [show (b * 2 ^ (8 * k) < 18446744073709551616) = (((b * 2 ^ (8 * k) : Nat) : Int) < 18446744073709551616) by simp only [eq_iff_iff]; omega, e] at h
  have h0 : (0 : Int) ≤ (b : Int) * (2 : Int) ^ (8 * k) := by rw [← e]; exact Int.natCast_nonneg _
  have h8 : (8 * (k : Int)).toNat = 8 * k := by omega
  simp [go_sem, IntKind.wrap, IntKind.bits, IntKind.signed, h8]
  rw [Int.emod_eq_of_lt h0 h]
theorem shl8 (R : Nat) (h : R < 72057594037927936) (w : World) : (binOp .shl 22 (.int .u64 (R : Int)) (.int .u64 8)).run Tryd.prog w = .ok (.int .u64 ((R * 256 : Nat) : Int)) w := by
  simp [go_sem, IntKind.wrap, IntKind.bits, IntKind.signed]
  omega
theorem orU (a b : Nat) (ha : a < 18446744073709551616) (hb : b < 18446744073709551616) (w : World) : (binOp .or 22 (.int .u64 (a : Int)) (.int .u64 (b : Int))).run Tryd.prog w = .ok (.int .u64 ((a ||| b : Nat) : Int)) w := by
  have h1 : a ||| b < 18446744073709551616 := Nat.or_lt_two_pow (n := 64) ha hb
  have e : bits .or .u64 (a : Int) (b : Int) = ((a ||| b : Nat) : Int) := by
    show IntKind.u64.wrap ((BitVec.ofInt 64 (a : Int) ||| BitVec.ofInt 64 (b : Int)).toNat : Int) = _
    rw [BitVec.toNat_or, BitVec.ofInt_natCast, BitVec.ofInt_natCast, BitVec.toNat_ofNat, BitVec.toNat_ofNat, Nat.mod_eq_of_lt ha, Nat.mod_eq_of_lt hb]
    rw [IntKind.wrap_u64]
    omega
  simp [go_sem, e]
theorem andU (m c r : Nat) (h : m < 18446744073709551616) (hc : c < 18446744073709551616) (hr : m &&& c = r) (w : World) : (binOp .and 22 (.int .u64 (m : Int)) (.int .u64 (c : Int))).run Tryd.prog w = .ok (.int .u64 (r : Int)) w := by
  have hl : m &&& c < 18446744073709551616 := Nat.lt_of_le_of_lt Nat.and_le_left h
  have h2 : bits .and .u64 (m : Int) (c : Int) = (r : Int) := by
    show IntKind.u64.wrap ((BitVec.ofInt 64 (m : Int) &&& BitVec.ofInt 64 (c : Int)).toNat : Int) = _
    rw [BitVec.toNat_and, BitVec.ofInt_natCast, BitVec.ofInt_natCast, BitVec.toNat_ofNat, BitVec.toNat_ofNat, Nat.mod_eq_of_lt h, Nat.mod_eq_of_lt hc, hr, IntKind.wrap_u64]
    omega
  simp [go_sem, h2]
theorem and1B (m r : Nat) (h : m < 256) (hr : m % 2 = r) (w : World) : (binOp .and 5 (.int .u8 (m : Int)) (.int .u8 1)).run Tryd.prog w = .ok (.int .u8 (r : Int)) w := by
  have h2 : bits .and .u8 (m : Int) 1 = (r : Int) := by
    show IntKind.u8.wrap ((BitVec.ofInt 8 (m : Int) &&& BitVec.ofInt 8 (1 : Int)).toNat : Int) = _
    rw [BitVec.toNat_and, BitVec.ofInt_natCast, BitVec.toNat_ofNat, Nat.mod_eq_of_lt h, show (BitVec.ofInt 8 (1 : Int)).toNat = 1 by rfl, Nat.and_one_is_mod, hr, IntKind.wrap_u8]
    omega
  simp [go_sem, h2]
theorem shrB (b k : Nat) (hk : k < 8) (w : World) : (binOp .shr 5 (.int .u8 (b : Int)) (.int .u64 (k : Int))).run Tryd.prog w = .ok (.int .u8 ((b / 2 ^ k : Nat) : Int)) w := by
  simp [go_sem]
  try omega
theorem subU (a b : Nat) (h : b ≤ a) (w : World) (ha : a < 18446744073709551616) : (binOp .sub 22 (.int .u64 (a : Int)) (.int .u64 (b : Int))).run Tryd.prog w = .ok (.int .u64 ((a - b : Nat) : Int)) w := by
  simp [go_sem, IntKind.wrap, IntKind.bits, IntKind.signed]
  omega
theorem addU (a b : Nat) (w : World) (h : a + b < 18446744073709551616) : (binOp .add 22 (.int .u64 (a : Int)) (.int .u64 (b : Int))).run Tryd.prog w = .ok (.int .u64 ((a + b : Nat) : Int)) w := by
  simp [go_sem, IntKind.wrap, IntKind.bits, IntKind.signed]
  omega
/-- A byte of an array, by its index as a number of 64 bits. -/
theorem run_idx32 (w : World) (ad : Addr) (i : Nat) (hi : i < 32) : (Instr.indexAt 24 (.pointer (some ad)) (.int .u64 (i : Int))).run Tryd.prog w = .ok (.pointer (some (ad.add i))) w := by
  simp [go_sem, Instr.indexAt]
  intro h
  omega
theorem cvBU (b : Nat) (hb : b < 256) (w : World) : (convert 5 22 (.int .u8 (b : Int))).run Tryd.prog w = .ok (.int .u64 (b : Int)) w := by
  simp [go_sem, IntKind.wrap, IntKind.bits, IntKind.signed]
  omega
theorem shr3 (m k : Nat) (h : m / 2 ^ 3 = k) (w : World) : (binOp .shr 22 (.int .u64 (m : Int)) (.int .u64 3)).run Tryd.prog w = .ok (.int .u64 (k : Int)) w := by
  subst h
  simp [go_sem]
end ShufFn
open ShufFn
set_option maxHeartbeats 2000000 in
theorem read_look (A : Option Addr) (c : Nat) (x : Nat → Nat) (w : World) (hb : Rd w w.heap.size A 8 (u8v x)) (hx : ∀ i, x i < 256) :
    Calls Tryd.prog 90 #[.slice A 8 c] w fun e w' => e = .returned (.tuple #[.int .u64 ((rdN x 8 : Nat) : Int), .int .i64 0]) ∧ w' = w := by
  obtain ⟨ad, hA, _, hc⟩ := hb (by omega)
  subst hA
  have HC := Lib.hid hc
  have HXl := Lib.hid hx
  clear hb hc hx
  go_enter Tryd.func90, Tryd.ntmps90
  go_wp2_with fail
  go_loopw [4, 12] (fun o4 o12 wr => ∃ k : Nat, o4 = .int .u64 ((rdN x k : Nat) : Int) ∧ o12 = .int .i64 (k : Int) ∧ k ≤ 8 ∧ wr = w) (fun _ i _ => 8 - (intOf i).toNat)
  case atStart => exact ⟨0, rfl, rfl, by omega, rfl⟩
  case round =>
    obtain ⟨k, rfl, rfl, hk, rfl⟩ := hrel
    by_cases hk8 : k < 8
    · have HB := Lib.hid (HXl.out k)
      have HR := Lib.hid (rdN_lt HXl.out k)
      have HR2 := Lib.hid (show rdN x k < 18446744073709551616 from Nat.lt_of_lt_of_le HR.out (by
        have h1 : 2 ^ (8 * k) ≤ 2 ^ 64 := Nat.pow_le_pow_right (by omega) (by omega)
        omega))
      have HT := Lib.hid (show x k * 2 ^ (8 * k) < 18446744073709551616 from by
        have h1 := rdN_lt HXl.out (k + 1)
        have h2 : 2 ^ (8 * (k + 1)) ≤ 2 ^ 64 := Nat.pow_le_pow_right (by omega) (by omega)
        rw [rdN] at h1
        omega)
      have HE := Lib.hid (show rdN x k ||| x k * 2 ^ (8 * k) = rdN x (k + 1) by rw [or_add _ _ _ HR.out]; rfl)
      go_wp2_with (first
        | (refine wpList_as rfl 15 rfl (.pointer (some (ad.add (k * 1)))) ?_ ?_; (· exact ex_idx rfl rfl rfl (fun w => run_idxZ (z := 1) w Tryd.underlying39 (by kernel_rfl) ad (by omega)) _))
        | (refine wpList_as rfl 16 rfl (.int .u8 ((x k : Nat) : Int)) ?_ ?_; (· exact ex_ld1 .u8 rfl rfl Tryd.underlying5 ((congrArg (fun q => World.cell? _ (ad.add q)) (Nat.mul_one k)).trans (HC.out k hk8))))
        | (refine wpList_as rfl 19 rfl (.int .u64 ((x k : Nat) : Int)) ?_ ?_; (· exact ex_cnv rfl rfl (fun w => cvBU (x k) HB.out w) _))
        | (refine wpList_as rfl 22 rfl (.int .u64 ((x k * 2 ^ (8 * k) : Nat) : Int)) ?_ ?_; (· exact ex_bin rfl rfl rfl rfl (fun w => shlB (x k) k HB.out hk8 w) _))
        | (refine wpList_as rfl 23 rfl (.int .u64 ((rdN x (k + 1) : Nat) : Int)) ?_ ?_; (· rw [← HE.out]; exact ex_bin rfl rfl rfl rfl (fun w => orU _ _ HR2.out HT.out w) _)))
      go_roundw
      case rel => exact ⟨k + 1, rfl, by go_num, by omega, trivial⟩
      case measure => simp [intOf]; omega
    · obtain rfl : k = 8 := by omega
      go_wp2_with fail
      go_ret2
      exact ⟨rfl, rfl⟩
set_option maxHeartbeats 2000000 in
theorem read_ref (A : Option Addr) (c : Nat) (x : Nat → Nat) (w : World) (hb : Rd w w.heap.size A 8 (u8v x)) (hx : ∀ i, x i < 256) :
    Calls Tryd.prog 92 #[.slice A 8 c] w fun e w' => e = .returned (.tuple #[.int .u64 ((rdN x 8 : Nat) : Int), .int .i64 0]) ∧ w' = w := by
  obtain ⟨ad, hA, _, hc⟩ := hb (by omega)
  subst hA
  have HC := Lib.hid hc
  have HXl := Lib.hid hx
  clear hb hc hx
  go_enter Tryd.func92, Tryd.ntmps92
  go_wp2_with fail
  go_loopw [4, 5] (fun o4 o5 wr => ∃ k : Nat, o4 = .int .u64 ((rdN (fun q => x (8 - k + q)) k : Nat) : Int) ∧ o5 = .int .i64 (7 - (k : Int)) ∧ k ≤ 8 ∧ wr = w) (fun _ i _ => (intOf i + 1).toNat)
  case atStart => exact ⟨0, rfl, rfl, by omega, rfl⟩
  case round =>
    obtain ⟨k, rfl, rfl, hk, rfl⟩ := hrel
    by_cases hk8 : k < 8
    · obtain ⟨j, hj⟩ : ∃ j, j = 7 - k := ⟨_, rfl⟩
      have HJ := Lib.hid (show (7 - (k : Int)) = (j : Int) by omega)
      have hj8 : j < 8 := by omega
      have HB := Lib.hid (HXl.out j)
      obtain ⟨R, hR⟩ : ∃ R, R = rdN (fun q => x (8 - k + q)) k := ⟨_, rfl⟩
      rw [← hR]
      have hlt := rdN_lt (x := fun q => x (8 - k + q)) (fun _ => HXl.out _) k
      rw [← hR] at hlt
      have h56 : 2 ^ (8 * k) ≤ 2 ^ 56 := Nat.pow_le_pow_right (by omega) (by omega)
      have hR56 : R < 72057594037927936 := by omega
      have HE := Lib.hid (show R * 256 ||| x j = rdN (fun q => x (8 - (k + 1) + q)) (k + 1) by
        rw [Nat.or_comm, or_add (x j) R 8 HB.out, rdN_low, hR, Nat.mul_comm 256]
        congr 1
        · exact congrArg x (by omega)
        · congr 1
          exact rdN_congr k (fun q _ => congrArg x (by omega)))
      have HRo := Lib.hid (show R * 256 < 18446744073709551616 by omega)
      have HBo := Lib.hid (show x j < 18446744073709551616 from Nat.lt_trans HB.out (by decide))
      clear hR hlt h56 hj
      rw [HJ.out]
      go_wp2_with (first
        | (refine wpList_as rfl 14 rfl (.int .u64 ((R * 256 : Nat) : Int)) ?_ ?_; (· exact ex_bin rfl rfl rfl rfl (fun w => shl8 R hR56 w) _))
        | (refine wpList_as rfl 17 rfl (.pointer (some (ad.add (j * 1)))) ?_ ?_; (· exact ex_idx rfl rfl rfl (fun w => run_idxZ (z := 1) w Tryd.underlying39 (by kernel_rfl) ad (by omega)) _))
        | (refine wpList_as rfl 18 rfl (.int .u8 ((x j : Nat) : Int)) ?_ ?_; (· exact ex_ld1 .u8 rfl rfl Tryd.underlying5 ((congrArg (fun q => World.cell? _ (ad.add q)) (Nat.mul_one j)).trans (HC.out j hj8))))
        | (refine wpList_as rfl 19 rfl (.int .u64 ((x j : Nat) : Int)) ?_ ?_; (· exact ex_cnv rfl rfl (fun w => cvBU (x j) HB.out w) _))
        | (refine wpList_as rfl 20 rfl (.int .u64 ((rdN (fun q => x (8 - (k + 1) + q)) (k + 1) : Nat) : Int)) ?_ ?_; (· rw [← HE.out]; exact ex_bin rfl rfl rfl rfl (fun w => orU _ _ HRo.out HBo.out w) _)))
      go_roundw
      case rel => exact ⟨k + 1, by rw [show 8 - (k + 1) = 7 - k by omega], congrArg (Value.int .i64) (by have := HJ.out; omega), by omega, trivial⟩
      case measure => simp [intOf] <;> omega
    · obtain rfl : k = 8 := by omega
      go_wp2_with fail
      go_ret2
      exact ⟨by simp, rfl⟩
/-- A round's value: its pivot, and where its digest lies. -/
def rndF (v d : Nat) : Nat → Value := fun i => if i = 0 then .int .u64 (v : Int) else .pointer (some ⟨d, 0, none⟩)
set_option maxHeartbeats 2000000 in
theorem flip_look (v d n i : Nat) (w : World) (hv : v < n) (hi : i < n) (hn : n ≤ 4294967296) :
    Calls Tryd.prog 83 #[.agg (arr 2 (rndF v d)), .int .u64 (i : Int), .int .u64 (n : Int)] w fun e w' => e = .returned (.int .u64 ((flipN v n i : Nat) : Int)) ∧ Below w.heap.size w w' := by
  have HS0 := Lib.hid (HS.nil w)
  by_cases h : i ≤ v
  · have t1 : decide ((i : Int) ≤ (v : Int)) = true := decide_eq_true (by omega)
    have HE := Lib.hid (show Ending.returned (.int .u64 ((v - i : Nat) : Int)) = .returned (.int .u64 ((flipN v n i : Nat) : Int)) by unfold flipN; rw [if_pos h])
    go_enter Tryd.func83, Tryd.ntmps83
    go_wp2_with (first
      | (refine wpList_boxL rfl 140 _ 3 rfl rfl HS0.out 2 (rndF v d) rfl ?_; intro b3 w3 hb3 hc3 hs; have HS3 := Lib.hid hs; clear hs)
      | (refine wpList_as rfl 9 rfl (.int .u64 (v : Int)) ?_ ?_; (· exact ex_ld1 .u64 rfl rfl Tryd.underlying22 (HS3.out.cell 0 0 rfl (by omega))))
      | (refine wpList_as rfl 12 rfl (.int .u64 (v : Int)) ?_ ?_; (· exact ex_ld1 .u64 rfl rfl Tryd.underlying22 (HS3.out.cell 0 0 rfl (by omega))))
      | (refine wpList_as rfl 14 rfl (.int .u64 ((v - i : Nat) : Int)) ?_ ?_; (· exact ex_bin rfl rfl rfl rfl (fun w => subU v i h w (by omega)) _)))
    go_ret
    exact ⟨HE.out, HS3.out.out (by simp; omega)⟩
  · have t1 : decide ((i : Int) ≤ (v : Int)) = false := decide_eq_false (by omega)
    have HE := Lib.hid (show Ending.returned (.int .u64 ((v + n - i : Nat) : Int)) = .returned (.int .u64 ((flipN v n i : Nat) : Int)) by unfold flipN; rw [if_neg h])
    go_enter Tryd.func83, Tryd.ntmps83
    go_wp2_with (first
      | (refine wpList_boxL rfl 140 _ 3 rfl rfl HS0.out 2 (rndF v d) rfl ?_; intro b3 w3 hb3 hc3 hs; have HS3 := Lib.hid hs; clear hs)
      | (refine wpList_as rfl 9 rfl (.int .u64 (v : Int)) ?_ ?_; (· exact ex_ld1 .u64 rfl rfl Tryd.underlying22 (HS3.out.cell 0 0 rfl (by omega))))
      | (refine wpList_as rfl 16 rfl (.int .u64 (v : Int)) ?_ ?_; (· exact ex_ld1 .u64 rfl rfl Tryd.underlying22 (HS3.out.cell 0 0 rfl (by omega))))
      | (refine wpList_as rfl 18 rfl (.int .u64 ((v + n : Nat) : Int)) ?_ ?_; (· exact ex_bin rfl rfl rfl rfl (fun w => addU v n w (by omega)) _))
      | (refine wpList_as rfl 20 rfl (.int .u64 ((v + n - i : Nat) : Int)) ?_ ?_; (· exact ex_bin rfl rfl rfl rfl (fun w => subU (v + n) i (by omega) w (by omega)) _)))
    go_ret
    exact ⟨HE.out, HS3.out.out (by simp; omega)⟩
set_option maxHeartbeats 2000000 in
theorem bit_look (ad : Addr) (B : Nat → Nat) (p : Nat) (w : World) (hb : ∀ i, i < 32 → w.cell? (ad.add i) = some (u8v B i)) (hB : ∀ i, B i < 256) (hp : p < 18446744073709551616) :
    Calls Tryd.prog 84 #[.pointer (some ad), .int .u64 (p : Int)] w fun e w' => e = .returned (.bool (bitN B p)) ∧ w' = w := by
  have HC := Lib.hid hb
  have HBl := Lib.hid hB
  obtain ⟨k, hk⟩ : ∃ k, k = p % 256 / 8 := ⟨_, rfl⟩
  obtain ⟨q, hq⟩ : ∃ q, q = p % 8 := ⟨_, rfl⟩
  obtain ⟨m, hm⟩ : ∃ m, m = p % 256 := ⟨_, rfl⟩
  obtain ⟨y, hy⟩ : ∃ y, y = B k / 2 ^ q := ⟨_, rfl⟩
  obtain ⟨z, hz⟩ : ∃ z, z = y % 2 := ⟨_, rfl⟩
  have hy2 : y < 256 := by rw [hy]; exact Nat.lt_of_le_of_lt (Nat.div_le_self _ _) (hB k)
  have H1 := Lib.hid (show p &&& 255 = m by rw [hm]; exact Nat.and_two_pow_sub_one_eq_mod p 8)
  have H2 := Lib.hid (show m / 2 ^ 3 = k by rw [hm, hk])
  have H3 := Lib.hid (show p &&& 7 = q by rw [hq]; exact Nat.and_two_pow_sub_one_eq_mod p 3)
  have H4 := Lib.hid hy.symm
  have H5 := Lib.hid hz.symm
  have HE := Lib.hid (show Ending.returned (.bool (z == 1)) = .returned (.bool (bitN B p)) by unfold bitN; rw [hz, hy, hk, hq])
  have hk32 : k < 32 := by omega
  have hq8 : q < 8 := by omega
  have hm256 : m < 256 := by omega
  have hz2 : z < 2 := by omega
  have HB1 := Lib.hid (show ((z : Int) == 1) = (z == 1) by
    by_cases h : z = 1
    · subst h; rfl
    · rw [beq_eq_false_iff_ne.2 (by omega), beq_eq_false_iff_ne.2 h])
  clear hb hB hk hq hm hy hz
  go_enter Tryd.func84, Tryd.ntmps84
  go_wp2_with (first
    | (refine wpList_as rfl 7 rfl (.int .u64 (m : Int)) ?_ ?_; (· exact ex_bin rfl rfl rfl rfl (fun w => andU p 255 m hp (by omega) H1.out w) _))
    | (refine wpList_as rfl 8 rfl (.int .u64 (k : Int)) ?_ ?_; (· exact ex_bin rfl rfl rfl rfl (fun w => shr3 m k H2.out w) _))
    | (refine wpList_as rfl 10 rfl (.pointer (some (ad.add k))) ?_ ?_; (· exact ex_idx rfl rfl rfl (fun w => run_idx32 w ad k hk32) _))
    | (refine wpList_as rfl 11 rfl (.int .u8 ((B k : Nat) : Int)) ?_ ?_; (· exact ex_ld1 .u8 rfl rfl Tryd.underlying5 (HC.out k hk32)))
    | (refine wpList_as rfl 13 rfl (.int .u64 (q : Int)) ?_ ?_; (· exact ex_bin rfl rfl rfl rfl (fun w => andU p 7 q hp (by omega) H3.out w) _))
    | (refine wpList_as rfl 14 rfl (.int .u8 (y : Int)) ?_ ?_; (· rw [← H4.out]; exact ex_bin rfl rfl rfl rfl (fun w => shrB (B k) q hq8 w) _))
    | (refine wpList_as rfl 15 rfl (.int .u8 (z : Int)) ?_ ?_; (· exact ex_bin rfl rfl rfl rfl (fun w => and1B y z hy2 H5.out w) _)))
  go_ret
  rw [HB1.out]
  exact ⟨HE.out, rfl⟩
end Go.Proofs.YtjhgndnpihnidaaDoor
/- The rounds of a shuffle: their pivots and their digests. -/
namespace Go.Proofs.YtjhgndnpihnidaaDoor
set_option maxRecDepth 40000
open Go.RowKit
theorem one_at (v : Value) (i : Nat) (hi : i < 1) : (#[v] : Array Value)[i]? = some v := by
  obtain rfl : i = 0 := by omega
  rfl
section
variable {P : Program}
/-- A new slice of one number. -/
theorem wpList_bs1s {ops : Array Oper} {rest : List Oper} {o : Oper} {a : Act} {w w0 : World} {Q : Exit → Act → World → Prop} {rows : List RowSpec} (hgd : o.guard = none) {t e : TypeId} (x : Operand) (v : Value) (ho : o.op = .buildSlice t 1 #[(0, x)]) (hx : a.eval x = v) (hr : ∀ w : World, (Instr.buildSlice t 1 #[(0, v)]).run P w = .ok (.slice (some ⟨w.heap.size, 0, none⟩) 1 1) (w.alloc (.cells #[v] e))) (h : HS w0 w rows)
    (hK : ∀ b w', w0.heap.size ≤ b → w.heap.size ≤ b → Below w.heap.size w w' → HS w0 w' (⟨b, e, 1, fun _ => v⟩ :: rows) → wpList P ops Q rest (a.put o.dst (.slice (some ⟨b, 0, none⟩) 1 1)) w') : wpList P ops Q (o :: rest) a w :=
  wpList_plain hgd fun _ hK' => by
    have hrun : (execOp a.eval o).run P w = .ok (.value (.slice (some ⟨w.heap.size, 0, none⟩) 1 1)) (w.alloc (.cells #[v] e)) := by
      unfold execOp
      rw [ho]
      simp only [List.map_toArray, List.map_cons, List.map_nil, hx]
      simp [hr]
    unfold Oper.wp
    rw [hrun]
    exact hK' _ _ (hK _ _ h.size (Nat.le_refl _) ((Below.refl _ _).alloc (Nat.le_refl _) _) (h.alloc #[v] e 1 (fun _ => v) rfl (fun i hi => one_at v i hi)))
end
/-- A row of the call's own that grows in memory that is followed. -/
theorem HS.appO {w0 w w' : World} {rows : List RowSpec} {A : Option Addr} (h : HS w0 w rows) (hg : w.grownBy w' (A.map (·.block))) {B : Nat} (hA : ∀ ad, A = some ad → B ≤ ad.block) (hr : w0.heap.size ≤ B ∧ ∀ r ∈ rows, r.b < B) : HS w0 w' rows :=
  ⟨hg.os.trans h.os, hg.tape.trans h.tape, hg.output.trans h.output, Nat.le_trans h.size hg.size, fun k hk hr' => (hg.block k (Nat.lt_of_lt_of_le hk h.size) (fun e => by
    cases A with
    | none => cases e
    | some ad => injection e with e; have e' : k = ad.block := e; have := hA ad rfl; have := hr.1; omega)).trans (h.block k hk hr'), fun r hr' => (h.has r hr').of_block (hg.block r.b (h.has r hr').lt (fun e => by
    cases A with
    | none => cases e
    | some ad => injection e with e; have e' : r.b = ad.block := e; have := hA ad rfl; have := hr.2 r hr'; omega)), h.apart⟩
namespace ShufRounds
/-- The cells of a list of rounds. -/
def lstF (s : Nat → Nat) (n : Nat) (ρ D : Nat → Nat) : Nat → Value := fun i => rndF (pivN s n (ρ (i / 2))) (D (ρ (i / 2))) (i % 2)
/-- A list of rounds and their digests. -/
structure Rnds (base : Nat) (w : World) (s : Nat → Nat) (n k : Nat) (ρ : Nat → Nat) (A : Option Addr) (c : Nat) (D : Nat → Nat) : Prop where
  own : OwnZ w base 140 2 A k c (lstF s n ρ D)
  dig : ∀ r, r < k → Dig w (D (ρ r)) (preN s (ρ r)) 33 ∧ base ≤ D (ρ r)
theorem dig_ne {w : World} {base : Nat} {A : Option Addr} {k c : Nat} {F : Nat → Value} (h : OwnZ w base 140 2 A k c F) {g : Nat} {m : Nat → Nat} {len : Nat} (hd : Dig w g m len) : ∀ ad, A = some ad → g ≠ ad.block := by
  rintro ad rfl
  obtain ⟨_, _, _, _, _, _, _, c', hc', _⟩ := hd
  rcases h.2 with ⟨hv, _⟩ | ⟨q, cap, cur, hv, _, hh, _⟩
  · injection hv with h1; cases h1
  · injection hv with h1
    injection h1 with h1
    rintro rfl
    rw [h1] at hc'
    rw [hh] at hc'
    injection hc' with hc'
    injection hc' with _ h2
    exact absurd h2 (by decide)
theorem dig_grown {w w' : World} {base : Nat} {A : Option Addr} {k c : Nat} {F : Nat → Value} (h : OwnZ w base 140 2 A k c F) (hg : w.grownBy w' (A.map (·.block))) {g : Nat} {m : Nat → Nat} {len : Nat} (hd : Dig w g m len) : Dig w' g m len :=
  hd.of_block (hg.block g hd.lt (fun e => by
    cases A with
    | none => cases e
    | some ad => injection e with e; exact dig_ne h hd ad rfl e))
theorem Rnds.below {base : Nat} {w w' : World} {s : Nat → Nat} {n k : Nat} {ρ : Nat → Nat} {A : Option Addr} {c : Nat} {D : Nat → Nat} (h : Rnds base w s n k ρ A c D) (hb : Below w.heap.size w w') : Rnds base w' s n k ρ A c D :=
  ⟨h.own.all hb, fun r hr => ⟨(h.dig r hr).1.below hb (h.dig r hr).1.lt, (h.dig r hr).2⟩⟩
theorem Rnds.mono {base base' : Nat} {w : World} {s : Nat → Nat} {n k : Nat} {ρ : Nat → Nat} {A : Option Addr} {c : Nat} {D : Nat → Nat} (h : Rnds base w s n k ρ A c D) (hb : base' ≤ base) : Rnds base' w s n k ρ A c D :=
  ⟨h.own.mono hb, fun r hr => ⟨(h.dig r hr).1, Nat.le_trans hb (h.dig r hr).2⟩⟩
def zeroOf1 : Value := .agg #[.int .u64 0, .pointer none]
theorem rnd_one (p g i : Nat) : (rndF p g i).oneCell' = true := by unfold rndF; split <;> rfl
def updD (D : Nat → Nat) (k g : Nat) : Nat → Nat := fun r => if r = k then g else D r
theorem lst_cat {s : Nat → Nat} {n k g : Nat} {D : Nat → Nat} : ∀ i, i < (k + 1) * 2 → catF (k * 2) (lstF s n fwd D) (rndF (pivN s n k) g) i = lstF s n fwd (updD D k g) i := fun i hi => by
  unfold catF lstF fwd updD
  by_cases h : i < k * 2
  · rw [if_pos h, if_neg (by omega)]
  · rw [if_neg h, if_pos (by omega), show i / 2 = k by omega, show i - k * 2 = i % 2 by omega]
theorem built_rnd (p g : Nat) : Tryd.prog.built 140 [(0, .int .u64 (p : Int)), (1, .pointer (some ⟨g, 0, none⟩))] = some (arr 2 (rndF p g)) := by kernel_rfl
theorem run_bs1_B (v : Int) (w : World) : (Instr.buildSlice 39 1 #[(0, .int .u8 v)]).run Tryd.prog w = .ok (.slice (some ⟨w.heap.size, 0, none⟩) 1 1) (w.alloc (.cells #[.int .u8 v] 5)) := by simp [go_sem]
theorem cvIB (k : Nat) (hk : k < 256) (w : World) : (convert 3 5 (.int .i64 (k : Int))).run Tryd.prog w = .ok (.int .u8 (k : Int)) w := by
  simp [go_sem, IntKind.wrap, IntKind.bits, IntKind.signed]; omega
theorem remU (a n : Nat) (hn : 0 < n) (ha : a < 18446744073709551616) (w : World) : (binOp .rem 22 (.int .u64 (a : Int)) (.int .u64 (n : Int))).run Tryd.prog w = .ok (.int .u64 ((a % n : Nat) : Int)) w := by
  have _h0 : (n : Int) ≠ 0 := by omega
  have e : (a : Int).tmod (n : Int) = ((a % n : Nat) : Int) := by
    rw [Int.tmod_eq_emod_of_nonneg (by omega)]; rfl
  have hl : a % n < 18446744073709551616 := Nat.lt_of_le_of_lt (Nat.mod_le _ _) ha
  simp [go_sem, e]
  try omega
end ShufRounds
open ShufRounds in
set_option maxHeartbeats 8000000 in
theorem rounds_look (s : Nat → Nat) (hs : ∀ i, s i < 256) (n : Nat) (hn : 0 < n) (w : World) (hp : ShaPkg w) :
    Calls Tryd.prog 81 #[.int .u64 (n : Int), rootV s] w fun e w' => ∃ A c D, e = .returned (.slice A 6 c) ∧ Rnds w.heap.size w' s n 6 fwd A c D ∧ Below w.heap.size w w' := by
  have hlt := hp.lt
  have HP := Lib.hid hp
  have HSl := Lib.hid hs
  have HS0 := Lib.hid (HS.nil w)
  clear hp hs
  go_enter Tryd.func81, Tryd.ntmps81
  go_wp2_with (refine wpList_boxL rfl 24 _ 3 rfl rfl HS0.out 32 (u8v s) rfl ?_; intro b3 w3 hb3 hc3 hs; have HS3 := Lib.hid hs; clear hs)
  have hb3w : b3 < w3.heap.size := HS3.out.lt 0 rfl
  have hw3 := HS3.out.size
  go_loopw [5, 11] (fun o5 o11 wr => ∃ (k : Nat) (A : Option Addr) (c : Nat) (D : Nat → Nat), o5 = .slice A k c ∧ o11 = .int .i64 (k : Int) ∧ k ≤ 6 ∧ Rnds w3.heap.size wr s n k fwd A c D ∧ HS w wr [⟨b3, 24, 32, u8v s⟩] ∧ w3.heap.size ≤ wr.heap.size) (fun _ ix _ => 6 - (intOf ix).toNat)
  case atStart => exact ⟨0, none, 0, fun _ => 0, rfl, rfl, by omega, ⟨OwnZ.nil _ _ _ _ _, fun r h => absurd h (by omega)⟩, HS3.out, Nat.le_refl _⟩
  case round =>
    clear HS3 HS0
    obtain ⟨k, A, c, D, rfl, rfl, hk, hrn, hs, hsz⟩ := hrel
    have HRn := Lib.hid hrn
    have HSr := Lib.hid hs
    have HPr := Lib.hid (HP.out.below (hs.out (by simp; omega)))
    have HBr := Lib.hid (Rd.of_row (n := 32) (hs.row 0 rfl) (Nat.le_refl _) (hs.lt 0 rfl))
    clear hrn hs
    by_cases hk6 : k < 6
    · have hpl := preN_lt (r := k) HSl.out (by omega)
      have HPl := Lib.hid hpl
      obtain ⟨H, hH⟩ : ∃ H, H = shaB (preN s k) 33 := ⟨_, rfl⟩
      have HHl := Lib.hid (show ∀ i, H i < 256 by rw [hH]; exact fun i => shaB_lt _ _ i)
      have HHe := Lib.hid hH.symm
      have HPv := Lib.hid (show rdN H 8 % n = pivN s n k by rw [hH]; rfl)
      have HR := Lib.hid (show rdN H 8 < 18446744073709551616 from rdN_lt HHl.out 8)
      clear hpl hH
      have tok1 := Tok.mk 1
      go_wp2_with (first
        | (go_at_call 62; refine (new_any _ HPr.out (preN s k)).mono ?_; rintro e wa ⟨g, rfl, hg, hrow, hb⟩; have HSa := Lib.hid ((HS.nil wr).below hb); have HDa := Lib.hid (dig_new (preN s k) hrow); have hga : g < wa.heap.size := hrow.lt; clear hrow hb)
        | (go_at_call 63; have hx : Tok 1 := (by assumption); clear hx tok1
           refine (write_any g 0 32 32 (some ⟨b3, 0, none⟩) (preN s k) s _ HDa.out ((HBr.out.below HSa.out.bel).more HSa.out.size) (fun _ ad e => by injection e with e; subst e; show b3 ≠ g; omega) HSl.out HPl.out (by omega) (by omega) (HPr.out.below HSa.out.bel) ⟨by omega, by omega⟩).mono ?_
           rintro e wb ⟨rfl, hd, hgr⟩; have hab := hgr.size; have HSb := Lib.hid (HSa.out.other hgr hg (fun r hr => by cases hr)); have HDb := Lib.hid (hd.congr (m' := s) (fun i _ => by unfold catN; rw [if_neg (by omega), Nat.sub_zero])); clear hd hgr; have tok2 := Tok.mk 2)
        | (refine wpList_as rfl 20 rfl (.int .u8 (k : Int)) ?_ ?_; (· exact ex_cnv rfl rfl (fun w => cvIB k (by omega) w) _))
        | (refine wpList_bs1s rfl (.tmp 20) (.int .u8 (k : Int)) rfl rfl (fun w => run_bs1_B _ w) HSb.out ?_; intro b21 wc hb21 hc21 hbl hs; have HSc := Lib.hid hs; have HDc := Lib.hid (HDb.out.below hbl HDb.out.lt); have hgc : g < b21 := Nat.lt_of_lt_of_le HDb.out.lt hc21; clear hs hbl)
        | (go_at_call 63; have hx : Tok 2 := (by assumption); clear hx tok2
           refine (write_any g 32 1 1 (some ⟨b21, 0, none⟩) s (fun _ => k) _ HDc.out (Rd.of_row (HSc.out.row 0 rfl) (Nat.le_refl _) (HSc.out.lt 0 rfl)) (fun _ ad e => by injection e with e; subst e; show b21 ≠ g; omega) (fun _ => by omega) HSl.out (by omega) (by omega) (HPr.out.below (HSc.out.out (by simp; omega))) ⟨by omega, by omega⟩).mono ?_
           rintro e wd ⟨rfl, hd, hgr⟩; have hgd : g < wd.heap.size := hd.lt; have HSd := Lib.hid ((HSc.out.other hgr hg (by simp; omega)).out (by simp; omega)); have HDd := Lib.hid (show Dig wd g (preN s k) 33 from hd); have HE0 := Lib.hid (HS.nil wd); clear hd hgr; have tok3 := Tok.mk 3)
        | (go_at_call 64; refine (sumd_any g 33 (preN s k) _ HDd.out HPl.out (HPr.out.below HSd.out)).mono ?_; rintro e we ⟨rfl, hb⟩; rw [HHe.out]; have HSe := Lib.hid (HE0.out.below hb); clear hb)
        | (refine wpList_allocL rfl 24 8 rfl rfl HSe.out (Array.replicate 32 (.int .u8 0)) (by kernel_rfl) 32 (u8v fun _ => 0) (by rfl) (zero_at 32 (.int .u8 0)) ?_; intro b8 wf hb8 hc8 hs; have HSf := Lib.hid hs; clear hs)
        | (refine wpList_storeH rfl 24 (.tmp 8) (.tmp 24) rfl HSf.out 0 rfl (u8v H) rfl rfl (by kernel_rfl) (fun _ _ => rfl) ?_; intro wg hs; have HSg := Lib.hid hs; clear hs)
        | (go_at_call 90; refine (read_look (some ⟨b8, 0, none⟩) 32 H _ (Rd.of_row (HSg.out.row 0 rfl) (show 8 ≤ 32 by omega) (HSg.out.lt 0 rfl)) HHl.out).mono ?_; rintro e wh ⟨rfl, hw⟩; rw [hw]; clear hw wh)
        | (refine wpList_as rfl 33 rfl (.int .u64 ((pivN s n k : Nat) : Int)) ?_ ?_; (· rw [← HPv.out]; exact ex_bin rfl rfl rfl rfl (fun w => remU (rdN H 8) n hn HR.out w) _))
        | (refine wpList_build_as rfl 140 #[(0, .tmp 33), (1, .tmp 34)] rfl [(0, .int .u64 ((pivN s n k : Nat) : Int)), (1, .pointer (some ⟨g, 0, none⟩))] rfl _ (built_rnd (pivN s n k) g) ?_)
        | (refine wpList_bs1 rfl Tryd.underlying137 (z := 2) (by kernel_rfl) (by omega) (by omega) (v0 := zeroOf1) (by kernel_rfl) _ rfl (rndF (pivN s n k) g) rfl HSg.out ?_; intro b36 wi hb36 hc36 hs; have HSi := Lib.hid hs; have HBi := Lib.hid (hs.out (by simp; omega)); clear hs)
        | (at_builtin; refine wpList_appZ _ (.tmp 30) (.tmp 36) 137 w3.heap.size (e := 140) (z := zeroOf1) (k := 2) (bytes := 16) (by kernel_rfl) Tryd.underlying137 (by rfl) (by omega) rfl rfl (k + 1) (lstF s n fwd (updD D k g)) rfl rfl (((HRn.out.below HSd.out).below (HBi.out.mono (by omega))).own) (Rd.of_row (HSi.out.row 0 rfl) (Nat.le_refl _) (HSi.out.lt 0 rfl)) (fun i _ => rnd_one _ _ i) rfl lst_cat ⟨by omega, by omega⟩ (by have := HSi.out.size; have := HSd.out.size; omega) ?_; intro A37 c37 wj ho hg37 _; have HO37 := Lib.hid ho; have HG37 := Lib.hid hg37; clear ho hg37))
      go_roundw
      case rel =>
        have hbw := HSd.out.trans (HBi.out.mono HSd.out.size)
        have hwi := HSi.out.size
        have hwd := HSd.out.size
        have hO := (HRn.out.below hbw).own
        refine ⟨k + 1, A37, c37, updD D k g, rfl, by go_num, by omega, ⟨HO37.out, fun r hr => ?_⟩, ((HSr.out.below hbw).appO HG37.out (B := w3.heap.size) (fun ad e => (hO.base_le ad e).1) (by simp; omega)), Nat.le_trans hsz (Nat.le_trans hwd (Nat.le_trans hwi HG37.out.size))⟩
        show Dig wj (if r = k then g else D r) (preN s r) 33 ∧ w3.heap.size ≤ (if r = k then g else D r)
        by_cases h : r = k
        · subst h
          rw [if_pos rfl]
          exact ⟨dig_grown hO HG37.out (HDd.out.below HBi.out hgd), by omega⟩
        · rw [if_neg h]
          have hd := (HRn.out.below hbw).dig r (by omega)
          exact ⟨dig_grown hO HG37.out hd.1, hd.2⟩
      case measure => simp [intOf]; omega
    · obtain rfl : k = 6 := by omega
      go_wp2_with fail
      go_ret
      exact ⟨A, c, rfl, ⟨D, HRn.out.mono hw3⟩, HSr.out.out (by simp; omega)⟩
end Go.Proofs.YtjhgndnpihnidaaDoor
/- What a draw takes, in plain words. -/
namespace Go.Proofs.YtjhgndnpihnidaaDoor
set_option maxRecDepth 40000
open Go.RowKit
/-- The bytes of a seed and of a number behind it, hashed. -/
def behN (s : Nat → Nat) (n : Nat) : Nat → Nat := shaB (catN 32 s (leB n)) 40
theorem behN_lt (s : Nat → Nat) (n : Nat) : ∀ i, behN s n i < 256 := fun i => shaB_lt _ _ i
/-- What was taken in the first k tries. -/
def outL (t : Nat → Bool) (v : Nat → Nat) (k : Nat) : List Nat := ((List.range k).filter t).map v
def ox (t : Nat → Bool) (v : Nat → Nat) (k : Nat) : Nat → Nat := fun j => (outL t v k).getD j 0
section
variable {t : Nat → Bool} {v : Nat → Nat} {k m j : Nat}
theorem outL_t (h : t k = true) : outL t v (k + 1) = outL t v k ++ [v k] := by
  unfold outL; rw [List.range_succ, List.filter_append, List.map_append]; simp [h]
theorem outL_f (h : t k = false) : outL t v (k + 1) = outL t v k := by
  unfold outL; rw [List.range_succ, List.filter_append, List.map_append]; simp [h]
theorem outL_lt (h : t k = true) : (outL t v (k + 1)).length = (outL t v k).length + 1 := by rw [outL_t h, List.length_append]; rfl
theorem outL_lf (h : t k = false) : (outL t v (k + 1)).length = (outL t v k).length := by rw [outL_f h]
theorem outL_le : (outL t v k).length ≤ k := by
  have := List.length_filter_le t (List.range k)
  simpa [outL] using this
theorem ox_f (h : t k = false) : ox t v (k + 1) = ox t v k := by unfold ox; rw [outL_f h]
theorem ox_cat (h : t k = true) : ∀ i, i < (outL t v k).length + 1 → catF (outL t v k).length (fun j => .int .u64 ((ox t v k j : Nat) : Int)) (fun _ => .int .u64 ((v k : Nat) : Int)) i = .int .u64 ((ox t v (k + 1) i : Nat) : Int) := fun i hi => by
  unfold catF ox
  rw [outL_t h]
  simp only [List.getD]
  by_cases h1 : i < (outL t v k).length
  · rw [if_pos h1, List.getElem?_append_left h1]
  · rw [if_neg h1, List.getElem?_append_right (by omega), show i - (outL t v k).length = 0 by omega]; simp
theorem outL_add (d : Nat) : ∃ r, outL t v (k + d) = outL t v k ++ r := by
  induction d with
  | zero => exact ⟨[], by simp⟩
  | succ d ih =>
    obtain ⟨r, hr⟩ := ih
    cases h : t (k + d) with
    | true => exact ⟨r ++ [v (k + d)], by rw [← Nat.add_assoc, outL_t h, hr, List.append_assoc]⟩
    | false => exact ⟨r, by rw [← Nat.add_assoc, outL_f h, hr]⟩
theorem outL_mono (h : k ≤ m) : (outL t v k).length ≤ (outL t v m).length := by
  obtain ⟨r, hr⟩ := outL_add (t := t) (v := v) (k := k) (m - k)
  rw [show k + (m - k) = m by omega] at hr
  rw [hr, List.length_append]; omega
theorem ox_pre (h : k ≤ m) (hj : j < (outL t v k).length) : ox t v k j = ox t v m j := by
  obtain ⟨r, hr⟩ := outL_add (t := t) (v := v) (k := k) (m - k)
  rw [show k + (m - k) = m by omega] at hr
  unfold ox
  rw [hr]
  simp only [List.getD]
  rw [List.getElem?_append_left hj]
theorem ox_mem (h : j < (outL t v k).length) : ∃ i, i < k ∧ t i = true ∧ ox t v k j = v i := by
  have h1 : ox t v k j ∈ outL t v k := by
    unfold ox
    rw [show (outL t v k).getD j 0 = (outL t v k)[j] by simp [List.getD, h]]
    exact List.getElem_mem h
  unfold outL at h1
  obtain ⟨i, hi, e⟩ := List.mem_map.1 h1
  obtain ⟨h2, h3⟩ := List.mem_filter.1 hi
  exact ⟨i, List.mem_range.1 h2, h3, e.symm⟩
theorem outL_congr {t' : Nat → Bool} {v' : Nat → Nat} : ∀ k, (∀ i, i < k → t i = t' i) → (∀ i, i < k → v i = v' i) → outL t v k = outL t' v' k := by
  intro k
  induction k with
  | zero => intro _ _; rfl
  | succ k ih =>
    intro h1 h2
    have e := ih (fun i hi => h1 i (by omega)) (fun i hi => h2 i (by omega))
    have e1 := h1 k (by omega)
    cases h : t k with
    | true => rw [outL_t h, outL_t (by rw [← e1]; exact h), e, h2 k (by omega)]
    | false => rw [outL_f h, outL_f (by rw [← e1]; exact h), e]
/-- Where each try takes one. -/
theorem outL_all (h : ∀ i, i < k → t i = true) : outL t v k = (List.range k).map v := by
  unfold outL
  rw [List.filter_eq_self.2 (fun a ha => h a (List.mem_range.1 ha))]
end
/-- Try i: the element that is looked at, and whether it is taken. -/
def candN (l s : Nat → Nat) (n i : Nat) : Nat := l (placeN s n (i % n))
def lotN (s : Nat → Nat) (i : Nat) : Nat := behN s (i / 32) (i % 32)
theorem lotN_lt (s : Nat → Nat) (i : Nat) : lotN s i < 256 := behN_lt s _ _
def takeN (E l s : Nat → Nat) (n i : Nat) : Bool := decide (32000000000 * lotN s i ≤ E (candN l s n i) * 255 % 18446744073709551616)
/-- The bytes that lie ready ahead of try i. -/
def readyN (s : Nat → Nat) (i : Nat) : Nat → Nat := if i = 0 then fun _ => 0 else behN s ((i - 1) / 32)
theorem ready_new {s : Nat → Nat} {i : Nat} (h : i % 32 = 0) : behN s (i / 32) = readyN s (i + 1) := by
  unfold readyN; rw [if_neg (by omega), show i + 1 - 1 = i by omega]
theorem ready_old {s : Nat → Nat} {i : Nat} (h : i % 32 ≠ 0) : readyN s i = readyN s (i + 1) := by
  unfold readyN; rw [if_neg (by omega), if_neg (by omega), show (i - 1) / 32 = (i + 1 - 1) / 32 by omega]
theorem ready_at (s : Nat → Nat) (i : Nat) : readyN s (i + 1) (i % 32) = lotN s i := by
  unfold readyN lotN; rw [if_neg (by omega), show i + 1 - 1 = i by omega]
/-- What a draw comes to: so many, or none. -/
def pickL (E l s : Nat → Nat) (n want : Nat) : List Nat := if n = 0 ∨ (outL (takeN E l s n) (candN l s n) 256).length < want then [] else (outL (takeN E l s n) (candN l s n) 256).take want
def pickE (L : List Nat) : Int := if L = [] then 7 else 0
theorem pick_ok {E l s : Nat → Nat} {n want i : Nat} (hn : n ≠ 0) (hi : i ≤ 256) (h : (outL (takeN E l s n) (candN l s n) i).length = want) : pickL E l s n want = outL (takeN E l s n) (candN l s n) i := by
  obtain ⟨r, hr⟩ := outL_add (t := takeN E l s n) (v := candN l s n) (k := i) (256 - i)
  rw [show i + (256 - i) = 256 by omega] at hr
  have h1 := outL_mono (t := takeN E l s n) (v := candN l s n) hi
  unfold pickL
  rw [if_neg (by omega), hr, ← h, List.take_left']
  rfl
theorem pick_none {E l s : Nat → Nat} {n want : Nat} (h : n = 0 ∨ (outL (takeN E l s n) (candN l s n) 256).length < want) : pickL E l s n want = [] := by
  unfold pickL; rw [if_pos h]
theorem pick_len {E l s : Nat → Nat} {n want : Nat} : (pickL E l s n want).length = 0 ∨ (pickL E l s n want).length = want := by
  unfold pickL
  split
  · exact .inl rfl
  · rename_i h; right; rw [List.length_take]; omega
/-- Whom a draw takes. -/
theorem pick_mem {E l s : Nat → Nat} {n want j : Nat} (h : j < (pickL E l s n want).length) : ∃ q, q < n ∧ (pickL E l s n want).getD j 0 = l q := by
  unfold pickL at h ⊢
  split at h
  · simp at h
  · rename_i hno
    rw [if_neg hno]
    rw [List.length_take] at h
    obtain ⟨i, _, _, e⟩ := ox_mem (t := takeN E l s n) (v := candN l s n) (k := 256) (j := j) (by omega)
    refine ⟨placeN s n (i % n), place_lt (Nat.mod_lt _ (by omega)), ?_⟩
    rw [show ∀ L : List Nat, (L.take want).getD j 0 = L.getD j 0 from fun L => by simp only [List.getD]; rw [List.getElem?_take_of_lt (by omega)]]
    exact e
end Go.Proofs.YtjhgndnpihnidaaDoor
/- Functions of package word, and of its reference. -/
namespace Go.Proofs.YtjhgndnpihnidaaDoor
set_option maxRecDepth 40000
open Go.RowKit
section
variable {P : Program}
/-- The lesser of two whole numbers. -/
theorem wpList_min {ops : Array Oper} {rest : List Oper} {o : Oper} {a : Act} {w : World} {Q : Exit → Act → World → Prop} (hgd : o.guard = none) {x y : Operand} {ts : Array TypeId} (ho : o.op = .call { callee := .builtin .min, args := #[x, y], argTypes := ts })
    (k : IntKind) (i j m : Int) (hx : a.eval x = .int k i) (hy : a.eval y = .int k j) (hm : m = if j < i then j else i) (hK : wpList P ops Q rest (a.put o.dst (.int k m)) w) : wpList P ops Q (o :: rest) a w :=
  wpList_plain hgd fun _ hK' => by
    have hrun : (execOp a.eval o).run P w = .ok (.value (.int k m)) w := by
      unfold execOp
      subst hm
      simp only [ho, resolve, invoke, builtin, Sem.run_bind, Sem.run_pure, Result.andThen_ok, List.map_toArray, List.map_cons, List.map_nil, hx, hy]
      simp [Builtin.min_, Builtin.min2, go_sem]
    unfold Oper.wp
    rw [hrun]
    exact hK' _ _ hK
end
end Go.Proofs.YtjhgndnpihnidaaDoor
/- Is finality too long ago? -/
namespace Go.Proofs.YtjhgndnpihnidaaDoor
set_option maxRecDepth 40000
open Go.RowKit
def leakB (s f : Nat) : Bool := decide (4 < s / 4 - 1 - f)
end Go.Proofs.YtjhgndnpihnidaaDoor
/- word.Sub, and the root at a slot, by the program and by the reference. -/
namespace Go.Proofs.YtjhgndnpihnidaaDoor
set_option maxRecDepth 40000
open Go.RowKit
/-- Is there a root at that slot? -/
def atB (s t : Nat) : Bool := decide (t < s ∧ s - t ≤ 8)
/-- What RootAt answers. -/
def atV (F : Nat → Value) (s t : Nat) : Value := if atB s t then .agg (arr 32 fun q => F (141 + t % 8 * 32 + q)) else .agg (arr 32 (u8v fun _ => 0))
def atE (s t : Nat) : Int := if atB s t then 0 else 1
theorem one_root {F : Nat → Value} (hF : Sc F 49) {i q : Nat} (hi : i < 8) (hq : q < 32) : (F (141 + i * 32 + q)).oneCell' = true := by
  have h : ∀ i, i < 8 → ∀ q, q < 32 → leafAt Tryd.prog 8 49 (141 + i * 32 + q) = some 5 := by decide +kernel
  rw [(hF.u8 _ (h i hi q hq)).1]; rfl
end Go.Proofs.YtjhgndnpihnidaaDoor
/- Seeds, by the program. -/
namespace Go.Proofs.YtjhgndnpihnidaaDoor
set_option maxRecDepth 40000
open Go.RowKit
/-- The bytes that a seed is the sum of. -/
def seedF (K E : Nat) (M : Nat → Nat) : Nat → Nat := catN 12 (catN 4 (leB K) (leB E)) M
theorem seedF_lt {K E : Nat} {M : Nat → Nat} (hM : ∀ i, M i < 256) : ∀ i, seedF K E M i < 256 := catN_lt (catN_lt (leB_lt K) (leB_lt E)) hM
/-- The bytes of the mix that a seed of epoch E takes. -/
def mixN (F : Nat → Value) (E : Nat) : Nat → Nat := fun q => nat (F (723 + (E + 6) % 8 * 32 + q)) % 256
theorem mixN_lt (F : Nat → Value) (E : Nat) : ∀ i, mixN F E i < 256 := fun _ => Nat.mod_lt _ (by omega)
theorem mix_eq {F : Nat → Value} (hF : Sc F 49) (E q : Nat) (hq : q < 32) : F (723 + (E + 6) % 8 * 32 + q) = u8v (mixN F E) q := by
  have h : ∀ i, i < 8 → ∀ q, q < 32 → leafAt Tryd.prog 8 49 (723 + i * 32 + q) = some 5 := by decide +kernel
  have h2 := hF.u8 _ (h ((E + 6) % 8) (Nat.mod_lt _ (by omega)) q hq)
  show _ = Value.int .u8 ((nat (F (723 + (E + 6) % 8 * 32 + q)) % 256 : Nat) : Int)
  rw [Nat.mod_eq_of_lt h2.2]
  exact h2.1
theorem seed_cat (K E : Nat) (M m0 : Nat → Nat) : ∀ i, i < 12 + 32 → catN 12 (catN 4 (catN 0 m0 (leB K)) (leB E)) M i = seedF K E M i := fun i _ => by
  unfold seedF catN
  simp
theorem wrapU (x : Int) : IntKind.u64.wrap x = x % 18446744073709551616 := by simp [IntKind.wrap, IntKind.bits, IntKind.signed]
theorem wrap_idx {P : Program} (E : Nat) (w : World) {o : Oper} {a : Act} {x : Operand} {t : TypeId} (ho : o.op = .binOp .rem t x (.const (.int .u64 8)) t) (hx : a.eval x = .int .u64 (IntKind.u64.wrap (IntKind.u64.wrap (IntKind.u64.wrap ((E : Int) + 8) - 1) - 1))) : (execOp a.eval o).run P w = .ok (.value (.int .u64 (((E + 6) % 8 : Nat) : Int))) w := by
  unfold execOp
  rw [ho]
  simp only [hx]
  simp [Act.eval, go_sem]
  rw [Int.tmod_eq_emod_of_nonneg (by rw [wrapU]; exact Int.emod_nonneg _ (by omega)), wrapU, wrapU, wrapU]
  omega
set_option maxHeartbeats 4000000 in
theorem seed_look (F : Nat → Value) (hF : Sc F 49) (E : Nat) (k : Int) (K : Nat) (hk : IntKind.u64.wrap k = (K : Int)) (w : World) (hp : ShaPkg w) :
    Calls Tryd.prog 48 #[.agg (arr 1957 F), .int .u64 (E : Int), .int .i64 k] w fun r w' => r = .returned (rootV (shaB (seedF K E (mixN F E)) 44)) ∧ Below w.heap.size w w' := by
  have HP := Lib.hid hp
  have HSc := Lib.hid hF
  have HK := Lib.hid hk
  have HM := Lib.hid (show ((E + 6) % 8 : Nat) < 8 from Nat.mod_lt _ (by omega))
  have hlt := hp.lt
  clear hp hF hk
  have tok1 := Tok.mk 1
  go_enter Tryd.func48, Tryd.ntmps48
  go_wp2_with (first
    | (refine wpList_box rfl _ _ rfl 1957 F rfl ?_; intro w1 hr1 hb1; have HB0 := Lib.hid (((HS.nil w).below hb1).add hr1 (Nat.le_refl _) (by simp)); have hsz : w.heap.size ≤ w1.heap.size := hb1.size; clear hr1 hb1)
    | (refine wpList_allocH rfl 24 rfl HB0.out (Array.replicate 32 (.int .u8 0)) (by kernel_rfl) 32 (u8v fun _ => 0) (by rfl) (zero_at 32 (.int .u8 0)) ?_; intro w2 hs2'; have HS2 := Lib.hid hs2'; clear hs2')
    | (go_at_call 62; refine (new_any _ (HP.out.below (HS2.out.out (by simp; omega))) (seedF K E (mixN F E))).mono ?_; rintro e w3 ⟨g, rfl, hg3, hrow3, hbel3⟩; have hsz2 : w1.heap.size < w2.heap.size := HS2.out.lt 0 rfl; have HS3 := Lib.hid ((HS2.out.below hbel3).add hrow3 (by omega) (fun r hr => by have := (HS2.out.has r hr).lt; omega)); clear hrow3 hbel3)
    | (go_at_call 71; have hx : Tok 1 := (by assumption); clear hx tok1; rw [HK.out]; refine (bytes_look K _).mono ?_; rintro e w4 ⟨rfl, hb4⟩; have HS4 := Lib.hid (HS3.out.below hb4); clear hb4; have tok2 := Tok.mk 2)
    | (go_at_call 71; have hx : Tok 2 := (by assumption); clear hx tok2; refine (bytes_look E _).mono ?_; rintro e w5 ⟨rfl, hb5⟩; have HS5 := Lib.hid (HS4.out.below hb5); have hg5 : g < w5.heap.size := HS5.out.lt 0 rfl; clear hb5; have tok3 := Tok.mk 3)
    | (have hx : Tok 3 := (by assumption); refine wpList_allocH rfl 103 rfl HS5.out (Array.replicate 8 (.int .u8 0)) (by kernel_rfl) 8 (u8v fun _ => 0) (by rfl) (zero_at 8 (.int .u8 0)) ?_; clear hx tok3; intro w6 hs6; have h56 : w5.heap.size < w6.heap.size := hs6.lt 0 rfl; have HS6 := Lib.hid hs6; clear hs6; have tok4 := Tok.mk 4)
    | (have hx : Tok 4 := (by assumption); refine wpList_allocH rfl 103 rfl HS6.out (Array.replicate 8 (.int .u8 0)) (by kernel_rfl) 8 (u8v fun _ => 0) (by rfl) (zero_at 8 (.int .u8 0)) ?_; clear hx tok4; intro w7 hs7; have HS7 := Lib.hid hs7; clear hs7; have tok5 := Tok.mk 5)
    | (have hx : Tok 5 := (by assumption); refine wpList_storeH rfl 103 (.tmp 8) (.tmp 13) rfl HS7.out 1 rfl (u8v (leB K)) rfl rfl (by kernel_rfl) (fun _ _ => rfl) ?_; clear hx tok5; intro w8 hs8; have HS8 := Lib.hid hs8; clear hs8; have tok6 := Tok.mk 6)
    | (have hx : Tok 6 := (by assumption); refine wpList_storeH rfl 103 (.tmp 9) (.tmp 15) rfl HS8.out 0 rfl (u8v (leB E)) rfl rfl (by kernel_rfl) (fun _ _ => rfl) ?_; clear hx tok6; intro w9 hs9; have HD9 := Lib.hid (dig_new (seedF K E (mixN F E)) (hs9.row 2 rfl)); have HS9 := Lib.hid (hs9.sub (rows' := [⟨w6.heap.size, 103, 8, u8v (leB E)⟩, ⟨w5.heap.size, 103, 8, u8v (leB K)⟩, ⟨w1.heap.size, 24, 32, u8v fun _ => 0⟩, ⟨w.heap.size, 49, 1957, F⟩]) (.cons_cons _ (.cons_cons _ (.cons _ (.refl _)))) (by simp; omega)); clear hs9; have tok7 := Tok.mk 7)
    | (go_at_call 63; have hx : Tok 7 := (by assumption); clear hx tok7
       refine (write_any g 0 4 8 (some ⟨w5.heap.size, 0, none⟩) (seedF K E (mixN F E)) (leB K) _ HD9.out (Rd.of_row (HS9.out.row 1 rfl) (by show 4 ≤ 8; omega) (HS9.out.lt 1 rfl)) (fun _ ad e => by injection e with e; subst e; show w5.heap.size ≠ g; omega) (leB_lt K) (seedF_lt (mixN_lt F E)) (by omega) (by omega) (HP.out.below (HS9.out.out (by simp; omega))) ⟨by omega, by omega⟩).mono ?_
       rintro e w10 ⟨rfl, hd10, hg10⟩; have HS10 := Lib.hid (HS9.out.other hg10 (by omega) (by simp; omega)); have HD10 := Lib.hid hd10; clear hd10 hg10; have tok8 := Tok.mk 8)
    | (go_at_call 63; have hx : Tok 8 := (by assumption); clear hx tok8
       refine (write_any g 4 8 8 (some ⟨w6.heap.size, 0, none⟩) _ (leB E) _ HD10.out (Rd.of_row (HS10.out.row 0 rfl) (Nat.le_refl _) (HS10.out.lt 0 rfl)) (fun _ ad e => by injection e with e; subst e; show w6.heap.size ≠ g; omega) (leB_lt E) (catN_lt (seedF_lt (mixN_lt F E)) (leB_lt K)) (by omega) (by omega) (HP.out.below (HS10.out.out (by simp; omega))) ⟨by omega, by omega⟩).mono ?_
       rintro e w11 ⟨rfl, hd11, hg11⟩; have HS11 := Lib.hid (HS10.out.other hg11 (by omega) (by simp; omega)); have HD11 := Lib.hid hd11; clear hd11 hg11; have tok9 := Tok.mk 9)
    | (have hx : Tok 9 := (by assumption); refine wpList_as rfl 27 rfl (.int .u64 (((E + 6) % 8 : Nat) : Int)) ?_ ?_; (· exact wrap_idx (P := Tryd.prog) E w11 rfl rfl); clear hx tok9; generalize hI : (E + 6) % 8 = I at *; have HI := Lib.hid hI; have hI8 := HM.out; clear hI; have tok10 := Tok.mk 10)
    | (go_at_call 63; have hx : Tok 10 := (by assumption); clear hx tok10
       refine (write_any g 12 32 32 (some ⟨w.heap.size, 723 + I * 32, none⟩) _ (mixN F E) _ HD11.out (fun _ => ⟨_, rfl, HS11.out.lt 3 rfl, fun q hq => by rw [add_litO, ← HI.out, ← mix_eq HSc.out E q hq, HI.out]; exact HS11.out.cell 3 (723 + I * 32 + q) rfl (by omega)⟩) (fun _ ad e => by injection e with e; subst e; show w.heap.size ≠ g; omega) (mixN_lt F E) (catN_lt (catN_lt (seedF_lt (mixN_lt F E)) (leB_lt K)) (leB_lt E)) (by omega) (by omega) (HP.out.below (HS11.out.out (by simp; omega))) ⟨by omega, by omega⟩).mono ?_
       rintro e w12 ⟨rfl, hd12, hg12⟩; have HS12 := Lib.hid (HS11.out.other hg12 (by omega) (by simp; omega)); have HD12 := Lib.hid (hd12.congr (m' := seedF K E (mixN F E)) (seed_cat K E _ _)); clear hd12 hg12; have tok11 := Tok.mk 11)
    | (go_at_call 64; refine (sumd_any g 44 (seedF K E (mixN F E)) _ HD12.out (seedF_lt (mixN_lt F E)) (HP.out.below (HS12.out.out (by simp; omega)))).mono ?_; rintro e w13 ⟨rfl, hb13⟩; have HS13 := Lib.hid (HS12.out.below hb13); clear hb13)
    | (refine wpList_storeH rfl 24 (.tmp 6) (.tmp 33) rfl HS13.out 2 rfl (u8v (shaB (seedF K E (mixN F E)) 44)) rfl rfl (by kernel_rfl) (fun _ _ => rfl) ?_; intro w14 hs14; have HS14 := Lib.hid hs14; clear hs14))
  exact ret_rowIs rfl (HS14.out.row 2 rfl) _ rfl Tryd.underlying24 rfl (by kernel_rfl) rfl ⟨rfl, HS14.out.out (by simp; omega)⟩
end Go.Proofs.YtjhgndnpihnidaaDoor
/- Blocks of bits, and places that walk through rounds. -/
namespace Go.Proofs.YtjhgndnpihnidaaDoor
set_option maxRecDepth 40000
open Go.RowKit
/-- A pointer is loaded from where it lies. -/
theorem run_ldPtr {P : Program} (w : World) (ad : Addr) (ty e : TypeId) (v : Value) (h : w.cell? ad = some v) (hu : P.underlying ty = some (.pointer e)) : (Instr.loadAt ty (.pointer (some ad))).run P w = .ok v w := by
  simp only [Instr.loadAt, Instr.sureAddr, Sem.run_bind, Sem.run_pure, Result.andThen]
  have hagg : (isAgg ty).run P w = .ok false w := by
    unfold isAgg
    rw [Sem.run_bind, run_underlying hu w]
    rfl
  simp [loadVar, Sem.run_bind, hagg, h]
theorem ex_ldPtr {P : Program} {w : World} {o : Oper} {a : Act} {ty : TypeId} {x : Operand} {ad : Addr} {v : Value} (e : TypeId) (ho : o.op = .load ty x) (hx : a.eval x = .pointer (some ad)) (hu : P.underlying ty = some (.pointer e)) (h : w.cell? ad = some v) : (execOp a.eval o).run P w = .ok (.value v) w := by
  unfold execOp
  rw [ho]
  simp only [hx]
  simp [run_ldPtr w ad ty e v h hu]
open ShufRounds in
set_option maxHeartbeats 4000000 in
theorem block_look (s : Nat → Nat) (hs : ∀ i, s i < 256) (v d r k : Nat) (hr : r < 256) (w : World) (hd : Dig w d (preN s r) 33) (hp : ShaPkg w) :
    Calls Tryd.prog 82 #[.agg (arr 2 (rndF v d)), .int .u64 (k : Int)] w fun e w' => e = .returned (rootV (blkN s r k)) ∧ Below w.heap.size w w' := by
  have hlt := hp.lt
  have HP := Lib.hid hp
  have HD := Lib.hid hd
  have hdl := hd.lt
  have HPl := Lib.hid (preN_lt hs hr)
  have HCl := Lib.hid (show ∀ i, catN 33 (preN s r) (leB k) i < 256 from catN_lt HPl.out (leB_lt k))
  have HS0 := Lib.hid (HS.nil w)
  clear hp hd hs
  go_enter Tryd.func82, Tryd.ntmps82
  go_wp2_with (first
    | (refine wpList_boxL rfl 140 _ 2 rfl rfl HS0.out 2 (rndF v d) rfl ?_; intro b2 w1 hb2 hc2 hs; have HS1 := Lib.hid hs; clear hs)
    | (refine wpList_allocL rfl 24 4 rfl rfl HS1.out (Array.replicate 32 (.int .u8 0)) (by kernel_rfl) 32 (u8v fun _ => 0) (by rfl) (zero_at 32 (.int .u8 0)) ?_; intro b4 w2 hb4 hc4 hs; have HS2 := Lib.hid hs; clear hs)
    | (refine wpList_as rfl 8 rfl (.pointer (some ⟨d, 0, none⟩)) ?_ ?_; (· exact ex_ldPtr _ rfl rfl Tryd.underlying117 (HS2.out.cell 1 1 rfl (by omega))))
    | (go_at_call 91; refine (copy_any d 33 (preN s r) _ (HD.out.below (HS2.out.out (by simp; omega)) hdl)).mono ?_; rintro e w3 ⟨g, rfl, hg, ⟨qd, rd, yd, e1, e2, e3, e4, hrow⟩, hb⟩; have hg2 := HS2.out.size; have hb4g : b4 < g := Nat.lt_of_lt_of_le (HS2.out.lt 0 rfl) hg; have hb2g : b2 < g := Nat.lt_of_lt_of_le (HS2.out.lt 1 rfl) hg; have HS3 := Lib.hid ((HS2.out.below hb).add hrow (by omega) (by simp; omega)); have HE := Lib.hid (And.intro e1 (And.intro e2 (And.intro e3 e4))); clear hb hrow e1 e2 e3 e4)
    | (go_at_call 71; refine (bytes_look k _).mono ?_; rintro e w4 ⟨rfl, hb⟩; have HS4 := Lib.hid (HS3.out.below hb); have hg4 : g < w4.heap.size := HS4.out.lt 0 rfl; clear hb)
    | (refine wpList_allocL rfl 103 6 rfl rfl HS4.out (Array.replicate 8 (.int .u8 0)) (by kernel_rfl) 8 (u8v fun _ => 0) (by rfl) (zero_at 8 (.int .u8 0)) ?_; intro b6 w5 hb6 hc6 hs; have HS5 := Lib.hid hs; clear hs)
    | (refine wpList_storeH rfl 103 (.tmp 6) (.tmp 11) rfl HS5.out 0 rfl (u8v (leB k)) rfl rfl (by kernel_rfl) (fun _ _ => rfl) ?_; intro w6 hs; have HD6 := Lib.hid (show Dig w6 g (preN s r) 33 from ⟨qd, rd, yd, HE.out.1, HE.out.2.1, HE.out.2.2.1, HE.out.2.2.2, hs.row 1 rfl⟩); have HS6 := Lib.hid (hs.sub (rows' := [⟨b6, 103, 8, u8v (leB k)⟩, ⟨b4, 24, 32, u8v fun _ => 0⟩]) (.cons_cons _ (.cons _ (.cons_cons _ (.cons _ (.refl _))))) (by simp; omega)); clear hs)
    | (go_at_call 63
       refine (write_any g 33 4 8 (some ⟨b6, 0, none⟩) (preN s r) (leB k) _ HD6.out (Rd.of_row (HS6.out.row 0 rfl) (show 4 ≤ 8 by omega) (HS6.out.lt 0 rfl)) (fun _ ad e => by injection e with e; subst e; show b6 ≠ g; omega) (leB_lt k) HPl.out (by omega) (by omega) (HP.out.below (HS6.out.out (by simp; omega))) ⟨by omega, by omega⟩).mono ?_
       rintro e w7 ⟨rfl, hd7, hg7⟩; have HS7 := Lib.hid (HS6.out.other hg7 (by omega) (by simp; omega)); have HD7 := Lib.hid hd7; clear hd7 hg7)
    | (go_at_call 64; refine (sumd_any g 37 _ _ HD7.out HCl.out (HP.out.below (HS7.out.out (by simp; omega)))).mono ?_; rintro e w8 ⟨rfl, hb⟩; have HS8 := Lib.hid (HS7.out.below hb); clear hb)
    | (refine wpList_storeH rfl 24 (.tmp 4) (.tmp 16) rfl HS8.out 1 rfl (u8v (blkN s r k)) rfl rfl (by kernel_rfl) (fun _ _ => rfl) ?_; intro w9 hs; have HS9 := Lib.hid hs; clear hs))
  exact ret_rowIs rfl (HS9.out.row 1 rfl) _ rfl Tryd.underlying24 rfl (by kernel_rfl) rfl ⟨rfl, HS9.out.out (by simp; omega)⟩
/-- A round's place: the reference's flip is the program's. -/
theorem flip_mod {v n i : Nat} (hv : v < n) (hi : i < n) : (v + n - i) % n = flipN v n i := by
  unfold flipN
  by_cases h : i ≤ v
  · rw [if_pos h, show v + n - i = (v - i) + n by omega, Nat.add_mod_right, Nat.mod_eq_of_lt (by omega)]
  · rw [if_neg h, Nat.mod_eq_of_lt (by omega)]
namespace ShufWalk
def zR : Nat → Value := fun i => if i = 0 then .int .u64 0 else .pointer none
theorem zR_at : ∀ i, i < 2 → (#[Value.int .u64 0, .pointer none] : Array Value)[i]? = some (zR i) := fun i hi => by
  rcases (show i = 0 ∨ i = 1 by omega) with rfl | rfl <;> rfl
theorem shr8 (p q : Nat) (h : p / 256 = q) (w : World) : (binOp .shr 22 (.int .u64 (p : Int)) (.int .u64 8)).run Tryd.prog w = .ok (.int .u64 (q : Int)) w := by
  subst h
  simp [go_sem]
end ShufWalk
end Go.Proofs.YtjhgndnpihnidaaDoor
/- A seed and a number behind it, hashed. -/
namespace Go.Proofs.YtjhgndnpihnidaaDoor
set_option maxRecDepth 40000
open Go.RowKit
namespace PickFn
theorem beh_cat {m s b : Nat → Nat} (hm : m = catN 32 s b) : ∀ i, i < 40 → catN 32 (catN 0 m s) b i = m i := fun i _ => by
  subst hm
  unfold catN
  by_cases h : i < 32
  · rw [if_pos h, if_pos h, if_neg (by omega)]; rfl
  · rw [if_neg h, if_neg h]
end PickFn
open ShufRounds PickFn in
set_option maxHeartbeats 4000000 in
theorem behind_look (s : Nat → Nat) (hs : ∀ i, s i < 256) (n : Nat) (w : World) (hp : ShaPkg w) :
    Calls Tryd.prog 47 #[rootV s, .int .u64 (n : Int)] w fun e w' => e = .returned (rootV (behN s n)) ∧ Below w.heap.size w w' := by
  have hlt := hp.lt
  have HP := Lib.hid hp
  have HSl := Lib.hid hs
  obtain ⟨m, hm⟩ : ∃ m, m = catN 32 s (leB n) := ⟨_, rfl⟩
  have HMl := Lib.hid (show ∀ i, m i < 256 from by rw [hm]; exact catN_lt hs (leB_lt n))
  have HMc := Lib.hid (beh_cat hm)
  have HMr := Lib.hid (show shaB m 40 = behN s n by rw [hm]; rfl)
  have HS0 := Lib.hid (HS.nil w)
  clear hp hs hm
  have tok1 := Tok.mk 1
  go_enter Tryd.func47, Tryd.ntmps47
  go_wp2_with (first
    | (refine wpList_boxL rfl 24 _ 2 rfl rfl HS0.out 32 (u8v s) rfl ?_; intro b2 w1 hb2 hc2 hs; have HS1 := Lib.hid hs; clear hs)
    | (refine wpList_allocL rfl 24 4 rfl rfl HS1.out (Array.replicate 32 (.int .u8 0)) (by kernel_rfl) 32 (u8v fun _ => 0) (by rfl) (zero_at 32 (.int .u8 0)) ?_; intro b4 w2 hb4 hc4 hs; have HS2 := Lib.hid hs; clear hs)
    | (go_at_call 71; refine (bytes_look n _).mono ?_; rintro e w3 ⟨rfl, hb⟩; have HS3 := Lib.hid (HS2.out.below hb); clear hb)
    | (refine wpList_allocL rfl 103 5 rfl rfl HS3.out (Array.replicate 8 (.int .u8 0)) (by kernel_rfl) 8 (u8v fun _ => 0) (by rfl) (zero_at 8 (.int .u8 0)) ?_; intro b5 w4 hb5 hc5 hs; have HS4 := Lib.hid hs; clear hs)
    | (refine wpList_storeH rfl 103 (.tmp 5) (.tmp 8) rfl HS4.out 0 rfl (u8v (leB n)) rfl rfl (by kernel_rfl) (fun _ _ => rfl) ?_; intro w5 hs; have HS5 := Lib.hid hs; clear hs)
    | (go_at_call 62; refine (new_any _ (HP.out.below (HS5.out.out (by simp; omega))) m).mono ?_; rintro e w6 ⟨g, rfl, hg, hrow, hb⟩; have hb5g : b5 < g := Nat.lt_of_lt_of_le (HS5.out.lt 0 rfl) hg; have hb4g : b4 < g := Nat.lt_of_lt_of_le (HS5.out.lt 1 rfl) hg; have hb2g : b2 < g := Nat.lt_of_lt_of_le (HS5.out.lt 2 rfl) hg; have hwg : w.heap.size ≤ g := Nat.le_trans HS5.out.size hg; have HS6 := Lib.hid (HS5.out.below hb); have HD6 := Lib.hid (dig_new m hrow); have hg6 : g < w6.heap.size := hrow.lt; clear hb hrow)
    | (go_at_call 63; have hx : Tok 1 := (by assumption); clear hx tok1
       refine (write_any g 0 32 32 (some ⟨b2, 0, none⟩) m s _ HD6.out (Rd.of_row (HS6.out.row 2 rfl) (Nat.le_refl _) (HS6.out.lt 2 rfl)) (fun _ ad e => by injection e with e; subst e; show b2 ≠ g; omega) HSl.out HMl.out (by omega) (by omega) (HP.out.below (HS6.out.out (by simp; omega))) ⟨by omega, by omega⟩).mono ?_
       rintro e w7 ⟨rfl, hd7, hg7⟩; have HS7 := Lib.hid (HS6.out.other hg7 (by omega) (by simp; omega)); have HD7 := Lib.hid hd7; clear hd7 hg7; have tok2 := Tok.mk 2)
    | (go_at_call 63; have hx : Tok 2 := (by assumption); clear hx tok2
       refine (write_any g 32 8 8 (some ⟨b5, 0, none⟩) _ (leB n) _ HD7.out (Rd.of_row (HS7.out.row 0 rfl) (Nat.le_refl _) (HS7.out.lt 0 rfl)) (fun _ ad e => by injection e with e; subst e; show b5 ≠ g; omega) (leB_lt n) (catN_lt HMl.out HSl.out) (by omega) (by omega) (HP.out.below (HS7.out.out (by simp; omega))) ⟨by omega, by omega⟩).mono ?_
       rintro e w8 ⟨rfl, hd8, hg8⟩; have HS8 := Lib.hid (HS7.out.other hg8 (by omega) (by simp; omega)); have HD8 := Lib.hid (hd8.congr (m' := m) HMc.out); clear hd8 hg8)
    | (go_at_call 64; refine (sumd_any g 40 m _ HD8.out HMl.out (HP.out.below (HS8.out.out (by simp; omega)))).mono ?_; rintro e w9 ⟨rfl, hb⟩; rw [HMr.out]; have HS9 := Lib.hid (HS8.out.below hb); clear hb)
    | (refine wpList_storeH rfl 24 (.tmp 4) (.tmp 17) rfl HS9.out 1 rfl (u8v (behN s n)) rfl rfl (by kernel_rfl) (fun _ _ => rfl) ?_; intro w10 hs; have HS10 := Lib.hid hs; clear hs))
  exact ret_rowIs rfl (HS10.out.row 1 rfl) _ rfl Tryd.underlying24 rfl (by kernel_rfl) rfl ⟨rfl, HS10.out.out (by simp; omega)⟩
end Go.Proofs.YtjhgndnpihnidaaDoor
