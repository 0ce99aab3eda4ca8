/- A part of what the proofs stand on: MerkleTree, ShufFn, TreePlain, Chg, ShufClone, TreeMem, ShufRounds. -/
import Derived.Test.YtlcpflaofggmeaaDoorGTre11
import Derived.Test.YtlcpflaofggmeaaDoorGTre7
import Derived.Test.YtlcpflaofggmeaaDoorGTre9
import Derived.Test.YtlcpflaofggmeaaDoorGTre10
import Derived.Lib.SliceRun
import Derived.Test.YtlcpflaofggmeaaDoorGTre6
/- merkle.Tree and merkle.Zero. -/
namespace Go.Proofs.YtlcpflaofggmeaaDoor
set_option maxRecDepth 40000
open Go.RowKit
theorem rootV_ext {f g : Nat → Nat} (h : ∀ i, i < 32 → f i = g i) : rootV f = rootV g := congrArg Value.agg (arr_congr fun i hi => congrArg (fun k : Nat => Value.int .u8 (k : Int)) (h i hi))
theorem zr_at {k i : Nat} (hi : i < 32) : u8v zrL (k * 32 + i) = u8v (zrN k) i := by
  simp only [u8v]; rw [zrL_at k i hi]
theorem arr1 (f g : Nat → Nat) (v : Value) (h : ∀ i, i < 32 → f i = g i) : Ending.returned (.tuple #[.agg (arr 32 (u8v f)), v]) = .returned (.tuple #[rootV g, v]) := congrArg (fun r => Ending.returned (.tuple #[r, v])) (rootV_ext h)
theorem levN_lt {x : Nat → Nat} (hx : ∀ i, x i < 256) (d i : Nat) : levN d x i < 256 := by
  cases d with
  | zero => exact hx i
  | succ d => rw [levN_succ]; exact shaB_lt _ _ _
/-- What Tree says where it has nothing to say. -/
abbrev noRoot (k : Nat) : Ending := .returned (.tuple #[rootV fun _ => 0, .int .i64 (k : Int)])
set_option maxHeartbeats 4000000 in
theorem tree_arg (n c : Nat) (A : Option Addr) (l : Int) (w : World) (hl : l < 0 ∨ 1099511627776 < l) :
    Calls Tryd.prog 13 #[.slice A n c, .int .i64 l] w fun e w' => e = noRoot 1 ∧ Below w.heap.size w w' := by
  have HS0 := Lib.hid (HS.nil w)
  rcases hl with hl | hl
  all_goals
    go_enter Tryd.func13, Tryd.ntmps13
    go_wp2_with (first
      | (refine wpList_allocL rfl 30 4 rfl rfl HS0.out (Array.replicate 32 (.int .u8 0)) (by kernel_rfl) 32 (u8v fun _ => 0) (by rfl) (zero_at 32 (.int .u8 0)) ?_; intro b4 w4 hb4 hc4 hs4; have HS4 := Lib.hid hs4; clear hs4)
      | (refine wpList_build_as rfl 30 #[] rfl [] rfl (arr 32 (u8v fun _ => 0)) (by kernel_rfl) ?_)
      | (refine wpList_storeH rfl 30 (.tmp 4) (.tmp 16) rfl HS4.out 0 rfl (u8v fun _ => 0) rfl rfl (by kernel_rfl) (fun _ _ => rfl) ?_; intro wy hs; have HY := Lib.hid hs; clear hs))
    exact ret_rowTmp rfl (HY.out.row 0 rfl) _ (.int .i64 1) rfl rfl Tryd.underlying30 rfl (by kernel_rfl) rfl ⟨rfl, HY.out.out (by simp; omega)⟩
set_option maxHeartbeats 4000000 in
theorem tree_long (n c : Nat) (A : Option Addr) (l : Nat) (w : World) (hl : l ≤ 1099511627776) (hn : l < n) :
    Calls Tryd.prog 13 #[.slice A n c, .int .i64 (l : Int)] w fun e w' => e = noRoot 6 ∧ Below w.heap.size w w' := by
  have HS0 := Lib.hid (HS.nil w)
  go_enter Tryd.func13, Tryd.ntmps13
  go_wp2_with (first
    | (refine wpList_allocL rfl 30 4 rfl rfl HS0.out (Array.replicate 32 (.int .u8 0)) (by kernel_rfl) 32 (u8v fun _ => 0) (by rfl) (zero_at 32 (.int .u8 0)) ?_; intro b4 w4 hb4 hc4 hs4; have HS4 := Lib.hid hs4; clear hs4)
    | (refine wpList_build_as rfl 30 #[] rfl [] rfl (arr 32 (u8v fun _ => 0)) (by kernel_rfl) ?_)
    | (refine wpList_storeH rfl 30 (.tmp 4) (.tmp 22) rfl HS4.out 0 rfl (u8v fun _ => 0) rfl rfl (by kernel_rfl) (fun _ _ => rfl) ?_; intro wy hs; have HY := Lib.hid hs; clear hs))
  exact ret_rowTmp rfl (HY.out.row 0 rfl) _ (.int .i64 6) rfl rfl Tryd.underlying30 rfl (by kernel_rfl) rfl ⟨rfl, HY.out.out (by simp; omega)⟩
set_option maxHeartbeats 8000000 in
theorem tree_ok (n c : Nat) (A : Option Addr) (x : Nat → Nat) (l : Nat) (w : World) (hb : Rd w w.heap.size A (n * 32) (u8v x)) (hx : ∀ i, x i < 256) (hnc : n ≤ c) (hl : l ≤ 1099511627776) (hn : n ≤ l) (hp : ShaPkg w) :
    Calls Tryd.prog 13 #[.slice A n c, .int .i64 (l : Int)] w fun e w' => e = .returned (.tuple #[rootV (treeN (dep l) n x), .int .i64 0]) ∧ Below w.heap.size w w' := by
  obtain ⟨D, hD⟩ : ∃ D, D = dep l := ⟨_, rfl⟩
  have hD40 : D ≤ 40 := by rw [hD]; exact dep_le (k := 40) (by omega)
  have hDl : n ≤ 2 ^ D := by rw [hD]; exact Nat.le_trans hn (dep_ge l)
  have HDp := Lib.hid (depth_look l hl)
  rw [← hD] at HDp ⊢
  have HX := Lib.hid hb
  have HXl := Lib.hid hx
  have HP := Lib.hid hp
  have HS0 := Lib.hid (HS.nil w)
  clear hb hx hp hD
  by_cases hn0 : n = 0
  · subst hn0
    clear hDl
    go_enter Tryd.func13, Tryd.ntmps13
    go_wp2_with (first
      | (refine wpList_allocL rfl 30 4 rfl rfl HS0.out (Array.replicate 32 (.int .u8 0)) (by kernel_rfl) 32 (u8v fun _ => 0) (by rfl) (zero_at 32 (.int .u8 0)) ?_; intro b4 w4 hb4 hc4 hs4; have HS4 := Lib.hid hs4; clear hs4)
      | (go_at_call 29; refine (HDp.out _).mono ?_; rintro e w5 ⟨rfl, hw⟩; subst hw)
      | (go_at_call 30; refine (zeros_look D hD40 _ (HP.out.below (HS4.out.out (by simp; omega)))).mono ?_; rintro e w6 ⟨bz, rfl, hbz, hrz, hb6⟩; have HS6 := Lib.hid ((HS4.out.below hb6).add hrz (by have := HS4.out.size; omega) (by have := HS4.out.lt 0 rfl; simp; omega)); clear hrz hb6)
      | (refine wpList_as rfl 32 rfl (.pointer (some ⟨bz, D * 32, none⟩)) ?_ ?_; (· exact ex_idx rfl rfl rfl (fun w => (run_idxZ (z := 32) w Tryd.underlying22 (by kernel_rfl) ⟨bz, 0, none⟩ (by omega)).trans (by rw [add_lit0])) _))
      | (refine wpList_load_part rfl 30 _ rfl bz (D * 32) 32 (u8v (zrN D)) rfl _ (fun i hi => (HS6.out.cell 0 (D * 32 + i) rfl (show D * 32 + i < (D + 1) * 32 by omega)).trans (congrArg some (zr_at hi))) Tryd.underlying30 rfl (by kernel_rfl) _ rfl ?_)
      | (refine wpList_storeH rfl 30 (.tmp 4) (.tmp 33) rfl HS6.out 1 rfl (u8v (zrN D)) rfl rfl (by kernel_rfl) (fun _ _ => rfl) ?_; intro wy hs; have HY := Lib.hid hs; clear hs))
    exact ret_rowTmp rfl (HY.out.row 1 rfl) _ (.int .i64 0) rfl rfl Tryd.underlying30 rfl (by kernel_rfl) rfl ⟨by rw [treeN_zero], HY.out.out (by simp; have := HS4.out.size; omega)⟩
  · obtain ⟨P, hPd⟩ : ∃ P, P = padN (n * 32) x := ⟨_, rfl⟩
    have HPl := Lib.hid (show ∀ i, P i < 256 by rw [hPd]; exact padN_lt HXl.out)
    have HE := Lib.hid (arr1 (levN D P) (treeN D n x) (.int .i64 0) (fun i hi => by rw [tree_lev D n x hDl i hi, hPd]))
    have HUp := Lib.hid (fun d => up_lev d n x (levN d P) (by rw [hPd]; exact fun _ _ => rfl))
    rw [← hPd] at HUp
    have HX2 := Lib.hid (HX.out.congr (f' := u8v P) (fun i hi => by rw [hPd]; simp only [u8v, padN]; rw [if_pos hi]))
    have hc1 := cnt_one D n (by omega) hDl
    have hn00 : ((n : Int) == 0) = false := by rw [beq_eq_false_iff_ne]; omega
    clear hPd HX HXl hDl
    go_enter Tryd.func13, Tryd.ntmps13
    go_wp2_with (first
      | (refine wpList_allocL rfl 30 4 rfl rfl HS0.out (Array.replicate 32 (.int .u8 0)) (by kernel_rfl) 32 (u8v fun _ => 0) (by rfl) (zero_at 32 (.int .u8 0)) ?_; intro b4 w4 hb4 hc4 hs4; have HS4 := Lib.hid hs4; clear hs4)
      | (go_at_call 29; refine (HDp.out _).mono ?_; rintro e w5 ⟨rfl, hw⟩; subst hw)
      | (go_at_call 30; refine (zeros_look D hD40 _ (HP.out.below (HS4.out.out (by simp; omega)))).mono ?_; rintro e w6 ⟨bz, rfl, hbz, hrz, hb6⟩; have HS6 := Lib.hid ((HS4.out.below hb6).add hrz (by have := HS4.out.size; omega) (by have := HS4.out.lt 0 rfl; simp; omega)); have hbzw : w.heap.size ≤ bz := (by have := HS4.out.size; omega); clear hrz hb6))
    go_loopw [0, 35] (fun ch i wr => ∃ (d : Nat) (A' : Option Addr) (c' : Nat), ch = .slice A' (cnt d n) c' ∧ i = .int .i64 (d : Int) ∧ d ≤ D ∧ cnt d n ≤ c' ∧ Rd wr wr.heap.size A' (cnt d n * 32) (u8v (levN d P)) ∧ HS w wr [⟨bz, 30, (D + 1) * 32, u8v zrL⟩, ⟨b4, 30, 32, u8v fun _ => 0⟩]) (fun _ i _ => D - (intOf i).toNat)
    case atStart => exact ⟨0, A, c, rfl, rfl, by omega, hnc, (HX2.out.below (HS6.out.out (by simp; omega))).more HS6.out.size, HS6.out⟩
    case round =>
      clear HS6 HS4 HS0 HX2 HDp
      obtain ⟨d, A', c', rfl, rfl, hd, hcc, hrd, hs⟩ := hrel
      have HR := Lib.hid hrd
      have HSq := Lib.hid hs
      have HWq := Lib.hid (hs.out (by simp; omega))
      have hcp := cnt_pos d n (by omega)
      have hcl := cnt_le d n
      clear hrd hs
      by_cases hdD : d < D
      · have HUd := Lib.hid (HUp.out d)
        obtain ⟨m, hm⟩ : ∃ m, m = cnt d n := ⟨_, rfl⟩
        have hm2 : cnt (d + 1) n = (m + 1) / 2 := by rw [hm]; rfl
        rw [hm2] at HUd
        rw [← hm] at HUd HR hcp hcl hcc ⊢
        clear hm
        go_wp2_with (first
          | (refine wpList_as rfl 41 rfl (.pointer (some ⟨bz, d * 32, none⟩)) ?_ ?_; (· exact ex_idx rfl rfl rfl (fun w => (run_idxZ (z := 32) w Tryd.underlying22 (by kernel_rfl) ⟨bz, 0, none⟩ (by omega)).trans (by rw [add_lit0])) _))
          | (refine wpList_load_part rfl 30 _ rfl bz (d * 32) 32 (u8v (zrN d)) rfl _ (fun i hi => (HSq.out.cell 0 (d * 32 + i) rfl (show d * 32 + i < (D + 1) * 32 by omega)).trans (congrArg some (zr_at hi))) Tryd.underlying30 rfl (by kernel_rfl) _ rfl ?_)
          | (go_at_call 31; refine (up_look m c' A' (levN d P) (zrN d) _ HR.out (levN_lt HPl.out d) (zrN_lt d) hcc hcp (by omega) (HP.out.below HWq.out)).mono ?_; rintro e w7 ⟨b7, rfl, hb7, hr7, hbl7⟩; have HR7 := Lib.hid (hr7.congr (fun i hi => congrArg (fun k : Nat => Value.int .u8 (k : Int)) (HUd.out i hi))); have HS7 := Lib.hid (HSq.out.below hbl7); clear hr7 hbl7))
        go_roundw
        case rel => exact ⟨d + 1, some ⟨b7, 0, none⟩, (m + 1) / 2, congrArg (fun k => Value.slice (some ⟨b7, 0, none⟩) k ((m + 1) / 2)) hm2.symm, by go_num, by omega, by rw [hm2]; exact Nat.le_refl _, by rw [hm2]; exact Rd.of_row HR7.out (Nat.le_refl _) HR7.out.lt, HS7.out⟩
        case measure => simp [intOf]; omega
      · obtain rfl : d = D := by omega
        rw [hc1] at HR hcp hcl hcc ⊢
        obtain ⟨ad, hA, _, _⟩ := HR.out (by omega)
        subst hA
        go_wp2_with (first
          | (refine wpList_as rfl 46 rfl (.pointer (some (ad.add (0 * 32)))) ?_ ?_; (· exact ex_idx rfl rfl rfl (fun w => run_idxZ (z := 32) (k := 0) w Tryd.underlying22 (by kernel_rfl) ad (by omega)) _))
          | (refine wpList_load_rd rfl 30 _ rfl 32 _ Tryd.underlying30 rfl (by kernel_rfl) (ad.add (0 * 32)) rfl (u8v (levN d P)) (fun q hq => by rw [add_add]; exact (HR.out.cell_ (show 0 * 32 + q < 1 * 32 by omega)).trans (by rw [Nat.zero_mul, Nat.zero_add])) ?_)
          | (refine wpList_storeH rfl 30 (.tmp 4) (.tmp 47) rfl HSq.out 1 rfl (u8v (levN d P)) rfl rfl (by kernel_rfl) (fun _ _ => rfl) ?_; intro wy hs; have HY := Lib.hid hs; clear hs))
        exact ret_rowTmp rfl (HY.out.row 1 rfl) _ (.int .i64 0) rfl rfl Tryd.underlying30 rfl (by kernel_rfl) rfl ⟨HE.out, HY.out.out (by simp; omega)⟩
set_option maxHeartbeats 4000000 in
theorem zero_ok (d : Nat) (hd : d ≤ 40) (w : World) (hp : ShaPkg w) :
    Calls Tryd.prog 25 #[.int .i64 (d : Int)] w fun e w' => e = .returned (.tuple #[rootV (zrN d), .int .i64 0]) ∧ Below w.heap.size w w' := by
  have HS0 := Lib.hid (HS.nil w)
  have HP := Lib.hid hp
  clear hp
  go_enter Tryd.func25, Tryd.ntmps25
  go_wp2_with (first
    | (refine wpList_allocL rfl 30 2 rfl rfl HS0.out (Array.replicate 32 (.int .u8 0)) (by kernel_rfl) 32 (u8v fun _ => 0) (by rfl) (zero_at 32 (.int .u8 0)) ?_; intro b4 w4 hb4 hc4 hs4; have HS4 := Lib.hid hs4; clear hs4)
    | (go_at_call 30; refine (zeros_look d hd _ (HP.out.below (HS4.out.out (by simp; omega)))).mono ?_; rintro e w6 ⟨bz, rfl, hbz, hrz, hb6⟩; have HS6 := Lib.hid ((HS4.out.below hb6).add hrz (by have := HS4.out.size; omega) (by have := HS4.out.lt 0 rfl; simp; omega)); clear hrz hb6)
    | (refine wpList_as rfl 14 rfl (.pointer (some ⟨bz, d * 32, none⟩)) ?_ ?_; (· exact ex_idx rfl rfl rfl (fun w => (run_idxZ (z := 32) w Tryd.underlying22 (by kernel_rfl) ⟨bz, 0, none⟩ (by omega)).trans (by rw [add_lit0])) _))
    | (refine wpList_load_part rfl 30 _ rfl bz (d * 32) 32 (u8v (zrN d)) rfl _ (fun i hi => (HS6.out.cell 0 (d * 32 + i) rfl (show d * 32 + i < (d + 1) * 32 by omega)).trans (congrArg some (zr_at hi))) Tryd.underlying30 rfl (by kernel_rfl) _ rfl ?_)
    | (refine wpList_storeH rfl 30 (.tmp 2) (.tmp 15) rfl HS6.out 1 rfl (u8v (zrN d)) rfl rfl (by kernel_rfl) (fun _ _ => rfl) ?_; intro wy hs; have HY := Lib.hid hs; clear hs))
  exact ret_rowTmp rfl (HY.out.row 1 rfl) _ (.int .i64 0) rfl rfl Tryd.underlying30 rfl (by kernel_rfl) rfl ⟨rfl, HY.out.out (by simp; have := HS4.out.size; omega)⟩
end Go.Proofs.YtlcpflaofggmeaaDoor
/- Numbers out of bytes, by the program and by the reference; flips and bits. -/
namespace Go.Proofs.YtlcpflaofggmeaaDoor
set_option maxRecDepth 40000
open Go.RowKit
/-- A number is loaded from where it lies. -/
theorem run_ld1 {P : Program} (w : World) (ad : Addr) (ty : TypeId) (k : IntKind) (v : Value) (h : w.cell? ad = some v) (hu : P.underlying ty = some (.int k)) : (Instr.loadAt ty (.pointer (some ad))).run P w = .ok v w := by
  simp only [Instr.loadAt, Instr.sureAddr, Sem.run_bind, Sem.run_pure, Result.andThen]
  have hagg : (isAgg ty).run P w = .ok false w := by
    unfold isAgg
    rw [Sem.run_bind, run_underlying hu w]
    rfl
  simp [loadVar, Sem.run_bind, hagg, h]
theorem ex_ld1 {P : Program} {w : World} {o : Oper} {a : Act} {ty : TypeId} {x : Operand} {ad : Addr} {v : Value} (k : IntKind) (ho : o.op = .load ty x) (hx : a.eval x = .pointer (some ad)) (hu : P.underlying ty = some (.int k)) (h : w.cell? ad = some v) : (execOp a.eval o).run P w = .ok (.value v) w := by
  unfold execOp
  rw [ho]
  simp only [hx]
  simp [run_ld1 w ad ty k v h hu]
namespace ShufFn
theorem or_add (a b k : Nat) (ha : a < 2 ^ k) : a ||| b * 2 ^ k = a + b * 2 ^ k := by
  rw [Nat.or_comm, Nat.mul_comm, ← Nat.two_pow_add_eq_or_of_lt ha, Nat.add_comm]
theorem orU (a b : Nat) (ha : a < 18446744073709551616) (hb : b < 18446744073709551616) (w : World) : (binOp .or 65 (.int .u64 (a : Int)) (.int .u64 (b : Int))).run Tryd.prog w = .ok (.int .u64 ((a ||| b : Nat) : Int)) w := by
  have h1 : a ||| b < 18446744073709551616 := Nat.or_lt_two_pow (n := 64) ha hb
  have e : bits .or .u64 (a : Int) (b : Int) = ((a ||| b : Nat) : Int) := by
    show IntKind.u64.wrap ((BitVec.ofInt 64 (a : Int) ||| BitVec.ofInt 64 (b : Int)).toNat : Int) = _
    rw [BitVec.toNat_or, BitVec.ofInt_natCast, BitVec.ofInt_natCast, BitVec.toNat_ofNat, BitVec.toNat_ofNat, Nat.mod_eq_of_lt ha, Nat.mod_eq_of_lt hb]
    rw [IntKind.wrap_u64]
    omega
  simp [go_sem, e]
theorem andU (m c r : Nat) (h : m < 18446744073709551616) (hc : c < 18446744073709551616) (hr : m &&& c = r) (w : World) : (binOp .and 65 (.int .u64 (m : Int)) (.int .u64 (c : Int))).run Tryd.prog w = .ok (.int .u64 (r : Int)) w := by
  have hl : m &&& c < 18446744073709551616 := Nat.lt_of_le_of_lt Nat.and_le_left h
  have h2 : bits .and .u64 (m : Int) (c : Int) = (r : Int) := by
    show IntKind.u64.wrap ((BitVec.ofInt 64 (m : Int) &&& BitVec.ofInt 64 (c : Int)).toNat : Int) = _
    rw [BitVec.toNat_and, BitVec.ofInt_natCast, BitVec.ofInt_natCast, BitVec.toNat_ofNat, BitVec.toNat_ofNat, Nat.mod_eq_of_lt h, Nat.mod_eq_of_lt hc, hr, IntKind.wrap_u64]
    omega
  simp [go_sem, h2]
theorem subU (a b : Nat) (h : b ≤ a) (w : World) (ha : a < 18446744073709551616) : (binOp .sub 65 (.int .u64 (a : Int)) (.int .u64 (b : Int))).run Tryd.prog w = .ok (.int .u64 ((a - b : Nat) : Int)) w := by
  simp [go_sem, IntKind.wrap, IntKind.bits, IntKind.signed]
  omega
end ShufFn
open ShufFn
end Go.Proofs.YtlcpflaofggmeaaDoor
/- Trees that remember, in plain words: levels that are right but for what lies over changed leaves; the ways up from these; how many nodes are reckoned anew. -/
namespace Go.Proofs.YtlcpflaofggmeaaDoor
set_option maxRecDepth 40000
/-- Node j of level d over n leaves. -/
def nodN (d n : Nat) (x : Nat → Nat) (j : Nat) : Nat → Nat := fun q => levN d (padN (n * 32) x) (j * 32 + q)
theorem nod_up (d n : Nat) (x : Nat → Nat) (j q : Nat) (hq : q < 32) : nodN (d + 1) n x j q = shaB (catN 32 (nodN d n x (2 * j)) (nodN d n x (2 * j + 1))) 64 q := by
  unfold nodN
  rw [levN_succ]
  unfold lvl
  rw [show (j * 32 + q) / 32 = j by omega, show (j * 32 + q) % 32 = q by omega]
theorem nod_zero (d n : Nat) (x : Nat → Nat) (j q : Nat) (h : cnt d n ≤ j) (hq : q < 32) : nodN d n x j q = zrN d q :=
  lev_zero d j n x (Nat.le_trans (cnt_ge d n) (Nat.mul_le_mul_right _ h)) q hq
theorem nod_leaf (n : Nat) (x : Nat → Nat) (j q : Nat) (h : j < n) (hq : q < 32) : nodN 0 n x j q = x (j * 32 + q) := by
  unfold nodN levN padN
  rw [if_pos (by omega)]
theorem nod_root (d n : Nat) (x : Nat → Nat) (hn : n ≤ 2 ^ d) (q : Nat) (hq : q < 32) : nodN d n x 0 q = treeN d n x q := by
  rw [tree_lev d n x hn q hq]; unfold nodN; congr 1; omega
theorem nod_congr (k n n' : Nat) (x x' : Nat → Nat) (j : Nat) (h : ∀ i q, i / 2 ^ k = j → q < 32 → padN (n * 32) x (i * 32 + q) = padN (n' * 32) x' (i * 32 + q)) : ∀ q, q < 32 → nodN k n x j q = nodN k n' x' j q := fun q hq => by
  unfold nodN
  rw [← full_lev_at k j _ q hq, ← full_lev_at k j _ q hq]
  refine fullN_congr k _ _ (fun r hr => ?_) q hq
  have hp : 0 < 2 ^ k := Nat.two_pow_pos k
  have hr2 : r / 32 < 2 ^ k := by omega
  have e : j * 2 ^ k * 32 + r = (j * 2 ^ k + r / 32) * 32 + r % 32 := by omega
  rw [e]
  refine h _ _ ?_ (by omega)
  rw [Nat.add_comm, Nat.add_mul_div_right _ _ hp, Nat.div_eq_of_lt hr2, Nat.zero_add]
theorem cnt_mono : ∀ (d : Nat) {n m : Nat}, n ≤ m → cnt d n ≤ cnt d m := by
  intro d
  induction d with
  | zero => intro n m h; exact h
  | succ d ih => intro n m h; have := ih h; rw [cnt, cnt]; omega
theorem div_lt_cnt {d n i : Nat} (h : i < n) : i / 2 ^ d < cnt d n := by
  rw [Nat.div_lt_iff_lt_mul (Nat.two_pow_pos d)]
  exact Nat.lt_of_lt_of_le h (cnt_ge d n)
/-- Level k has m nodes, g; it is right wherever it lies over no leaf of P. -/
def LevOk (k n m : Nat) (x g : Nat → Nat) (P : Nat → Prop) : Prop := m ≤ cnt k n ∧ ∀ j, j < cnt k n → (∀ i, P i → i / 2 ^ k ≠ j) → j < m ∧ ∀ q, q < 32 → g (j * 32 + q) = nodN k n x j q
theorem lev_set {k n m : Nat} {x x' g : Nat → Nat} {P P' : Nat → Prop} (i : Nat) (h : LevOk k n m x g P) (hx : ∀ j q, j ≠ i → q < 32 → x' (j * 32 + q) = x (j * 32 + q)) (hP : ∀ a, P a ∨ a = i → P' a) : LevOk k n m x' g P' := by
  refine ⟨h.1, fun j hj hn => ?_⟩
  obtain ⟨h1, h2⟩ := h.2 j hj (fun a ha => hn a (hP a (.inl ha)))
  have hi := hn i (hP i (.inr rfl))
  refine ⟨h1, fun q hq => (h2 q hq).trans (nod_congr k n n x x' j (fun a r ha hr => ?_) q hq)⟩
  have hai : a ≠ i := fun e => hi (by rw [← e]; exact ha)
  unfold padN
  rw [hx a r hai hr]
theorem lev_app {k n m : Nat} {x x' g : Nat → Nat} {P P' : Nat → Prop} (h : LevOk k n m x g P) (hx : ∀ j, j < n * 32 → x' j = x j) (hP : ∀ a, P a ∨ a = n → P' a) : LevOk k (n + 1) m x' g P' := by
  refine ⟨Nat.le_trans h.1 (cnt_mono k (by omega)), fun j hj hn => ?_⟩
  obtain ⟨p, hp⟩ : ∃ p, p = 2 ^ k := ⟨_, rfl⟩
  have hp0 : 0 < p := by rw [hp]; exact Nat.two_pow_pos k
  have hnj := hn n (hP n (.inr rfl))
  rw [← hp] at hnj
  have h1 := cnt_lt k (n + 1)
  rw [← hp] at h1
  have h2 : (j + 1) * p ≤ cnt k (n + 1) * p := Nat.mul_le_mul_right _ hj
  have h3 : j * p ≤ n := by rw [Nat.succ_mul] at h2; omega
  have h4 : j ≤ n / p := by rw [Nat.le_div_iff_mul_le hp0]; exact h3
  have h5 : (j + 1) * p ≤ n := by
    have : j + 1 ≤ n / p := by omega
    rw [← Nat.le_div_iff_mul_le hp0]; exact this
  have h6 : j < cnt k n := by
    have h7 := cnt_ge k n
    rw [← hp] at h7
    rcases Nat.lt_or_ge j (cnt k n) with h8 | h8
    · exact h8
    · have := Nat.mul_le_mul_right p h8
      rw [Nat.succ_mul] at h5; omega
  obtain ⟨h7, h8⟩ := h.2 j h6 (fun a ha => hn a (hP a (.inl ha)))
  refine ⟨h7, fun q hq => (h8 q hq).trans (nod_congr k n (n + 1) x x' j (fun a r ha hr => ?_) q hq)⟩
  have ha2 : a < n := by
    rw [← hp] at ha
    have : a < (j + 1) * p := by
      rw [← Nat.div_lt_iff_lt_mul hp0]; omega
    omega
  unfold padN
  rw [if_pos (by omega), if_pos (by omega), hx _ (by omega)]
/-- The level is right. -/
def LevAll (k n m : Nat) (x g : Nat → Nat) : Prop := m = cnt k n ∧ ∀ j, j < cnt k n → ∀ q, q < 32 → g (j * 32 + q) = nodN k n x j q
theorem LevAll.ok {k n m : Nat} {x g : Nat → Nat} (h : LevAll k n m x g) (P : Nat → Prop) : LevOk k n m x g P := ⟨Nat.le_of_eq h.1, fun j hj _ => ⟨by rw [h.1]; exact hj, h.2 j hj⟩⟩
/-- The nodes above the first q of a list, each once. -/
def hfN (f : Nat → Nat) : Nat → List Nat
  | 0 => []
  | q + 1 => if (hfN f q).getLast? = some (f q / 2) then hfN f q else hfN f q ++ [f q / 2]
section
variable {f : Nat → Nat} {q k : Nat}
theorem hf_skip (h : (hfN f q).getLast? = some (f q / 2)) : hfN f (q + 1) = hfN f q := by rw [hfN, if_pos h]
theorem hf_more (h : (hfN f q).getLast? ≠ some (f q / 2)) : hfN f (q + 1) = hfN f q ++ [f q / 2] := by rw [hfN, if_neg h]
theorem hf_last : ∀ q, (hfN f (q + 1)).getLast? = some (f q / 2) := fun q => by
  by_cases h : (hfN f q).getLast? = some (f q / 2)
  · rw [hf_skip h, h]
  · rw [hf_more h]; simp
theorem hf_mem : ∀ q, k ∈ hfN f q ↔ ∃ p, p < q ∧ f p / 2 = k := by
  intro q
  induction q with
  | zero => simp [hfN]
  | succ q ih =>
    by_cases h : (hfN f q).getLast? = some (f q / 2)
    · rw [hf_skip h, ih]
      refine ⟨fun ⟨p, h1, h2⟩ => ⟨p, by omega, h2⟩, fun ⟨p, h1, h2⟩ => ?_⟩
      by_cases hpq : p = q
      · subst hpq
        have := List.mem_of_getLast? h
        rw [h2] at this
        exact ih.1 this
      · exact ⟨p, by omega, h2⟩
    · rw [hf_more h, List.mem_append, ih, List.mem_singleton]
      refine ⟨fun h1 => ?_, fun ⟨p, h1, h2⟩ => ?_⟩
      · rcases h1 with ⟨p, h1, h2⟩ | rfl
        · exact ⟨p, by omega, h2⟩
        · exact ⟨q, by omega, rfl⟩
      · by_cases hpq : p = q
        · subst hpq; exact .inr h2.symm
        · exact .inl ⟨p, by omega, h2⟩
theorem hf_len : ∀ q, (hfN f q).length ≤ q := by
  intro q
  induction q with
  | zero => simp [hfN]
  | succ q ih =>
    by_cases h : (hfN f q).getLast? = some (f q / 2)
    · rw [hf_skip h]; omega
    · rw [hf_more h]; simp; omega
theorem hf_sorted : ∀ q, (∀ a b, a < b → b < q → f a < f b) → (hfN f q).Pairwise (· < ·) := by
  intro q
  induction q with
  | zero => intro _; simp [hfN]
  | succ q ih =>
    intro hs
    have h1 := ih (fun a b hab hb => hs a b hab (by omega))
    by_cases h : (hfN f q).getLast? = some (f q / 2)
    · rw [hf_skip h]; exact h1
    · rw [hf_more h, List.pairwise_append]
      refine ⟨h1, List.pairwise_singleton _ _, fun a ha b hb => ?_⟩
      rw [List.mem_singleton] at hb
      subst hb
      obtain ⟨p, hp, rfl⟩ := (hf_mem q).1 ha
      have h2 := hs p q hp (by omega)
      rcases Nat.lt_or_ge (f p / 2) (f q / 2) with h3 | h3
      · exact h3
      · exfalso
        obtain ⟨r, rfl⟩ : ∃ r, q = r + 1 := ⟨q - 1, by omega⟩
        have h4 := hf_last (f := f) r
        have h5 : f p ≤ f r := by
          rcases Nat.lt_or_ge p r with h6 | h6
          · exact Nat.le_of_lt (hs p r h6 (by omega))
          · rw [show p = r by omega]; exact Nat.le_refl _
        have h6 := hs r (r + 1) (by omega) (by omega)
        exact h (by rw [h4]; congr 1; omega)
end
theorem sorted_ge {l : List Nat} (h : l.Pairwise (· < ·)) : ∀ (i : Nat) (hi : i < l.length), i ≤ l[i] := by
  intro i
  induction i with
  | zero => intro _; exact Nat.zero_le _
  | succ i ih =>
    intro hi
    have h1 := ih (by omega)
    have h2 := List.pairwise_iff_getElem.1 h i (i + 1) (by omega) hi (by omega)
    omega
theorem sorted_len {l : List Nat} {N : Nat} (h : l.Pairwise (· < ·)) (hN : ∀ a ∈ l, a < N) : l.length ≤ N := by
  rcases Nat.eq_zero_or_pos l.length with h0 | h0
  · omega
  · have h1 := sorted_ge h (l.length - 1) (by omega)
    have h2 := hN _ (List.getElem_mem (l := l) (n := l.length - 1) (by omega))
    omega
/-- The changed leaves, rising; and the nodes above them. -/
def atL (n : Nat) (t : Nat → Bool) : Nat → List Nat
  | 0 => (List.range n).filter t
  | d + 1 => hfN (fun q => (atL n t d).getD q 0) (atL n t d).length
def atN (n : Nat) (t : Nat → Bool) (d : Nat) : Nat → Nat := fun q => (atL n t d).getD q 0
section
variable {n : Nat} {t : Nat → Bool}
theorem atN_get {d q : Nat} (h : q < (atL n t d).length) : atN n t d q = (atL n t d)[q] := by unfold atN; simp [List.getD, h]
theorem at_sorted : ∀ d, (atL n t d).Pairwise (· < ·) := by
  intro d
  induction d with
  | zero => exact List.Pairwise.filter _ List.pairwise_lt_range
  | succ d ih =>
    refine hf_sorted _ (fun a b hab hb => ?_)
    have h1 := List.pairwise_iff_getElem.1 ih a b (by omega) hb hab
    have ha : (atL n t d).getD a 0 = (atL n t d)[a] := by simp [List.getD, show a < (atL n t d).length by omega]
    have hb' : (atL n t d).getD b 0 = (atL n t d)[b] := by simp [List.getD, hb]
    simp only [ha, hb']; exact h1
theorem at_lt {d a b : Nat} (hab : a < b) (hb : b < (atL n t d).length) : atN n t d a < atN n t d b := by
  rw [atN_get (by omega), atN_get hb]
  exact List.pairwise_iff_getElem.1 (at_sorted d) a b (by omega) hb hab
theorem at_mem : ∀ d i, i ∈ atL n t d ↔ ∃ a, a < n ∧ t a = true ∧ a / 2 ^ d = i := by
  intro d
  induction d with
  | zero =>
    intro i
    simp only [atL, List.mem_filter, List.mem_range, Nat.pow_zero, Nat.div_one]
    exact ⟨fun ⟨h1, h2⟩ => ⟨i, h1, h2, rfl⟩, fun ⟨a, h1, h2, e⟩ => by subst e; exact ⟨h1, h2⟩⟩
  | succ d ih =>
    intro i
    rw [atL, hf_mem]
    constructor
    · rintro ⟨p, hp, h2⟩
      have h3 : (atL n t d).getD p 0 ∈ atL n t d := by
        rw [show (atL n t d).getD p 0 = (atL n t d)[p] by simp [List.getD, hp]]; exact List.getElem_mem hp
      obtain ⟨a, h4, h5, h6⟩ := (ih _).1 h3
      exact ⟨a, h4, h5, by rw [Nat.pow_succ, ← Nat.div_div_eq_div_mul, h6]; exact h2⟩
    · rintro ⟨a, h1, h2, h3⟩
      have h4 := (ih (a / 2 ^ d)).2 ⟨a, h1, h2, rfl⟩
      obtain ⟨p, hp, e⟩ := List.getElem_of_mem h4
      refine ⟨p, hp, ?_⟩
      rw [show (atL n t d).getD p 0 = (atL n t d)[p] by simp [List.getD, hp], e, Nat.div_div_eq_div_mul, ← Nat.pow_succ, h3]
theorem at_cnt {d q : Nat} (h : q < (atL n t d).length) : atN n t d q < cnt d n := by
  have h1 : atN n t d q ∈ atL n t d := by rw [atN_get h]; exact List.getElem_mem h
  obtain ⟨a, h2, _, h3⟩ := (at_mem d _).1 h1
  rw [← h3]; exact div_lt_cnt h2
theorem at_len_cnt (d : Nat) : (atL n t d).length ≤ cnt d n :=
  sorted_len (at_sorted d) fun a ha => by
    obtain ⟨b, h2, _, h3⟩ := (at_mem d _).1 ha
    rw [← h3]; exact div_lt_cnt h2
theorem at_len_le : ∀ d, (atL n t d).length ≤ (atL n t 0).length := by
  intro d
  induction d with
  | zero => exact Nat.le_refl _
  | succ d ih => exact Nat.le_trans (hf_len _) ih
theorem at_none (h : ∀ a, a < n → t a = false) : ∀ d, atL n t d = [] := fun d => by
  cases hl : atL n t d with
  | nil => rfl
  | cons i l =>
    obtain ⟨a, h1, h2, _⟩ := (at_mem d i).1 (by rw [hl]; exact List.mem_cons_self)
    rw [h a h1] at h2; cases h2
end
/-- How many nodes are reckoned anew below level D. -/
def costN (n : Nat) (t : Nat → Bool) : Nat → Nat
  | 0 => 0
  | d + 1 => costN n t d + (atL n t (d + 1)).length
theorem cost_few (n : Nat) (t : Nat → Bool) : ∀ D, costN n t D ≤ (atL n t 0).length * D := by
  intro D
  induction D with
  | zero => simp [costN]
  | succ D ih => have := at_len_le (n := n) (t := t) (D + 1); rw [costN, Nat.mul_succ]; omega
theorem cost_all (n : Nat) (t : Nat → Bool) : ∀ D, costN n t D + cnt D n ≤ n + D := by
  intro D
  induction D with
  | zero => simp [costN, cnt]
  | succ D ih => have := at_len_cnt (n := n) (t := t) (D + 1); rw [cnt] at this; rw [costN, cnt]; omega
theorem cost_none {n : Nat} {t : Nat → Bool} (h : ∀ a, a < n → t a = false) : ∀ D, costN n t D = 0 := by
  intro D
  induction D with
  | zero => rfl
  | succ D ih => rw [costN, ih, at_none h]; rfl

/-- Level d + 1 behind the first q of the changed nodes of level d. -/
def LevPart (d n m : Nat) (x g : Nat → Nat) (t : Nat → Bool) (q : Nat) : Prop :=
  m ≤ cnt (d + 1) n ∧ ∀ j, j < cnt (d + 1) n → ((∀ a, a < n → t a = true → a / 2 ^ (d + 1) ≠ j) ∨ ∃ p, p < q ∧ atN n t d p / 2 = j) → j < m ∧ ∀ r, r < 32 → g (j * 32 + r) = nodN (d + 1) n x j r
theorem part_start {d n m : Nat} {x g : Nat → Nat} {t : Nat → Bool} (h : LevOk (d + 1) n m x g (fun a => a < n ∧ t a = true)) : LevPart d n m x g t 0 :=
  ⟨h.1, fun j hj hor => by
    rcases hor with h1 | ⟨p, hp, _⟩
    · exact h.2 j hj (fun a ha => h1 a ha.1 ha.2)
    · omega⟩
theorem part_skip {d n m : Nat} {x g : Nat → Nat} {t : Nat → Bool} {q : Nat} (h : LevPart d n m x g t q) (hl : (hfN (atN n t d) q).getLast? = some (atN n t d q / 2)) : LevPart d n m x g t (q + 1) :=
  ⟨h.1, fun j hj hor => h.2 j hj (by
    rcases hor with h1 | ⟨p, hp, e⟩
    · exact .inl h1
    · by_cases hpq : p = q
      · subst hpq
        have := List.mem_of_getLast? hl
        rw [e] at this
        exact .inr ((hf_mem p).1 this)
      · exact .inr ⟨p, by omega, e⟩)⟩
/-- Where the next node lies: within the level, or behind its last one. -/
theorem part_place {d n m : Nat} {x g : Nat → Nat} {t : Nat → Bool} {q : Nat} (h : LevPart d n m x g t q) (hq : q < (atL n t d).length) : atN n t d q / 2 ≤ m ∧ atN n t d q / 2 < cnt (d + 1) n := by
  have hc := at_cnt (n := n) (t := t) hq
  have hk : atN n t d q / 2 < cnt (d + 1) n := by rw [cnt]; omega
  refine ⟨?_, hk⟩
  rcases Nat.lt_or_ge m (atN n t d q / 2) with h1 | h1
  · exfalso
    by_cases h2 : ∃ a, a < n ∧ t a = true ∧ a / 2 ^ (d + 1) = m
    · obtain ⟨a, ha, hb, hm⟩ := h2
      have h3 := (at_mem (n := n) (t := t) d (a / 2 ^ d)).2 ⟨a, ha, hb, rfl⟩
      obtain ⟨p, hp, e⟩ := List.getElem_of_mem h3
      have e2 : atN n t d p = a / 2 ^ d := by rw [atN_get hp]; exact e
      have e3 : atN n t d p / 2 = m := by rw [e2, Nat.div_div_eq_div_mul, ← Nat.pow_succ]; exact hm
      have hpq : p < q := by
        rcases Nat.lt_or_ge p q with h4 | h4
        · exact h4
        · exfalso
          rcases Nat.lt_or_ge q p with h5 | h5
          · have := at_lt (n := n) (t := t) h5 hp; omega
          · rw [show p = q by omega] at e3; omega
      have := (h.2 m (by omega) (.inr ⟨p, hpq, e3⟩)).1
      omega
    · have := (h.2 m (by omega) (.inl fun a ha hb e => h2 ⟨a, ha, hb, e⟩)).1
      omega
  · exact h1
theorem part_step {d n m m' : Nat} {x g g' : Nat → Nat} {t : Nat → Bool} {q : Nat} (h : LevPart d n m x g t q) (hq : q < (atL n t d).length) (hm : m' = if atN n t d q / 2 < m then m else m + 1)
    (hg : ∀ r, r < 32 → g' (atN n t d q / 2 * 32 + r) = nodN (d + 1) n x (atN n t d q / 2) r) (ho : ∀ j, j < m → j ≠ atN n t d q / 2 → ∀ r, r < 32 → g' (j * 32 + r) = g (j * 32 + r)) : LevPart d n m' x g' t (q + 1) := by
  obtain ⟨h1, h2⟩ := part_place h hq
  have h3 := h.1
  have hmm : m ≤ m' := by rw [hm]; split <;> omega
  have hkm : atN n t d q / 2 < m' := by rw [hm]; split <;> omega
  refine ⟨by rw [hm]; split <;> omega, fun j hj hor => ?_⟩
  by_cases hjk : j = atN n t d q / 2
  · subst hjk; exact ⟨hkm, hg⟩
  · obtain ⟨h5, h6⟩ := h.2 j hj (by
      rcases hor with h4 | ⟨p, hp, e⟩
      · exact .inl h4
      · refine .inr ⟨p, ?_, e⟩
        rcases Nat.lt_or_ge p q with h7 | h7
        · exact h7
        · rw [show p = q by omega] at e; exact absurd e.symm hjk)
    exact ⟨by omega, fun r hr => (ho j h5 hjk r hr).trans (h6 r hr)⟩
theorem part_end {d n m : Nat} {x g : Nat → Nat} {t : Nat → Bool} (h : LevPart d n m x g t (atL n t d).length) : LevAll (d + 1) n m x g := by
  have h1 : ∀ j, j < cnt (d + 1) n → j < m ∧ ∀ r, r < 32 → g (j * 32 + r) = nodN (d + 1) n x j r := fun j hj => h.2 j hj (by
    by_cases h2 : ∃ a, a < n ∧ t a = true ∧ a / 2 ^ (d + 1) = j
    · obtain ⟨a, ha, hb, hm⟩ := h2
      obtain ⟨p, hp, e⟩ := List.getElem_of_mem ((at_mem (n := n) (t := t) d (a / 2 ^ d)).2 ⟨a, ha, hb, rfl⟩)
      exact .inr ⟨p, hp, by rw [atN_get hp, e, Nat.div_div_eq_div_mul, ← Nat.pow_succ]; exact hm⟩
    · exact .inl fun a ha hb e => h2 ⟨a, ha, hb, e⟩)
  refine ⟨?_, fun j hj => (h1 j hj).2⟩
  have := h.1
  rcases Nat.eq_zero_or_pos (cnt (d + 1) n) with h2 | h2
  · omega
  · have := (h1 (cnt (d + 1) n - 1) (by omega)).1; omega
/-- What is laid there. -/
theorem node_of {d n m : Nat} {x g : Nat → Nat} (h : LevAll d n m x g) {k i : Nat} (hi : i < cnt d n) (hk : i / 2 = k) {b : Nat → Nat} (hb : ∀ q, q < 32 → b q = if 2 * k + 1 < m then g ((2 * k + 1) * 32 + q) else zrN d q) : ∀ q, q < 32 → shaB (catN 32 (fun q => g (2 * k * 32 + q)) b) 64 q = nodN (d + 1) n x k q := fun q hq => by
  rw [nod_up d n x k q hq]
  rw [two_congr (c := nodN d n x (2 * k)) (d := nodN d n x (2 * k + 1)) (fun r hr => h.2 (2 * k) (by omega) r hr) (fun r hr => by
    rw [hb r hr]
    have hm := h.1
    by_cases h1 : 2 * k + 1 < m
    · rw [if_pos h1]; exact h.2 (2 * k + 1) (by omega) r hr
    · rw [if_neg h1]; exact (nod_zero d n x (2 * k + 1) r (by omega) hr).symm)]
/-- One leaf more is changed. -/
theorem at0_len {n : Nat} {t t' : Nat → Bool} {i : Nat} (h : ∀ a, t' a = true → t a = true ∨ a = i) : (atL n t' 0).length ≤ (atL n t 0).length + 1 := by
  simp only [atL]
  have h1 : ∀ n, ((List.range n).filter t').length ≤ ((List.range n).filter t).length + (if i < n then 1 else 0) := by
    intro n
    induction n with
    | zero => simp
    | succ n ih =>
      rw [List.range_succ, List.filter_append, List.filter_append, List.length_append, List.length_append]
      by_cases hn : t' n = true
      · rcases h n hn with h2 | h2
        · simp only [List.filter_cons, hn, h2, List.filter_nil]
          by_cases h3 : i < n
          · rw [if_pos h3] at ih; rw [if_pos (show i < n + 1 by omega)]; simp; omega
          · rw [if_neg h3] at ih
            by_cases h4 : i < n + 1
            · rw [if_pos h4]; simp; omega
            · rw [if_neg h4]; simp; omega
        · subst h2
          rw [if_neg (Nat.lt_irrefl n)] at ih
          rw [if_pos (show n < n + 1 by omega)]
          simp only [List.filter_cons, hn, List.filter_nil]
          simp; omega
      · simp only [List.filter_cons, hn, List.filter_nil]
        by_cases h3 : i < n
        · rw [if_pos h3] at ih; rw [if_pos (show i < n + 1 by omega)]; simp; omega
        · rw [if_neg h3] at ih
          by_cases h4 : i < n + 1
          · rw [if_pos h4]; simp; omega
          · rw [if_neg h4]; simp; omega
  have h2 := h1 n
  split at h2 <;> omega
end Go.Proofs.YtlcpflaofggmeaaDoor
/- What a call changed: only the blocks of a set, and new ones. -/
namespace Go.Proofs.YtlcpflaofggmeaaDoor
set_option maxRecDepth 40000
open Go.RowKit
/-- Only blocks of S, and blocks that w has not, may differ. -/
structure Chg (S : Nat → Prop) (w w' : World) : Prop where
  os : w'.os = w.os
  tape : w'.tape = w.tape
  output : w'.output = w.output
  size : w.heap.size ≤ w'.heap.size
  block : ∀ k, k < w.heap.size → ¬ S k → w'.heap[k]? = w.heap[k]?
section
variable {S S' : Nat → Prop} {w w1 w' : World}
theorem Chg.refl (S : Nat → Prop) (w : World) : Chg S w w := ⟨rfl, rfl, rfl, Nat.le_refl _, fun _ _ _ => rfl⟩
theorem Chg.trans (h : Chg S w w1) (k : Chg S' w1 w') (hs : ∀ b, S' b → S b ∨ w.heap.size ≤ b) : Chg S w w' :=
  ⟨k.os.trans h.os, k.tape.trans h.tape, k.output.trans h.output, Nat.le_trans h.size k.size, fun b hb hn => (k.block b (Nat.lt_of_lt_of_le hb h.size) (fun h1 => by
    rcases hs b h1 with h2 | h2
    · exact hn h2
    · omega)).trans (h.block b hb hn)⟩
theorem Chg.mono (h : Chg S w w') (hs : ∀ b, b < w.heap.size → S b → S' b) : Chg S' w w' :=
  ⟨h.os, h.tape, h.output, h.size, fun b hb hn => h.block b hb (fun h1 => hn (hs b hb h1))⟩
theorem Chg.of_below (h : Below w.heap.size w w') : Chg S w w' := ⟨h.os, h.tape, h.output, h.size, fun b hb _ => h.block b hb⟩
theorem Chg.of_grown {r : Option Nat} (h : w.grownBy w' r) (hs : ∀ b, r = some b → S b ∨ w.heap.size ≤ b) : Chg S w w' :=
  ⟨h.os, h.tape, h.output, h.size, fun b hb hn => h.block b hb (fun e => by
    rcases hs b e.symm with h1 | h1
    · exact hn h1
    · omega)⟩
theorem Chg.below (h : Chg S w w') {B : Nat} (hB : B ≤ w.heap.size) (hs : ∀ b, S b → B ≤ b) : Below B w w' :=
  ⟨h.os, h.tape, h.output, h.size, fun b hb => h.block b (by omega) (fun h1 => by have := hs b h1; omega)⟩
theorem Chg.all (h : Chg (fun _ => False) w w') : Below w.heap.size w w' := h.below (Nat.le_refl _) (fun _ h => h.elim)
theorem Chg.cell (h : Chg S w w') {a : Addr} (hb : a.block < w.heap.size) (hn : ¬ S a.block) : w'.cell? a = w.cell? a := World.cell?_of_block (h.block _ hb hn)
theorem Chg.row (h : Chg S w w') {b : Nat} {t : TypeId} {n : Nat} {f : Nat → Value} (hr : w.rowIs b t n f) (hn : ¬ S b) : w'.rowIs b t n f := hr.of_block (h.block _ hr.lt hn)
theorem Chg.rd (h : Chg S w w') {B n : Nat} {A : Option Addr} {f : Nat → Value} (hr : Rd w B A n f) (hB : B ≤ w.heap.size) (hn : ∀ ad, A = some ad → ¬ S ad.block) : Rd w' B A n f := fun h0 => by
  obtain ⟨ad, e, hb, hc⟩ := hr h0
  refine ⟨ad, e, hb, fun i hi => ?_⟩
  rw [← hc i hi]
  exact h.cell (by rw [block_of_add]; omega) (by rw [block_of_add]; exact hn ad e)
theorem OwnZ.blk {base z n c : Nat} {e : TypeId} {A : Option Addr} {f : Nat → Value} (h : OwnZ w base e z A n c f) (hk : ∀ ad, A = some ad → w'.heap[ad.block]? = w.heap[ad.block]?) : OwnZ w' base e z A n c f := by
  obtain ⟨h1, h2⟩ := h
  refine ⟨h1, ?_⟩
  rcases h2 with h2 | ⟨g, cap, cur, hv, hg, hh, r⟩
  · exact .inl h2
  · refine .inr ⟨g, cap, cur, hv, hg, ?_, r⟩
    have hA : A = some ⟨g, 0, none⟩ := by injection hv
    rw [hk _ hA]
    exact hh
theorem Chg.own (h : Chg S w w') {base z n c : Nat} {e : TypeId} {A : Option Addr} {f : Nat → Value} (ho : OwnZ w base e z A n c f) (hn : ∀ ad, A = some ad → ¬ S ad.block) : OwnZ w' base e z A n c f :=
  ho.blk fun ad e => h.block _ (ho.base_le ad e).2 (hn ad e)
end
/-- A block of a slice. -/
def OnA (A : Option Addr) (b : Nat) : Prop := ∃ ad : Addr, A = some ad ∧ ad.block = b
theorem OnA.ne {A A' : Option Addr} {b : Nat} (h : OnA A b) (hd : ∀ b, OnA A b → ¬ OnA A' b) : ∀ ad, A' = some ad → ad.block ≠ b := fun ad e hb => hd b h ⟨ad, e, hb⟩
theorem OwnZ.on {w : World} {base z n c : Nat} {e : TypeId} {A : Option Addr} {f : Nat → Value} (h : OwnZ w base e z A n c f) {b : Nat} (hb : OnA A b) : base ≤ b ∧ b < w.heap.size := by
  obtain ⟨ad, e, rfl⟩ := hb; exact h.base_le ad e
end Go.Proofs.YtlcpflaofggmeaaDoor
/- slices.Clone of a list of numbers; new slices whose length is a number of 64 bits. -/
namespace Go.Proofs.YtlcpflaofggmeaaDoor
set_option maxRecDepth 40000
open Go.RowKit
section
variable {P : Program}
end
/-- Numbers as a value. -/
abbrev u64v (f : Nat → Nat) : Nat → Value := fun i => .int .u64 ((f i : Nat) : Int)
theorem run_bs0_64 (w : World) : (Instr.buildSlice 56 0 #[]).run Tryd.prog w = .ok (.slice (some ⟨w.heap.size, 0, none⟩) 0 0) (w.alloc (.cells #[] 65)) := by simp [go_sem]
theorem eqNil64 (w : World) (A : Option Addr) (n c : Nat) : (binOp .eql 56 (.slice A n c) (.slice none 0 0)).run Tryd.prog w = .ok (.bool A.isNone) w :=
  Lib.run_eql_slice_nil w _ _ A n c 0 0 Tryd.underlying56
theorem ex_eqN {o : Oper} {a : Act} {ty rt : TypeId} {x : Operand} {u : Value} {b : Bool} {w : World} (ho : o.op = .binOp .eql ty x (.const (.slice none 0 0)) rt) (hx : a.eval x = u) (hr : (binOp .eql ty u (.slice none 0 0)).run Tryd.prog w = .ok (.bool b) w) : (execOp a.eval o).run Tryd.prog w = .ok (.value (.bool b)) w := by
  unfold execOp
  rw [ho]
  have h2 : a.eval (.const (.slice none 0 0)) = .slice none 0 0 := rfl
  simp only [hx, h2]
  simp [eqGuard, hr]
set_option maxHeartbeats 2000000 in
theorem clone_any (n c : Nat) (A : Option Addr) (x : Nat → Nat) (w : World) (hb : Rd w w.heap.size A n (u64v x)) (hn : n ≤ 17592186044416) (hA : A = none → c = 0) :
    Calls Tryd.prog 32 #[.slice A n c] w fun e w' => ∃ A' c', e = .returned (.slice A' n c') ∧ OwnZ w' w.heap.size 65 1 A' n c' (u64v x) ∧ Below w.heap.size w w' := by
  have HX := Lib.hid hb
  have HS0 := Lib.hid (HS.nil w)
  cases A with
  | none =>
    obtain rfl : n = 0 := by
      rcases Nat.eq_zero_or_pos n with h | h
      · exact h
      · obtain ⟨ad, h1, _⟩ := hb h; cases h1
    obtain rfl := hA rfl
    go_enter Tryd.func32, Tryd.ntmps32
    go_wp2_with (refine wpList_as rfl 4 rfl (.bool true) ?_ ?_; (· exact ex_eqN rfl rfl (eqNil64 w none 0 0)))
    go_ret
    exact ⟨none, 0, rfl, OwnZ.nil _ _ _ _ _, Below.refl _ _⟩
  | some ad =>
    clear hb hA
    go_enter Tryd.func32, Tryd.ntmps32
    go_wp2_with (first
      | (refine wpList_as rfl 4 rfl (.bool false) ?_ ?_; (· exact ex_eqN rfl rfl (eqNil64 w (some ad) n c)))
      | (refine wpList_bs0L rfl 1 rfl run_bs0_64 HS0.out ?_; intro b5 w2 hb5 hs ho; have HS2 := Lib.hid hs; have HO2 := Lib.hid ho; clear hs ho)
      | (at_builtin; refine wpList_app0L rfl (.tmp 5) (.tmp 6) 56 w.heap.size (z := .int .u64 0) (k := 1) (bytes := 8) (by kernel_rfl) Tryd.underlying56 (by rfl) (by omega) rfl rfl HO2.out rfl (by rw [Nat.mul_one]; exact HX.out.below HS2.out.bel) (fun _ _ => rfl) ⟨by omega, by omega⟩ HS2.out.size HS2.out ?_; intro A7 c7 w3 ho hs; have HO3 := Lib.hid ho; have HS3 := Lib.hid hs; clear ho hs))
    go_ret
    exact ⟨A7, c7, rfl, HO3.out, HS3.out.bel⟩
end Go.Proofs.YtlcpflaofggmeaaDoor
/- A tree in memory: its cells, its levels, its bitmap; blocks with roles, all unlike. -/
namespace Go.Proofs.YtlcpflaofggmeaaDoor
set_option maxRecDepth 40000
open Go.RowKit
/-- What a tree's memory reads as. -/
structure TV where
  lim : Nat
  D : Nat
  zA : Option Addr
  zc : Nat
  lb : Nat
  lc : Nat
  dA : Option Addr
  dn : Nat
  dc : Nat
  dw : Nat → Nat
  H : Nat
  lA : Nat → Option Addr
  lm : Nat → Nat
  lk : Nat → Nat
  g : Nat → Nat → Nat
/-- The tree's cells. -/
def TV.F (v : TV) : Nat → Value := fun i => if i = 0 then .int .i64 (v.lim : Int) else if i = 1 then .slice v.zA (v.D + 1) v.zc else if i = 2 then .slice (some ⟨v.lb, 0, none⟩) (v.D + 1) v.lc else if i = 3 then .slice v.dA v.dn v.dc else .int .i64 (v.H : Int)
/-- The zero roots, one behind the other. -/
def zrsN : Nat → Nat := fun i => zrN (i / 32) (i % 32)
/-- The blocks that are the tree's own, by their roles. -/
def TV.role (v : TV) (T : Nat) (r b : Nat) : Prop := match r with
  | 0 => b = T
  | 1 => b = v.lb
  | 2 => OnA v.dA b
  | k + 3 => k ≤ v.D ∧ OnA (v.lA k) b
def TV.own (v : TV) (T : Nat) (b : Nat) : Prop := ∃ r, v.role T r b
structure TM (w : World) (base T : Nat) (v : TV) : Prop where
  baseT : base ≤ T
  row : w.rowIs T 58 5 v.F
  zr : Rd w w.heap.size v.zA ((v.D + 1) * 32) (u8v zrsN)
  zb : ∀ b, OnA v.zA b → base ≤ b
  baseL : base ≤ v.lb
  lrow : ∃ F, w.rowIs v.lb 22 v.lc F ∧ ∀ k, k ≤ v.D → F k = .slice (v.lA k) (v.lm k) (v.lk k)
  lcap : v.D + 1 ≤ v.lc
  lv : ∀ k, k ≤ v.D → OwnZ w base 30 32 (v.lA k) (v.lm k) (v.lk k) (u8v (v.g k))
  dr : OwnZ w base 65 1 v.dA v.dn v.dc (u64v v.dw)
  apart : ∀ r r' b, v.role T r b → v.role T r' b → r = r'
  zapart : ∀ b, OnA v.zA b → ¬ v.own T b
section
variable {w w' : World} {base T : Nat} {v : TV}
theorem TM.lt (h : TM w base T v) {b : Nat} (hb : v.own T b) : b < w.heap.size := by
  obtain ⟨r, hr⟩ := hb
  match r, hr with
  | 0, hr => rw [show b = T from hr]; exact h.row.lt
  | 1, hr => rw [show b = v.lb from hr]; obtain ⟨F, hF, _⟩ := h.lrow; exact hF.lt
  | 2, hr => exact (h.dr.on hr).2
  | k + 3, hr => exact ((h.lv k hr.1).on hr.2).2
theorem TM.ge (h : TM w base T v) {b : Nat} (hb : v.own T b) : base ≤ b := by
  obtain ⟨r, hr⟩ := hb
  match r, hr with
  | 0, hr => rw [show b = T from hr]; exact h.baseT
  | 1, hr => rw [show b = v.lb from hr]; exact h.baseL
  | 2, hr => exact (h.dr.on hr).1
  | k + 3, hr => exact ((h.lv k hr.1).on hr.2).1
theorem TM.zlt (h : TM w base T v) {b : Nat} (hb : OnA v.zA b) : b < w.heap.size := by
  obtain ⟨ad, e, rfl⟩ := hb
  obtain ⟨ad', e', hlt, _⟩ := h.zr (by omega)
  rw [e] at e'; injection e' with e'; rw [e']; exact hlt
/-- What has none of its blocks changed has the tree as it was. -/
theorem TM.keep (h : TM w base T v) (hs : w.heap.size ≤ w'.heap.size) (hk : ∀ b, v.own T b ∨ OnA v.zA b → w'.heap[b]? = w.heap[b]?) : TM w' base T v where
  baseT := h.baseT
  row := h.row.of_block (hk T (.inl ⟨0, rfl⟩))
  zr := by
    intro h0
    obtain ⟨ad, e, hb, hc⟩ := h.zr h0
    refine ⟨ad, e, by omega, fun i hi => ?_⟩
    rw [← hc i hi]
    exact World.cell?_of_block (by rw [block_of_add]; exact hk _ (.inr ⟨ad, e, rfl⟩))
  zb := h.zb
  baseL := h.baseL
  lrow := by
    obtain ⟨F, hF, h1⟩ := h.lrow
    exact ⟨F, hF.of_block (hk v.lb (.inl ⟨1, rfl⟩)), h1⟩
  lcap := h.lcap
  lv := fun k hk2 => (h.lv k hk2).blk fun ad e => hk _ (.inl ⟨k + 3, hk2, ad, e, rfl⟩)
  dr := h.dr.blk fun ad e => hk _ (.inl ⟨2, ad, e, rfl⟩)
  apart := h.apart
  zapart := h.zapart
theorem TM.below (h : TM w base T v) (hb : Below w.heap.size w w') : TM w' base T v := h.keep hb.size fun b hbb => hb.block b (by
  rcases hbb with h1 | h1
  · exact h.lt h1
  · exact h.zlt h1)
/-- A cell of the tree. -/
theorem TM.cell (h : TM w base T v) (i : Nat) (hi : i < 5) : w.cell? ⟨T, i, none⟩ = some (v.F i) := h.row.cell hi
/-- The slice of a level. -/
theorem TM.level (h : TM w base T v) {k : Nat} (hk : k ≤ v.D) : w.cell? ⟨v.lb, k, none⟩ = some (.slice (v.lA k) (v.lm k) (v.lk k)) := by
  obtain ⟨F, hF, h1⟩ := h.lrow
  rw [← h1 k hk]
  exact hF.cell (by have := h.lcap; omega)
/-- A cell of the tree's own row was written (its bitmap's slice, or how many hashes were reckoned): the other things stay. -/
theorem TM.setH (h : TM w base T v) (H' : Nat) : TM (w.setCell ⟨T, 4, none⟩ (.int .i64 (H' : Int))) base T { v with H := H' } := by
  have hoth : ∀ b, b ≠ T → (w.setCell ⟨T, 4, none⟩ (.int .i64 (H' : Int))).heap[b]? = w.heap[b]? := fun b hb => Below.heap_setCell w _ _ b hb
  have hsz : (w.setCell ⟨T, 4, none⟩ (.int .i64 (H' : Int))).heap.size = w.heap.size := by simp [World.setCell]
  have h0 : ∀ r b, v.role T r b → r ≠ 0 → b ≠ T := fun r b hr hn e => hn (h.apart r 0 b hr e)
  exact {
    baseT := h.baseT
    row := (h.row.set 4 _).congr (fun i hi => by
      unfold TV.F
      rcases (show i = 0 ∨ i = 1 ∨ i = 2 ∨ i = 3 ∨ i = 4 by omega) with rfl | rfl | rfl | rfl | rfl <;> rfl)
    zr := by
      intro hz
      obtain ⟨ad, e, hb, hc⟩ := h.zr hz
      refine ⟨ad, e, by rw [hsz]; exact hb, fun i hi => ?_⟩
      rw [← hc i hi]
      exact World.cell?_of_block (by rw [block_of_add]; exact hoth _ (fun e2 => h.zapart _ ⟨ad, e, rfl⟩ ⟨0, e2⟩))
    zb := h.zb
    baseL := h.baseL
    lrow := by
      obtain ⟨F, hF, h1⟩ := h.lrow
      exact ⟨F, hF.of_block (hoth _ (h0 1 _ rfl (by omega))), h1⟩
    lcap := h.lcap
    lv := fun k hk => (h.lv k hk).blk fun ad e => hoth _ (h0 (k + 3) _ ⟨hk, ad, e, rfl⟩ (by omega))
    dr := h.dr.blk fun ad e => hoth _ (h0 2 _ ⟨ad, e, rfl⟩ (by omega))
    apart := h.apart
    zapart := h.zapart }
/-- The bitmap anew: what its slice reads as was changed, then its slice laid. -/
theorem TM.setD (h : TM w base T v) {A' : Option Addr} {n' c' : Nat} {dw' : Nat → Nat} (hg : w.grownBy w' (v.dA.map (·.block))) (ho : OwnZ w' base 65 1 A' n' c' (u64v dw')) (hA : ∀ b, OnA A' b → OnA v.dA b ∨ w.heap.size ≤ b) :
    TM (w'.setCell ⟨T, 3, none⟩ (.slice A' n' c')) base T { v with dA := A', dn := n', dc := c', dw := dw' } := by
  have hne : ∀ r b, v.role T r b → r ≠ 2 → some b ≠ v.dA.map (·.block) := fun r b hr hn e => by
    cases hd : v.dA with
    | none => rw [hd] at e; cases e
    | some ad => rw [hd] at e; injection e with e; exact hn (h.apart r 2 b hr ⟨ad, hd, e.symm⟩)
  have hkeep : ∀ r b, v.role T r b → r ≠ 2 → w'.heap[b]? = w.heap[b]? := fun r b hr hn => hg.block b (h.lt ⟨r, hr⟩) (hne r b hr hn)
  have hoth : ∀ b, b ≠ T → (w'.setCell ⟨T, 3, none⟩ (.slice A' n' c')).heap[b]? = w'.heap[b]? := fun b hb => Below.heap_setCell w' _ _ b hb
  have hsz : (w'.setCell ⟨T, 3, none⟩ (.slice A' n' c')).heap.size = w'.heap.size := by simp [World.setCell]
  have h0 : ∀ r b, v.role T r b → r ≠ 0 → b ≠ T := fun r b hr hn e => hn (h.apart r 0 b hr e)
  have hT := h.row.lt
  have hAT : ∀ b, OnA A' b → b ≠ T := fun b hb e => by
    rcases hA b hb with h1 | h1
    · exact h0 2 b h1 (by omega) e
    · omega
  exact {
    baseT := h.baseT
    row := ((h.row.of_block (hkeep 0 T rfl (by omega))).set 3 _).congr (fun i hi => by
      unfold TV.F
      rcases (show i = 0 ∨ i = 1 ∨ i = 2 ∨ i = 3 ∨ i = 4 by omega) with rfl | rfl | rfl | rfl | rfl <;> rfl)
    zr := by
      intro hz
      obtain ⟨ad, e, hb, hc⟩ := h.zr hz
      have hbd : ad.block ≠ T := fun e2 => h.zapart _ ⟨ad, e, rfl⟩ ⟨0, e2⟩
      refine ⟨ad, e, by rw [hsz]; exact Nat.lt_of_lt_of_le hb hg.size, fun i hi => ?_⟩
      rw [← hc i hi]
      refine World.cell?_of_block ?_
      rw [block_of_add, hoth _ hbd]
      refine hg.block _ hb (fun e3 => ?_)
      cases hd : v.dA with
      | none => rw [hd] at e3; cases e3
      | some ad2 => rw [hd] at e3; injection e3 with e3; exact h.zapart _ ⟨ad, e, rfl⟩ ⟨2, ad2, hd, e3.symm⟩
    zb := h.zb
    baseL := h.baseL
    lrow := by
      obtain ⟨F, hF, h1⟩ := h.lrow
      exact ⟨F, (hF.of_block (hkeep 1 _ rfl (by omega))).of_block (hoth _ (h0 1 _ rfl (by omega))), h1⟩
    lcap := h.lcap
    lv := fun k hk => ((h.lv k hk).blk fun ad e => hkeep (k + 3) _ ⟨hk, ad, e, rfl⟩ (by omega)).blk fun ad e => hoth _ (h0 (k + 3) _ ⟨hk, ad, e, rfl⟩ (by omega))
    dr := ho.blk fun ad e => hoth _ (hAT _ ⟨ad, e, rfl⟩)
    apart := by
      have key : ∀ r b, (TV.role { v with dA := A', dn := n', dc := c', dw := dw' } T r b) → (v.role T r b ∨ (r = 2 ∧ OnA A' b)) := fun r b hr => by
        match r, hr with
        | 0, hr => exact .inl hr
        | 1, hr => exact .inl hr
        | 2, hr => exact .inr ⟨rfl, hr⟩
        | k + 3, hr => exact .inl hr
      have key2 : ∀ r b, v.role T r b → OnA A' b → r = 2 := fun r b hr hb => by
        rcases hA b hb with h1 | h1
        · exact h.apart r 2 b hr h1
        · have := h.lt ⟨r, hr⟩; omega
      intro r r' b h1 h2
      rcases key r b h1 with k1 | ⟨e1, k1⟩ <;> rcases key r' b h2 with k2 | ⟨e2, k2⟩
      · exact h.apart r r' b k1 k2
      · rw [e2]; exact key2 r b k1 k2
      · rw [e1]; exact (key2 r' b k2 k1).symm
      · rw [e1, e2]
    zapart := by
      rintro b hb ⟨r, hr⟩
      match r, hr with
      | 0, hr => exact h.zapart b hb ⟨0, hr⟩
      | 1, hr => exact h.zapart b hb ⟨1, hr⟩
      | 2, hr =>
        rcases hA b hr with h1 | h1
        · exact h.zapart b hb ⟨2, h1⟩
        · have := h.zlt hb; omega
      | k + 3, hr => exact h.zapart b hb ⟨k + 3, hr⟩ }
/-- A level anew: what its slice reads as was changed, then its slice laid. -/
theorem TM.setL (h : TM w base T v) {k : Nat} (hk : k ≤ v.D) {A' : Option Addr} {n' c' : Nat} {g' : Nat → Nat} (hg : w.grownBy w' ((v.lA k).map (·.block))) (ho : OwnZ w' base 30 32 A' n' c' (u8v g')) (hA : ∀ b, OnA A' b → OnA (v.lA k) b ∨ w.heap.size ≤ b) :
    TM (w'.setCell ⟨v.lb, k, none⟩ (.slice A' n' c')) base T { v with lA := fun j => if j = k then A' else v.lA j, lm := fun j => if j = k then n' else v.lm j, lk := fun j => if j = k then c' else v.lk j, g := fun j => if j = k then g' else v.g j } := by
  have hne : ∀ r b, v.role T r b → r ≠ k + 3 → some b ≠ (v.lA k).map (·.block) := fun r b hr hn e => by
    cases hd : v.lA k with
    | none => rw [hd] at e; cases e
    | some ad => rw [hd] at e; injection e with e; exact hn (h.apart r (k + 3) b hr ⟨hk, ad, hd, e.symm⟩)
  have hkeep : ∀ r b, v.role T r b → r ≠ k + 3 → w'.heap[b]? = w.heap[b]? := fun r b hr hn => hg.block b (h.lt ⟨r, hr⟩) (hne r b hr hn)
  have hoth : ∀ b, b ≠ v.lb → (w'.setCell ⟨v.lb, k, none⟩ (.slice A' n' c')).heap[b]? = w'.heap[b]? := fun b hb => Below.heap_setCell w' _ _ b hb
  have hsz : (w'.setCell ⟨v.lb, k, none⟩ (.slice A' n' c')).heap.size = w'.heap.size := by simp [World.setCell]
  have h0 : ∀ r b, v.role T r b → r ≠ 1 → b ≠ v.lb := fun r b hr hn e => hn (h.apart r 1 b hr e)
  have hlb : v.lb < w.heap.size := by obtain ⟨F, hF, _⟩ := h.lrow; exact hF.lt
  have hAT : ∀ b, OnA A' b → b ≠ v.lb := fun b hb e => by
    rcases hA b hb with h1 | h1
    · exact h0 (k + 3) b ⟨hk, h1⟩ (by omega) e
    · omega
  have key : ∀ r b, (TV.role { v with lA := fun j => if j = k then A' else v.lA j, lm := fun j => if j = k then n' else v.lm j, lk := fun j => if j = k then c' else v.lk j, g := fun j => if j = k then g' else v.g j } T r b) → (v.role T r b ∨ (r = k + 3 ∧ OnA A' b)) := fun r b hr => by
    match r, hr with
    | 0, hr => exact .inl hr
    | 1, hr => exact .inl hr
    | 2, hr => exact .inl hr
    | j + 3, hr =>
      obtain ⟨hj, hr⟩ := hr
      simp only at hj hr
      by_cases e : j = k
      · subst e; rw [if_pos rfl] at hr; exact .inr ⟨rfl, hr⟩
      · rw [if_neg e] at hr; exact .inl ⟨hj, hr⟩
  exact {
    baseT := h.baseT
    row := (h.row.of_block (hkeep 0 T rfl (by omega))).of_block (hoth _ (h0 0 _ rfl (by omega)))
    zr := by
      intro hz
      obtain ⟨ad, e, hb, hc⟩ := h.zr hz
      have hbd : ad.block ≠ v.lb := fun e2 => h.zapart _ ⟨ad, e, rfl⟩ ⟨1, e2⟩
      refine ⟨ad, e, by rw [hsz]; exact Nat.lt_of_lt_of_le hb hg.size, fun i hi => ?_⟩
      rw [← hc i hi]
      refine World.cell?_of_block ?_
      rw [block_of_add, hoth _ hbd]
      refine hg.block _ hb (fun e3 => ?_)
      cases hd : v.lA k with
      | none => rw [hd] at e3; cases e3
      | some ad2 => rw [hd] at e3; injection e3 with e3; exact h.zapart _ ⟨ad, e, rfl⟩ ⟨k + 3, hk, ad2, hd, e3.symm⟩
    zb := h.zb
    baseL := h.baseL
    lrow := by
      obtain ⟨F, hF, h1⟩ := h.lrow
      refine ⟨_, (hF.of_block (hkeep 1 _ rfl (by omega))).set k (.slice A' n' c'), fun j hj => ?_⟩
      simp only
      by_cases e : j = k
      · subst e; rw [if_pos rfl, if_pos rfl, if_pos rfl, if_pos rfl]
      · rw [if_neg e, if_neg e, if_neg e, if_neg e]; exact h1 j hj
    lcap := h.lcap
    lv := fun j hj => by
      simp only
      by_cases e : j = k
      · subst e; rw [if_pos rfl, if_pos rfl, if_pos rfl, if_pos rfl]
        exact ho.blk fun ad e => hoth _ (hAT _ ⟨ad, e, rfl⟩)
      · rw [if_neg e, if_neg e, if_neg e, if_neg e]
        exact ((h.lv j hj).blk fun ad e2 => hkeep (j + 3) _ ⟨hj, ad, e2, rfl⟩ (by omega)).blk fun ad e2 => hoth _ (h0 (j + 3) _ ⟨hj, ad, e2, rfl⟩ (by omega))
    dr := (h.dr.blk fun ad e => hkeep 2 _ ⟨ad, e, rfl⟩ (by omega)).blk fun ad e => hoth _ (h0 2 _ ⟨ad, e, rfl⟩ (by omega))
    apart := by
      have key2 : ∀ r b, v.role T r b → OnA A' b → r = k + 3 := fun r b hr hb => by
        rcases hA b hb with h1 | h1
        · exact h.apart r (k + 3) b hr ⟨hk, h1⟩
        · have := h.lt ⟨r, hr⟩; omega
      intro r r' b h1 h2
      rcases key r b h1 with k1 | ⟨e1, k1⟩ <;> rcases key r' b h2 with k2 | ⟨e2, k2⟩
      · exact h.apart r r' b k1 k2
      · rw [e2]; exact key2 r b k1 k2
      · rw [e1]; exact (key2 r' b k2 k1).symm
      · rw [e1, e2]
    zapart := by
      rintro b hb ⟨r, hr⟩
      rcases key r b hr with h1 | ⟨_, h1⟩
      · exact h.zapart b hb ⟨r, h1⟩
      · rcases hA b h1 with h2 | h2
        · exact h.zapart b hb ⟨k + 3, hk, h2⟩
        · have := h.zlt hb; omega }
end
end Go.Proofs.YtlcpflaofggmeaaDoor
/- The rounds of a shuffle: their pivots and their digests. -/
namespace Go.Proofs.YtlcpflaofggmeaaDoor
set_option maxRecDepth 40000
open Go.RowKit
theorem one_at (v : Value) (i : Nat) (hi : i < 1) : (#[v] : Array Value)[i]? = some v := by
  obtain rfl : i = 0 := by omega
  rfl
section
variable {P : Program}
/-- A new slice of one number. -/
theorem wpList_bs1s {ops : Array Oper} {rest : List Oper} {o : Oper} {a : Act} {w w0 : World} {Q : Exit → Act → World → Prop} {rows : List RowSpec} (hgd : o.guard = none) {t e : TypeId} (x : Operand) (v : Value) (ho : o.op = .buildSlice t 1 #[(0, x)]) (hx : a.eval x = v) (hr : ∀ w : World, (Instr.buildSlice t 1 #[(0, v)]).run P w = .ok (.slice (some ⟨w.heap.size, 0, none⟩) 1 1) (w.alloc (.cells #[v] e))) (h : HS w0 w rows)
    (hK : ∀ b w', w0.heap.size ≤ b → w.heap.size ≤ b → Below w.heap.size w w' → HS w0 w' (⟨b, e, 1, fun _ => v⟩ :: rows) → wpList P ops Q rest (a.put o.dst (.slice (some ⟨b, 0, none⟩) 1 1)) w') : wpList P ops Q (o :: rest) a w :=
  wpList_plain hgd fun _ hK' => by
    have hrun : (execOp a.eval o).run P w = .ok (.value (.slice (some ⟨w.heap.size, 0, none⟩) 1 1)) (w.alloc (.cells #[v] e)) := by
      unfold execOp
      rw [ho]
      simp only [List.map_toArray, List.map_cons, List.map_nil, hx]
      simp [hr]
    unfold Oper.wp
    rw [hrun]
    exact hK' _ _ (hK _ _ h.size (Nat.le_refl _) ((Below.refl _ _).alloc (Nat.le_refl _) _) (h.alloc #[v] e 1 (fun _ => v) rfl (fun i hi => one_at v i hi)))
end
/-- A row of the call's own that grows in memory that is followed. -/
theorem HS.appO {w0 w w' : World} {rows : List RowSpec} {A : Option Addr} (h : HS w0 w rows) (hg : w.grownBy w' (A.map (·.block))) {B : Nat} (hA : ∀ ad, A = some ad → B ≤ ad.block) (hr : w0.heap.size ≤ B ∧ ∀ r ∈ rows, r.b < B) : HS w0 w' rows :=
  ⟨hg.os.trans h.os, hg.tape.trans h.tape, hg.output.trans h.output, Nat.le_trans h.size hg.size, fun k hk hr' => (hg.block k (Nat.lt_of_lt_of_le hk h.size) (fun e => by
    cases A with
    | none => cases e
    | some ad => injection e with e; have e' : k = ad.block := e; have := hA ad rfl; have := hr.1; omega)).trans (h.block k hk hr'), fun r hr' => (h.has r hr').of_block (hg.block r.b (h.has r hr').lt (fun e => by
    cases A with
    | none => cases e
    | some ad => injection e with e; have e' : r.b = ad.block := e; have := hA ad rfl; have := hr.2 r hr'; omega)), h.apart⟩
namespace ShufRounds
end ShufRounds
end Go.Proofs.YtlcpflaofggmeaaDoor
