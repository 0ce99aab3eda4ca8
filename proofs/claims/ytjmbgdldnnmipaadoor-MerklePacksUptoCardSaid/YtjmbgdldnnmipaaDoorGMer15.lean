/- A part of what the proofs stand on: MerkleHold, MerklePack, Guard, MerkleAwake, Call4, Row, Laid, ShaLaid. -/
import Derived.Test.YtjmbgdldnnmipaaDoorGMer14
import Derived.Test.YtjmbgdldnnmipaaDoorGMer11
import Derived.Test.YtjmbgdldnnmipaaDoorGMer13
import Derived.Test.YtjmbgdldnnmipaaDoorGMer12
import Derived.Test.YtjmbgdldnnmipaaDoorGMer7
import Derived.Test.YtjmbgdldnnmipaaDoorGMer2
import Derived.ProofKit
import Derived.OpenShut
import Derived.ShutString
import Derived.SizedLaws
import Derived.JoinedCond
import Derived.Deep.Grids
import Derived.Test.YtjmbgdldnnmipaaDoorGMer4
import Derived.WideKeyArr2
import Derived.Lib.LaidTab
import Derived.Deep.DeepHandedRow
import Derived.Test.YtjmbgdldnnmipaaDoorGMer10
import Derived.KernelRfl
/- Whether a branch holds; a number that is mixed in; zero roots by the reference. (Printed by a program of mine.) -/
namespace Go.Proofs.YtjmbgdldnnmipaaDoor
set_option maxRecDepth 40000
open Go.RowKit
/-- Are these roots alike? -/
def eqI (n : Nat) (f g : Nat → Int) : Bool := decide (∀ i, i < n → f i = g i)
def eqB (f g : Nat → Nat) : Bool := eqI 32 (fun i => ((f i : Nat) : Int)) (fun i => ((g i : Nat) : Int))
theorem eqB_of {f g : Nat → Nat} (h : ∀ i, i < 32 → f i = g i) : eqB f g = true := by
  unfold eqB eqI
  exact decide_eq_true fun i hi => congrArg (fun k : Nat => (k : Int)) (h i hi)
namespace MerkleHold
theorem ent_rtwo (vs : Array Value) (w : World) : (callFunc 46 vs).run Tryd.prog w = .ok (.enter 46 vs) w := by kernel_rfl
theorem ent_up (vs : Array Value) (w : World) : (callFunc 37 vs).run Tryd.prog w = .ok (.enter 37 vs) w := by kernel_rfl
theorem and1U (m r : Nat) (h : m < 18446744073709551616) (hr : m % 2 = r) (w : World) : (binOp .and 25 (.int .u64 (m : Int)) (.int .u64 1)).run Tryd.prog w = .ok (.int .u64 (r : Int)) w := by
  have h1 : (BitVec.ofInt 64 (m : Int)).toNat = m := by
    rw [BitVec.ofInt_natCast, BitVec.toNat_ofNat]; exact Nat.mod_eq_of_lt (by omega)
  have h2 : bits .and .u64 (m : Int) 1 = (r : Int) := by
    show IntKind.u64.wrap ((BitVec.ofInt 64 (m : Int) &&& BitVec.ofInt 64 (1 : Int)).toNat : Int) = _
    rw [BitVec.toNat_and, h1, show (BitVec.ofInt 64 (1 : Int)).toNat = 1 by rfl, Nat.and_one_is_mod, hr, IntKind.wrap_u64]
    omega
  simp [go_sem, h2]
theorem shrU (p k : Nat) (_hp : p < 18446744073709551616) (hk : k < 64) (w : World) : (binOp .shr 25 (.int .u64 (p : Int)) (.int .u64 (k : Int))).run Tryd.prog w = .ok (.int .u64 ((p / 2 ^ k : Nat) : Int)) w := by
  simp [go_sem]
  try omega
theorem shr1U (m : Nat) (hp : m < 18446744073709551616) (w : World) : (binOp .shr 25 (.int .u64 (m : Int)) (.int .u64 1)).run Tryd.prog w = .ok (.int .u64 ((m / 2 : Nat) : Int)) w := by
  have := shrU m 1 hp (by omega) w
  rwa [Nat.pow_one] at this
section
variable {P : Program} {ops : Array Oper} {B : Nat} {w0 : World} {o : Oper} {lk : Tmp → SF} {ty rt : TypeId}
theorem opOb_leN (a c : Nat) (b : Bool) (hb : decide ((a : Int) ≤ (c : Int)) = b) {xo yo : Operand} (hg : o.guard = none) (hop : o.op = .binOp .leq ty xo yo rt) (hx : OpK lk xo (.int .i64 (a : Int))) (hy : OpK lk yo (.int .i64 (c : Int))) : opOb P ops B w0 o (SF.is (.bool b)) lk := by
  subst hb
  exact opOb_bin rfl hg hop hx hy (fun w => by simp [go_sem])
end
end MerkleHold
open MerkleHold MerkleFn in
set_option maxHeartbeats 8000000 in
theorem holds_look (n c : Nat) (A : Option Addr) (x y r : Nat → Nat) (p : Nat) (w : World) (hb : Rd w w.heap.size A (n * 32) (u8v x)) (hx : ∀ i, x i < 256) (hy : ∀ i, y i < 256) (hnc : n ≤ c) (hn : n ≤ 64) (hp : p < 18446744073709551616) (hpk : ShaPkg w) :
    Calls Tryd.prog 15 #[rootV y, .slice A n c, .int .u64 (p : Int), rootV r] w fun e w' => e = .returned (.bool (eqB (upN y x p n) r)) ∧ Below w.heap.size w w' := by
  have HX := Lib.hid hb
  have HXl := Lib.hid hx
  have HYl := Lib.hid hy
  have HP := Lib.hid hpk
  have HS0 := Lib.hid (HS.nil w)
  clear hb hx hy hpk
  go_enter Tryd.func15, Tryd.ntmps15
  go_wp2_with (first
    | (refine wpList_boxL rfl 23 _ 4 rfl rfl HS0.out 32 (u8v y) rfl ?_; intro b4 w4 hb4 hc4 hs; have HS4 := Lib.hid hs; clear hs)
    | (refine wpList_boxL rfl 23 _ 7 rfl rfl HS4.out 32 (u8v r) rfl ?_; intro b7 wa hb7 hc7 hs; have HA := Lib.hid hs; clear hs))
  go_loopw [2, 16] (fun pl i wr => ∃ k : Nat, pl = .int .u64 ((p / 2 ^ k : Nat) : Int) ∧ i = .int .i64 (k : Int) ∧ k ≤ n ∧ HS w wr [⟨b7, 23, 32, u8v r⟩, ⟨b4, 23, 32, u8v (upN y x p k)⟩]) (fun _ i _ => n - (intOf i).toNat)
  case atStart => exact ⟨0, by simp, rfl, by omega, HA.out⟩
  case round =>
    clear HA HS4 HS0
    obtain ⟨k, rfl, rfl, hk, hs⟩ := hrel
    have HSq := Lib.hid hs
    clear hs
    by_cases hkn : k < n
    · obtain ⟨ad, hA, _, _⟩ := HX.out (by omega)
      subst hA
      obtain ⟨m, hm⟩ : ∃ m, m = p / 2 ^ k := ⟨_, rfl⟩
      have hm64 : m < 18446744073709551616 := by rw [hm]; exact Nat.lt_of_le_of_lt (Nat.div_le_self _ _) hp
      by_cases h1 : p / 2 ^ k % 2 = 1
      · have HV := Lib.hid (show upN y x p (k + 1) = shaB (catN 32 (fun q => x (k * 32 + q)) (upN y x p k)) 64 by rw [upN, if_pos h1])
        have hr : m % 2 = 1 := by rw [hm]; exact h1
        have HM2 := Lib.hid (show ((p / 2 ^ (k + 1) : Nat) : Int) = ((m / 2 : Nat) : Int) by rw [hm, Nat.pow_succ, ← Nat.div_div_eq_div_mul])
        rw [← hm]
        clear hm h1
        go_wp2_with (first
          | (refine wpList_as rfl 18 rfl (.pointer (some (ad.add (k * 32)))) ?_ ?_; (· exact ex_idx rfl rfl rfl (fun w => run_idxZ (z := 32) w Tryd.underlying24 (by kernel_rfl) ad (by omega)) _))
          | (refine wpList_load_rd rfl 23 _ rfl 32 _ Tryd.underlying23 rfl (by kernel_rfl) (ad.add (k * 32)) rfl (u8v (fun q => x (k * 32 + q))) (fun q hq => by rw [add_add]; exact ((HX.out.below (HSq.out.out (by simp; omega))).cell_ (show k * 32 + q < n * 32 by omega))) ?_)
          | (refine wpList_allocL rfl 23 10 rfl rfl HSq.out (Array.replicate 32 (.int .u8 0)) (by kernel_rfl) 32 (u8v fun _ => 0) (by rfl) (zero_at 32 (.int .u8 0)) ?_; intro b10 w10 hb10 hc10 hs; have HS10 := Lib.hid hs; clear hs)
          | (refine wpList_storeH rfl 23 (.tmp 10) (.tmp 19) rfl HS10.out 0 rfl (u8v (fun q => x (k * 32 + q))) rfl rfl (by kernel_rfl) (fun _ _ => rfl) ?_; intro w11 hs; have HS11 := Lib.hid hs; clear hs)
          | (refine wpList_as rfl 21 rfl (.int .u64 1) ?_ ?_; (· exact ex_bin rfl rfl rfl rfl (fun w => and1U m 1 hm64 hr w) _))
          | (refine wpList_load_rd rfl 23 _ rfl 32 _ Tryd.underlying23 rfl (by kernel_rfl) ⟨b10, 0, none⟩ rfl (u8v (fun q => x (k * 32 + q))) (fun i hi => by rw [add_lit0]; exact HS11.out.cell 0 i rfl hi) ?_)
          | (refine wpList_load_rd rfl 23 _ rfl 32 _ Tryd.underlying23 rfl (by kernel_rfl) ⟨b4, 0, none⟩ rfl (u8v (upN y x p k)) (fun i hi => by rw [add_lit0]; exact HS11.out.cell 2 i rfl hi) ?_)
          | (go_at_call 18; refine (two_any (fun q => x (k * 32 + q)) (upN y x p k) (fun _ => HXl.out _) (upN_lt HYl.out p k) _ (HP.out.below (HS11.out.out (by simp; omega)))).mono ?_; rintro e w12 ⟨rfl, hb⟩; have HS12 := Lib.hid (HS11.out.below hb); clear hb)
          | (refine wpList_storeH rfl 23 (.tmp 4) (.tmp 25) rfl HS12.out 2 rfl (u8v (shaB (catN 32 (fun q => x (k * 32 + q)) (upN y x p k)) 64)) rfl rfl (by kernel_rfl) (fun _ _ => rfl) ?_; intro w13 hs; rw [← HV.out] at hs; have HS13 := Lib.hid hs; clear hs)
          | (refine wpList_as rfl 30 rfl (.int .u64 ((m / 2 : Nat) : Int)) ?_ ?_; (· exact ex_bin rfl rfl rfl rfl (fun w => shr1U m hm64 w) _)))
        go_roundw
        case rel => exact ⟨k + 1, by rw [HM2.out]; exact congrArg (Value.int .u64) (by omega), by go_num, by omega, HS13.out.drop (show w.heap.size ≤ b10 by omega)⟩
        case measure => simp [intOf]; omega
      · have HV := Lib.hid (show upN y x p (k + 1) = shaB (catN 32 (upN y x p k) (fun q => x (k * 32 + q))) 64 by rw [upN, if_neg h1])
        have hr : m % 2 = 0 := by rw [hm]; omega
        have HM2 := Lib.hid (show ((p / 2 ^ (k + 1) : Nat) : Int) = ((m / 2 : Nat) : Int) by rw [hm, Nat.pow_succ, ← Nat.div_div_eq_div_mul])
        rw [← hm]
        clear hm h1
        go_wp2_with (first
          | (refine wpList_as rfl 18 rfl (.pointer (some (ad.add (k * 32)))) ?_ ?_; (· exact ex_idx rfl rfl rfl (fun w => run_idxZ (z := 32) w Tryd.underlying24 (by kernel_rfl) ad (by omega)) _))
          | (refine wpList_load_rd rfl 23 _ rfl 32 _ Tryd.underlying23 rfl (by kernel_rfl) (ad.add (k * 32)) rfl (u8v (fun q => x (k * 32 + q))) (fun q hq => by rw [add_add]; exact ((HX.out.below (HSq.out.out (by simp; omega))).cell_ (show k * 32 + q < n * 32 by omega))) ?_)
          | (refine wpList_allocL rfl 23 10 rfl rfl HSq.out (Array.replicate 32 (.int .u8 0)) (by kernel_rfl) 32 (u8v fun _ => 0) (by rfl) (zero_at 32 (.int .u8 0)) ?_; intro b10 w10 hb10 hc10 hs; have HS10 := Lib.hid hs; clear hs)
          | (refine wpList_storeH rfl 23 (.tmp 10) (.tmp 19) rfl HS10.out 0 rfl (u8v (fun q => x (k * 32 + q))) rfl rfl (by kernel_rfl) (fun _ _ => rfl) ?_; intro w11 hs; have HS11 := Lib.hid hs; clear hs)
          | (refine wpList_as rfl 21 rfl (.int .u64 0) ?_ ?_; (· exact ex_bin rfl rfl rfl rfl (fun w => and1U m 0 hm64 hr w) _))
          | (refine wpList_load_rd rfl 23 _ rfl 32 _ Tryd.underlying23 rfl (by kernel_rfl) ⟨b10, 0, none⟩ rfl (u8v (fun q => x (k * 32 + q))) (fun i hi => by rw [add_lit0]; exact HS11.out.cell 0 i rfl hi) ?_)
          | (refine wpList_load_rd rfl 23 _ rfl 32 _ Tryd.underlying23 rfl (by kernel_rfl) ⟨b4, 0, none⟩ rfl (u8v (upN y x p k)) (fun i hi => by rw [add_lit0]; exact HS11.out.cell 2 i rfl hi) ?_)
          | (go_at_call 18; refine (two_any (upN y x p k) (fun q => x (k * 32 + q)) (upN_lt HYl.out p k) (fun _ => HXl.out _) _ (HP.out.below (HS11.out.out (by simp; omega)))).mono ?_; rintro e w12 ⟨rfl, hb⟩; have HS12 := Lib.hid (HS11.out.below hb); clear hb)
          | (refine wpList_storeH rfl 23 (.tmp 4) (.tmp 28) rfl HS12.out 2 rfl (u8v (shaB (catN 32 (upN y x p k) (fun q => x (k * 32 + q))) 64)) rfl rfl (by kernel_rfl) (fun _ _ => rfl) ?_; intro w13 hs; rw [← HV.out] at hs; have HS13 := Lib.hid hs; clear hs)
          | (refine wpList_as rfl 30 rfl (.int .u64 ((m / 2 : Nat) : Int)) ?_ ?_; (· exact ex_bin rfl rfl rfl rfl (fun w => shr1U m hm64 w) _)))
        go_roundw
        case rel => exact ⟨k + 1, by rw [HM2.out]; exact congrArg (Value.int .u64) (by omega), by go_num, by omega, HS13.out.drop (show w.heap.size ≤ b10 by omega)⟩
        case measure => simp [intOf]; omega
    · obtain rfl : k = n := by omega
      go_wp2_with (first
        | (refine wpList_load_rd rfl 23 _ rfl 32 _ Tryd.underlying23 rfl (by kernel_rfl) ⟨b4, 0, none⟩ rfl (u8v (upN y x p k)) (fun i hi => by rw [add_lit0]; exact HSq.out.cell 1 i rfl hi) ?_)
        | (refine wpList_load_rd rfl 23 _ rfl 32 _ Tryd.underlying23 rfl (by kernel_rfl) ⟨b7, 0, none⟩ rfl (u8v r) (fun i hi => by rw [add_lit0]; exact HSq.out.cell 0 i rfl hi) ?_)
        | (refine wpList_eqArr rfl rfl 5 32 .u8 (fun i => ((upN y x p k i : Nat) : Int)) (fun i => ((r i : Nat) : Int)) (eqB (upN y x p k) r) Tryd.underlying23 Tryd.underlying5 (by kernel_rfl) (by kernel_rfl) rfl rfl rfl ?_))
      go_ret
      exact ⟨rfl, HSq.out.out (by simp; omega)⟩
open MerkleHold in
theorem holds_lookF (n c : Nat) (A : Option Addr) (y r : Nat → Nat) (p : Nat) (w : World) (hn : 64 < n) :
    Calls Tryd.prog 15 #[rootV y, .slice A n c, .int .u64 (p : Int), rootV r] w fun e w' => e = .returned (.bool false) ∧ Below w.heap.size w w' := by
  have HS0 := Lib.hid (HS.nil w)
  go_enter Tryd.func15, Tryd.ntmps15
  go_wp2_with (first
    | (refine wpList_boxL rfl 23 _ 4 rfl rfl HS0.out 32 (u8v y) rfl ?_; intro b4 w4 hb4 hc4 hs; have HS4 := Lib.hid hs; clear hs)
    | (refine wpList_boxL rfl 23 _ 7 rfl rfl HS4.out 32 (u8v r) rfl ?_; intro b7 wa hb7 hc7 hs; have HA := Lib.hid hs; clear hs))
  go_ret
  exact ⟨rfl, HA.out.out (by simp; omega)⟩
open MerkleHold in
set_option maxHeartbeats 8000000 in
theorem up_ref (n c : Nat) (A : Option Addr) (x y : Nat → Nat) (p : Nat) (w : World) (hb : Rd w w.heap.size A (n * 32) (u8v x)) (hx : ∀ i, x i < 256) (hy : ∀ i, y i < 256) (hnc : n ≤ c) (hn : n ≤ 64) (hp : p < 18446744073709551616) (hpk : RefPkg w) :
    Calls Tryd.prog 37 #[rootV y, .slice A n c, .int .u64 (p : Int)] w fun e w' => e = .returned (rootV (upN y x p n)) ∧ Below w.heap.size w w' := by
  have HX := Lib.hid hb
  have HXl := Lib.hid hx
  have HYl := Lib.hid hy
  have HP := Lib.hid hpk
  have HS0 := Lib.hid (HS.nil w)
  clear hb hx hy hpk
  go_enter Tryd.func37, Tryd.ntmps37
  go_wp2_with (first
    | (refine wpList_boxL rfl 23 _ 3 rfl rfl HS0.out 32 (u8v y) rfl ?_; intro b3 w3 hb3 hc3 hs; have HS3 := Lib.hid hs; clear hs)
    | (refine wpList_allocL rfl 23 6 rfl rfl HS3.out (Array.replicate 32 (.int .u8 0)) (by kernel_rfl) 32 (u8v fun _ => 0) (by rfl) (zero_at 32 (.int .u8 0)) ?_; intro b6 w6 hb6 hc6 hs; have HS6 := Lib.hid hs; clear hs))
  go_loopw [7] (fun i wr => ∃ k : Nat, i = .int .i64 (k : Int) ∧ k ≤ n ∧ HS w wr [⟨b6, 23, 32, u8v fun _ => 0⟩, ⟨b3, 23, 32, u8v (upN y x p k)⟩]) (fun i _ => n - (intOf i).toNat)
  case atStart => exact ⟨0, rfl, by omega, HS6.out⟩
  case round =>
    clear HS6 HS3 HS0
    obtain ⟨k, rfl, hk, hs⟩ := hrel
    have HSq := Lib.hid hs
    have HW := Lib.hid (hs.out (by simp; omega))
    clear hs
    by_cases hkn : k < n
    · obtain ⟨ad, hA, _, _⟩ := HX.out (by omega)
      subst hA
      obtain ⟨m, hm⟩ : ∃ m, m = p / 2 ^ k := ⟨_, rfl⟩
      have HM := Lib.hid hm
      have hm64 : m < 18446744073709551616 := by rw [hm]; exact Nat.lt_of_le_of_lt (Nat.div_le_self _ _) hp
      by_cases h1 : p / 2 ^ k % 2 = 1
      · have HV := Lib.hid (show upN y x p (k + 1) = shaB (catN 32 (fun q => x (k * 32 + q)) (upN y x p k)) 64 by rw [upN, if_pos h1])
        have hr : m % 2 = 1 := by rw [hm]; exact h1
        clear hm
        go_wp2_with (first
          | (refine wpList_as rfl 16 rfl (.int .u64 (k : Int)) ?_ ?_; (· exact ex_cnv rfl rfl (fun w => TreeRef.cvu k (by omega) w) _))
          | (refine wpList_as rfl 17 rfl (.int .u64 (m : Int)) ?_ ?_; (· rw [HM.out]; exact ex_bin rfl rfl rfl rfl (fun w => shrU p k hp (by omega) w) _))
          | (refine wpList_as rfl 18 rfl (.int .u64 1) ?_ ?_; (· exact ex_bin rfl rfl rfl rfl (fun w => and1U m 1 hm64 hr w) _)))
        refine wp_region_factsS (l := [_, _, _, _, _, _]) (tl := []) (B := wr.heap.size) (w0 := wr) [SF.is (.slice (some ad) (n) (c)), SF.is (.int .i64 ((k : Nat) : Int)), SF.is (.pointer (some (ad.add (k * 32)))), SF.is (rootV (fun q => x (k * 32 + q))), SF.is (rootV (upN y x p k)), SF.is (rootV (shaB (catN 32 (fun q => x (k * 32 + q)) (upN y x p k)) 64))] (by kernel_rfl) (by kernel_rfl) rfl (Nat.le_refl _) (Below.refl _ _) ⟨?_, ?_, ?_, ?_, ?_, ?_, trivial⟩ ?_
        · exact (opOb_move _ rfl (.inl rfl) rfl)
        · exact (opOb_move _ rfl (.inl rfl) rfl)
        · exact opOb_idx rfl rfl (OpK.tmp rfl) (OpK.tmp rfl) (fun w => run_idxZ (z := 32) w Tryd.underlying24 (by kernel_rfl) ad (by omega))
        · exact opOb_ld rfl rfl (OpK.tmp rfl) (fun w' hb => run_loadAt_rd w' (ad.add (k * 32)) 32 23 _ (u8v (fun q => x (k * 32 + q))) (fun i hi => by rw [add_add]; exact ((HX.out.below (HW.out.trans (hb.mono HW.out.size))).cell_ (show k * 32 + i < n * 32 by omega))) Tryd.underlying23 rfl (by kernel_rfl))
        · exact opOb_ld rfl rfl (OpK.tmp rfl) (fun w' hb => ld_all (HSq.out.row 1 rfl) (HSq.out.row 1 rfl).lt Tryd.underlying23 rfl (by kernel_rfl) w' hb)
        · exact opOb_fn2 ent_rtwo rfl rfl (OpK.tmp rfl) (OpK.tmp rfl) (fun w' hb => (refTwo_any (fun q => x (k * 32 + q)) (upN y x p k) (fun _ => HXl.out _) (upN_lt HYl.out p k) w' (HP.out.below (HW.out.trans (hb.mono HW.out.size)))).mono fun e w'' ⟨he, hb2⟩ => ⟨_, he, rfl, hb2⟩)
        · intro w' hb
          simp only [fin, SF.is, forall_eq]
          simp only [Act.put, List.setIfInBounds_toArray, List.set_cons_succ, List.set_cons_zero]
          have hs := HSq.out.below hb
          refine wp_storeL 23 (.tmp 3) (.tmp 25) rfl hs 1 rfl (u8v (shaB (catN 32 (fun q => x (k * 32 + q)) (upN y x p k)) 64)) rfl rfl (by kernel_rfl) (fun _ _ => rfl) ?_
          clear hs hb
          intro wy hs
          rw [← HV.out] at hs
          have HZ := Lib.hid hs
          clear hs
          simp only [seqWp, Act.put]
          go_wp2_with fail
          go_roundw
          case rel => exact ⟨k + 1, by go_num, by omega, HZ.out⟩
          case measure => simp [intOf]; omega
      · have HV := Lib.hid (show upN y x p (k + 1) = shaB (catN 32 (upN y x p k) (fun q => x (k * 32 + q))) 64 by rw [upN, if_neg h1])
        have hr : m % 2 = 0 := by rw [hm]; omega
        clear hm
        go_wp2_with (first
          | (refine wpList_as rfl 16 rfl (.int .u64 (k : Int)) ?_ ?_; (· exact ex_cnv rfl rfl (fun w => TreeRef.cvu k (by omega) w) _))
          | (refine wpList_as rfl 17 rfl (.int .u64 (m : Int)) ?_ ?_; (· rw [HM.out]; exact ex_bin rfl rfl rfl rfl (fun w => shrU p k hp (by omega) w) _))
          | (refine wpList_as rfl 18 rfl (.int .u64 0) ?_ ?_; (· exact ex_bin rfl rfl rfl rfl (fun w => and1U m 0 hm64 hr w) _)))
        refine wp_region_factsS (l := [_, _, _, _, _, _]) (tl := []) (B := wr.heap.size) (w0 := wr) [SF.is (rootV (upN y x p k)), SF.is (.slice (some ad) (n) (c)), SF.is (.int .i64 ((k : Nat) : Int)), SF.is (.pointer (some (ad.add (k * 32)))), SF.is (rootV (fun q => x (k * 32 + q))), SF.is (rootV (shaB (catN 32 (upN y x p k) (fun q => x (k * 32 + q))) 64))] (by kernel_rfl) (by kernel_rfl) rfl (Nat.le_refl _) (Below.refl _ _) ⟨?_, ?_, ?_, ?_, ?_, ?_, trivial⟩ ?_
        · exact opOb_ld rfl rfl (OpK.tmp rfl) (fun w' hb => ld_all (HSq.out.row 1 rfl) (HSq.out.row 1 rfl).lt Tryd.underlying23 rfl (by kernel_rfl) w' hb)
        · exact (opOb_move _ rfl (.inl rfl) rfl)
        · exact (opOb_move _ rfl (.inl rfl) rfl)
        · exact opOb_idx rfl rfl (OpK.tmp rfl) (OpK.tmp rfl) (fun w => run_idxZ (z := 32) w Tryd.underlying24 (by kernel_rfl) ad (by omega))
        · exact opOb_ld rfl rfl (OpK.tmp rfl) (fun w' hb => run_loadAt_rd w' (ad.add (k * 32)) 32 23 _ (u8v (fun q => x (k * 32 + q))) (fun i hi => by rw [add_add]; exact ((HX.out.below (HW.out.trans (hb.mono HW.out.size))).cell_ (show k * 32 + i < n * 32 by omega))) Tryd.underlying23 rfl (by kernel_rfl))
        · exact opOb_fn2 ent_rtwo rfl rfl (OpK.tmp rfl) (OpK.tmp rfl) (fun w' hb => (refTwo_any (upN y x p k) (fun q => x (k * 32 + q)) (upN_lt HYl.out p k) (fun _ => HXl.out _) w' (HP.out.below (HW.out.trans (hb.mono HW.out.size)))).mono fun e w'' ⟨he, hb2⟩ => ⟨_, he, rfl, hb2⟩)
        · intro w' hb
          simp only [fin, SF.is, forall_eq]
          simp only [Act.put, List.setIfInBounds_toArray, List.set_cons_succ, List.set_cons_zero]
          have hs := HSq.out.below hb
          refine wp_storeL 23 (.tmp 3) (.tmp 31) rfl hs 1 rfl (u8v (shaB (catN 32 (upN y x p k) (fun q => x (k * 32 + q))) 64)) rfl rfl (by kernel_rfl) (fun _ _ => rfl) ?_
          clear hs hb
          intro wy hs
          rw [← HV.out] at hs
          have HZ := Lib.hid hs
          clear hs
          simp only [seqWp, Act.put]
          go_wp2_with fail
          go_roundw
          case rel => exact ⟨k + 1, by go_num, by omega, HZ.out⟩
          case measure => simp [intOf]; omega
    · obtain rfl : k = n := by omega
      go_wp2_with (first
        | (refine wpList_load_rd rfl 23 _ rfl 32 _ Tryd.underlying23 rfl (by kernel_rfl) ⟨b3, 0, none⟩ rfl (u8v (upN y x p k)) (fun i hi => by rw [add_lit0]; exact HSq.out.cell 1 i rfl hi) ?_)
        | (refine wpList_storeH rfl 23 (.tmp 6) (.tmp 32) rfl HSq.out 0 rfl (u8v (upN y x p k)) rfl rfl (by kernel_rfl) (fun _ _ => rfl) ?_; intro wy hs; have HY := Lib.hid hs; clear hs))
      exact ret_rowIs rfl (HY.out.row 0 rfl) _ rfl Tryd.underlying23 rfl (by kernel_rfl) rfl ⟨rfl, HY.out.out (by simp; omega)⟩
open MerkleHold in
set_option maxHeartbeats 4000000 in
theorem holds_ref (n c : Nat) (A : Option Addr) (x y r : Nat → Nat) (p : Nat) (w : World) (hb : Rd w w.heap.size A (n * 32) (u8v x)) (hx : ∀ i, x i < 256) (hy : ∀ i, y i < 256) (hnc : n ≤ c) (hn : n ≤ 64) (hp : p < 18446744073709551616) (hpk : RefPkg w) :
    Calls Tryd.prog 16 #[rootV y, .slice A n c, .int .u64 (p : Int), rootV r] w fun e w' => e = .returned (.bool (eqB (upN y x p n) r)) ∧ Below w.heap.size w w' := by
  have HX := Lib.hid hb
  have HXl := Lib.hid hx
  have HYl := Lib.hid hy
  have HPR := Lib.hid hpk
  have HS0 := Lib.hid (HS.nil w)
  clear hb hx hy hpk
  go_enter Tryd.func16, Tryd.ntmps16
  go_wp2_with (first
    | (refine wpList_boxL rfl 23 _ 4 rfl rfl HS0.out 32 (u8v y) rfl ?_; intro b4 w4 hb4 hc4 hs; have HS4 := Lib.hid hs; clear hs)
    | (refine wpList_boxL rfl 23 _ 7 rfl rfl HS4.out 32 (u8v r) rfl ?_; intro b7 wa hb7 hc7 hs; have HA := Lib.hid hs; clear hs))
  have HW := Lib.hid (HA.out.out (by simp; omega))
  refine wp_region_facts (B := wa.heap.size) (w0 := wa) [SF.is (.slice (A) (n) (c)), SF.is (.int .i64 ((n : Nat) : Int)), SF.is (.bool true), SF.is (.bool true), SF.is (rootV y), SF.is (.slice (A) (n) (c)), SF.is (.int .u64 ((p : Nat) : Int)), SF.is (rootV (upN y x p n)), SF.is (rootV r), SF.is (.bool (eqB (upN y x p n) r)), SF.is (.bool (eqB (upN y x p n) r)), SF.is (.bool (eqB (upN y x p n) r))] (by kernel_rfl) (by kernel_rfl) rfl (Nat.le_refl _) (Below.refl _ _) ⟨?_, ?_, ?_, ?_, ?_, ?_, ?_, ?_, ?_, ?_, ?_, ?_, trivial⟩ ?_
  · exact (opOb_move _ rfl (.inl rfl) rfl)
  · exact opOb_len Tryd.underlying24 rfl rfl (OpK.tmp rfl)
  · exact opOb_leN n 64 true (by simp; omega) rfl rfl (OpK.tmp rfl) OpK.const
  · exact (opOb_move _ rfl (.inl rfl) rfl)
  · exact opOb_on 12 rfl rfl (opOb_ld rfl rfl (OpK.tmp rfl) (fun w' hb => ld_all (HA.out.row 1 rfl) (HA.out.row 1 rfl).lt Tryd.underlying23 rfl (by kernel_rfl) w' hb))
  · exact opOb_on 12 rfl rfl ((opOb_move _ rfl (.inl rfl) rfl))
  · exact opOb_on 12 rfl rfl ((opOb_move _ rfl (.inl rfl) rfl))
  · exact opOb_on 12 rfl rfl (opOb_fn3 ent_up rfl rfl (OpK.tmp rfl) (OpK.tmp rfl) (OpK.tmp rfl) (fun w' hb => (up_ref n c A x y p w' ((HX.out.below (HW.out.trans (hb.mono HW.out.size))).more (Nat.le_trans HW.out.size hb.size)) HXl.out HYl.out hnc hn hp (HPR.out.below (HW.out.trans (hb.mono HW.out.size)))).mono fun e w'' ⟨he, hb2⟩ => ⟨_, he, rfl, hb2⟩))
  · exact opOb_on 12 rfl rfl (opOb_ld rfl rfl (OpK.tmp rfl) (fun w' hb => ld_all (HA.out.row 0 rfl) (HA.out.row 0 rfl).lt Tryd.underlying23 rfl (by kernel_rfl) w' hb))
  · exact opOb_on 12 rfl rfl (opOb_eqArr 5 32 .u8 (fun i => ((upN y x p n i : Nat) : Int)) (fun i => ((r i : Nat) : Int)) (eqB (upN y x p n) r) Tryd.underlying23 Tryd.underlying5 (by kernel_rfl) (by kernel_rfl) rfl rfl rfl (OpK.tmp rfl) (OpK.tmp rfl))
  · exact opOb_pickT rfl rfl rfl (OpK.tmp rfl)
  · exact (opOb_move _ rfl (.inr rfl) rfl)
  · intro w' hb
    simp only [fin, SF.is, forall_eq]
    simp only [Act.put, List.setIfInBounds_toArray, List.set_cons_succ, List.set_cons_zero]
    have hend := HW.out.trans (hb.mono HW.out.size)
    go_wp2_with fail
    go_ret
    exact ⟨rfl, hend⟩
open MerkleHold in
set_option maxHeartbeats 4000000 in
theorem holds_refF (n c : Nat) (A : Option Addr) (y r : Nat → Nat) (p : Nat) (w : World) (hn : 64 < n) :
    Calls Tryd.prog 16 #[rootV y, .slice A n c, .int .u64 (p : Int), rootV r] w fun e w' => e = .returned (.bool false) ∧ Below w.heap.size w w' := by
  have HS0 := Lib.hid (HS.nil w)
  go_enter Tryd.func16, Tryd.ntmps16
  go_wp2_with (first
    | (refine wpList_boxL rfl 23 _ 4 rfl rfl HS0.out 32 (u8v y) rfl ?_; intro b4 w4 hb4 hc4 hs; have HS4 := Lib.hid hs; clear hs)
    | (refine wpList_boxL rfl 23 _ 7 rfl rfl HS4.out 32 (u8v r) rfl ?_; intro b7 wa hb7 hc7 hs; have HA := Lib.hid hs; clear hs))
  have HW := Lib.hid (HA.out.out (by simp; omega))
  refine wp_region_facts (B := wa.heap.size) (w0 := wa) [SF.is (.slice (A) (n) (c)), SF.is (.int .i64 ((n : Nat) : Int)), SF.is (.bool false), SF.is (.bool false), SF.is undef, SF.is undef, SF.is undef, SF.is undef, SF.is undef, SF.is undef, SF.is (.bool false), SF.is (.bool false)] (by kernel_rfl) (by kernel_rfl) rfl (Nat.le_refl _) (Below.refl _ _) ⟨?_, ?_, ?_, ?_, ?_, ?_, ?_, ?_, ?_, ?_, ?_, ?_, trivial⟩ ?_
  · exact (opOb_move _ rfl (.inl rfl) rfl)
  · exact opOb_len Tryd.underlying24 rfl rfl (OpK.tmp rfl)
  · exact opOb_leN n 64 false (by simp; omega) rfl rfl (OpK.tmp rfl) OpK.const
  · exact (opOb_move _ rfl (.inl rfl) rfl)
  · exact opOb_off 12 rfl rfl (by simp)
  · exact opOb_off 12 rfl rfl (by simp)
  · exact opOb_off 12 rfl rfl (by simp)
  · exact opOb_off 12 rfl rfl (by simp)
  · exact opOb_off 12 rfl rfl (by simp)
  · exact opOb_off 12 rfl rfl (by simp)
  · exact opOb_pickF rfl rfl rfl (OpK.const)
  · exact (opOb_move _ rfl (.inr rfl) rfl)
  · intro w' hb
    simp only [fin, SF.is, forall_eq]
    simp only [Act.put, List.setIfInBounds_toArray, List.set_cons_succ, List.set_cons_zero]
    have hend := HW.out.trans (hb.mono HW.out.size)
    go_wp2_with fail
    go_ret
    exact ⟨rfl, hend⟩
end Go.Proofs.YtjmbgdldnnmipaaDoor
/- Packed bytes, by the program. (Printed by a program of mine.) -/
namespace Go.Proofs.YtjmbgdldnnmipaaDoor
set_option maxRecDepth 40000
open Go.RowKit
namespace MerklePack
theorem lay (n j m N : Nat) (x : Nat → Nat) (hm : m = min (n - 32 * j) 32) (hj : 32 * j ≤ n) : ∀ i, i < N * 32 → (if j * 32 ≤ i ∧ i < j * 32 + m then u8v (fun q => x (32 * j + q)) (i - j * 32) else u8v (fun i => if i < j * 32 then padN n x i else 0) i) = u8v (fun i => if i < (j + 1) * 32 then padN n x i else 0) i := fun i _ => by
  unfold padN
  by_cases h : j * 32 ≤ i ∧ i < j * 32 + m
  · rw [if_pos h]; simp only [u8v]; rw [if_pos (by omega), if_pos (by omega), show 32 * j + (i - j * 32) = i by omega]
  · rw [if_neg h]; simp only [u8v]
    by_cases h1 : i < j * 32
    · rw [if_pos h1, if_pos (show i < (j + 1) * 32 by omega)]
    · rw [if_neg h1]
      by_cases h2 : i < (j + 1) * 32
      · rw [if_pos h2, if_neg (by omega)]
      · rw [if_neg h2]
end MerklePack
open MerklePack in
set_option maxHeartbeats 4000000 in
theorem pack_look (n c : Nat) (A : Option Addr) (x : Nat → Nat) (w : World) (hb : Rd w w.heap.size A n (u8v x)) (hnc : n ≤ c) (hn : n ≤ 140737488355000) :
    Calls Tryd.prog 20 #[.slice A n c] w fun e w' => ∃ A' c', e = .returned (.slice A' (nch n) c') ∧ OwnZ w' w.heap.size 23 32 A' (nch n) c' (u8v (padN n x)) ∧ Below w.heap.size w w' := by
  have HB := Lib.hid hb
  have HS0 := Lib.hid (HS.nil w)
  obtain ⟨N, hN⟩ : ∃ N, N = nch n := ⟨_, rfl⟩
  have hN1 : N * 32 < n + 32 := by rw [hN]; unfold nch; omega
  have hN2 : n ≤ N * 32 := by rw [hN]; unfold nch; omega
  have HNe := Lib.hid hN.symm
  have HD := Lib.hid (show ((n : Int) + 31) / 32 = (N : Int) by omega)
  rw [← hN]
  clear hb hN
  go_enter Tryd.func20, Tryd.ntmps20
  go_wp2_with (first
    | (refine wpList_makeL rfl 24 (e := 23) (z := .agg (Array.replicate 32 (.int .u8 0))) (k := 32) (bytes := 32) Tryd.underlying24 (by kernel_rfl) (.tmp 8) (.tmp 8) rfl N (by simp [Act.eval, HD.out]) (by simp [Act.eval, HD.out]) (u8v fun i => if i < 0 * 32 then padN n x i else 0) (fun i hi => (made_u8 32 _ (by omega) i hi).trans (congrArg some (by simp [u8v]))) (by omega) (by omega) HS0.out ?_; intro b w1 hb1 hc1 hs; have HS1 := Lib.hid hs; clear hs))
  go_loopw [12] (fun i wq => ∃ j : Nat, i = .int .i64 (j : Int) ∧ j ≤ N ∧ HS w wq [⟨b, 23, N * 32, u8v fun i => if i < j * 32 then padN n x i else 0⟩]) (fun i _ => N - (intOf i).toNat)
  case atStart => exact ⟨0, rfl, by omega, HS1.out⟩
  case round =>
    clear HS1
    obtain ⟨j, rfl, hj, hs⟩ := hrel
    have HSq := Lib.hid hs
    clear hs
    by_cases hjn : j < N
    · obtain ⟨A2, hct⟩ := cut_from (P := Tryd.prog) Tryd.underlying35 (by kernel_rfl) A n c (32 * j) (by omega) hnc
      have HCt := Lib.hid hct
      obtain ⟨m, hm⟩ : ∃ m, m = min (n - 32 * j) 32 := ⟨_, rfl⟩
      clear hct
      go_wp2_with fail
      refine wp_region_factsS (l := [_, _, _, _, _, _, _, _]) (tl := []) (B := wr.heap.size) (w0 := wr) [SF.is (.slice (some ⟨b, 0, none⟩) (N) (N)), SF.is (.int .i64 ((j : Nat) : Int)), SF.is (.pointer (some ⟨b, j * 32, none⟩)), SF.is (.slice (some ⟨b, j * 32, none⟩) (32) (32)), SF.is (.slice (A) (n) (c)), SF.is (.int .i64 ((j : Nat) : Int)), SF.is (.int .i64 ((32 * j : Nat) : Int)), SF.is (.slice (A2) (n - 32 * j) (c - 32 * j))] (by kernel_rfl) (by kernel_rfl) rfl (Nat.le_refl _) (Below.refl _ _) ⟨?_, ?_, ?_, ?_, ?_, ?_, ?_, ?_, trivial⟩ ?_
      · exact (opOb_move _ rfl (.inl rfl) rfl)
      · exact (opOb_move _ rfl (.inl rfl) rfl)
      · exact opOb_idx rfl rfl (OpK.tmp rfl) (OpK.tmp rfl) (fun w => (run_idxZ (z := 32) w Tryd.underlying24 (by kernel_rfl) ⟨b, 0, none⟩ hjn).trans (by rw [add_lit0]))
      · exact opOb_slc rfl rfl (OpK.tmp rfl) (OpKo.no) (OpKo.no) (fun w => cut_arr Tryd.underlying23 1 (by kernel_rfl) none none (0) (32) (.inl ⟨rfl, rfl⟩) (.inl ⟨rfl, rfl⟩) (by omega) (by omega) (by omega) (by omega) (by omega) (by omega))
      · exact (opOb_move _ rfl (.inl rfl) rfl)
      · exact (opOb_move _ rfl (.inl rfl) rfl)
      · exact opOb_nmul 32 j (by omega) rfl rfl OpK.const (OpK.tmp rfl)
      · exact opOb_slc rfl rfl (OpK.tmp rfl) (OpKo.tmp rfl) OpKo.no (fun w => HCt.out.1 w)
      · intro w' hb
        simp only [fin, SF.is, forall_eq]
        simp only [Act.put, List.setIfInBounds_toArray, List.set_cons_succ, List.set_cons_zero]
        have hs := HSq.out.below hb
        refine wp_copyL rfl Tryd.underlying35 (by kernel_rfl) hs 0 rfl (j * 32) 32 32 (HCt.out.2.rd (HB.out.below (hs.out (by simp; omega)))) (fun _ _ => rfl) m hm (by omega) rfl rfl _ (lay n j m N x hm (by omega)) ?_
        clear hs hb
        intro wy hs
        have HY := Lib.hid hs
        clear hs
        simp only [seqWp, Act.put, List.setIfInBounds_toArray, List.set_cons_succ, List.set_cons_zero]
        go_wp2_with fail
        go_roundw
        case rel => exact ⟨j + 1, by go_num, by omega, HY.out⟩
        case measure => simp [intOf]; omega
    · obtain rfl : j = N := by omega
      go_wp2_with fail
      go_ret
      exact ⟨_, _, rfl, (OwnZ.of_row (HSq.out.row 0 rfl) hb1 (by unfold maxLen; omega)).congr (fun i hi => by simp only [u8v]; rw [if_pos hi]), HSq.out.out (by simp; omega)⟩
end Go.Proofs.YtjmbgdldnnmipaaDoor
/- Steps whose guard says yes. -/
namespace Go.Proofs.YtjmbgdldnnmipaaDoor
set_option maxRecDepth 40000
open Go.RowKit
section
variable {P : Program}
theorem wpList_asG {ops : Array Oper} {rest : List Oper} {o : Oper} {a : Act} {w : World} {Q : Exit → Act → World → Prop} {j : Nat} {want : Bool} {dd : Tmp} (hg : o.guard = some (j, want)) (hj : (ops[j]?).bind (·.dst) = some dd) (hv : a.tmps[dd]? = some (.bool want)) (d : Tmp) (_hd : o.dst = some d) (v : Value) (h : (execOp a.eval o).run P w = .ok (.value v) w) (hK : wpList P ops Q rest (a.put o.dst v) w) : wpList P ops Q (o :: rest) a w :=
  wpList_guarded hg hj hv fun _ hK' => by
    unfold Oper.wp
    rw [h]
    exact hK' _ _ hK
theorem wpList_bs1G {ops : Array Oper} {rest : List Oper} {o : Oper} {a : Act} {w w0 : World} {Q : Exit → Act → World → Prop} {rows : List RowSpec} {j : Nat} {want : Bool} {dd : Tmp} (hg : o.guard = some (j, want)) (hj : (ops[j]?).bind (·.dst) = some dd) (hv : a.tmps[dd]? = some (.bool want)) {t e : TypeId} {z : Nat} (ht : P.underlying t = some (.slice e)) (hz : (P.info? e).map (·.size) = some z) (hlen : z ≤ 16777216) (h0 : 0 < z) {v0 : Value} (hzero : (P.info? e).bind (·.zero) = some v0)
    (x : Operand) (ho : o.op = .buildSlice t 1 #[(0, x)]) (f : Nat → Value) (hx : a.eval x = .agg (arr z f)) (h : HS w0 w rows)
    (hK : ∀ b w', w0.heap.size ≤ b → w.heap.size ≤ b → HS w0 w' (⟨b, e, z, f⟩ :: rows) → wpList P ops Q rest (a.put o.dst (.slice (some ⟨b, 0, none⟩) 1 1)) w') : wpList P ops Q (o :: rest) a w :=
  wpList_guarded hg hj hv fun _ hK' => by
    have hr := run_bsN (P := P) w (t := t) (len := 1) ht hz (by omega) (by omega) hzero #[(0, .agg (arr z f))] f (fun g => by
      rw [show (#[((0 : Nat), Value.agg (arr z f))] : Array (Nat × Value)).toList = [(0, .agg (arr z f))] from rfl, fill_step z (1 * z) 0 f g [] (by omega)]
      show some _ = some _
      exact congrArg some (arr_congr fun i hi => by rw [if_pos (by omega)]; simp))
    rw [Nat.one_mul] at hr
    have hrun : (execOp a.eval o).run P w = .ok (.value (.slice (some ⟨w.heap.size, 0, none⟩) 1 1)) (w.alloc (.cells (arr z f) e)) := by
      unfold execOp
      rw [ho]
      simp only [List.map_toArray, List.map_cons, List.map_nil, hx]
      simp [hr]
    unfold Oper.wp
    rw [hrun]
    exact hK' _ _ (hK _ _ h.size (Nat.le_refl _) (h.alloc (arr z f) e z f (size_arr _ _) (fun i hi => arr_at _ _ i hi)))
end
end Go.Proofs.YtjmbgdldnnmipaaDoor
/- The program is awake: its fixed answers in chapter 5. -/
namespace Go.Proofs.YtjmbgdldnnmipaaDoor
set_option maxRecDepth 40000
open Go.RowKit
namespace MerkleAwake
theorem z64 : shaB (fun _ => 0) 64 0 = 245 := by kernel_rfl
theorem z1 : u8v (zrN 1) 0 = .int .u8 245 := by
  show Value.int .u8 ((shaB (catN 32 (fun _ => 0) (fun _ => 0)) 64 0 : Nat) : Int) = _
  rw [shaB_congr (m' := fun _ => 0) (fun i _ => by unfold catN; split <;> rfl), z64]; rfl
theorem upz : ∀ i, upN (fun _ => 0) (fun _ => 0) 0 1 i = zrN 1 i := fun i => by
  unfold upN
  rw [if_neg (by decide)]
  rfl
theorem tz (x : Nat → Nat) : treeN (dep 2) 0 x = zrN 1 := by
  rw [treeN_zero, show dep 2 = 1 by decide]
theorem one_at : ∀ i, i < 1 → (#[Value.int .u8 1] : Array Value)[i]? = some (u8v (fun _ => 1) i) := fun i hi => by
  obtain rfl : i = 0 := by omega
  rfl
end MerkleAwake
section
variable {P : Program}
theorem ex_eqArr {w : World} {o : Oper} {a : Act} {ty rt : TypeId} {xo yo : Operand} (hop : o.op = .binOp .eql ty xo yo rt) (e : TypeId) (n : Nat) (k : IntKind) (f g : Nat → Int) (b : Bool) (hu : P.underlying ty = some (.array n e)) (he : P.underlying e = some (.int k)) (hz : (P.info? e).map (·.size) = some 1) (hq : P.eqGuardType P.depth ty = false)
    (hx : a.eval xo = .agg (arr n fun i => .int k (f i))) (hy : a.eval yo = .agg (arr n fun i => .int k (g i))) (hb : decide (∀ i, i < n → f i = g i) = b) : (execOp a.eval o).run P w = .ok (.value (.bool b)) w := by
  unfold execOp
  rw [hop]
  simp only [hx, hy]
  simp [eqGuard, hq, binOp, run_equal_arr w ty e n k f g hu he hz, hb]
end
open MerkleAwake in
set_option maxHeartbeats 4000000 in
theorem awake05_any (w : World) (hp : ShaPkg w) : Calls Tryd.prog 14 #[] w fun e w' => e = .returned (.bool true) ∧ Below w.heap.size w w' := by
  have HP := Lib.hid hp
  have HS0 := Lib.hid (HS.nil w)
  obtain ⟨Z, hZ⟩ : ∃ Z, Z = zrN 1 := ⟨_, rfl⟩
  have HZ := Lib.hid hZ.symm
  have HT := Lib.hid (show treeN (dep 2) 0 (fun _ => 0) = Z by rw [hZ]; exact tz _)
  have HC := Lib.hid (show u8v Z 0 = .int .u8 245 by rw [hZ]; exact z1)
  have HU := Lib.hid (show eqB (upN (fun _ => 0) (fun _ => 0) 0 1) Z = true by rw [hZ]; exact eqB_of (fun i _ => upz i))
  clear hp hZ
  go_enter Tryd.func14, Tryd.ntmps14
  go_wp2_with (first
    | (go_at_call 19; refine (zero_ok 1 (by omega) _ HP.out).mono ?_; rintro e w1 ⟨rfl, hb⟩; rw [HZ.out]; have HS1 := Lib.hid (HS0.out.below hb); clear hb)
    | (refine wpList_allocL rfl 23 1 rfl rfl HS1.out (Array.replicate 32 (.int .u8 0)) (by kernel_rfl) 32 (u8v fun _ => 0) (by rfl) (zero_at 32 (.int .u8 0)) ?_; intro b1 w2 hb1 hc1 hs; have HS2 := Lib.hid hs; clear hs)
    | (refine wpList_storeH rfl 23 (.tmp 1) (.tmp 7) rfl HS2.out 0 rfl (u8v Z) rfl rfl (by kernel_rfl) (fun _ _ => rfl) ?_; intro w3 hs; have HS3 := Lib.hid hs; clear hs)
    | (go_at_call 17; refine (tree_ok 0 0 none (fun _ => 0) 2 _ (by rw [Nat.zero_mul]; exact Rd.none_) (fun _ => by omega) (by omega) (by omega) (by omega) (HP.out.below (HS3.out.out (by simp; omega)))).mono ?_; rintro e w4 ⟨rfl, hb⟩; rw [HT.out]; have HS4 := Lib.hid (HS3.out.below hb); clear hb)
    | (refine wpList_allocL rfl 23 3 rfl rfl HS4.out (Array.replicate 32 (.int .u8 0)) (by kernel_rfl) 32 (u8v fun _ => 0) (by rfl) (zero_at 32 (.int .u8 0)) ?_; intro b3 w5 hb3 hc3 hs; have HS5 := Lib.hid hs; clear hs)
    | (refine wpList_storeH rfl 23 (.tmp 3) (.tmp 11) rfl HS5.out 0 rfl (u8v Z) rfl rfl (by kernel_rfl) (fun _ _ => rfl) ?_; intro w6 hs; have c0 := (hs.cell 1 0 rfl (by show 0 < 32; omega)).trans (congrArg some HC.out); have HS6 := Lib.hid hs; clear hs)
    | (refine wpList_load_rdG rfl rfl rfl 23 _ rfl 32 _ Tryd.underlying23 rfl (by kernel_rfl) ⟨b1, 0, none⟩ rfl (u8v Z) (fun i hi => by rw [add_lit0]; exact HS6.out.cell 1 i rfl hi) ?_)
    | (refine wpList_load_rdG rfl rfl rfl 23 _ rfl 32 _ Tryd.underlying23 rfl (by kernel_rfl) ⟨b3, 0, none⟩ rfl (u8v Z) (fun i hi => by rw [add_lit0]; exact HS6.out.cell 0 i rfl hi) ?_)
    | (refine wpList_asG rfl rfl rfl 22 rfl (.bool true) ?_ ?_; (· exact ex_eqArr rfl 5 32 .u8 (fun i => ((Z i : Nat) : Int)) (fun i => ((Z i : Nat) : Int)) true Tryd.underlying23 Tryd.underlying5 (by kernel_rfl) (by kernel_rfl) rfl rfl (by simp)))
    | (refine wpList_bs1G rfl rfl rfl Tryd.underlying24 (z := 32) (by kernel_rfl) (by omega) (by omega) (v0 := .agg (Array.replicate 32 (.int .u8 0))) (by kernel_rfl) _ rfl (u8v fun _ => 0) rfl HS6.out ?_; intro b5 w7 hb5 hc5 hs; have HS7 := Lib.hid hs; clear hs)
    | (refine wpList_load_rdG rfl rfl rfl 23 _ rfl 32 _ Tryd.underlying23 rfl (by kernel_rfl) ⟨b1, 0, none⟩ rfl (u8v Z) (fun i hi => by rw [add_lit0]; exact HS7.out.cell 2 i rfl hi) ?_)
    | (go_at_call 15; refine (holds_look 1 1 (some ⟨b5, 0, none⟩) (fun _ => 0) (fun _ => 0) Z 0 _ (Rd.of_row (HS7.out.row 0 rfl) (by show 1 * 32 ≤ 32; omega) (HS7.out.lt 0 rfl)) (fun _ => by omega) (fun _ => by omega) (by omega) (by omega) (by omega) (HP.out.below (HS7.out.out (by simp; omega)))).mono ?_; rintro e w8 ⟨rfl, hb⟩; rw [HU.out]; have HS8 := Lib.hid (HS7.out.below hb); clear hb)
    | (go_at_call 20; refine (pack_look 1 1 (some ⟨w8.heap.size, 0, none⟩) (fun _ => 1) _ ((Rd.lit w8 _ _ 1 (u8v fun _ => 1) one_at).more (by simp)) (by omega) (by omega)).mono ?_; rintro e w9 ⟨A9, c9, rfl, _, hb⟩; rw [show nch 1 = 1 from rfl]; have HB9 := Lib.hid ((HS8.out.out (by simp; omega)).trans ((((Below.refl _ w8).alloc (Nat.le_refl _) _).trans (hb.mono (by simp))).mono HS8.out.size)); clear hb))
  go_ret
  exact ⟨rfl, HB9.out⟩
end Go.Proofs.YtjmbgdldnnmipaaDoor
/- Calls with four arguments in a drawn region. -/
namespace Go.Proofs.YtjmbgdldnnmipaaDoor
set_option maxRecDepth 40000
open Go.RowKit
section
variable {P : Program} {ops : Array Oper} {B : Nat} {w0 : World} {o : Oper} {lk : Tmp → SF}
theorem opOb_fn4 {f : FuncId} (hent : ∀ vs w, (callFunc f vs).run P w = .ok (.enter f vs) w) {x y z u : Operand} {v1 v2 v3 v4 : Value} {ts : Array TypeId} {F : SF} (hg : o.guard = none) (hop : o.op = .call { callee := .value (.func f), args := #[x, y, z, u], argTypes := ts }) (hx : OpK lk x v1) (hy : OpK lk y v2) (hz : OpK lk z v3) (hu : OpK lk u v4)
    (hr : ∀ w, Below B w0 w → Calls P f #[v1, v2, v3, v4] w fun e w' => ∃ v, e = .returned v ∧ F.F v w' ∧ Below w.heap.size w w') : opOb P ops B w0 o F lk :=
  opOb_fn hent hg hop (fun a w hf => by
    have h1 := hx.eval hf (by rw [hop]; simp [Op.operands, Call.operands])
    have h2 := hy.eval hf (by rw [hop]; simp [Op.operands, Call.operands])
    have h3 := hz.eval hf (by rw [hop]; simp [Op.operands, Call.operands])
    have h4 := hu.eval hf (by rw [hop]; simp [Op.operands, Call.operands])
    simp [h1, h2, h3, h4]) hr
/-- The second one is known by a fact alone. -/
theorem opOb_fn4S {f : FuncId} (hent : ∀ vs w, (callFunc f vs).run P w = .ok (.enter f vs) w) {x z u : Operand} {y : Tmp} {S : SF} {v1 v3 v4 : Value} {ts : Array TypeId} {F : SF} (hg : o.guard = none) (hop : o.op = .call { callee := .value (.func f), args := #[x, .tmp y, z, u], argTypes := ts }) (hx : OpK lk x v1) (hy : lk y = S) (hz : OpK lk z v3) (hu : OpK lk u v4)
    (hr : ∀ w v2, Below B w0 w → S.F v2 w → Calls P f #[v1, v2, v3, v4] w fun e w' => ∃ v, e = .returned v ∧ F.F v w' ∧ Below w.heap.size w w') : opOb P ops B w0 o F lk :=
  opOb_call hg fun a w hb hf => by
    have h1 := hx.eval hf (by rw [hop]; simp [Op.operands, Call.operands])
    have h2 := hf y (by rw [hop]; simp [Op.operands, Call.operands])
    have h3 := hz.eval hf (by rw [hop]; simp [Op.operands, Call.operands])
    have h4 := hu.eval hf (by rw [hop]; simp [Op.operands, Call.operands])
    rw [hy] at h2
    obtain ⟨v2, e2⟩ : ∃ v2, v2 = a.eval (.tmp y) := ⟨_, rfl⟩
    have e3 : a.tmps[y]?.getD undef = v2 := by rw [e2]; exact (getD_eq _ _).symm
    have h2' : S.F v2 w := by rw [← e3]; exact h2
    refine ⟨f, #[v1, v2, v3, v4], ?_, hr w v2 hb h2'⟩
    unfold execOp
    rw [hop]
    simp only [resolve, List.map_toArray, List.map_cons, List.map_nil, h1, ← e2, h3, h4]
    simp [invoke, Deferred.ofValue, Act.eval, hent]
/-- Two arguments, the first known by a fact alone. -/
theorem opOb_fn2S {f : FuncId} (hent : ∀ vs w, (callFunc f vs).run P w = .ok (.enter f vs) w) {x : Tmp} {y : Operand} {S : SF} {v2 : Value} {ts : Array TypeId} {F : SF} (hg : o.guard = none) (hop : o.op = .call { callee := .value (.func f), args := #[.tmp x, y], argTypes := ts }) (hx : lk x = S) (hy : OpK lk y v2)
    (hr : ∀ w v1, Below B w0 w → S.F v1 w → Calls P f #[v1, v2] w fun e w' => ∃ v, e = .returned v ∧ F.F v w' ∧ Below w.heap.size w w') : opOb P ops B w0 o F lk :=
  opOb_call hg fun a w hb hf => by
    have h1 := hf x (by rw [hop]; simp [Op.operands, Call.operands])
    have h2 := hy.eval hf (by rw [hop]; simp [Op.operands, Call.operands])
    rw [hx] at h1
    obtain ⟨v1, e1⟩ : ∃ v1, v1 = a.eval (.tmp x) := ⟨_, rfl⟩
    have e3 : a.tmps[x]?.getD undef = v1 := by rw [e1]; exact (getD_eq _ _).symm
    have h1' : S.F v1 w := by rw [← e3]; exact h1
    refine ⟨f, #[v1, v2], ?_, hr w v1 hb h1'⟩
    unfold execOp
    rw [hop]
    simp only [resolve, List.map_toArray, List.map_cons, List.map_nil, ← e1, h2]
    simp [invoke, Deferred.ofValue, Act.eval, hent]
/-- Two arguments, both known by facts alone. -/
theorem opOb_fn2SS {f : FuncId} (hent : ∀ vs w, (callFunc f vs).run P w = .ok (.enter f vs) w) {x y : Tmp} {S T : SF} {ts : Array TypeId} {F : SF} (hg : o.guard = none) (hop : o.op = .call { callee := .value (.func f), args := #[.tmp x, .tmp y], argTypes := ts }) (hx : lk x = S) (hy : lk y = T)
    (hr : ∀ w v1 v2, Below B w0 w → S.F v1 w → T.F v2 w → Calls P f #[v1, v2] w fun e w' => ∃ v, e = .returned v ∧ F.F v w' ∧ Below w.heap.size w w') : opOb P ops B w0 o F lk :=
  opOb_call hg fun a w hb hf => by
    have h1 := hf x (by rw [hop]; simp [Op.operands, Call.operands])
    have h2 := hf y (by rw [hop]; simp [Op.operands, Call.operands])
    rw [hx] at h1
    rw [hy] at h2
    obtain ⟨v1, e1⟩ : ∃ v1, v1 = a.eval (.tmp x) := ⟨_, rfl⟩
    obtain ⟨v2, e2⟩ : ∃ v2, v2 = a.eval (.tmp y) := ⟨_, rfl⟩
    have e3 : a.tmps[x]?.getD undef = v1 := by rw [e1]; exact (getD_eq _ _).symm
    have e4 : a.tmps[y]?.getD undef = v2 := by rw [e2]; exact (getD_eq _ _).symm
    have h1' : S.F v1 w := by rw [← e3]; exact h1
    have h2' : T.F v2 w := by rw [← e4]; exact h2
    refine ⟨f, #[v1, v2], ?_, hr w v1 v2 hb h1' h2'⟩
    unfold execOp
    rw [hop]
    simp only [resolve, List.map_toArray, List.map_cons, List.map_nil, ← e1, ← e2]
    simp [invoke, Deferred.ofValue, Act.eval, hent]
/-- One argument, known by a fact alone. -/
theorem opOb_fn1S {f : FuncId} (hent : ∀ vs w, (callFunc f vs).run P w = .ok (.enter f vs) w) {x : Tmp} {S : SF} {ts : Array TypeId} {F : SF} (hg : o.guard = none) (hop : o.op = .call { callee := .value (.func f), args := #[.tmp x], argTypes := ts }) (hx : lk x = S)
    (hr : ∀ w v1, Below B w0 w → S.F v1 w → Calls P f #[v1] w fun e w' => ∃ v, e = .returned v ∧ F.F v w' ∧ Below w.heap.size w w') : opOb P ops B w0 o F lk :=
  opOb_call hg fun a w hb hf => by
    have h1 := hf x (by rw [hop]; simp [Op.operands, Call.operands])
    rw [hx] at h1
    obtain ⟨v1, e1⟩ : ∃ v1, v1 = a.eval (.tmp x) := ⟨_, rfl⟩
    have e3 : a.tmps[x]?.getD undef = v1 := by rw [e1]; exact (getD_eq _ _).symm
    have h1' : S.F v1 w := by rw [← e3]; exact h1
    refine ⟨f, #[v1], ?_, hr w v1 hb h1'⟩
    unfold execOp
    rw [hop]
    simp only [resolve, List.map_toArray, List.map_cons, List.map_nil, ← e1]
    simp [invoke, Deferred.ofValue, Act.eval, hent]
end
end Go.Proofs.YtjmbgdldnnmipaaDoor
/- Arguments that came in, as functions of the index. -/
namespace Go.Proofs.YtjmbgdldnnmipaaDoor
set_option maxRecDepth 40000
open Go.RowKit Go.ChangeShapes Go.WideShapes Go.ChangeAt

theorem cell_lt {w : World} {a : Addr} {v : Value} (h : w.cell? a = some v) : a.block < w.heap.size := by
  rcases Nat.lt_or_ge a.block w.heap.size with hl | hl
  · exact hl
  · exfalso
    unfold World.cell? at h
    rw [Array.getElem?_eq_none hl] at h
    simp at h

theorem rd_of {w : World} {x : Addr} {n : Nat} {f : Nat → Value} (h : ∀ i, i < n → w.cell? (x.add i) = some (f i)) : Rd w w.heap.size (some x) n f := fun hn =>
  ⟨x, rfl, by have := cell_lt (h 0 hn); rwa [block_of_add] at this, h⟩

theorem wf_u8 {n : Int} (h : (Lit.int .u8 n).wf = true) : 0 ≤ n ∧ n < 256 := by
  simp [Lit.wf, IntKind.min, IntKind.max, IntKind.signed, IntKind.bits] at h; omega
theorem wf_u64 {n : Int} (h : (Lit.int .u64 n).wf = true) : 0 ≤ n ∧ n < 18446744073709551616 := by
  simp [Lit.wf, IntKind.min, IntKind.max, IntKind.signed, IntKind.bits] at h; omega
theorem wf_i64 {n : Int} (h : (Lit.int .i64 n).wf = true) : -9223372036854775808 ≤ n ∧ n ≤ 9223372036854775807 := by
  simp [Lit.wf, IntKind.min, IntKind.max, IntKind.signed, IntKind.bits] at h; omega

/-- A slice of integers of an unsigned kind. -/
theorem rd_ints {w : World} {x : Addr} {len : Nat} {k : IntKind} {M : Nat} {zs : List Int} (hwf : ∀ n ∈ zs, 0 ≤ n ∧ n < M) (hl : len ≤ zs.length) (h : ∀ i, i < zs.length → w.cell? (x.add i) = some (.int k (zs.getD i 0))) (hM : 0 < M) :
    ∃ z : Nat → Nat, Rd w w.heap.size (some x) len (fun i => .int k ((z i : Nat) : Int)) ∧ ∀ i, z i < M := by
  have hz : ∀ i, 0 ≤ zs.getD i 0 ∧ zs.getD i 0 < M := by
    intro i
    by_cases hi : i < zs.length
    · have := hwf zs[i] (List.getElem_mem hi)
      simpa [List.getD, hi] using this
    · simp [List.getD, hi, hM]
  refine ⟨fun i => (zs.getD i 0).toNat, rd_of fun i hi => ?_, fun i => by have := hz i; show (zs.getD i 0).toNat < M; omega⟩
  rw [h i (by omega)]
  have := hz i
  simp only [Int.toNat_of_nonneg this.1]
end Go.Proofs.YtjmbgdldnnmipaaDoor
/- Arguments that are arrays; package variables that lie as they were laid. -/
namespace Go.Proofs.YtjmbgdldnnmipaaDoor
set_option maxRecDepth 40000
open Go.RowKit Go.ChangeShapes Go.WideShapes Go.ChangeAt
theorem open_arr_ints {H : Type} {enc : TypeId × Value → H} {P : Program} {W : World} {base b0 : Nat} {sp : Nat → Bool} {held : Bool} {r : Reach} {t e : TypeId} {n : Nat} {k : IntKind} {v : Value} {d : DataW H} {ps : List MemPlace}
    (hu : P.underlying t = some (.array n e)) (he : P.underlying e = some (.int k)) (hce : P.cellsOf e = 1) (hct : P.cellsOf t = n) (hval : Value.okWide P W r b0 t v) (hd : DataW.Trod enc P W base sp held t v d ps) :
    ∃ z : Nat → Int, v = .agg (arr n fun i => .int k (z i)) ∧ ∀ i, i < n → (Lit.int k (z i)).wf = true := by
  simp only [Value.okWide, hu] at hval
  obtain ⟨xs, rfl, hn, _⟩ := hval
  obtain ⟨fuel, hf⟩ := hd
  cases fuel with
  | zero => simp [DataW.trod] at hf
  | succ m =>
    rw [DataW.trod_step] at hf
    unfold DataW.trodStep at hf
    simp only [hu, Value.cells] at hf
    rw [if_pos (by simpa using hn)] at hf
    simp only [Option.map_eq_some_iff] at hf
    obtain ⟨ys, hy, e1⟩ := hf
    have hcell : ∀ i, i < n → ∃ z, xs[i]? = some (.int k z) ∧ (Lit.int k z).wf = true := by
      intro i hi
      obtain ⟨b, _, hb⟩ := Lib.mapM_at hy i i (by simp [hi])
      rw [hce] at hb
      obtain ⟨z, h1, _, h3⟩ := DataW.trod_int he hb
      refine ⟨z, ?_, h3⟩
      have hl : (List.take 1 (List.drop (i * 1) xs.toList))[0]? = some (.int k z) := by rw [h1]; rfl
      simpa using hl
    have h2 : ∀ i, ∃ z, i < n → (xs[i]? = some (.int k z) ∧ (Lit.int k z).wf = true) := fun i => by
      by_cases hi : i < n
      · obtain ⟨z, hz⟩ := hcell i hi; exact ⟨z, fun _ => hz⟩
      · exact ⟨0, fun h => absurd h hi⟩
    obtain ⟨z, hz⟩ := Classical.axiomOfChoice h2
    exact ⟨z, by rw [arr_of xs n (fun i => .int k (z i)) (by rw [hn, hct]) (fun i hi => (hz i hi).1)], fun i hi => (hz i hi).2⟩
/-- A [32]byte and its like. -/
theorem open_bytes {H : Type} {enc : TypeId × Value → H} {P : Program} {W : World} {base b0 : Nat} {sp : Nat → Bool} {held : Bool} {r : Reach} {t e : TypeId} {n : Nat} {v : Value} {d : DataW H} {ps : List MemPlace}
    (hu : P.underlying t = some (.array n e)) (he : P.underlying e = some (.int .u8)) (hce : P.cellsOf e = 1) (hct : P.cellsOf t = n) (hval : Value.okWide P W r b0 t v) (hd : DataW.Trod enc P W base sp held t v d ps) :
    ∃ x : Nat → Nat, v = .agg (arr n fun i => .int .u8 ((x i : Nat) : Int)) ∧ ∀ i, x i < 256 := by
  obtain ⟨z, rfl, hw⟩ := open_arr_ints hu he hce hct hval hd
  refine ⟨fun i => if i < n then (z i).toNat else 0, congrArg Value.agg (arr_congr fun i hi => ?_), fun i => ?_⟩
  · have := wf_u8 (hw i hi)
    simp only [if_pos hi, Int.toNat_of_nonneg this.1]
  · show (if i < n then (z i).toNat else 0) < 256
    split
    · rename_i h; have := wf_u8 (hw i h); omega
    · omega

/-- What lies behind the first on the list. -/
theorem laid_tail {P : Program} {W : World} {x : String × DataW Unit} {rest : List (String × DataW Unit)} {ps : List MemPlace} (h : DataW.LaidVars P W (x :: rest) ps) : ∃ q, DataW.LaidVars P W rest q := by
  obtain ⟨g', t', cs, fuel, p, q, _, _, _, _, h1, _⟩ := h
  exact ⟨q, h1⟩
theorem tab_of {P : Program} {W : World} {name : String} {k : IntKind} {zs : List Int} {rest : List (String × DataW Unit)} {g : Nat} {t e : TypeId} {n : Nat} {ps : List MemPlace}
    (hg : P.globalNamed name = some g) (hty : (P.globals[g]?).map (·.type) = some t) (ht : P.underlying t = some (.array n e)) (he : P.underlying e = some (.int k)) (hce : P.cellsOf e = 1) (hct : P.cellsOf t = n)
    (h : DataW.LaidVars P W ((name, Lib.tabData k zs) :: rest) ps) (i : Nat) (hi : i < zs.length) : W.cell? ⟨g, i, none⟩ = some (.int k (zs.getD i 0)) := by
  obtain ⟨g', t', cs, fuel, p, q, hg', ht', hvar, hd, _, _⟩ := h
  obtain rfl := Option.some.inj (hg.symm.trans hg')
  obtain rfl := Option.some.inj (hty.symm.trans ht')
  have hT : Lib.TabIs P W name k zs := by
    unfold Lib.TabIs
    rw [hvar, ← Lib.cells_of_tab ht he hce hct hd]
  exact hT.cell hg i hi
/-- The witness's world: the settled one, block g holding these cells. -/
noncomputable def laidInto (w : World) (g : Nat) (cs : Array Value) : World :=
  { w with heap := w.heap.modify g fun
      | .cells _ t frozen => .cells cs t frozen
      | o => o }
end Go.Proofs.YtjmbgdldnnmipaaDoor
/- The tables of sha, as they were laid. -/
namespace Go.Proofs.YtjmbgdldnnmipaaDoor
set_option maxRecDepth 40000
open Go.RowKit Go.ChangeShapes Go.WideShapes Go.ChangeAt

def zsK : List Int := kList.map fun n : Nat => (n : Int)
def zsH : List Int := hList.map fun n : Nat => (n : Int)
theorem zsK_at : ∀ i, i < 64 → zsK.getD i 0 = ((kw i).toNat : Int) := by decide +kernel
theorem zsH_at : ∀ i, i < 8 → zsH.getD i 0 = ((h0 i).toNat : Int) := by decide +kernel
theorem tab_start {W : World} {rest : List (String × DataW Unit)} {ps : List MemPlace} (h : DataW.LaidVars Tryd.prog W (("pharos/sha.start", Rows.laid_pharos_sha_start) :: rest) ps) : ∀ i, i < 8 → W.cell? ⟨0, i, none⟩ = some (wv (h0 i)) := fun i hi => by
  have h' : DataW.LaidVars Tryd.prog W (("pharos/sha.start", Lib.tabData .u32 zsH) :: rest) ps := h
  have := tab_of (P := Tryd.prog) (g := 0) (t := 64) (e := 63) (n := 8) (by kernel_rfl) (by kernel_rfl) Tryd.underlying64 Tryd.underlying63 (by kernel_rfl) (by kernel_rfl) h' i hi
  rw [this, zsH_at i hi]
theorem tab_round {W : World} {rest : List (String × DataW Unit)} {ps : List MemPlace} (h : DataW.LaidVars Tryd.prog W (("pharos/sha.round", Rows.laid_pharos_sha_round) :: rest) ps) : ∀ i, i < 64 → W.cell? ⟨1, i, none⟩ = some (wv (kw i)) := fun i hi => by
  have h' : DataW.LaidVars Tryd.prog W (("pharos/sha.round", Lib.tabData .u32 zsK) :: rest) ps := h
  have := tab_of (P := Tryd.prog) (g := 1) (t := 88) (e := 63) (n := 64) (by kernel_rfl) (by kernel_rfl) Tryd.underlying88 Tryd.underlying63 (by kernel_rfl) (by kernel_rfl) h' i hi
  rw [this, zsK_at i hi]
theorem tab_constants {W : World} {rest : List (String × DataW Unit)} {ps : List MemPlace} (h : DataW.LaidVars Tryd.prog W (("pharos/pharosref02.constants", Rows.laid_pharos_pharosref02_constants) :: rest) ps) : ∀ i, i < 64 → W.cell? ⟨2, i, none⟩ = some (wv (kw i)) := fun i hi => by
  have h' : DataW.LaidVars Tryd.prog W (("pharos/pharosref02.constants", Lib.tabData .u32 zsK) :: rest) ps := h
  have := tab_of (P := Tryd.prog) (g := 2) (t := 88) (e := 63) (n := 64) (by kernel_rfl) (by kernel_rfl) Tryd.underlying88 Tryd.underlying63 (by kernel_rfl) (by kernel_rfl) h' i hi
  rw [this, zsK_at i hi]
/-- What the witness's world holds. -/
def csK : Array Value := (zsK.map (Value.int .u32)).toArray
def csH : Array Value := (zsH.map (Value.int .u32)).toArray
end Go.Proofs.YtjmbgdldnnmipaaDoor
