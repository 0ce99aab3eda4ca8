/- A part of what the proofs stand on: LiveOrdersLaw. -/
import Derived.Test.YtomilckcgmhfcaaDoorGLiv1
import Derived.Test.YtomilckcgmhfcaaDoorGLiveOrders1
import Derived.Test.YtomilckcgmhfcaaDoorGLiv29
/- LiveOrders: both ways make one root. (Printed by a program of mine.) -/
namespace Go.Proofs.YtomilckcgmhfcaaDoor
set_option maxRecDepth 40000
open Go.RowKit
namespace LiveOrders
/-- The states between the calls of one round. -/
def stgA (t : StV) (N : Nat → Nat) (p : Nat → Bool) (k : Nat) : Nat → StV
 | 0 => stP t N p
 | 1 => sA1 t N p k
 | 2 => sA2 t N p k
 | _ => sA3 t N p k
def stgB (t : StV) (N : Nat → Nat) (p : Nat → Bool) (k : Nat) : Nat → StV
 | 0 => stP t N p
 | 1 => sB1 t N p k
 | 2 => sB2 t N p k
 | 3 => sB3 t N p k
 | _ => sB4 t N p k
theorem opJ_fn4 {P : Program} {ops : Array Oper} {J : Nat → World → Prop} {o : Oper} {F : SF} {lk : Tmp → SF} {k : Nat} {f : FuncId} (hent : ∀ vs w, (callFunc f vs).run P w = .ok (.enter f vs) w) {x y z q : Operand} {v u t r : Value} {ts : Array TypeId} (hg : o.guard = none) (hop : o.op = .call { callee := .value (.func f), args := #[x, y, z, q], argTypes := ts }) (hx : OpK lk x v) (hy : OpK lk y u) (hz : OpK lk z t) (hq : OpK lk q r)
  (hr : ∀ w, J k w → Calls P f #[v, u, t, r] w fun e w' => ∃ r, e = .returned r ∧ F.F r w' ∧ J (k + 1) w') : opJ P ops J o F lk (some k) :=
 opJ_fn hent hg hop (fun a w hf => by
  have h := hx.eval hf (by rw [hop]; simp [Op.operands, Call.operands])
  have h' := hy.eval hf (by rw [hop]; simp [Op.operands, Call.operands])
  have h'' := hz.eval hf (by rw [hop]; simp [Op.operands, Call.operands])
  have h3 := hq.eval hf (by rw [hop]; simp [Op.operands, Call.operands])
  simp [h, h', h'', h3]) hr
theorem er_bal (vs : Array Value) (w : World) : (callFunc 8 vs).run Tryd.prog w = .ok (.enter 8 vs) w := by kernel_rfl
theorem er_sco (vs : Array Value) (w : World) : (callFunc 9 vs).run Tryd.prog w = .ok (.enter 9 vs) w := by kernel_rfl
theorem er_flg (vs : Array Value) (w : World) : (callFunc 10 vs).run Tryd.prog w = .ok (.enter 10 vs) w := by kernel_rfl
theorem er_root (vs : Array Value) (w : World) : (callFunc 11 vs).run Tryd.prog w = .ok (.enter 11 vs) w := by kernel_rfl
theorem addU (a : Nat) (h : a ≤ 9223372036854775807) (w : World) : (binOp .add 22 (.int .u64 (a : Int)) (.int .u64 1)).run Tryd.prog w = .ok (.int .u64 ((a + 1 : Nat) : Int)) w := by
 simp [go_sem, IntKind.wrap, IntKind.bits, IntKind.signed]
 omega
theorem cnv8 (a : Nat) (w : World) : (convert 22 5 (.int .u64 (a : Int))).run Tryd.prog w = .ok (.int .u8 ((a % 256 : Nat) : Int)) w := by
 simp [go_sem, IntKind.wrap, IntKind.bits, IntKind.signed]
end LiveOrders
open LiveOrders in
set_option maxRecDepth 100000 in
set_option maxHeartbeats 8000000 in
theorem liveOrders_law (w : World) (s : StV) (hS : StOk w w.heap.size s) (A : Option Addr) (n c : Nat) (N : Nat → Nat) (hA : Rd w w.heap.size A n (fun i => .int .u64 ((N i : Nat) : Int))) (hN : ∀ i, N i < 18446744073709551616) (hn : n ≤ 140737488351232) (_hnc : n ≤ c) (hp : ShaPkg w) (hpt : TzPkg w) :
  Calls Tryd.prog 3 #[.agg (arr 1957 s.F), .slice A n c] w fun e w' => e = .returned (.bool true) ∧ Below w.heap.size w w' := by
 have HSt := Lib.hid hS
 have HA := Lib.hid hA
 have HN := Lib.hid hN
 have HP := Lib.hid hp
 have HPt := Lib.hid hpt
 have hpl := hp.lt
 have htl := hpt.lt
 have HS0 := Lib.hid (HS.nil w)
 have tk0 := Tok.mk 0
 have tk1 := Tok.mk 1
 have tk2 := Tok.mk 2
 have tk3 := Tok.mk 3
 clear hS hA hN hp hpt
 go_enter Tryd.func3, Tryd.ntmps3
 go_upto_region 3 with (first
  | ((with_reducible refine at_l ?_); refine wpList_boxL rfl 49 _ 2 rfl rfl HS0.out 1957 s.F rfl ?_; intro b2 w1 hb2 hc2 hs1; have HS1 := Lib.hid hs1; clear hs1)
  | (go_at_call 5; refine (awake11_any _ (HP.out.below (HS1.out.out (by simp; omega))) (HPt.out.below (HS1.out.out (by simp; omega)) HPt.out.lt)).mono ?_; rintro r w2 ⟨rfl, hb⟩; have HS2 := Lib.hid (HS1.out.below hb); clear hb))
 by_cases hR : RightF s
 case neg =>
  have HR := Lib.hid hR
  clear hR
  go_wp2_with (first
   | (clear tk0; (with_reducible refine at_l ?_); refine wpList_load_rd rfl 49 (.tmp 2) rfl 1957 _ Tryd.underlying49 rfl (by kernel_rfl) ⟨b2, 0, none⟩ rfl s.F (fun i hi => by rw [add_lit0]; exact (HS2.out.row 0 rfl).cell hi) ?_)
   | (go_at_call 6; clear tk1; refine (new_wrong s _ ((HSt.out.below (HS2.out.out (by simp; omega))).more HS2.out.size) HR.out).mono ?_; rintro r w3 ⟨rfl, hb⟩; have HS3 := Lib.hid (HS2.out.below hb); clear hb)
   | (clear tk2; (with_reducible refine at_l ?_); refine wpList_load_rd rfl 49 (.tmp 2) rfl 1957 _ Tryd.underlying49 rfl (by kernel_rfl) ⟨b2, 0, none⟩ rfl s.F (fun i hi => by rw [add_lit0]; exact (HS3.out.row 0 rfl).cell hi) ?_)
   | (go_at_call 6; clear tk3; refine (new_wrong s _ ((HSt.out.below (HS3.out.out (by simp; omega))).more HS3.out.size) HR.out).mono ?_; rintro r w4 ⟨rfl, hb⟩; have HS4 := Lib.hid (HS3.out.below hb); clear hb)
   | ((with_reducible refine at_l ?_); refine wpList_load_rd rfl 49 (.tmp 2) rfl 1957 _ Tryd.underlying49 rfl (by kernel_rfl) ⟨b2, 0, none⟩ rfl s.F (fun i hi => by rw [add_lit0]; exact (HS4.out.row 0 rfl).cell hi) ?_)
   | (go_at_call 7; refine (right_iff s _ ((HSt.out.below (HS4.out.out (by simp; omega))).more HS4.out.size)).mono ?_; rintro r w5 ⟨b, rfl, hb, hbw⟩; obtain rfl : b = false := (by cases b <;> first | rfl | exact absurd (hb.1 rfl) HR.out); have HS5 := Lib.hid (HS4.out.below hbw); clear hb hbw))
  go_ret
  exact ⟨rfl, HS5.out.out (by simp; omega)⟩
 case pos =>
  have HR := Lib.hid hR
  clear hR
  obtain ⟨B1, hB1⟩ : ∃ B1, B1 = w2.heap.size := ⟨_, rfl⟩
  go_upto_region 4 with (first
   | (clear tk0; (with_reducible refine at_l ?_); refine wpList_load_rd rfl 49 (.tmp 2) rfl 1957 _ Tryd.underlying49 rfl (by kernel_rfl) ⟨b2, 0, none⟩ rfl s.F (fun i hi => by rw [add_lit0]; exact (HS2.out.row 0 rfl).cell hi) ?_)
   | (go_at_call 6; clear tk1; refine (new_right s _ ((HSt.out.below (HS2.out.out (by simp; omega))).more HS2.out.size) HR.out (HP.out.below (HS2.out.out (by simp; omega)))).mono ?_; rintro r w3 ⟨L1, t1, T1, v1, rfl, hl, hsm, hb⟩; have HS3 := Lib.hid (HS2.out.below hb); rw [← hB1] at hl hb; have HL1 := Lib.hid hl; have HM1 := Lib.hid hsm; have HB3 := Lib.hid hb; clear hl hsm hb))
  obtain ⟨B2, hB2⟩ : ∃ B2, B2 = w3.heap.size := ⟨_, rfl⟩
  go_upto_region 7 with (first
   | (clear tk2; (with_reducible refine at_l ?_); refine wpList_load_rd rfl 49 (.tmp 2) rfl 1957 _ Tryd.underlying49 rfl (by kernel_rfl) ⟨b2, 0, none⟩ rfl s.F (fun i hi => by rw [add_lit0]; exact (HS3.out.row 0 rfl).cell hi) ?_)
   | (go_at_call 6; clear tk3; refine (new_right s _ ((HSt.out.below (HS3.out.out (by simp; omega))).more HS3.out.size) HR.out (HP.out.below (HS3.out.out (by simp; omega)))).mono ?_; rintro r w4 ⟨L2, t2, T2, v2, rfl, hl, hsm, hb⟩; have HLL := Lib.hid (LL2.start HL1.out hb hl); rw [← hB2] at HLL; have HM2 := Lib.hid hsm; have HS4 := Lib.hid (HS3.out.below hb); have HB4 := Lib.hid (thnB HB3.out hb (by rw [hB1]; exact HB3.out.size)); clear hl hsm hb))
  have hszw : w.heap.size ≤ B1 := by rw [hB1]; exact HS2.out.size
  have HX := Lib.hid ((HSt.out.below (HS2.out.out (by simp; omega))).more HS2.out.size)
  rw [← hB1] at HX
  have HP2 := Lib.hid (HP.out.below (HS2.out.out (by simp; omega)))
  have HPt2 := Lib.hid (HPt.out.below (HS2.out.out (by simp; omega)) HPt.out.lt)
  have HPB : Hid (0 < B1 ∧ 1 < B1) := Lib.hid ⟨by omega, by omega⟩
  have HTB : Hid (2 < B1) := Lib.hid (by omega)
  have hb2B : b2 < B1 := by rw [hB1]; exact HS2.out.lt 0 rfl
  have HXr := Lib.hid (fun (w' : World) (hb : Below B1 w2 w') => show w'.rowIs b2 49 1957 s.F from row_below (HS2.out.row 0 rfl) hb hb2B)
  have HAr := Lib.hid (fun (w' : World) (hb : Below B1 w2 w') => ((HA.out.below (HS2.out.out (by simp; omega))).more hszw).below hb)
  have HBW : Hid (Below w.heap.size w w2) := Lib.hid (HS2.out.out (by simp; omega))
  have HRa := Lib.hid (HR.out.same HM1.out)
  have HRb := Lib.hid (HR.out.same HM2.out)
  obtain ⟨m, hm⟩ : ∃ m, m = min n s.nV := ⟨_, rfl⟩
  have HMin := Lib.hid (show (m : Int) = if (s.nV : Int) < (n : Int) then (s.nV : Int) else (n : Int) by rw [hm]; split <;> omega)
  have hmn : m ≤ n := by omega
  have hmV : m ≤ s.nV := by omega
  have H4r := Lib.hid (HXr.out _ HB4.out)
  have hB12 : B1 ≤ B2 := by rw [hB1, hB2]; exact HB3.out.size
  clear hm HS3 HS4 HL1 HB3 HS1
  go_wp2_with (first
   | ((with_reducible refine at_l ?_); refine wpList_as rfl 30 rfl (.slice s.aV s.nV s.cV) ?_ ?_; (· exact ex_ldSl rfl rfl Tryd.underlying36 (H4r.out.cell (i := 721) (by omega)) HX.out.f11))
   | ((with_reducible refine at_l ?_); refine wpList_min rfl rfl .i64 (n : Int) (s.nV : Int) (m : Int) rfl rfl HMin.out ?_))
  go_loopw [8] (fun i wr => ∃ (k : Nat) (u1 : Nat → TV), i = .int .i64 (k : Int) ∧ k ≤ m ∧ LL2 wr B1 L1 (stP t1 N (fun j => decide (j < k))) T1 u1 0 B2 L2 t2 T2 v2 0 ∧ Below B1 w2 wr) (fun i _ => m - (intOf i).toNat)
  case atStart => exact ⟨0, v1, rfl, Nat.zero_le _, by rw [stP_none (fun j => decide_eq_false (Nat.not_lt_zero j))]; exact HLL.out, HB4.out⟩
  case round =>
   clear HLL HB4 H4r
   obtain ⟨k, u1, rfl, hk, hl, hb⟩ := hrel
   have HL := Lib.hid hl
   have HB := Lib.hid hb
   clear hl hb
   by_cases hkm : k < m
   ·obtain ⟨adN, hAN⟩ : ∃ ad, A = some ad := by obtain ⟨ad, e, _⟩ := HA.out (show 0 < n by omega); exact ⟨ad, e⟩
    obtain ⟨adB, hAB⟩ : ∃ ad, s.aB = some ad := by
     have h0 : 0 < s.nB := by rw [HR.out.nB]; omega
     obtain ⟨ad, e, _⟩ := HX.out.rB h0; exact ⟨ad, e⟩
    have hkn := Lib.hid (show k < n by omega)
    have hkB := Lib.hid (show k < s.nB by rw [HR.out.nB]; omega)
    have hkV := Lib.hid (show k < t1.nV by rw [HM1.out.nV]; omega)
    have HNC := Lib.hid (fun (w' : World) (hb : Below B1 w2 w') => show w'.cell? (adN.add (k * 1)) = some (.int .u64 (N k : Int)) by rw [Nat.mul_one]; exact (HAr.out w' hb).cell_' hAN hkn.out)
    have HBC := Lib.hid (fun (w' : World) (hb : Below B1 w2 w') => show w'.cell? (adB.add (k * 1)) = some (.int .u64 ((nat (s.Bal k) : Nat) : Int)) by rw [Nat.mul_one]; exact ((HX.out.below hb).rB.cell_' hAB hkB.out).trans (congrArg some (HX.out.scB k hkB.out).1))
    have HX7 := Lib.hid (fun (w' : World) (hb : Below B1 w2 w') => show w'.cell? ⟨b2, 722, none⟩ = some (.slice (some adB) s.nB s.cB) by rw [← hAB]; exact ((HXr.out w' hb).cell (i := 722) (by omega)).trans (congrArg some HX.out.f12))
    have hBk := Lib.hid (show nat (s.Bal k) ≤ 144115188075855872 from Nat.le_trans (sum_at (fun i => nat (s.Bal i)) s.nB k hkB.out) HR.out.bal)
    have hEB : t1.Bal = s.Bal := HM1.out.Bal
    have hm := Lib.hid (show N k % (nat (s.Bal k) + 1) < 18446744073709551616 by have := Nat.mod_lt (N k) (show 0 < nat (s.Bal k) + 1 by omega); have := hBk.out; omega)
    have h1000 := Lib.hid (show N k % 1000 < 18446744073709551616 by omega)
    have h256 := Lib.hid (show N k % 256 < 256 by omega)
    have hS1 := Lib.hid (sA1_right (t := t1) (N := N) (p := (fun j => decide (j < k))) (k := k) HRa.out)
    have hS2 := Lib.hid (sA2_right (t := t1) (N := N) (p := (fun j => decide (j < k))) (k := k) HRa.out)
    have hS3 := Lib.hid (sA3_right (t := t1) (N := N) (p := (fun j => decide (j < k))) (k := k) HRa.out)
    rw [← hEB] at HBC hBk hm
    subst hAN
    go_wp2_with fail
    refine wp_region_stage (l := ((_) :: (_) :: (_) :: (_) :: (_) :: (_) :: (_) :: (_) :: (_) :: (_) :: (_) :: (_) :: (_) :: (_) :: (_) :: (_) :: (_) :: (_) :: (_) :: (_) :: (_) :: (_) :: (_) :: (_) :: (_) :: (_) :: (_) :: (_) :: (_) :: (_) :: (_) :: (_) :: (_) :: (_) :: (_) :: (_) :: (_) :: [])) (N := 3) (fun q wj => (∃ u, LL2 wj B1 L1 (stgA t1 N (fun j => decide (j < k)) k q) T1 u 0 B2 L2 t2 T2 v2 0) ∧ Below B1 w2 wj) ((SF.is (.pointer (some ⟨L1, 0, none⟩))) :: (SF.is (.int .i64 ((k : Nat) : Int))) :: (SF.is (.slice (some adN) (n) (c))) :: (SF.is (.int .i64 ((k : Nat) : Int))) :: (SF.is (.pointer (some (adN.add (k * 1))))) :: (SF.is (.int .u64 ((N k : Nat) : Int))) :: (SF.is (.pointer (some ⟨b2, 722, none⟩))) :: (SF.is (.slice (some adB) (s.nB) (s.cB))) :: (SF.is (.int .i64 ((k : Nat) : Int))) :: (SF.is (.pointer (some (adB.add (k * 1))))) :: (SF.is (.int .u64 ((nat (t1.Bal k) : Nat) : Int))) :: (SF.is (.int .u64 ((nat (t1.Bal k) + 1 : Nat) : Int))) :: (SF.is (.int .u64 ((N k % (nat (t1.Bal k) + 1) : Nat) : Int))) :: (SF.is (.int .i64 0)) :: (SF.is (.bool false)) :: (SF.is (.bool false)) :: (SF.is (.pointer (some ⟨L1, 0, none⟩))) :: (SF.is (.int .i64 ((k : Nat) : Int))) :: (SF.is (.slice (some adN) (n) (c))) :: (SF.is (.int .i64 ((k : Nat) : Int))) :: (SF.is (.pointer (some (adN.add (k * 1))))) :: (SF.is (.int .u64 ((N k : Nat) : Int))) :: (SF.is (.int .u64 ((N k % 1000 : Nat) : Int))) :: (SF.is (.int .i64 0)) :: (SF.is (.bool false)) :: (SF.is (.bool false)) :: (SF.is (.bool false)) :: (SF.is (.pointer (some ⟨L1, 0, none⟩))) :: (SF.is (.int .i64 ((k : Nat) : Int))) :: (SF.is (.slice (some adN) (n) (c))) :: (SF.is (.int .i64 ((k : Nat) : Int))) :: (SF.is (.pointer (some (adN.add (k * 1))))) :: (SF.is (.int .u64 ((N k : Nat) : Int))) :: (SF.is (.int .u8 ((N k % 256 : Nat) : Int))) :: (SF.is (.int .i64 0)) :: (SF.is (.bool false)) :: (SF.is (.bool false)) :: []) ((none) :: (none) :: (none) :: (none) :: (none) :: (none) :: (none) :: (none) :: (none) :: (none) :: (none) :: (none) :: (none) :: (some 0) :: (none) :: (none) :: (none) :: (none) :: (none) :: (none) :: (none) :: (none) :: (none) :: (some 1) :: (none) :: (none) :: (none) :: (none) :: (none) :: (none) :: (none) :: (none) :: (none) :: (none) :: (some 2) :: (none) :: (none) :: []) (by kernel_rfl) (by kernel_rfl) (by kernel_rfl) rfl rfl (fun q wa wb ⟨⟨u, h1⟩, h2⟩ hb => ⟨⟨u, h1.below hb⟩, thnB h2 hb (by rw [hB1]; exact h2.size)⟩) (pure_is (Fs := ((.pointer (some ⟨L1, 0, none⟩)) :: (.int .i64 ((k : Nat) : Int)) :: (.slice (some adN) (n) (c)) :: (.int .i64 ((k : Nat) : Int)) :: (.pointer (some (adN.add (k * 1)))) :: (.int .u64 ((N k : Nat) : Int)) :: (.pointer (some ⟨b2, 722, none⟩)) :: (.slice (some adB) (s.nB) (s.cB)) :: (.int .i64 ((k : Nat) : Int)) :: (.pointer (some (adB.add (k * 1)))) :: (.int .u64 ((nat (t1.Bal k) : Nat) : Int)) :: (.int .u64 ((nat (t1.Bal k) + 1 : Nat) : Int)) :: (.int .u64 ((N k % (nat (t1.Bal k) + 1) : Nat) : Int)) :: (.int .i64 0) :: (.bool false) :: (.bool false) :: (.pointer (some ⟨L1, 0, none⟩)) :: (.int .i64 ((k : Nat) : Int)) :: (.slice (some adN) (n) (c)) :: (.int .i64 ((k : Nat) : Int)) :: (.pointer (some (adN.add (k * 1)))) :: (.int .u64 ((N k : Nat) : Int)) :: (.int .u64 ((N k % 1000 : Nat) : Int)) :: (.int .i64 0) :: (.bool false) :: (.bool false) :: (.bool false) :: (.pointer (some ⟨L1, 0, none⟩)) :: (.int .i64 ((k : Nat) : Int)) :: (.slice (some adN) (n) (c)) :: (.int .i64 ((k : Nat) : Int)) :: (.pointer (some (adN.add (k * 1)))) :: (.int .u64 ((N k : Nat) : Int)) :: (.int .u8 ((N k % 256 : Nat) : Int)) :: (.int .i64 0) :: (.bool false) :: (.bool false) :: []))) (⟨⟨u1, HL.out⟩, HB.out⟩) ⟨?_, ?_, ?_, ?_, ?_, ?_, ?_, ?_, ?_, ?_, ?_, ?_, ?_, ?_, ?_, ?_, ?_, ?_, ?_, ?_, ?_, ?_, ?_, ?_, ?_, ?_, ?_, ?_, ?_, ?_, ?_, ?_, ?_, ?_, ?_, ?_, ?_, trivial⟩ ?_
    ·exact fun kj wj hj => (opOb_move _ rfl (.inl rfl) rfl)
    ·exact fun kj wj hj => (opOb_move _ rfl (.inl rfl) rfl)
    ·exact fun kj wj hj => (opOb_move _ rfl (.inl rfl) rfl)
    ·exact fun kj wj hj => (opOb_move _ rfl (.inl rfl) rfl)
    ·exact fun kj wj hj => opOb_idx rfl rfl (OpK.tmp rfl) (OpK.tmp rfl) (fun w => run_idxZ (z := 1) w Tryd.underlying37 (by kernel_rfl) adN hkn.out)
    ·exact fun kj wj hj => opOb_ld rfl rfl (OpK.tmp rfl) (fun w' hb => run_ld1 w' _ _ .u64 _ (HNC.out w' (thnB hj.2 hb (by rw [hB1]; exact hj.2.size))) Tryd.underlying22)
    ·exact fun kj wj hj => opOb_fld rfl rfl (OpK.tmp rfl) (fun w => by simp [go_sem])
    ·exact fun kj wj hj => opOb_ld rfl rfl (OpK.tmp rfl) (fun w' hb => PickDraw.run_ldSl w' _ _ _ _ (HX7.out w' (thnB hj.2 hb (by rw [hB1]; exact hj.2.size))) Tryd.underlying37)
    ·exact fun kj wj hj => (opOb_move _ rfl (.inl rfl) rfl)
    ·exact fun kj wj hj => opOb_idx rfl rfl (OpK.tmp rfl) (OpK.tmp rfl) (fun w => run_idxZ (z := 1) w Tryd.underlying37 (by kernel_rfl) adB hkB.out)
    ·exact fun kj wj hj => opOb_ld rfl rfl (OpK.tmp rfl) (fun w' hb => run_ld1 w' _ _ .u64 _ (HBC.out w' (thnB hj.2 hb (by rw [hB1]; exact hj.2.size))) Tryd.underlying22)
    ·exact fun kj wj hj => opOb_bin rfl rfl rfl (OpK.tmp rfl) OpK.const (fun w => addU _ (Nat.le_trans hBk.out (by omega)) w)
    ·exact fun kj wj hj => opOb_bin rfl rfl rfl (OpK.tmp rfl) (OpK.tmp rfl) (fun w => ShufLawOps.remU _ _ _ (Nat.succ_pos _) rfl (HN.out k) w)
    ·exact opJ_fn3 er_bal rfl rfl (OpK.tmp rfl) (OpK.tmp rfl) (OpK.tmp rfl) (fun wj ⟨⟨u, h1⟩, h2⟩ => (bal_ok B1 L1 k 0 (N k % (nat (t1.Bal k) + 1)) (stP t1 N (fun j => decide (j < k))) T1 wj u h1.la hkV.out hm.out (hS1.out) (HP2.out.belowB HPB.out h2) HPB.out).mono fun e w3 ⟨v', he, k1, k2⟩ => ⟨_, he, rfl, ⟨v', h1.stepA k1 k2⟩, h2.trans (k2.below h1.la.lm (Nat.le_refl _))⟩)
    ·exact fun kj wj hj => opOb_neSame .i64 0 rfl rfl (OpK.tmp rfl) OpK.const
    ·exact fun kj wj hj => (opOb_move _ rfl (.inl rfl) rfl)
    ·exact fun kj wj hj => opOb_on 53 rfl rfl ((opOb_move _ rfl (.inl rfl) rfl))
    ·exact fun kj wj hj => opOb_on 53 rfl rfl ((opOb_move _ rfl (.inl rfl) rfl))
    ·exact fun kj wj hj => opOb_on 53 rfl rfl ((opOb_move _ rfl (.inl rfl) rfl))
    ·exact fun kj wj hj => opOb_on 53 rfl rfl ((opOb_move _ rfl (.inl rfl) rfl))
    ·exact fun kj wj hj => opOb_on 53 rfl rfl (opOb_idx rfl rfl (OpK.tmp rfl) (OpK.tmp rfl) (fun w => run_idxZ (z := 1) w Tryd.underlying37 (by kernel_rfl) adN hkn.out))
    ·exact fun kj wj hj => opOb_on 53 rfl rfl (opOb_ld rfl rfl (OpK.tmp rfl) (fun w' hb => run_ld1 w' _ _ .u64 _ (HNC.out w' (thnB hj.2 hb (by rw [hB1]; exact hj.2.size))) Tryd.underlying22))
    ·exact fun kj wj hj => opOb_on 53 rfl rfl (opOb_bin rfl rfl rfl (OpK.tmp rfl) OpK.const (fun w => ShufLawOps.remU _ 1000 _ (by omega) rfl (HN.out k) w))
    ·exact opJ_on 53 rfl rfl (opJ_fn3 er_sco rfl rfl (OpK.tmp rfl) (OpK.tmp rfl) (OpK.tmp rfl) (fun wj ⟨⟨u, h1⟩, h2⟩ => (sco_ok B1 L1 k 0 (N k % 1000) (sA1 t1 N (fun j => decide (j < k)) k) T1 wj u h1.la hkV.out h1000.out (hS2.out) (HP2.out.belowB HPB.out h2) HPB.out).mono fun e w3 ⟨v', he, k1, k2⟩ => ⟨_, he, rfl, ⟨v', h1.stepA k1 k2⟩, h2.trans (k2.below h1.la.lm (Nat.le_refl _))⟩))
    ·exact fun kj wj hj => opOb_on 53 rfl rfl (opOb_neSame .i64 0 rfl rfl (OpK.tmp rfl) OpK.const)
    ·exact fun kj wj hj => opOb_pickF rfl rfl rfl (OpK.tmp rfl)
    ·exact fun kj wj hj => (opOb_move _ rfl (.inl rfl) rfl)
    ·exact fun kj wj hj => opOb_on 64 rfl rfl ((opOb_move _ rfl (.inl rfl) rfl))
    ·exact fun kj wj hj => opOb_on 64 rfl rfl ((opOb_move _ rfl (.inl rfl) rfl))
    ·exact fun kj wj hj => opOb_on 64 rfl rfl ((opOb_move _ rfl (.inl rfl) rfl))
    ·exact fun kj wj hj => opOb_on 64 rfl rfl ((opOb_move _ rfl (.inl rfl) rfl))
    ·exact fun kj wj hj => opOb_on 64 rfl rfl (opOb_idx rfl rfl (OpK.tmp rfl) (OpK.tmp rfl) (fun w => run_idxZ (z := 1) w Tryd.underlying37 (by kernel_rfl) adN hkn.out))
    ·exact fun kj wj hj => opOb_on 64 rfl rfl (opOb_ld rfl rfl (OpK.tmp rfl) (fun w' hb => run_ld1 w' _ _ .u64 _ (HNC.out w' (thnB hj.2 hb (by rw [hB1]; exact hj.2.size))) Tryd.underlying22))
    ·exact fun kj wj hj => opOb_on 64 rfl rfl (opOb_cnv rfl rfl (OpK.tmp rfl) (fun w => cnv8 _ w))
    ·exact opJ_on 64 rfl rfl (opJ_fn4 er_flg rfl rfl (OpK.tmp rfl) (OpK.tmp rfl) (OpK.tmp rfl) OpK.const (fun wj ⟨⟨u, h1⟩, h2⟩ => (flg_ok B1 L1 k 0 (N k % 256) 3 (sA2 t1 N (fun j => decide (j < k)) k) T1 wj u h1.la hkV.out h256.out (by omega) (hS3.out) (HP2.out.belowB HPB.out h2) HPB.out).mono fun e w3 ⟨v', he, k1, k2⟩ => ⟨_, he, rfl, ⟨v', h1.stepA k1 k2⟩, h2.trans (k2.below h1.la.lm (Nat.le_refl _))⟩))
    ·exact fun kj wj hj => opOb_on 64 rfl rfl (opOb_neSame .i64 0 rfl rfl (OpK.tmp rfl) OpK.const)
    ·exact fun kj wj hj => opOb_pickF rfl rfl rfl (OpK.tmp rfl)
    ·intro wn hj
     simp only [fin, SF.is, forall_eq]
     simp only [pcX]
     obtain ⟨⟨u3, h1⟩, h2⟩ := hj
     have HL3 := Lib.hid h1
     have HB3 := Lib.hid h2
     clear h1 h2
     go_wp2_with fail
     go_roundw
     case rel => exact ⟨k + 1, u3, by go_num, by omega, by have h := HL3.out; rw [show stgA t1 N (fun j => decide (j < k)) k 3 = stP t1 N (fun j => decide (j < k + 1)) by rw [← pOr_up]; exact sA3_eq] at h; exact h, HB3.out⟩
     case measure => simp [intOf]; omega
   ·obtain rfl : m = k := by omega
    have HRm := Lib.hid (stP_right (N := N) (p := fun j => decide (j < m)) HRa.out)
    have HPB2 : Hid (0 < B2 ∧ 1 < B2) := Lib.hid ⟨by omega, by omega⟩
    have HTB2 : Hid (2 < B2) := Lib.hid (by omega)
    have hm64 : m ≤ 65536 := Nat.le_trans hmV HR.out.n
    obtain ⟨w6, hw6⟩ : ∃ w6 : World, w6 = wr := ⟨_, rfl⟩
    subst hw6
    clear hkm
    go_wp2_with (first
     | ((with_reducible refine at_l ?_); refine wpList_as rfl 76 rfl (.int .i64 ((m : Int) - 1)) ?_ ?_; (· exact ex_bin rfl rfl rfl rfl (fun w => by simp [go_sem, IntKind.wrap, IntKind.bits, IntKind.signed]; omega) _)))
    go_loopw [9] (fun i wr => ∃ (q : Nat) (u2 : Nat → TV), i = .int .i64 ((q : Int) - 1) ∧ q ≤ m ∧ LL2 wr B1 L1 (stP t1 N (fun j => decide (j < m))) T1 u1 0 B2 L2 (stP t2 N (fun j => decide (q ≤ j ∧ j < m))) T2 u2 ((m - q) * 400000) ∧ Below B1 w2 wr) (fun i _ => (intOf i + 1).toNat)
    case atStart => exact ⟨m, v2, rfl, Nat.le_refl _, by rw [stP_none (t := t2) (fun j => decide_eq_false (by omega))]; exact HL.out.upB (Nat.zero_le _), HB.out⟩
    case round =>
     clear HL HB
     obtain ⟨q, u2, rfl, hq, hl, hb⟩ := hrel
     have HL := Lib.hid hl
     have HB := Lib.hid hb
     clear hl hb
     by_cases hq0 : 0 < q
     ·obtain ⟨k, rfl⟩ : ∃ k, q = k + 1 := ⟨q - 1, by omega⟩
      rw [show ((k + 1 : Nat) : Int) - 1 = (k : Int) by omega]
      have hk0 : (0 : Int) ≤ (k : Int) := by omega
      obtain ⟨adN, hAN⟩ : ∃ ad, A = some ad := by obtain ⟨ad, e, _⟩ := HA.out (show 0 < n by omega); exact ⟨ad, e⟩
      obtain ⟨adB, hAB⟩ : ∃ ad, s.aB = some ad := by
       have h0 : 0 < s.nB := by rw [HR.out.nB]; omega
       obtain ⟨ad, e, _⟩ := HX.out.rB h0; exact ⟨ad, e⟩
      have hkn := Lib.hid (show k < n by omega)
      have hkB := Lib.hid (show k < s.nB by rw [HR.out.nB]; omega)
      have hkV := Lib.hid (show k < t2.nV by rw [HM2.out.nV]; omega)
      have HNC := Lib.hid (fun (w' : World) (hb : Below B1 w2 w') => show w'.cell? (adN.add (k * 1)) = some (.int .u64 (N k : Int)) by rw [Nat.mul_one]; exact (HAr.out w' hb).cell_' hAN hkn.out)
      have HBC := Lib.hid (fun (w' : World) (hb : Below B1 w2 w') => show w'.cell? (adB.add (k * 1)) = some (.int .u64 ((nat (s.Bal k) : Nat) : Int)) by rw [Nat.mul_one]; exact ((HX.out.below hb).rB.cell_' hAB hkB.out).trans (congrArg some (HX.out.scB k hkB.out).1))
      have HX7 := Lib.hid (fun (w' : World) (hb : Below B1 w2 w') => show w'.cell? ⟨b2, 722, none⟩ = some (.slice (some adB) s.nB s.cB) by rw [← hAB]; exact ((HXr.out w' hb).cell (i := 722) (by omega)).trans (congrArg some HX.out.f12))
      have hBk := Lib.hid (show nat (s.Bal k) ≤ 144115188075855872 from Nat.le_trans (sum_at (fun i => nat (s.Bal i)) s.nB k hkB.out) HR.out.bal)
      have hEB : t2.Bal = s.Bal := HM2.out.Bal
      have hm := Lib.hid (show N k % (nat (s.Bal k) + 1) < 18446744073709551616 by have := Nat.mod_lt (N k) (show 0 < nat (s.Bal k) + 1 by omega); have := hBk.out; omega)
      have h1000 := Lib.hid (show N k % 1000 < 18446744073709551616 by omega)
      have h256 := Lib.hid (show N k % 256 < 256 by omega)
      have hS1 := Lib.hid (sB1_right (t := t2) (N := N) (p := (fun j => decide (k + 1 ≤ j ∧ j < m))) (k := k) HRb.out)
      have hS2 := Lib.hid (sB2_right (t := t2) (N := N) (p := (fun j => decide (k + 1 ≤ j ∧ j < m))) (k := k) HRb.out)
      have hS3 := Lib.hid (sB3_right (t := t2) (N := N) (p := (fun j => decide (k + 1 ≤ j ∧ j < m))) (k := k) HRb.out)
      have hS4 := Lib.hid (sB4_right (t := t2) (N := N) (p := (fun j => decide (k + 1 ≤ j ∧ j < m))) (k := k) HRb.out)
      rw [← hEB] at HBC hBk hm
      subst hAN
      by_cases h3 : k % 3 = 1
      ·go_wp2_with (first
        | ((with_reducible refine at_l ?_); refine wpList_as rfl 82 rfl (.int .i64 ((1 : Nat) : Int)) ?_ ?_; (· exact ex_bin rfl rfl rfl rfl (fun w => PickDraw.remIN k 3 1 (by omega) h3 w) _))
        | (go_at_call 11; refine (live_root_look B2 L2 ((m - (k + 1)) * 400000) (stP t2 N (fun j => decide (k + 1 ≤ j ∧ j < m))) T2 _ u2 HL.out.lb (by omega) (HP2.out.belowB HPB.out HB.out) HPB2.out (HPt2.out.below HB.out HTB.out) HTB2.out).mono ?_; rintro r w5 ⟨u5, rfl, hl, hst⟩; have HL5 := Lib.hid ((HL.out.stepB hl hst).upB (h' := (m - k) * 400000) (by omega)); have HB5 := Lib.hid (HB.out.trans ((hst.below HL.out.lb.lm (Nat.le_refl _)).mono hB12)); clear hl hst))
       refine wp_region_stage (l := ((_) :: (_) :: (_) :: (_) :: (_) :: (_) :: (_) :: (_) :: (_) :: (_) :: (_) :: (_) :: (_) :: (_) :: (_) :: (_) :: (_) :: (_) :: (_) :: (_) :: (_) :: (_) :: (_) :: (_) :: (_) :: (_) :: (_) :: (_) :: (_) :: (_) :: (_) :: (_) :: (_) :: (_) :: (_) :: (_) :: (_) :: (_) :: (_) :: (_) :: (_) :: (_) :: (_) :: [])) (N := 4) (fun q wj => (∃ u, LL2 wj B1 L1 (stP t1 N (fun j => decide (j < m))) T1 u1 0 B2 L2 (stgB t2 N (fun j => decide (k + 1 ≤ j ∧ j < m)) k q) T2 u ((m - k) * 400000)) ∧ Below B1 w2 wj) ((SF.is (.pointer (some ⟨L2, 0, none⟩))) :: (SF.is (.int .i64 ((k : Nat) : Int))) :: (SF.is (.slice (some adN) (n) (c))) :: (SF.is (.int .i64 ((k : Nat) : Int))) :: (SF.is (.pointer (some (adN.add (k * 1))))) :: (SF.is (.int .u64 ((N k : Nat) : Int))) :: (SF.is (.int .u8 ((N k % 256 : Nat) : Int))) :: (SF.is (.int .i64 0)) :: (SF.is (.bool false)) :: (SF.is (.bool false)) :: (SF.is (.pointer (some ⟨L2, 0, none⟩))) :: (SF.is (.int .i64 ((k : Nat) : Int))) :: (SF.is (.int .i64 0)) :: (SF.is (.bool false)) :: (SF.is (.bool false)) :: (SF.is (.bool false)) :: (SF.is (.pointer (some ⟨L2, 0, none⟩))) :: (SF.is (.int .i64 ((k : Nat) : Int))) :: (SF.is (.slice (some adN) (n) (c))) :: (SF.is (.int .i64 ((k : Nat) : Int))) :: (SF.is (.pointer (some (adN.add (k * 1))))) :: (SF.is (.int .u64 ((N k : Nat) : Int))) :: (SF.is (.int .u64 ((N k % 1000 : Nat) : Int))) :: (SF.is (.int .i64 0)) :: (SF.is (.bool false)) :: (SF.is (.bool false)) :: (SF.is (.bool false)) :: (SF.is (.pointer (some ⟨L2, 0, none⟩))) :: (SF.is (.int .i64 ((k : Nat) : Int))) :: (SF.is (.slice (some adN) (n) (c))) :: (SF.is (.int .i64 ((k : Nat) : Int))) :: (SF.is (.pointer (some (adN.add (k * 1))))) :: (SF.is (.int .u64 ((N k : Nat) : Int))) :: (SF.is (.pointer (some ⟨b2, 722, none⟩))) :: (SF.is (.slice (some adB) (s.nB) (s.cB))) :: (SF.is (.int .i64 ((k : Nat) : Int))) :: (SF.is (.pointer (some (adB.add (k * 1))))) :: (SF.is (.int .u64 ((nat (t2.Bal k) : Nat) : Int))) :: (SF.is (.int .u64 ((nat (t2.Bal k) + 1 : Nat) : Int))) :: (SF.is (.int .u64 ((N k % (nat (t2.Bal k) + 1) : Nat) : Int))) :: (SF.is (.int .i64 0)) :: (SF.is (.bool false)) :: (SF.is (.bool false)) :: []) ((none) :: (none) :: (none) :: (none) :: (none) :: (none) :: (none) :: (some 0) :: (none) :: (none) :: (none) :: (none) :: (some 1) :: (none) :: (none) :: (none) :: (none) :: (none) :: (none) :: (none) :: (none) :: (none) :: (none) :: (some 2) :: (none) :: (none) :: (none) :: (none) :: (none) :: (none) :: (none) :: (none) :: (none) :: (none) :: (none) :: (none) :: (none) :: (none) :: (none) :: (none) :: (some 3) :: (none) :: (none) :: []) (by kernel_rfl) (by kernel_rfl) (by kernel_rfl) rfl rfl (fun q wa wb ⟨⟨u, h1⟩, h2⟩ hb => ⟨⟨u, h1.below hb⟩, thnB h2 hb (by rw [hB1]; exact h2.size)⟩) (pure_is (Fs := ((.pointer (some ⟨L2, 0, none⟩)) :: (.int .i64 ((k : Nat) : Int)) :: (.slice (some adN) (n) (c)) :: (.int .i64 ((k : Nat) : Int)) :: (.pointer (some (adN.add (k * 1)))) :: (.int .u64 ((N k : Nat) : Int)) :: (.int .u8 ((N k % 256 : Nat) : Int)) :: (.int .i64 0) :: (.bool false) :: (.bool false) :: (.pointer (some ⟨L2, 0, none⟩)) :: (.int .i64 ((k : Nat) : Int)) :: (.int .i64 0) :: (.bool false) :: (.bool false) :: (.bool false) :: (.pointer (some ⟨L2, 0, none⟩)) :: (.int .i64 ((k : Nat) : Int)) :: (.slice (some adN) (n) (c)) :: (.int .i64 ((k : Nat) : Int)) :: (.pointer (some (adN.add (k * 1)))) :: (.int .u64 ((N k : Nat) : Int)) :: (.int .u64 ((N k % 1000 : Nat) : Int)) :: (.int .i64 0) :: (.bool false) :: (.bool false) :: (.bool false) :: (.pointer (some ⟨L2, 0, none⟩)) :: (.int .i64 ((k : Nat) : Int)) :: (.slice (some adN) (n) (c)) :: (.int .i64 ((k : Nat) : Int)) :: (.pointer (some (adN.add (k * 1)))) :: (.int .u64 ((N k : Nat) : Int)) :: (.pointer (some ⟨b2, 722, none⟩)) :: (.slice (some adB) (s.nB) (s.cB)) :: (.int .i64 ((k : Nat) : Int)) :: (.pointer (some (adB.add (k * 1)))) :: (.int .u64 ((nat (t2.Bal k) : Nat) : Int)) :: (.int .u64 ((nat (t2.Bal k) + 1 : Nat) : Int)) :: (.int .u64 ((N k % (nat (t2.Bal k) + 1) : Nat) : Int)) :: (.int .i64 0) :: (.bool false) :: (.bool false) :: []))) (⟨⟨u5, HL5.out⟩, HB5.out⟩) ⟨?_, ?_, ?_, ?_, ?_, ?_, ?_, ?_, ?_, ?_, ?_, ?_, ?_, ?_, ?_, ?_, ?_, ?_, ?_, ?_, ?_, ?_, ?_, ?_, ?_, ?_, ?_, ?_, ?_, ?_, ?_, ?_, ?_, ?_, ?_, ?_, ?_, ?_, ?_, ?_, ?_, ?_, ?_, trivial⟩ ?_
       ·exact fun kj wj hj => (opOb_move _ rfl (.inl rfl) rfl)
       ·exact fun kj wj hj => (opOb_move _ rfl (.inl rfl) rfl)
       ·exact fun kj wj hj => (opOb_move _ rfl (.inl rfl) rfl)
       ·exact fun kj wj hj => (opOb_move _ rfl (.inl rfl) rfl)
       ·exact fun kj wj hj => opOb_idx rfl rfl (OpK.tmp rfl) (OpK.tmp rfl) (fun w => run_idxZ (z := 1) w Tryd.underlying37 (by kernel_rfl) adN hkn.out)
       ·exact fun kj wj hj => opOb_ld rfl rfl (OpK.tmp rfl) (fun w' hb => run_ld1 w' _ _ .u64 _ (HNC.out w' (thnB hj.2 hb (by rw [hB1]; exact hj.2.size))) Tryd.underlying22)
       ·exact fun kj wj hj => opOb_cnv rfl rfl (OpK.tmp rfl) (fun w => cnv8 _ w)
       ·exact opJ_fn4 er_flg rfl rfl (OpK.tmp rfl) (OpK.tmp rfl) (OpK.tmp rfl) OpK.const (fun wj ⟨⟨u, h1⟩, h2⟩ => (flg_ok B2 L2 k ((m - k) * 400000) (N k % 256) 3 (stP t2 N (fun j => decide (k + 1 ≤ j ∧ j < m))) T2 wj u h1.lb hkV.out h256.out (by omega) (hS1.out) (HP2.out.belowB HPB.out h2) HPB2.out).mono fun e w3 ⟨v', he, k1, k2⟩ => ⟨_, he, rfl, ⟨v', h1.stepB k1 k2⟩, h2.trans ((k2.below h1.lb.lm (Nat.le_refl _)).mono hB12)⟩)
       ·exact fun kj wj hj => opOb_neSame .i64 0 rfl rfl (OpK.tmp rfl) OpK.const
       ·exact fun kj wj hj => (opOb_move _ rfl (.inl rfl) rfl)
       ·exact fun kj wj hj => opOb_on 95 rfl rfl ((opOb_move _ rfl (.inl rfl) rfl))
       ·exact fun kj wj hj => opOb_on 95 rfl rfl ((opOb_move _ rfl (.inl rfl) rfl))
       ·exact opJ_on 95 rfl rfl (opJ_fn3 er_bal rfl rfl (OpK.tmp rfl) (OpK.tmp rfl) OpK.const (fun wj ⟨⟨u, h1⟩, h2⟩ => (bal_ok B2 L2 k ((m - k) * 400000) 0 (sB1 t2 N (fun j => decide (k + 1 ≤ j ∧ j < m)) k) T2 wj u h1.lb hkV.out (by omega) (hS2.out) (HP2.out.belowB HPB.out h2) HPB2.out).mono fun e w3 ⟨v', he, k1, k2⟩ => ⟨_, he, rfl, ⟨v', h1.stepB k1 k2⟩, h2.trans ((k2.below h1.lb.lm (Nat.le_refl _)).mono hB12)⟩))
       ·exact fun kj wj hj => opOb_on 95 rfl rfl (opOb_neSame .i64 0 rfl rfl (OpK.tmp rfl) OpK.const)
       ·exact fun kj wj hj => opOb_pickF rfl rfl rfl (OpK.tmp rfl)
       ·exact fun kj wj hj => (opOb_move _ rfl (.inl rfl) rfl)
       ·exact fun kj wj hj => opOb_on 101 rfl rfl ((opOb_move _ rfl (.inl rfl) rfl))
       ·exact fun kj wj hj => opOb_on 101 rfl rfl ((opOb_move _ rfl (.inl rfl) rfl))
       ·exact fun kj wj hj => opOb_on 101 rfl rfl ((opOb_move _ rfl (.inl rfl) rfl))
       ·exact fun kj wj hj => opOb_on 101 rfl rfl ((opOb_move _ rfl (.inl rfl) rfl))
       ·exact fun kj wj hj => opOb_on 101 rfl rfl (opOb_idx rfl rfl (OpK.tmp rfl) (OpK.tmp rfl) (fun w => run_idxZ (z := 1) w Tryd.underlying37 (by kernel_rfl) adN hkn.out))
       ·exact fun kj wj hj => opOb_on 101 rfl rfl (opOb_ld rfl rfl (OpK.tmp rfl) (fun w' hb => run_ld1 w' _ _ .u64 _ (HNC.out w' (thnB hj.2 hb (by rw [hB1]; exact hj.2.size))) Tryd.underlying22))
       ·exact fun kj wj hj => opOb_on 101 rfl rfl (opOb_bin rfl rfl rfl (OpK.tmp rfl) OpK.const (fun w => ShufLawOps.remU _ 1000 _ (by omega) rfl (HN.out k) w))
       ·exact opJ_on 101 rfl rfl (opJ_fn3 er_sco rfl rfl (OpK.tmp rfl) (OpK.tmp rfl) (OpK.tmp rfl) (fun wj ⟨⟨u, h1⟩, h2⟩ => (sco_ok B2 L2 k ((m - k) * 400000) (N k % 1000) (sB2 t2 N (fun j => decide (k + 1 ≤ j ∧ j < m)) k) T2 wj u h1.lb hkV.out h1000.out (hS3.out) (HP2.out.belowB HPB.out h2) HPB2.out).mono fun e w3 ⟨v', he, k1, k2⟩ => ⟨_, he, rfl, ⟨v', h1.stepB k1 k2⟩, h2.trans ((k2.below h1.lb.lm (Nat.le_refl _)).mono hB12)⟩))
       ·exact fun kj wj hj => opOb_on 101 rfl rfl (opOb_neSame .i64 0 rfl rfl (OpK.tmp rfl) OpK.const)
       ·exact fun kj wj hj => opOb_pickF rfl rfl rfl (OpK.tmp rfl)
       ·exact fun kj wj hj => (opOb_move _ rfl (.inl rfl) rfl)
       ·exact fun kj wj hj => opOb_on 112 rfl rfl ((opOb_move _ rfl (.inl rfl) rfl))
       ·exact fun kj wj hj => opOb_on 112 rfl rfl ((opOb_move _ rfl (.inl rfl) rfl))
       ·exact fun kj wj hj => opOb_on 112 rfl rfl ((opOb_move _ rfl (.inl rfl) rfl))
       ·exact fun kj wj hj => opOb_on 112 rfl rfl ((opOb_move _ rfl (.inl rfl) rfl))
       ·exact fun kj wj hj => opOb_on 112 rfl rfl (opOb_idx rfl rfl (OpK.tmp rfl) (OpK.tmp rfl) (fun w => run_idxZ (z := 1) w Tryd.underlying37 (by kernel_rfl) adN hkn.out))
       ·exact fun kj wj hj => opOb_on 112 rfl rfl (opOb_ld rfl rfl (OpK.tmp rfl) (fun w' hb => run_ld1 w' _ _ .u64 _ (HNC.out w' (thnB hj.2 hb (by rw [hB1]; exact hj.2.size))) Tryd.underlying22))
       ·exact fun kj wj hj => opOb_on 112 rfl rfl (opOb_fld rfl rfl (OpK.tmp rfl) (fun w => by simp [go_sem]))
       ·exact fun kj wj hj => opOb_on 112 rfl rfl (opOb_ld rfl rfl (OpK.tmp rfl) (fun w' hb => PickDraw.run_ldSl w' _ _ _ _ (HX7.out w' (thnB hj.2 hb (by rw [hB1]; exact hj.2.size))) Tryd.underlying37))
       ·exact fun kj wj hj => opOb_on 112 rfl rfl ((opOb_move _ rfl (.inl rfl) rfl))
       ·exact fun kj wj hj => opOb_on 112 rfl rfl (opOb_idx rfl rfl (OpK.tmp rfl) (OpK.tmp rfl) (fun w => run_idxZ (z := 1) w Tryd.underlying37 (by kernel_rfl) adB hkB.out))
       ·exact fun kj wj hj => opOb_on 112 rfl rfl (opOb_ld rfl rfl (OpK.tmp rfl) (fun w' hb => run_ld1 w' _ _ .u64 _ (HBC.out w' (thnB hj.2 hb (by rw [hB1]; exact hj.2.size))) Tryd.underlying22))
       ·exact fun kj wj hj => opOb_on 112 rfl rfl (opOb_bin rfl rfl rfl (OpK.tmp rfl) OpK.const (fun w => addU _ (Nat.le_trans hBk.out (by omega)) w))
       ·exact fun kj wj hj => opOb_on 112 rfl rfl (opOb_bin rfl rfl rfl (OpK.tmp rfl) (OpK.tmp rfl) (fun w => ShufLawOps.remU _ _ _ (Nat.succ_pos _) rfl (HN.out k) w))
       ·exact opJ_on 112 rfl rfl (opJ_fn3 er_bal rfl rfl (OpK.tmp rfl) (OpK.tmp rfl) (OpK.tmp rfl) (fun wj ⟨⟨u, h1⟩, h2⟩ => (bal_ok B2 L2 k ((m - k) * 400000) (N k % (nat (t2.Bal k) + 1)) (sB3 t2 N (fun j => decide (k + 1 ≤ j ∧ j < m)) k) T2 wj u h1.lb hkV.out hm.out (hS4.out) (HP2.out.belowB HPB.out h2) HPB2.out).mono fun e w3 ⟨v', he, k1, k2⟩ => ⟨_, he, rfl, ⟨v', h1.stepB k1 k2⟩, h2.trans ((k2.below h1.lb.lm (Nat.le_refl _)).mono hB12)⟩))
       ·exact fun kj wj hj => opOb_on 112 rfl rfl (opOb_neSame .i64 0 rfl rfl (OpK.tmp rfl) OpK.const)
       ·exact fun kj wj hj => opOb_pickF rfl rfl rfl (OpK.tmp rfl)
       ·intro wn hj
        simp only [fin, SF.is, forall_eq]
        simp only [pcX]
        obtain ⟨⟨u3, h1⟩, h2⟩ := hj
        have HL3 := Lib.hid h1
        have HB3 := Lib.hid h2
        clear h1 h2
        go_wp2_with fail
        go_roundw
        case rel => exact ⟨k, u3, by go_num, by omega, by have h := HL3.out; rw [show stgB t2 N (fun j => decide (k + 1 ≤ j ∧ j < m)) k 4 = stP t2 N (fun j => decide (k ≤ j ∧ j < m)) by rw [← pOr_down m (show k < m by omega)]; exact sB4_eq] at h; exact h, HB3.out⟩
        case measure => simp [intOf] <;> omega
      ·obtain ⟨u5, hu5⟩ : ∃ u5, u5 = u2 := ⟨_, rfl⟩
       rw [← hu5] at HL
       have HL5 := Lib.hid (HL.out.upB (h' := (m - k) * 400000) (by omega))
       have HB5 := HB
       obtain ⟨r3, hr3⟩ : ∃ r3, k % 3 = r3 := ⟨_, rfl⟩
       have hr1 : ((r3 : Int) == 1) = false := by rw [beq_eq_false_iff_ne]; omega
       go_wp2_with (first
        | ((with_reducible refine at_l ?_); refine wpList_as rfl 82 rfl (.int .i64 (r3 : Int)) ?_ ?_; (· exact ex_bin rfl rfl rfl rfl (fun w => PickDraw.remIN k 3 r3 (by omega) hr3 w) _)))
       refine wp_region_stage (l := ((_) :: (_) :: (_) :: (_) :: (_) :: (_) :: (_) :: (_) :: (_) :: (_) :: (_) :: (_) :: (_) :: (_) :: (_) :: (_) :: (_) :: (_) :: (_) :: (_) :: (_) :: (_) :: (_) :: (_) :: (_) :: (_) :: (_) :: (_) :: (_) :: (_) :: (_) :: (_) :: (_) :: (_) :: (_) :: (_) :: (_) :: (_) :: (_) :: (_) :: (_) :: (_) :: (_) :: [])) (N := 4) (fun q wj => (∃ u, LL2 wj B1 L1 (stP t1 N (fun j => decide (j < m))) T1 u1 0 B2 L2 (stgB t2 N (fun j => decide (k + 1 ≤ j ∧ j < m)) k q) T2 u ((m - k) * 400000)) ∧ Below B1 w2 wj) ((SF.is (.pointer (some ⟨L2, 0, none⟩))) :: (SF.is (.int .i64 ((k : Nat) : Int))) :: (SF.is (.slice (some adN) (n) (c))) :: (SF.is (.int .i64 ((k : Nat) : Int))) :: (SF.is (.pointer (some (adN.add (k * 1))))) :: (SF.is (.int .u64 ((N k : Nat) : Int))) :: (SF.is (.int .u8 ((N k % 256 : Nat) : Int))) :: (SF.is (.int .i64 0)) :: (SF.is (.bool false)) :: (SF.is (.bool false)) :: (SF.is (.pointer (some ⟨L2, 0, none⟩))) :: (SF.is (.int .i64 ((k : Nat) : Int))) :: (SF.is (.int .i64 0)) :: (SF.is (.bool false)) :: (SF.is (.bool false)) :: (SF.is (.bool false)) :: (SF.is (.pointer (some ⟨L2, 0, none⟩))) :: (SF.is (.int .i64 ((k : Nat) : Int))) :: (SF.is (.slice (some adN) (n) (c))) :: (SF.is (.int .i64 ((k : Nat) : Int))) :: (SF.is (.pointer (some (adN.add (k * 1))))) :: (SF.is (.int .u64 ((N k : Nat) : Int))) :: (SF.is (.int .u64 ((N k % 1000 : Nat) : Int))) :: (SF.is (.int .i64 0)) :: (SF.is (.bool false)) :: (SF.is (.bool false)) :: (SF.is (.bool false)) :: (SF.is (.pointer (some ⟨L2, 0, none⟩))) :: (SF.is (.int .i64 ((k : Nat) : Int))) :: (SF.is (.slice (some adN) (n) (c))) :: (SF.is (.int .i64 ((k : Nat) : Int))) :: (SF.is (.pointer (some (adN.add (k * 1))))) :: (SF.is (.int .u64 ((N k : Nat) : Int))) :: (SF.is (.pointer (some ⟨b2, 722, none⟩))) :: (SF.is (.slice (some adB) (s.nB) (s.cB))) :: (SF.is (.int .i64 ((k : Nat) : Int))) :: (SF.is (.pointer (some (adB.add (k * 1))))) :: (SF.is (.int .u64 ((nat (t2.Bal k) : Nat) : Int))) :: (SF.is (.int .u64 ((nat (t2.Bal k) + 1 : Nat) : Int))) :: (SF.is (.int .u64 ((N k % (nat (t2.Bal k) + 1) : Nat) : Int))) :: (SF.is (.int .i64 0)) :: (SF.is (.bool false)) :: (SF.is (.bool false)) :: []) ((none) :: (none) :: (none) :: (none) :: (none) :: (none) :: (none) :: (some 0) :: (none) :: (none) :: (none) :: (none) :: (some 1) :: (none) :: (none) :: (none) :: (none) :: (none) :: (none) :: (none) :: (none) :: (none) :: (none) :: (some 2) :: (none) :: (none) :: (none) :: (none) :: (none) :: (none) :: (none) :: (none) :: (none) :: (none) :: (none) :: (none) :: (none) :: (none) :: (none) :: (none) :: (some 3) :: (none) :: (none) :: []) (by kernel_rfl) (by kernel_rfl) (by kernel_rfl) rfl rfl (fun q wa wb ⟨⟨u, h1⟩, h2⟩ hb => ⟨⟨u, h1.below hb⟩, thnB h2 hb (by rw [hB1]; exact h2.size)⟩) (pure_is (Fs := ((.pointer (some ⟨L2, 0, none⟩)) :: (.int .i64 ((k : Nat) : Int)) :: (.slice (some adN) (n) (c)) :: (.int .i64 ((k : Nat) : Int)) :: (.pointer (some (adN.add (k * 1)))) :: (.int .u64 ((N k : Nat) : Int)) :: (.int .u8 ((N k % 256 : Nat) : Int)) :: (.int .i64 0) :: (.bool false) :: (.bool false) :: (.pointer (some ⟨L2, 0, none⟩)) :: (.int .i64 ((k : Nat) : Int)) :: (.int .i64 0) :: (.bool false) :: (.bool false) :: (.bool false) :: (.pointer (some ⟨L2, 0, none⟩)) :: (.int .i64 ((k : Nat) : Int)) :: (.slice (some adN) (n) (c)) :: (.int .i64 ((k : Nat) : Int)) :: (.pointer (some (adN.add (k * 1)))) :: (.int .u64 ((N k : Nat) : Int)) :: (.int .u64 ((N k % 1000 : Nat) : Int)) :: (.int .i64 0) :: (.bool false) :: (.bool false) :: (.bool false) :: (.pointer (some ⟨L2, 0, none⟩)) :: (.int .i64 ((k : Nat) : Int)) :: (.slice (some adN) (n) (c)) :: (.int .i64 ((k : Nat) : Int)) :: (.pointer (some (adN.add (k * 1)))) :: (.int .u64 ((N k : Nat) : Int)) :: (.pointer (some ⟨b2, 722, none⟩)) :: (.slice (some adB) (s.nB) (s.cB)) :: (.int .i64 ((k : Nat) : Int)) :: (.pointer (some (adB.add (k * 1)))) :: (.int .u64 ((nat (t2.Bal k) : Nat) : Int)) :: (.int .u64 ((nat (t2.Bal k) + 1 : Nat) : Int)) :: (.int .u64 ((N k % (nat (t2.Bal k) + 1) : Nat) : Int)) :: (.int .i64 0) :: (.bool false) :: (.bool false) :: []))) (⟨⟨u5, HL5.out⟩, HB5.out⟩) ⟨?_, ?_, ?_, ?_, ?_, ?_, ?_, ?_, ?_, ?_, ?_, ?_, ?_, ?_, ?_, ?_, ?_, ?_, ?_, ?_, ?_, ?_, ?_, ?_, ?_, ?_, ?_, ?_, ?_, ?_, ?_, ?_, ?_, ?_, ?_, ?_, ?_, ?_, ?_, ?_, ?_, ?_, ?_, trivial⟩ ?_
       ·exact fun kj wj hj => (opOb_move _ rfl (.inl rfl) rfl)
       ·exact fun kj wj hj => (opOb_move _ rfl (.inl rfl) rfl)
       ·exact fun kj wj hj => (opOb_move _ rfl (.inl rfl) rfl)
       ·exact fun kj wj hj => (opOb_move _ rfl (.inl rfl) rfl)
       ·exact fun kj wj hj => opOb_idx rfl rfl (OpK.tmp rfl) (OpK.tmp rfl) (fun w => run_idxZ (z := 1) w Tryd.underlying37 (by kernel_rfl) adN hkn.out)
       ·exact fun kj wj hj => opOb_ld rfl rfl (OpK.tmp rfl) (fun w' hb => run_ld1 w' _ _ .u64 _ (HNC.out w' (thnB hj.2 hb (by rw [hB1]; exact hj.2.size))) Tryd.underlying22)
       ·exact fun kj wj hj => opOb_cnv rfl rfl (OpK.tmp rfl) (fun w => cnv8 _ w)
       ·exact opJ_fn4 er_flg rfl rfl (OpK.tmp rfl) (OpK.tmp rfl) (OpK.tmp rfl) OpK.const (fun wj ⟨⟨u, h1⟩, h2⟩ => (flg_ok B2 L2 k ((m - k) * 400000) (N k % 256) 3 (stP t2 N (fun j => decide (k + 1 ≤ j ∧ j < m))) T2 wj u h1.lb hkV.out h256.out (by omega) (hS1.out) (HP2.out.belowB HPB.out h2) HPB2.out).mono fun e w3 ⟨v', he, k1, k2⟩ => ⟨_, he, rfl, ⟨v', h1.stepB k1 k2⟩, h2.trans ((k2.below h1.lb.lm (Nat.le_refl _)).mono hB12)⟩)
       ·exact fun kj wj hj => opOb_neSame .i64 0 rfl rfl (OpK.tmp rfl) OpK.const
       ·exact fun kj wj hj => (opOb_move _ rfl (.inl rfl) rfl)
       ·exact fun kj wj hj => opOb_on 95 rfl rfl ((opOb_move _ rfl (.inl rfl) rfl))
       ·exact fun kj wj hj => opOb_on 95 rfl rfl ((opOb_move _ rfl (.inl rfl) rfl))
       ·exact opJ_on 95 rfl rfl (opJ_fn3 er_bal rfl rfl (OpK.tmp rfl) (OpK.tmp rfl) OpK.const (fun wj ⟨⟨u, h1⟩, h2⟩ => (bal_ok B2 L2 k ((m - k) * 400000) 0 (sB1 t2 N (fun j => decide (k + 1 ≤ j ∧ j < m)) k) T2 wj u h1.lb hkV.out (by omega) (hS2.out) (HP2.out.belowB HPB.out h2) HPB2.out).mono fun e w3 ⟨v', he, k1, k2⟩ => ⟨_, he, rfl, ⟨v', h1.stepB k1 k2⟩, h2.trans ((k2.below h1.lb.lm (Nat.le_refl _)).mono hB12)⟩))
       ·exact fun kj wj hj => opOb_on 95 rfl rfl (opOb_neSame .i64 0 rfl rfl (OpK.tmp rfl) OpK.const)
       ·exact fun kj wj hj => opOb_pickF rfl rfl rfl (OpK.tmp rfl)
       ·exact fun kj wj hj => (opOb_move _ rfl (.inl rfl) rfl)
       ·exact fun kj wj hj => opOb_on 101 rfl rfl ((opOb_move _ rfl (.inl rfl) rfl))
       ·exact fun kj wj hj => opOb_on 101 rfl rfl ((opOb_move _ rfl (.inl rfl) rfl))
       ·exact fun kj wj hj => opOb_on 101 rfl rfl ((opOb_move _ rfl (.inl rfl) rfl))
       ·exact fun kj wj hj => opOb_on 101 rfl rfl ((opOb_move _ rfl (.inl rfl) rfl))
       ·exact fun kj wj hj => opOb_on 101 rfl rfl (opOb_idx rfl rfl (OpK.tmp rfl) (OpK.tmp rfl) (fun w => run_idxZ (z := 1) w Tryd.underlying37 (by kernel_rfl) adN hkn.out))
       ·exact fun kj wj hj => opOb_on 101 rfl rfl (opOb_ld rfl rfl (OpK.tmp rfl) (fun w' hb => run_ld1 w' _ _ .u64 _ (HNC.out w' (thnB hj.2 hb (by rw [hB1]; exact hj.2.size))) Tryd.underlying22))
       ·exact fun kj wj hj => opOb_on 101 rfl rfl (opOb_bin rfl rfl rfl (OpK.tmp rfl) OpK.const (fun w => ShufLawOps.remU _ 1000 _ (by omega) rfl (HN.out k) w))
       ·exact opJ_on 101 rfl rfl (opJ_fn3 er_sco rfl rfl (OpK.tmp rfl) (OpK.tmp rfl) (OpK.tmp rfl) (fun wj ⟨⟨u, h1⟩, h2⟩ => (sco_ok B2 L2 k ((m - k) * 400000) (N k % 1000) (sB2 t2 N (fun j => decide (k + 1 ≤ j ∧ j < m)) k) T2 wj u h1.lb hkV.out h1000.out (hS3.out) (HP2.out.belowB HPB.out h2) HPB2.out).mono fun e w3 ⟨v', he, k1, k2⟩ => ⟨_, he, rfl, ⟨v', h1.stepB k1 k2⟩, h2.trans ((k2.below h1.lb.lm (Nat.le_refl _)).mono hB12)⟩))
       ·exact fun kj wj hj => opOb_on 101 rfl rfl (opOb_neSame .i64 0 rfl rfl (OpK.tmp rfl) OpK.const)
       ·exact fun kj wj hj => opOb_pickF rfl rfl rfl (OpK.tmp rfl)
       ·exact fun kj wj hj => (opOb_move _ rfl (.inl rfl) rfl)
       ·exact fun kj wj hj => opOb_on 112 rfl rfl ((opOb_move _ rfl (.inl rfl) rfl))
       ·exact fun kj wj hj => opOb_on 112 rfl rfl ((opOb_move _ rfl (.inl rfl) rfl))
       ·exact fun kj wj hj => opOb_on 112 rfl rfl ((opOb_move _ rfl (.inl rfl) rfl))
       ·exact fun kj wj hj => opOb_on 112 rfl rfl ((opOb_move _ rfl (.inl rfl) rfl))
       ·exact fun kj wj hj => opOb_on 112 rfl rfl (opOb_idx rfl rfl (OpK.tmp rfl) (OpK.tmp rfl) (fun w => run_idxZ (z := 1) w Tryd.underlying37 (by kernel_rfl) adN hkn.out))
       ·exact fun kj wj hj => opOb_on 112 rfl rfl (opOb_ld rfl rfl (OpK.tmp rfl) (fun w' hb => run_ld1 w' _ _ .u64 _ (HNC.out w' (thnB hj.2 hb (by rw [hB1]; exact hj.2.size))) Tryd.underlying22))
       ·exact fun kj wj hj => opOb_on 112 rfl rfl (opOb_fld rfl rfl (OpK.tmp rfl) (fun w => by simp [go_sem]))
       ·exact fun kj wj hj => opOb_on 112 rfl rfl (opOb_ld rfl rfl (OpK.tmp rfl) (fun w' hb => PickDraw.run_ldSl w' _ _ _ _ (HX7.out w' (thnB hj.2 hb (by rw [hB1]; exact hj.2.size))) Tryd.underlying37))
       ·exact fun kj wj hj => opOb_on 112 rfl rfl ((opOb_move _ rfl (.inl rfl) rfl))
       ·exact fun kj wj hj => opOb_on 112 rfl rfl (opOb_idx rfl rfl (OpK.tmp rfl) (OpK.tmp rfl) (fun w => run_idxZ (z := 1) w Tryd.underlying37 (by kernel_rfl) adB hkB.out))
       ·exact fun kj wj hj => opOb_on 112 rfl rfl (opOb_ld rfl rfl (OpK.tmp rfl) (fun w' hb => run_ld1 w' _ _ .u64 _ (HBC.out w' (thnB hj.2 hb (by rw [hB1]; exact hj.2.size))) Tryd.underlying22))
       ·exact fun kj wj hj => opOb_on 112 rfl rfl (opOb_bin rfl rfl rfl (OpK.tmp rfl) OpK.const (fun w => addU _ (Nat.le_trans hBk.out (by omega)) w))
       ·exact fun kj wj hj => opOb_on 112 rfl rfl (opOb_bin rfl rfl rfl (OpK.tmp rfl) (OpK.tmp rfl) (fun w => ShufLawOps.remU _ _ _ (Nat.succ_pos _) rfl (HN.out k) w))
       ·exact opJ_on 112 rfl rfl (opJ_fn3 er_bal rfl rfl (OpK.tmp rfl) (OpK.tmp rfl) (OpK.tmp rfl) (fun wj ⟨⟨u, h1⟩, h2⟩ => (bal_ok B2 L2 k ((m - k) * 400000) (N k % (nat (t2.Bal k) + 1)) (sB3 t2 N (fun j => decide (k + 1 ≤ j ∧ j < m)) k) T2 wj u h1.lb hkV.out hm.out (hS4.out) (HP2.out.belowB HPB.out h2) HPB2.out).mono fun e w3 ⟨v', he, k1, k2⟩ => ⟨_, he, rfl, ⟨v', h1.stepB k1 k2⟩, h2.trans ((k2.below h1.lb.lm (Nat.le_refl _)).mono hB12)⟩))
       ·exact fun kj wj hj => opOb_on 112 rfl rfl (opOb_neSame .i64 0 rfl rfl (OpK.tmp rfl) OpK.const)
       ·exact fun kj wj hj => opOb_pickF rfl rfl rfl (OpK.tmp rfl)
       ·intro wn hj
        simp only [fin, SF.is, forall_eq]
        simp only [pcX]
        obtain ⟨⟨u3, h1⟩, h2⟩ := hj
        have HL3 := Lib.hid h1
        have HB3 := Lib.hid h2
        clear h1 h2
        go_wp2_with fail
        go_roundw
        case rel => exact ⟨k, u3, by go_num, by omega, by have h := HL3.out; rw [show stgB t2 N (fun j => decide (k + 1 ≤ j ∧ j < m)) k 4 = stP t2 N (fun j => decide (k ≤ j ∧ j < m)) by rw [← pOr_down m (show k < m by omega)]; exact sB4_eq] at h; exact h, HB3.out⟩
        case measure => simp [intOf] <;> omega
     ·obtain rfl : q = 0 := by omega
      rw [show ((0 : Nat) : Int) - 1 = -1 by omega]
      have HRsb := Lib.hid (stP_right (N := N) (p := fun j => decide (0 ≤ j ∧ j < m)) HRb.out)
      have HEs := Lib.hid (stP_seq (N := N) HM1.out HM2.out (p := fun j => decide (j < m)) (q := fun j => decide (0 ≤ j ∧ j < m)) (fun j => by simp))
      obtain ⟨sa, hsa⟩ : ∃ sa, sa = (stP t1 N (fun j => decide (j < m))) := ⟨_, rfl⟩
      obtain ⟨sb, hsb⟩ : ∃ sb, sb = stP t2 N (fun j => decide (0 ≤ j ∧ j < m)) := ⟨_, rfl⟩
      rw [← hsa, ← hsb] at HL HEs
      rw [← hsa] at HRm
      have HEq1 : Hid (∀ i, i < 32 → stN sa i = stN sb i) := Lib.hid (fun i hi => ((treeN_cg (x := stX sb) (y := stX sa) (dep_ge 24) (fun i hi => by unfold stX; exact stC_cg HEs.out HRm.out HL.out.la.lm.ok.sc _ (by omega) _ (by omega))) i hi).symm)
      clear hsa hsb HEs HRsb hq0 hq
      go_upto_region 21 with (first
       | (go_at_call 13; refine (state_look B1 L1 sa T1 _ u1 HL.out.la.lm HRm.out).mono ?_; rintro r w6 ⟨t, rfl, hok, hsm, hb⟩; have HOk := Lib.hid hok; have HSm := Lib.hid hsm; have HL6 := Lib.hid (HL.out.below hb); have HB6 := Lib.hid (thnB HB.out hb (by rw [hB1]; exact HB.out.size)); clear hok hsm hb)
       | (go_at_call 12; refine (rootState_look t _ HOk.out (HRm.out.same HSm.out) (HP2.out.belowB HPB.out HB6.out)).mono ?_; rintro r w7 ⟨rfl, hb⟩; have HL7 := Lib.hid (HL6.out.below hb); have HB7 := Lib.hid (thnB HB6.out hb (by rw [hB1]; exact HB6.out.size)); clear hb)
       | (refine wpList_new rfl rfl 24 24 10 (.tmp 133) rfl rfl rfl 32 (Array.replicate 32 (.int .u8 0)) (by kernel_rfl) (by rfl) (arr 32 (u8v (stN t))) rfl rfl (size_arr _ _) (by kernel_rfl) (fun q hq => ⟨_, arr_at _ _ _ hq, rfl⟩) (u8v (stN t)) (fun q hq => arr_at _ _ _ hq) ?_; intro w8 hr hb; have HR8 := Lib.hid hr; have HL8 := Lib.hid (HL7.out.below hb); have HB8 := Lib.hid (thnB HB7.out hb (by rw [hB1]; exact HB7.out.size)); clear hr hb; simp only [pcX]))
      obtain ⟨b10, hb10⟩ : ∃ b10, b10 = w7.heap.size := ⟨_, rfl⟩
      rw [← hb10] at HR8
      rw [← hb10]
      have HN1 : Hid (¬ LOwn L1 sa T1 u1 b10) := Lib.hid (fun hb => by have := HL7.out.la.lm.lt hb; omega)
      have HN2 : Hid (¬ LOwn L2 sb T2 u2 b10) := Lib.hid (fun hb => by have := HL7.out.lb.lm.lt hb; omega)
      have HEq2 : Hid (∀ i, i < 32 → stN t i = stN sa i) := Lib.hid (treeN_cg (x := stX t) (y := stX sa) (dep_ge 24) (fun i hi => by unfold stX; exact stC_cg HSm.out.seq HRm.out HL7.out.la.lm.ok.sc _ (by omega) _ (by omega)))
      refine wp_region_stage (l := [_, _, _, _, _, _, _, _, _, _, _, _, _, _, _, _]) (N := 3) (fun q wj => (∃ u v, LL2 wj B1 L1 sa T1 u (q * 400000) B2 L2 sb T2 v ((m + q) * 400000) ∧ ¬ LOwn L1 sa T1 u b10 ∧ ¬ LOwn L2 sb T2 v b10) ∧ wj.rowIs b10 24 32 (u8v (stN t)) ∧ Below B1 w2 wj) [SF.is (.pointer (some ⟨L1, 0, none⟩)), SF.is (rootV (stN sa)), SF.is (.pointer (some ⟨L2, 0, none⟩)), SF.is (rootV (stN sb)), SF.is (.bool true), SF.is (.bool true), SF.is (.int .i64 0), SF.is (.bool true), SF.is (.bool true), SF.is (.bool true), SF.is (rootV (stN t)), SF.is (.pointer (some ⟨L1, 0, none⟩)), SF.is (rootV (stN sa)), SF.is (.bool true), SF.is (.bool true), SF.is (.bool true)] [none, some 0, none, some 1, none, none, none, none, none, none, none, none, some 2, none, none, none] (by kernel_rfl) (by kernel_rfl) (by kernel_rfl) rfl rfl (fun q wa wb ⟨⟨u, v, h1, n1, n2⟩, h2, h3⟩ hb => ⟨⟨u, v, h1.below hb, n1, n2⟩, row_below h2 hb h2.lt, thnB h3 hb (by rw [hB1]; exact h3.size)⟩) (pure_is (Fs := [.pointer (some ⟨L1, 0, none⟩), rootV (stN sa), .pointer (some ⟨L2, 0, none⟩), rootV (stN sb), .bool true, .bool true, .int .i64 0, .bool true, .bool true, .bool true, rootV (stN t), .pointer (some ⟨L1, 0, none⟩), rootV (stN sa), .bool true, .bool true, .bool true])) (⟨⟨u1, u2, HL8.out.upAB (by omega) (by omega), HN1.out, HN2.out⟩, HR8.out, HB8.out⟩) ⟨?_, ?_, ?_, ?_, ?_, ?_, ?_, ?_, ?_, ?_, ?_, ?_, ?_, ?_, ?_, ?_, trivial⟩ ?_
      ·exact fun kj wj hj => (opOb_move _ rfl (.inl rfl) rfl)
      ·exact opJ_fn1 er_root rfl rfl (OpK.tmp rfl) (fun wj ⟨⟨u, v, h1, n1, n2⟩, h2, h3⟩ => (live_root_look B1 L1 (0 * 400000) sa T1 wj u h1.la (by simp) (HP2.out.belowB HPB.out h3) HPB.out (HPt2.out.below h3 HTB.out) HTB.out).mono fun e w3 ⟨v', he, k1, k2⟩ => ⟨_, he, rfl, ⟨v', v, (h1.stepA k1 k2).upAB (by omega) (by omega), fun ho => (k2.newO _ ho).elim n1 (fun h => absurd h2.lt (by omega)), n2⟩, k2.chg.row h2 n1, h3.trans (k2.below h1.la.lm (Nat.le_refl _))⟩)
      ·exact fun kj wj hj => (opOb_move _ rfl (.inl rfl) rfl)
      ·exact opJ_fn1 er_root rfl rfl (OpK.tmp rfl) (fun wj ⟨⟨u, v, h1, n1, n2⟩, h2, h3⟩ => (live_root_look B2 L2 ((m + 1) * 400000) sb T2 wj v h1.lb (by omega) (HP2.out.belowB HPB.out h3) HPB2.out (HPt2.out.below h3 HTB.out) HTB2.out).mono fun e w3 ⟨v', he, k1, k2⟩ => ⟨_, he, rfl, ⟨u, v', (h1.stepB k1 k2).upAB (by omega) (by omega), n1, fun ho => (k2.newO _ ho).elim n2 (fun h => absurd h2.lt (by omega))⟩, k2.chg.row h2 n2, h3.trans ((k2.below h1.lb.lm (Nat.le_refl _)).mono hB12)⟩)
      ·exact fun kj wj hj => LiveAwake.opOb_eqRB true rfl rfl (OpK.tmp rfl) (OpK.tmp rfl) ⟨fun _ => HEq1.out, fun _ => rfl⟩
      ·exact fun kj wj hj => (opOb_move _ rfl (.inl rfl) rfl)
      ·exact fun kj wj hj => opOb_on 140 rfl rfl ((opOb_move _ rfl (.inl rfl) rfl))
      ·exact fun kj wj hj => opOb_on 140 rfl rfl (opOb_eqInt .i64 0 0 true Tryd.underlying54 (by simp) rfl rfl (OpK.tmp rfl) OpK.const)
      ·exact fun kj wj hj => opOb_pickT rfl rfl rfl (OpK.tmp rfl)
      ·exact fun kj wj hj => (opOb_move _ rfl (.inl rfl) rfl)
      ·exact fun kj wj hj => opOb_on 144 rfl rfl (opOb_ld rfl rfl (OpK.tmp rfl) (fun w' hb => ld_all hj.2.1 hj.2.1.lt Tryd.underlying24 rfl (by kernel_rfl) w' hb))
      ·exact fun kj wj hj => opOb_on 144 rfl rfl ((opOb_move _ rfl (.inl rfl) rfl))
      ·exact opJ_on 144 rfl rfl (opJ_fn1 er_root rfl rfl (OpK.tmp rfl) (fun wj ⟨⟨u, v, h1, n1, n2⟩, h2, h3⟩ => (live_root_look B1 L1 (2 * 400000) sa T1 wj u h1.la (by simp) (HP2.out.belowB HPB.out h3) HPB.out (HPt2.out.below h3 HTB.out) HTB.out).mono fun e w3 ⟨v', he, k1, k2⟩ => ⟨_, he, rfl, ⟨v', v, (h1.stepA k1 k2).upAB (by omega) (by omega), fun ho => (k2.newO _ ho).elim n1 (fun h => absurd h2.lt (by omega)), n2⟩, k2.chg.row h2 n1, h3.trans (k2.below h1.la.lm (Nat.le_refl _))⟩))
      ·exact fun kj wj hj => opOb_on 144 rfl rfl (LiveAwake.opOb_eqRB true rfl rfl (OpK.tmp rfl) (OpK.tmp rfl) ⟨fun _ => HEq2.out, fun _ => rfl⟩)
      ·exact fun kj wj hj => opOb_pickT rfl rfl rfl (OpK.tmp rfl)
      ·exact fun kj wj hj => (opOb_move _ rfl (.inr rfl) rfl)
      ·intro wn hj
       simp only [fin, SF.is, forall_eq]
       simp only [pcX]
       obtain ⟨_, _, h3⟩ := hj
       rw [hB1] at h3
       have HBe := Lib.hid (thnB HBW.out h3 HBW.out.size)
       clear h3
       go_wp2_with fail
       go_ret
       exact ⟨rfl, HBe.out⟩
end Go.Proofs.YtomilckcgmhfcaaDoor
