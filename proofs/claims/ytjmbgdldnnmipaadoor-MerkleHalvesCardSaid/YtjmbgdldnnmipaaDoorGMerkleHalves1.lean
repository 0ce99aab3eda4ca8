/- A part of what the proofs stand on: MerkleHoldsLaw, MerkleHalves0, MerkleHalvesHi, MerkleHalvesLo, MerkleHalvesLaw. -/
import Derived.Test.YtjmbgdldnnmipaaDoorGMer16
import Derived.Test.YtjmbgdldnnmipaaDoorGMer15
/- The law MerkleHolds. (Printed by a program of mine.) -/
namespace Go.Proofs.YtjmbgdldnnmipaaDoor
set_option maxRecDepth 40000
open Go.RowKit
/-- Whether a branch holds. -/
def holdsB (n : Nat) (x y r : Nat → Nat) (p : Nat) : Bool := if n ≤ 64 then eqB (upN y x p n) r else false
theorem holds_any (n c : Nat) (A : Option Addr) (x y r : Nat → Nat) (p : Nat) (w : World) (hb : Rd w w.heap.size A (n * 32) (u8v x)) (hx : ∀ i, x i < 256) (hy : ∀ i, y i < 256) (hnc : n ≤ c) (hp : p < 18446744073709551616) (hpk : ShaPkg w) :
    Calls Tryd.prog 15 #[rootV y, .slice A n c, .int .u64 (p : Int), rootV r] w fun e w' => e = .returned (.bool (holdsB n x y r p)) ∧ Below w.heap.size w w' := by
  unfold holdsB
  by_cases h : n ≤ 64
  · rw [if_pos h]; exact holds_look n c A x y r p w hb hx hy hnc h hp hpk
  · rw [if_neg h]; exact holds_lookF n c A y r p w (by omega)
theorem holds_refA (n c : Nat) (A : Option Addr) (x y r : Nat → Nat) (p : Nat) (w : World) (hb : Rd w w.heap.size A (n * 32) (u8v x)) (hx : ∀ i, x i < 256) (hy : ∀ i, y i < 256) (hnc : n ≤ c) (hp : p < 18446744073709551616) (hpk : RefPkg w) :
    Calls Tryd.prog 16 #[rootV y, .slice A n c, .int .u64 (p : Int), rootV r] w fun e w' => e = .returned (.bool (holdsB n x y r p)) ∧ Below w.heap.size w w' := by
  unfold holdsB
  by_cases h : n ≤ 64
  · rw [if_pos h]; exact holds_ref n c A x y r p w hb hx hy hnc h hp hpk
  · rw [if_neg h]; exact holds_refF n c A y r p w (by omega)
theorem run_bs0_R (w : World) : (Instr.buildSlice 24 0 #[]).run Tryd.prog w = .ok (.slice (some ⟨w.heap.size, 0, none⟩) 0 0) (w.alloc (.cells #[] 23)) := by simp [go_sem]
namespace MerkleHoldsLaw
theorem ent_h1 (vs : Array Value) (w : World) : (callFunc 15 vs).run Tryd.prog w = .ok (.enter 15 vs) w := by kernel_rfl
theorem ent_h2 (vs : Array Value) (w : World) : (callFunc 16 vs).run Tryd.prog w = .ok (.enter 16 vs) w := by kernel_rfl
end MerkleHoldsLaw
open MerkleHoldsLaw in
set_option maxHeartbeats 4000000 in
theorem merkleHolds_law (w : World) (y : Nat → Nat) (hy : ∀ i, y i < 256) (A : Option Addr) (n c : Nat) (x : Nat → Nat) (hA : Rd w w.heap.size A (n * 32) (u8v x)) (hx : ∀ i, x i < 256) (hn : n * 32 ≤ 140737488351232) (hnc : n ≤ c) (p : Nat) (hpp : p < 18446744073709551616) (r : Nat → Nat) (_hr : ∀ i, r i < 256) (hp : ShaPkg w) (hpr : RefPkg w) :
    Calls Tryd.prog 3 #[rootV y, .slice A n c, .int .u64 (p : Int), rootV r] w fun e w' => e = .returned (.bool true) ∧ Below w.heap.size w w' := by
  have HX := Lib.hid hA
  have HXl := Lib.hid hx
  have HYl := Lib.hid hy
  have HP := Lib.hid hp
  have HPR := Lib.hid hpr
  have HS0 := Lib.hid (HS.nil w)
  clear hA hx hy hp hpr
  go_enter Tryd.func3, Tryd.ntmps3
  go_upto_region 3 with (first
    | (refine wpList_boxL rfl 23 _ 4 rfl rfl HS0.out 32 (u8v y) rfl ?_; intro b4 w4 hb4 hc4 hs; have HS4 := Lib.hid hs; clear hs)
    | (refine wpList_boxL rfl 23 _ 7 rfl rfl HS4.out 32 (u8v r) rfl ?_; intro b7 w7 hb7 hc7 hs; have HS7 := Lib.hid hs; clear hs)
    | (go_at_call 14; refine (awake05_any _ (HP.out.below (HS7.out.out (by simp; omega)))).mono ?_; rintro e wa ⟨rfl, hb⟩; have HA := Lib.hid (HS7.out.below hb); clear hb))
  have HW := Lib.hid (HA.out.out (by simp; omega))
  refine wp_region_facts (B := wa.heap.size) (w0 := wa) [SF.is (rootV y), SF.own0Z wa.heap.size 23 32, SF.is (.slice (A) (n) (c)), SF.ownZ wa.heap.size 23 32 n (u8v x), SF.is (.int .u64 ((p : Nat) : Int)), SF.is (rootV r), SF.is (.bool (holdsB n x y r p)), SF.is (rootV y), SF.is (.slice (A) (n) (c)), SF.is (.int .u64 ((p : Nat) : Int)), SF.is (rootV r), SF.is (.bool (holdsB n x y r p)), SF.is (.bool true), SF.is (.bool true)] (by kernel_rfl) (by kernel_rfl) rfl (Nat.le_refl _) (Below.refl _ _) ⟨?_, ?_, ?_, ?_, ?_, ?_, ?_, ?_, ?_, ?_, ?_, ?_, ?_, ?_, trivial⟩ ?_
  · exact opOb_ld rfl rfl (OpK.tmp rfl) (fun w' hb => ld_all (HA.out.row 1 rfl) (HA.out.row 1 rfl).lt Tryd.underlying23 rfl (by kernel_rfl) w' hb)
  · exact opOb_bs0Z 32 rfl rfl run_bs0_R _ (Nat.le_refl _)
  · exact (opOb_move _ rfl (.inl rfl) rfl)
  · exact opOb_app0Z (s := 12) (x := 13) wa.heap.size (z := .agg (Array.replicate 32 (.int .u8 0))) (k := 32) (bytes := 32) (by kernel_rfl) Tryd.underlying24 (by rfl) (by omega) rfl rfl rfl rfl (fun w' hb => (HX.out.below (HW.out.trans (hb.mono HW.out.size)))) (fun _ _ => rfl) ⟨by omega, by omega⟩ (Nat.le_refl _)
  · exact (opOb_move _ rfl (.inl rfl) rfl)
  · exact opOb_ld rfl rfl (OpK.tmp rfl) (fun w' hb => ld_all (HA.out.row 0 rfl) (HA.out.row 0 rfl).lt Tryd.underlying23 rfl (by kernel_rfl) w' hb)
  · exact opOb_fn4S ent_h1 rfl rfl (OpK.tmp rfl) rfl (OpK.tmp rfl) (OpK.tmp rfl) (fun w' v hb hv => by obtain ⟨A', c', rfl, ho⟩ := hv; exact (holds_any n c' A' x y r p w' ho.rd HXl.out HYl.out ho.cap hpp (HP.out.below (HW.out.trans (hb.mono HW.out.size)))).mono fun e w'' ⟨he, hb2⟩ => ⟨_, he, rfl, hb2⟩)
  · exact opOb_ld rfl rfl (OpK.tmp rfl) (fun w' hb => ld_all (HA.out.row 1 rfl) (HA.out.row 1 rfl).lt Tryd.underlying23 rfl (by kernel_rfl) w' hb)
  · exact (opOb_move _ rfl (.inl rfl) rfl)
  · exact (opOb_move _ rfl (.inl rfl) rfl)
  · exact opOb_ld rfl rfl (OpK.tmp rfl) (fun w' hb => ld_all (HA.out.row 0 rfl) (HA.out.row 0 rfl).lt Tryd.underlying23 rfl (by kernel_rfl) w' hb)
  · exact opOb_fn4 ent_h2 rfl rfl (OpK.tmp rfl) (OpK.tmp rfl) (OpK.tmp rfl) (OpK.tmp rfl) (fun w' hb => (holds_refA n c A x y r p w' ((HX.out.below (HW.out.trans (hb.mono HW.out.size))).more (Nat.le_trans HW.out.size hb.size)) HXl.out HYl.out hnc hpp (HPR.out.below (HW.out.trans (hb.mono HW.out.size)))).mono fun e w'' ⟨he, hb2⟩ => ⟨_, he, rfl, hb2⟩)
  · exact opOb_eqBool (holdsB n x y r p) Tryd.underlying4 rfl rfl (OpK.tmp rfl) (OpK.tmp rfl)
  · exact (opOb_move _ rfl (.inr rfl) rfl)
  · intro w' hb
    simp only [fin, SF.is, SF.own0Z, SF.ownZ, forall_eq]
    simp only [Act.put, List.setIfInBounds_toArray, List.set_cons_succ, List.set_cons_zero]
    rintro _ _ _ _
    have hend := HW.out.trans (hb.mono HW.out.size)
    go_wp2_with fail
    go_ret
    exact ⟨rfl, hend⟩
end Go.Proofs.YtjmbgdldnnmipaaDoor
/- The law MerkleHalves: what its ways share. (Printed by a program of mine.) -/
namespace Go.Proofs.YtjmbgdldnnmipaaDoor
set_option maxRecDepth 40000
open Go.RowKit
theorem dep_pow (k : Nat) : dep (2 ^ k) = k := by
  have h1 := dep_le (l := 2 ^ k) (k := k) (Nat.le_refl _)
  have h2 := dep_ge (2 ^ k)
  rcases Nat.lt_or_ge (dep (2 ^ k)) k with h | h
  · have := Nat.pow_lt_pow_right (a := 2) (by omega) h; omega
  · omega
theorem treeN_two (e n h : Nat) (x : Nat → Nat) (hh : min (2 ^ e) n = h) : treeN (e + 1) n x = shaB (catN 32 (treeN e h x) (treeN e (n - h) (fun i => x (h * 32 + i)))) 64 := by
  by_cases hn : n = 0
  · subst hn
    obtain rfl : h = 0 := by omega
    rw [treeN_zero, treeN_zero, treeN_zero]; rfl
  · exact treeN_succ e n h x hn hh
/-- A row of the call's own that grows in memory that is followed. -/
theorem HS.appOld {w0 w w' : World} {rows : List RowSpec} {A : Option Addr} (h : HS w0 w rows) (hg : w.grownBy w' (A.map (·.block))) {B : Nat} (hA : ∀ ad, A = some ad → B ≤ ad.block) (hr : w0.heap.size ≤ B ∧ ∀ r ∈ rows, r.b < B) : HS w0 w' rows :=
  ⟨hg.os.trans h.os, hg.tape.trans h.tape, hg.output.trans h.output, Nat.le_trans h.size hg.size, fun k hk hr' => (hg.block k (Nat.lt_of_lt_of_le hk h.size) (fun e => by
    cases A with
    | none => cases e
    | some ad => injection e with e; have e' : k = ad.block := e; have := hA ad rfl; have := hr.1; omega)).trans (h.block k hk hr'), fun r hr' => (h.has r hr').of_block (hg.block r.b (h.has r hr').lt (fun e => by
    cases A with
    | none => cases e
    | some ad => injection e with e; have e' : r.b = ad.block := e; have := hA ad rfl; have := hr.2 r hr'; omega)), h.apart⟩
namespace MerkleHalvesLaw
theorem mul2 (m : Nat) (h : m ≤ 4611686018427387903) (w : World) : (binOp .mul 3 (.int .i64 2) (.int .i64 (m : Int))).run Tryd.prog w = .ok (.int .i64 ((2 * m : Nat) : Int)) w := by
  simp [go_sem, IntKind.wrap, IntKind.bits, IntKind.signed]
  omega
theorem quoN (N H : Nat) (h2 : H ≤ 4611686018427387903) (h : N = 2 * H) (w : World) : (binOp .quo 3 (.int .i64 (N : Int)) (.int .i64 2)).run Tryd.prog w = .ok (.int .i64 (H : Int)) w := by
  rw [h]; exact MerkleUp.quo2 H h2 w
theorem tup {f g : Nat → Nat} (h : ∀ i, i < 32 → f i = g i) : rootV f = rootV g := rootV_ext h
end MerkleHalvesLaw
end Go.Proofs.YtjmbgdldnnmipaaDoor
/- One way through the law MerkleHalves. (Printed by a program of mine.) -/
namespace Go.Proofs.YtjmbgdldnnmipaaDoor
set_option maxRecDepth 40000
open Go.RowKit
open MerkleHalvesLaw in
set_option maxHeartbeats 16000000 in
theorem halves_hi (w : World) (A : Option Addr) (n c : Nat) (x : Nat → Nat) (hA : Rd w w.heap.size A (n * 32) (u8v x)) (hx : ∀ i, x i < 256) (_hn : n * 32 ≤ 140737488351232) (hnc : n ≤ c) (d e H N : Nat) (hd1 : 1 ≤ d ∧ d ≤ 30) (hde : d = e + 1) (hH : H = 2 ^ e) (_he : e ≤ 29) (hH1 : 1 ≤ H) (hH2 : H ≤ 536870912) (hN : N = 2 ^ d) (hNH : N = 2 * H) (hbig : ¬ N < n) (hHn : H < n) (hp : ShaPkg w) :
    Calls Tryd.prog 4 #[.slice A n c, .int .i64 (d : Int)] w fun e w' => e = .returned (.bool true) ∧ Below w.heap.size w w' := by
  have HX := Lib.hid hA
  have HXl := Lib.hid hx
  have HP := Lib.hid hp
  have HS0 := Lib.hid (HS.nil w)
  have HN := Lib.hid hN
  have HNH := Lib.hid hNH
  have hNa : N ≤ 2 * H := Nat.le_of_eq hNH
  have hNb : 2 * H ≤ N := Nat.le_of_eq hNH.symm
  have hN2 : 2 * N = 2 ^ (d + 1) := by rw [hN, Nat.pow_succ]; omega
  obtain ⟨N2, hM⟩ : ∃ N2, N2 = 2 * N := ⟨_, rfl⟩
  have hMa : n ≤ N2 ∧ N2 ≤ 2147483648 := by omega
  rw [← hM] at hN2
  have HM := Lib.hid hM
  clear hA hx hp hNH hM
  have t1 : decide ((d : Int) < 1) = false := decide_eq_false (by omega)
  have t2 : decide ((30 : Int) < (d : Int)) = false := decide_eq_false (by omega)
  have t3 : decide ((N : Int) < (n : Int)) = false := decide_eq_false (by omega)
  obtain ⟨h, hh⟩ : ∃ h, min H n = h := ⟨_, rfl⟩
  obtain ⟨W, hW⟩ : ∃ W, W = treeN d n x := ⟨_, rfl⟩
  obtain ⟨a, ha⟩ : ∃ a, a = treeN e h x := ⟨_, rfl⟩
  obtain ⟨b, hb⟩ : ∃ b, b = treeN e (n - h) (fun i => x (h * 32 + i)) := ⟨_, rfl⟩
  obtain ⟨W2, hW2⟩ : ∃ W2, W2 = treeN (d + 1) n x := ⟨_, rfl⟩
  obtain ⟨Zd, hZ⟩ : ∃ Zd, Zd = zrN d := ⟨_, rfl⟩
  have Ha := Lib.hid (show ∀ i, a i < 256 by rw [ha]; exact treeN_lt HXl.out _ _)
  have Hb := Lib.hid (show ∀ i, b i < 256 by rw [hb]; exact treeN_lt (fun _ => HXl.out _) _ _)
  have HWl := Lib.hid (show ∀ i, W i < 256 by rw [hW]; exact treeN_lt HXl.out _ _)
  have HZl := Lib.hid (show ∀ i, Zd i < 256 by rw [hZ]; exact zrN_lt _)
  have HWab := Lib.hid (show Ending.returned (rootV (shaB (catN 32 a b) 64)) = .returned (rootV W) by rw [hW, ha, hb, hde, ← treeN_two e n h x (by rw [← hH]; exact hh)])
  have HW2 := Lib.hid (show Ending.returned (rootV (shaB (catN 32 W Zd) 64)) = .returned (rootV W2) by
    rw [hW2, hW, hZ, treeN_two d n n x (by rw [← hN]; omega), Nat.sub_self, treeN_zero])
  have HEW := Lib.hid (show treeN (dep N) n x = W by rw [hN, dep_pow, hW])
  have HEa := Lib.hid (show treeN (dep H) h x = a by rw [hH, dep_pow, ha])
  have HEb := Lib.hid (show treeN (dep H) (n - h) (fun i => x (h * 32 + i)) = b by rw [hH, dep_pow, hb])
  have HEW2 := Lib.hid (show treeN (dep N2) n x = W2 by rw [hN2, dep_pow, hW2])
  have HEZ := Lib.hid hZ.symm
  have HEM := Lib.hid (fun (hlt : n < N) => show rootV (treeN (dep N) (n + 1) (catN (n * 32) x fun _ => 0)) = rootV W by
    rw [hN, dep_pow, hW]
    refine rootV_ext fun i hi => ?_
    rw [tree_full d (n + 1) _ (by omega) i hi, tree_full d n x (by omega) i hi]
    refine fullN_congr _ _ _ (fun j _ => ?_) i hi
    unfold padN catN
    by_cases h1 : j < n * 32
    · rw [if_pos (show j < (n + 1) * 32 by omega), if_pos h1]
    · rw [if_neg h1]; split <;> rfl)
  obtain ⟨m, hm⟩ : ∃ m, n - h = m := ⟨_, rfl⟩
  rw [hm] at HEb
  clear hW ha hb hW2 hZ hN hN2 hH hde
  have tok1 := Tok.mk 1
  obtain rfl : H = h := by omega
  have t4 : decide ((H : Int) < (n : Int)) = true := decide_eq_true (by omega)
  clear hh
  go_enter Tryd.func4, Tryd.ntmps4
  obtain ⟨A2, hct⟩ := cut_fromZ (P := Tryd.prog) Tryd.underlying24 (z := 32) (by kernel_rfl) (by omega) A n c H (by omega) hnc
  obtain ⟨ck, hck⟩ : ∃ ck, c - H = ck := ⟨_, rfl⟩
  rw [hm, hck] at hct
  have hm1 : m ≤ ck ∧ m ≤ H ∧ m ≤ n := by omega
  have HCt := Lib.hid hct
  clear hct hm hck
  go_upto_region 12 with (first
    | (go_at_call 14; refine (awake05_any _ HP.out).mono ?_; rintro e w1 ⟨rfl, hb⟩; have HS1 := Lib.hid (HS0.out.below hb); have HX1 := Lib.hid ((HX.out.below hb).more hb.size); have HB1 := Lib.hid hb; clear hb)
    | (refine wpList_asG rfl rfl rfl 28 rfl (.int .u64 (d : Int)) ?_ ?_; (· exact ex_cnv rfl rfl (fun w => TreeRef.cvu d (by omega) w) _))
    | (refine wpList_asG rfl rfl rfl 29 rfl (.int .i64 (N : Int)) ?_ ?_; (· rw [HN.out]; exact ex_bin rfl rfl rfl rfl (fun w => TreeRef.shl1 d (by omega) w) _))
    | (refine wpList_as rfl 33 rfl (.int .u64 (d : Int)) ?_ ?_; (· exact ex_cnv rfl rfl (fun w => TreeRef.cvu d (by omega) w) _))
    | (refine wpList_as rfl 34 rfl (.int .i64 (N : Int)) ?_ ?_; (· rw [HN.out]; exact ex_bin rfl rfl rfl rfl (fun w => TreeRef.shl1 d (by omega) w) _))
    | (go_at_call 17; have hx : Tok 1 := (by assumption); refine (tree_ok n c A x N _ HX1.out HXl.out hnc (by omega) (by omega) (HP.out.below HB1.out)).mono ?_; clear hx tok1; rintro e w2 ⟨rfl, hb⟩; rw [HEW.out]; have HS2 := Lib.hid (HS1.out.below hb); have HX2 := Lib.hid ((HX1.out.below hb).more hb.size); clear hb; have tok2 := Tok.mk 2)
    | (refine wpList_allocL rfl 23 6 rfl rfl HS2.out (Array.replicate 32 (.int .u8 0)) (by kernel_rfl) 32 (u8v fun _ => 0) (by rfl) (zero_at 32 (.int .u8 0)) ?_; intro b6 w_6 hb6 hcb6 hs; have HS3x := Lib.hid hs; clear hs)
    | (refine wpList_storeH rfl 23 (.tmp 6) (.tmp 39) rfl HS3x.out 0 rfl (u8v W) rfl rfl (by kernel_rfl) (fun _ _ => rfl) ?_; intro w3 hs; have HS3 := Lib.hid hs; clear hs)
    | (refine wpList_as rfl 45 rfl (.int .i64 (H : Int)) ?_ ?_; (· exact ex_bin rfl rfl rfl rfl (fun w => quoN N H (by omega) HNH.out w) _))
    | (refine wpList_as rfl 48 rfl (.int .i64 (H : Int)) ?_ ?_; (· exact ex_bin rfl rfl rfl rfl (fun w => quoN N H (by omega) HNH.out w) _))
    | (refine wpList_as rfl 54 rfl (.int .i64 (H : Int)) ?_ ?_; (· exact ex_bin rfl rfl rfl rfl (fun w => quoN N H (by omega) HNH.out w) _))
    | (refine wpList_as rfl 63 rfl (.int .i64 (H : Int)) ?_ ?_; (· exact ex_bin rfl rfl rfl rfl (fun w => quoN N H (by omega) HNH.out w) _))
    | (refine wpList_as rfl 52 rfl (.slice A H c) ?_ ?_; (· exact ex_slice rfl rfl rfl rfl (fun w => cut_toZ (z := 32) Tryd.underlying24 (by kernel_rfl) A n c H (by omega) w) _))
    | (refine wpList_as rfl 61 rfl (.slice A2 m ck) ?_ ?_; (· exact ex_slice rfl rfl rfl rfl (fun w => HCt.out.1 w) _))
    | (go_at_call 17; have hx : Tok 2 := (by assumption); refine (tree_ok H c A x H _ ((HX.out.below (HS3.out.out (by simp; omega))).more HS3.out.size |>.short (by omega)) HXl.out (by omega) (by omega) (by omega) (HP.out.below (HS3.out.out (by simp; omega)))).mono ?_; clear hx tok2; rintro e w4 ⟨rfl, hb⟩; rw [HEa.out]; have HS4 := Lib.hid (HS3.out.below hb); clear hb; have tok3 := Tok.mk 3)
    | (refine wpList_allocL rfl 23 9 rfl rfl HS4.out (Array.replicate 32 (.int .u8 0)) (by kernel_rfl) 32 (u8v fun _ => 0) (by rfl) (zero_at 32 (.int .u8 0)) ?_; intro b9 w_9 hb9 hcb9 hs; have HS5x := Lib.hid hs; clear hs)
    | (refine wpList_storeH rfl 23 (.tmp 9) (.tmp 56) rfl HS5x.out 0 rfl (u8v a) rfl rfl (by kernel_rfl) (fun _ _ => rfl) ?_; intro w5 hs; have HS5 := Lib.hid hs; clear hs)
    | (go_at_call 17; have hx : Tok 3 := (by assumption); refine (tree_ok m ck A2 (fun i => x (H * 32 + i)) H _ (HCt.out.2 _ _ _ ((HX.out.below (HS5.out.out (by simp; omega))).more HS5.out.size)) (fun _ => HXl.out _) (by omega) (by omega) (by omega) (HP.out.below (HS5.out.out (by simp; omega)))).mono ?_; clear hx tok3; rintro e w6 ⟨rfl, hb⟩; rw [HEb.out]; have HS6 := Lib.hid (HS5.out.below hb); clear hb; have tok4 := Tok.mk 4)
    | (refine wpList_allocL rfl 23 11 rfl rfl HS6.out (Array.replicate 32 (.int .u8 0)) (by kernel_rfl) 32 (u8v fun _ => 0) (by rfl) (zero_at 32 (.int .u8 0)) ?_; intro b11 w_11 hb11 hcb11 hs; have HS7x := Lib.hid hs; clear hs)
    | (refine wpList_storeH rfl 23 (.tmp 11) (.tmp 65) rfl HS7x.out 0 rfl (u8v b) rfl rfl (by kernel_rfl) (fun _ _ => rfl) ?_; intro wa hs; have HS7 := Lib.hid hs; clear hs)
  )
  have hA : HS w wa [⟨b11, 23, 32, u8v b⟩, ⟨b9, 23, 32, u8v a⟩, ⟨b6, 23, 32, u8v W⟩] := HS7.out
  have HA := Lib.hid hA
  have HW := Lib.hid (hA.out (by simp; omega))
  clear hA HS0 HS1 HS2 HS3x HS3 HS4 HS5x HS5 HS6 HS7x HS7 HX1 HX2 HB1
  refine wp_region_facts (B := wa.heap.size) (w0 := wa) [SF.is (.int .i64 0), SF.is (.bool false), SF.is (.bool false), SF.is (.int .i64 0), SF.is (.bool false), SF.is (.bool false), SF.is (.bool false), SF.is (.int .i64 0), SF.is (.bool false), SF.is (.bool false), SF.is (.bool false), SF.is (rootV W), SF.is (rootV a), SF.is (rootV b), SF.is (rootV W), SF.is (.bool false), SF.is (.bool false)] (by kernel_rfl) (by kernel_rfl) rfl (Nat.le_refl _) (Below.refl _ _) ⟨?_, ?_, ?_, ?_, ?_, ?_, ?_, ?_, ?_, ?_, ?_, ?_, ?_, ?_, ?_, ?_, ?_, trivial⟩ ?_
  · exact (opOb_move _ rfl (.inl rfl) rfl)
  · exact opOb_neSame .i64 0 rfl rfl (OpK.tmp rfl) OpK.const
  · exact (opOb_move _ rfl (.inl rfl) rfl)
  · exact opOb_on 69 rfl rfl ((opOb_move _ rfl (.inl rfl) rfl))
  · exact opOb_on 69 rfl rfl (opOb_neSame .i64 0 rfl rfl (OpK.tmp rfl) OpK.const)
  · exact opOb_pickF rfl rfl rfl (OpK.tmp rfl)
  · exact (opOb_move _ rfl (.inl rfl) rfl)
  · exact opOb_on 73 rfl rfl ((opOb_move _ rfl (.inl rfl) rfl))
  · exact opOb_on 73 rfl rfl (opOb_neSame .i64 0 rfl rfl (OpK.tmp rfl) OpK.const)
  · exact opOb_pickF rfl rfl rfl (OpK.tmp rfl)
  · exact (opOb_move _ rfl (.inl rfl) rfl)
  · exact opOb_on 77 rfl rfl (opOb_ld rfl rfl (OpK.tmp rfl) (fun w' hb => ld_all (HA.out.row 2 rfl) (HA.out.row 2 rfl).lt Tryd.underlying23 rfl (by kernel_rfl) w' hb))
  · exact opOb_on 77 rfl rfl (opOb_ld rfl rfl (OpK.tmp rfl) (fun w' hb => ld_all (HA.out.row 1 rfl) (HA.out.row 1 rfl).lt Tryd.underlying23 rfl (by kernel_rfl) w' hb))
  · exact opOb_on 77 rfl rfl (opOb_ld rfl rfl (OpK.tmp rfl) (fun w' hb => ld_all (HA.out.row 0 rfl) (HA.out.row 0 rfl).lt Tryd.underlying23 rfl (by kernel_rfl) w' hb))
  · exact opOb_on 77 rfl rfl (opOb_fn2 MerkleFn.ent_two rfl rfl (OpK.tmp rfl) (OpK.tmp rfl) (fun w' hb => (two_any a b Ha.out Hb.out w' (HP.out.below (HW.out.trans (hb.mono HW.out.size)))).mono fun e w'' ⟨he, hb2⟩ => ⟨_, he.trans HWab.out, rfl, hb2⟩))
  · exact opOb_on 77 rfl rfl (opOb_neArr 5 32 .u8 (fun i => ((W i : Nat) : Int)) (fun i => ((W i : Nat) : Int)) false Tryd.underlying23 Tryd.underlying5 (by kernel_rfl) (by kernel_rfl) (by simp) rfl rfl (OpK.tmp rfl) (OpK.tmp rfl))
  · exact opOb_pickF rfl rfl rfl (OpK.tmp rfl)
  · intro w' hb
    simp only [fin, SF.is, forall_eq]
    simp only [Act.put, List.setIfInBounds_toArray, List.set_cons_succ, List.set_cons_zero]
    have HA2 := Lib.hid (HA.out.below hb)
    have HWx := Lib.hid (HW.out.trans (hb.mono HW.out.size))
    clear HA hb HW
    go_upto_region 16 with (first
      | (refine wpList_as rfl 87 rfl (.int .i64 (N2 : Int)) ?_ ?_; (· rw [HM.out]; exact ex_bin rfl rfl rfl rfl (fun w => mul2 N (by omega) w) _))
      | (go_at_call 17; refine (tree_ok n c A x N2 _ ((HX.out.below HWx.out).more HWx.out.size) HXl.out hnc (by omega) (by omega) (HP.out.below HWx.out)).mono ?_; rintro e w8 ⟨rfl, hb⟩; rw [HEW2.out]; have HS8 := Lib.hid (HA2.out.below hb); clear hb)
      | (refine wpList_allocL rfl 23 13 rfl rfl HS8.out (Array.replicate 32 (.int .u8 0)) (by kernel_rfl) 32 (u8v fun _ => 0) (by rfl) (zero_at 32 (.int .u8 0)) ?_; intro b13 w_13 hb13 hcb13 hs; have HS9x := Lib.hid hs; clear hs)
      | (refine wpList_storeH rfl 23 (.tmp 13) (.tmp 89) rfl HS9x.out 0 rfl (u8v W2) rfl rfl (by kernel_rfl) (fun _ _ => rfl) ?_; intro w9 hs; have HS9 := Lib.hid hs; clear hs)
      | (go_at_call 19; refine (zero_ok d (by omega) _ (HP.out.below (HS9.out.out (by simp; omega)))).mono ?_; rintro e w10 ⟨rfl, hb⟩; rw [HEZ.out]; have HS10 := Lib.hid (HS9.out.below hb); clear hb)
      | (refine wpList_allocL rfl 23 14 rfl rfl HS10.out (Array.replicate 32 (.int .u8 0)) (by kernel_rfl) 32 (u8v fun _ => 0) (by rfl) (zero_at 32 (.int .u8 0)) ?_; intro b14 w_14 hb14 hcb14 hs; have HS11x := Lib.hid hs; clear hs)
      | (refine wpList_storeH rfl 23 (.tmp 14) (.tmp 94) rfl HS11x.out 0 rfl (u8v Zd) rfl rfl (by kernel_rfl) (fun _ _ => rfl) ?_; intro wb hs; have HS11 := Lib.hid hs; clear hs)
  )
    have hB : HS w wb [⟨b14, 23, 32, u8v Zd⟩, ⟨b13, 23, 32, u8v W2⟩, ⟨b11, 23, 32, u8v b⟩, ⟨b9, 23, 32, u8v a⟩, ⟨b6, 23, 32, u8v W⟩] := HS11.out
    have HB := Lib.hid hB
    have HW := Lib.hid (hB.out (by simp; omega))
    clear hB HS8 HS9x HS9 HS10 HS11x HS11 HA2 HWx
    refine wp_region_facts (B := wb.heap.size) (w0 := wb) [SF.is (.int .i64 0), SF.is (.bool false), SF.is (.bool false), SF.is (.int .i64 0), SF.is (.bool false), SF.is (.bool false), SF.is (.bool false), SF.is (rootV W2), SF.is (rootV W), SF.is (rootV Zd), SF.is (rootV W2), SF.is (.bool false), SF.is (.bool false)] (by kernel_rfl) (by kernel_rfl) rfl (Nat.le_refl _) (Below.refl _ _) ⟨?_, ?_, ?_, ?_, ?_, ?_, ?_, ?_, ?_, ?_, ?_, ?_, ?_, trivial⟩ ?_
    · exact (opOb_move _ rfl (.inl rfl) rfl)
    · exact opOb_neSame .i64 0 rfl rfl (OpK.tmp rfl) OpK.const
    · exact (opOb_move _ rfl (.inl rfl) rfl)
    · exact opOb_on 98 rfl rfl ((opOb_move _ rfl (.inl rfl) rfl))
    · exact opOb_on 98 rfl rfl (opOb_neSame .i64 0 rfl rfl (OpK.tmp rfl) OpK.const)
    · exact opOb_pickF rfl rfl rfl (OpK.tmp rfl)
    · exact (opOb_move _ rfl (.inl rfl) rfl)
    · exact opOb_on 102 rfl rfl (opOb_ld rfl rfl (OpK.tmp rfl) (fun w' hb => ld_all (HB.out.row 1 rfl) (HB.out.row 1 rfl).lt Tryd.underlying23 rfl (by kernel_rfl) w' hb))
    · exact opOb_on 102 rfl rfl (opOb_ld rfl rfl (OpK.tmp rfl) (fun w' hb => ld_all (HB.out.row 4 rfl) (HB.out.row 4 rfl).lt Tryd.underlying23 rfl (by kernel_rfl) w' hb))
    · exact opOb_on 102 rfl rfl (opOb_ld rfl rfl (OpK.tmp rfl) (fun w' hb => ld_all (HB.out.row 0 rfl) (HB.out.row 0 rfl).lt Tryd.underlying23 rfl (by kernel_rfl) w' hb))
    · exact opOb_on 102 rfl rfl (opOb_fn2 MerkleFn.ent_two rfl rfl (OpK.tmp rfl) (OpK.tmp rfl) (fun w' hb => (two_any W Zd HWl.out HZl.out w' (HP.out.below (HW.out.trans (hb.mono HW.out.size)))).mono fun e w'' ⟨he, hb2⟩ => ⟨_, he.trans HW2.out, rfl, hb2⟩))
    · exact opOb_on 102 rfl rfl (opOb_neArr 5 32 .u8 (fun i => ((W2 i : Nat) : Int)) (fun i => ((W2 i : Nat) : Int)) false Tryd.underlying23 Tryd.underlying5 (by kernel_rfl) (by kernel_rfl) (by simp) rfl rfl (OpK.tmp rfl) (OpK.tmp rfl))
    · exact opOb_pickF rfl rfl rfl (OpK.tmp rfl)
    · intro w' hb
      simp only [fin, SF.is, forall_eq]
      simp only [Act.put, List.setIfInBounds_toArray, List.set_cons_succ, List.set_cons_zero]
      have HB2 := Lib.hid (HB.out.below hb)
      have HWy := Lib.hid (HW.out.trans (hb.mono HW.out.size))
      clear HB hb HW
      have tok5 := Tok.mk 5
      by_cases hnN : n = N
      · have hq : ((n : Int) == (N : Int)) = true := by rw [beq_iff_eq]; omega
        go_wp2_with fail
        go_ret
        exact ⟨rfl, HWy.out⟩
      · have hq : ((n : Int) == (N : Int)) = false := by rw [beq_eq_false_iff_ne]; omega
        go_wp2_with (first
          | (refine wpList_bs0L rfl 32 rfl run_bs0_R (HS.nil w') ?_; intro b114 w12 hb114 hs ho; have HS12 := Lib.hid hs; have HO12 := Lib.hid ho; clear hs ho)
          | (at_builtin; refine wpList_app0L rfl (.tmp 114) (.tmp 115) 24 w'.heap.size (z := .agg (Array.replicate 32 (.int .u8 0))) (k := 32) (bytes := 32) (by kernel_rfl) Tryd.underlying24 (by rfl) (by omega) rfl rfl HO12.out rfl (HX.out.below (HWy.out.trans (HS12.out.bel.mono HWy.out.size))) (fun _ _ => rfl) ⟨by omega, by omega⟩ (by have := HO12.out.base_le _ rfl; omega) HS12.out ?_; intro A116 c116 w13 ho hs; have HO13 := Lib.hid ho; have HS13 := Lib.hid hs; clear ho hs)
          | (refine wpList_build_as rfl 23 #[] rfl [] rfl (arr 32 (u8v fun _ => 0)) (by kernel_rfl) ?_)
          | (refine wpList_bs1 rfl Tryd.underlying24 (z := 32) (by kernel_rfl) (by omega) (by omega) (v0 := .agg (Array.replicate 32 (.int .u8 0))) (by kernel_rfl) _ rfl (u8v fun _ => 0) rfl (HS.nil _) ?_; intro b118 w14 hb118 hc118 hs; have HN14 := Lib.hid (hs.row 0 rfl); have HB14 := Lib.hid (hs.out (by simp; omega)); clear hs)
          | (at_builtin; refine wpList_appZ _ (.tmp 116) (.tmp 118) 24 w'.heap.size (e := 23) (z := .agg (Array.replicate 32 (.int .u8 0))) (k := 32) (bytes := 32) (by kernel_rfl) Tryd.underlying24 (by rfl) (by omega) rfl rfl (n + 1) (u8v (catN (n * 32) x fun _ => 0)) rfl rfl (HO13.out.all HB14.out) (Rd.of_row HN14.out (Nat.le_refl _) HN14.out.lt) (fun _ _ => rfl) rfl MerkleUp.cat_up ⟨by omega, by omega⟩ (by have := HB14.out.size; have := HS13.out.size; omega) ?_; intro A119 c119 w15 ho hg _; have HO15 := Lib.hid ho; have HS15 := Lib.hid (HB2.out.below ((HS13.out.below HB14.out).appOld hg (fun ad e => (HO13.out.base_le ad e).1) ⟨Nat.le_refl _, (fun _ h => (by cases h))⟩).bel); clear ho hg)
          | (go_at_call 17; refine (tree_ok (n + 1) c119 A119 (catN (n * 32) x fun _ => 0) N _ HO15.out.rd (catN_lt HXl.out (fun _ => by omega)) HO15.out.cap (by omega) (by omega) (HP.out.below (HS15.out.out (by simp; omega)))).mono ?_; rintro e w16 ⟨rfl, hb⟩; rw [HEM.out (by omega)]; have HS16 := Lib.hid (HS15.out.below hb); clear hb)
          | (refine wpList_allocL rfl 23 15 rfl rfl HS16.out (Array.replicate 32 (.int .u8 0)) (by kernel_rfl) 32 (u8v fun _ => 0) (by rfl) (zero_at 32 (.int .u8 0)) ?_; intro b15 w_15 hb15 hcb15 hs; have HS17x := Lib.hid hs; clear hs)
          | (refine wpList_storeH rfl 23 (.tmp 15) (.tmp 122) rfl HS17x.out 0 rfl (u8v W) rfl rfl (by kernel_rfl) (fun _ _ => rfl) ?_; intro w17 hs; have HS17 := Lib.hid hs; clear hs)
          | (refine wpList_load_rdG rfl rfl rfl 23 _ rfl 32 _ Tryd.underlying23 rfl (by kernel_rfl) ⟨b15, 0, none⟩ rfl (u8v W) (fun i hi => by rw [add_lit0]; exact HS17.out.cell 0 i rfl hi) ?_)
          | (refine wpList_load_rdG rfl rfl rfl 23 _ rfl 32 _ Tryd.underlying23 rfl (by kernel_rfl) ⟨b6, 0, none⟩ rfl (u8v W) (fun i hi => by rw [add_lit0]; exact HS17.out.cell 5 i rfl hi) ?_)
          | (refine wpList_asG rfl rfl rfl 129 rfl (.bool true) ?_ ?_; (· exact ex_eqArr rfl 5 32 .u8 (fun i => ((W i : Nat) : Int)) (fun i => ((W i : Nat) : Int)) true Tryd.underlying23 Tryd.underlying5 (by kernel_rfl) (by kernel_rfl) rfl rfl (by simp))))
        go_ret
        exact ⟨rfl, HS17.out.out (by simp; omega)⟩
end Go.Proofs.YtjmbgdldnnmipaaDoor
/- One way through the law MerkleHalves. (Printed by a program of mine.) -/
namespace Go.Proofs.YtjmbgdldnnmipaaDoor
set_option maxRecDepth 40000
open Go.RowKit
open MerkleHalvesLaw in
set_option maxHeartbeats 16000000 in
theorem halves_lo (w : World) (A : Option Addr) (n c : Nat) (x : Nat → Nat) (hA : Rd w w.heap.size A (n * 32) (u8v x)) (hx : ∀ i, x i < 256) (_hn : n * 32 ≤ 140737488351232) (hnc : n ≤ c) (d e H N : Nat) (hd1 : 1 ≤ d ∧ d ≤ 30) (hde : d = e + 1) (hH : H = 2 ^ e) (_he : e ≤ 29) (hH1 : 1 ≤ H) (hH2 : H ≤ 536870912) (hN : N = 2 ^ d) (hNH : N = 2 * H) (hbig : ¬ N < n) (hHn : ¬ H < n) (hp : ShaPkg w) :
    Calls Tryd.prog 4 #[.slice A n c, .int .i64 (d : Int)] w fun e w' => e = .returned (.bool true) ∧ Below w.heap.size w w' := by
  have HX := Lib.hid hA
  have HXl := Lib.hid hx
  have HP := Lib.hid hp
  have HS0 := Lib.hid (HS.nil w)
  have HN := Lib.hid hN
  have HNH := Lib.hid hNH
  have hNa : N ≤ 2 * H := Nat.le_of_eq hNH
  have hNb : 2 * H ≤ N := Nat.le_of_eq hNH.symm
  have hN2 : 2 * N = 2 ^ (d + 1) := by rw [hN, Nat.pow_succ]; omega
  obtain ⟨N2, hM⟩ : ∃ N2, N2 = 2 * N := ⟨_, rfl⟩
  have hMa : n ≤ N2 ∧ N2 ≤ 2147483648 := by omega
  rw [← hM] at hN2
  have HM := Lib.hid hM
  clear hA hx hp hNH hM
  have t1 : decide ((d : Int) < 1) = false := decide_eq_false (by omega)
  have t2 : decide ((30 : Int) < (d : Int)) = false := decide_eq_false (by omega)
  have t3 : decide ((N : Int) < (n : Int)) = false := decide_eq_false (by omega)
  obtain ⟨h, hh⟩ : ∃ h, min H n = h := ⟨_, rfl⟩
  obtain ⟨W, hW⟩ : ∃ W, W = treeN d n x := ⟨_, rfl⟩
  obtain ⟨a, ha⟩ : ∃ a, a = treeN e h x := ⟨_, rfl⟩
  obtain ⟨b, hb⟩ : ∃ b, b = treeN e (n - h) (fun i => x (h * 32 + i)) := ⟨_, rfl⟩
  obtain ⟨W2, hW2⟩ : ∃ W2, W2 = treeN (d + 1) n x := ⟨_, rfl⟩
  obtain ⟨Zd, hZ⟩ : ∃ Zd, Zd = zrN d := ⟨_, rfl⟩
  have Ha := Lib.hid (show ∀ i, a i < 256 by rw [ha]; exact treeN_lt HXl.out _ _)
  have Hb := Lib.hid (show ∀ i, b i < 256 by rw [hb]; exact treeN_lt (fun _ => HXl.out _) _ _)
  have HWl := Lib.hid (show ∀ i, W i < 256 by rw [hW]; exact treeN_lt HXl.out _ _)
  have HZl := Lib.hid (show ∀ i, Zd i < 256 by rw [hZ]; exact zrN_lt _)
  have HWab := Lib.hid (show Ending.returned (rootV (shaB (catN 32 a b) 64)) = .returned (rootV W) by rw [hW, ha, hb, hde, ← treeN_two e n h x (by rw [← hH]; exact hh)])
  have HW2 := Lib.hid (show Ending.returned (rootV (shaB (catN 32 W Zd) 64)) = .returned (rootV W2) by
    rw [hW2, hW, hZ, treeN_two d n n x (by rw [← hN]; omega), Nat.sub_self, treeN_zero])
  have HEW := Lib.hid (show treeN (dep N) n x = W by rw [hN, dep_pow, hW])
  have HEa := Lib.hid (show treeN (dep H) h x = a by rw [hH, dep_pow, ha])
  have HEb := Lib.hid (show treeN (dep H) (n - h) (fun i => x (h * 32 + i)) = b by rw [hH, dep_pow, hb])
  have HEW2 := Lib.hid (show treeN (dep N2) n x = W2 by rw [hN2, dep_pow, hW2])
  have HEZ := Lib.hid hZ.symm
  have HEM := Lib.hid (fun (hlt : n < N) => show rootV (treeN (dep N) (n + 1) (catN (n * 32) x fun _ => 0)) = rootV W by
    rw [hN, dep_pow, hW]
    refine rootV_ext fun i hi => ?_
    rw [tree_full d (n + 1) _ (by omega) i hi, tree_full d n x (by omega) i hi]
    refine fullN_congr _ _ _ (fun j _ => ?_) i hi
    unfold padN catN
    by_cases h1 : j < n * 32
    · rw [if_pos (show j < (n + 1) * 32 by omega), if_pos h1]
    · rw [if_neg h1]; split <;> rfl)
  obtain ⟨m, hm⟩ : ∃ m, n - h = m := ⟨_, rfl⟩
  rw [hm] at HEb
  clear hW ha hb hW2 hZ hN hN2 hH hde
  have tok1 := Tok.mk 1
  obtain rfl : n = h := by omega
  have t4 : decide ((H : Int) < (n : Int)) = false := decide_eq_false (by omega)
  clear hh
  go_enter Tryd.func4, Tryd.ntmps4
  obtain ⟨A2, hct⟩ := cut_fromZ (P := Tryd.prog) Tryd.underlying24 (z := 32) (by kernel_rfl) (by omega) A n c n (by omega) hnc
  obtain ⟨ck, hck⟩ : ∃ ck, c - n = ck := ⟨_, rfl⟩
  rw [hm, hck] at hct
  have hm1 : m ≤ ck ∧ m ≤ H ∧ m ≤ n := by omega
  have HCt := Lib.hid hct
  clear hct hm hck
  go_upto_region 12 with (first
    | (go_at_call 14; refine (awake05_any _ HP.out).mono ?_; rintro e w1 ⟨rfl, hb⟩; have HS1 := Lib.hid (HS0.out.below hb); have HX1 := Lib.hid ((HX.out.below hb).more hb.size); have HB1 := Lib.hid hb; clear hb)
    | (refine wpList_asG rfl rfl rfl 28 rfl (.int .u64 (d : Int)) ?_ ?_; (· exact ex_cnv rfl rfl (fun w => TreeRef.cvu d (by omega) w) _))
    | (refine wpList_asG rfl rfl rfl 29 rfl (.int .i64 (N : Int)) ?_ ?_; (· rw [HN.out]; exact ex_bin rfl rfl rfl rfl (fun w => TreeRef.shl1 d (by omega) w) _))
    | (refine wpList_as rfl 33 rfl (.int .u64 (d : Int)) ?_ ?_; (· exact ex_cnv rfl rfl (fun w => TreeRef.cvu d (by omega) w) _))
    | (refine wpList_as rfl 34 rfl (.int .i64 (N : Int)) ?_ ?_; (· rw [HN.out]; exact ex_bin rfl rfl rfl rfl (fun w => TreeRef.shl1 d (by omega) w) _))
    | (go_at_call 17; have hx : Tok 1 := (by assumption); refine (tree_ok n c A x N _ HX1.out HXl.out hnc (by omega) (by omega) (HP.out.below HB1.out)).mono ?_; clear hx tok1; rintro e w2 ⟨rfl, hb⟩; rw [HEW.out]; have HS2 := Lib.hid (HS1.out.below hb); have HX2 := Lib.hid ((HX1.out.below hb).more hb.size); clear hb; have tok2 := Tok.mk 2)
    | (refine wpList_allocL rfl 23 6 rfl rfl HS2.out (Array.replicate 32 (.int .u8 0)) (by kernel_rfl) 32 (u8v fun _ => 0) (by rfl) (zero_at 32 (.int .u8 0)) ?_; intro b6 w_6 hb6 hcb6 hs; have HS3x := Lib.hid hs; clear hs)
    | (refine wpList_storeH rfl 23 (.tmp 6) (.tmp 39) rfl HS3x.out 0 rfl (u8v W) rfl rfl (by kernel_rfl) (fun _ _ => rfl) ?_; intro w3 hs; have HS3 := Lib.hid hs; clear hs)
    | (refine wpList_as rfl 45 rfl (.int .i64 (H : Int)) ?_ ?_; (· exact ex_bin rfl rfl rfl rfl (fun w => quoN N H (by omega) HNH.out w) _))
    | (refine wpList_as rfl 48 rfl (.int .i64 (H : Int)) ?_ ?_; (· exact ex_bin rfl rfl rfl rfl (fun w => quoN N H (by omega) HNH.out w) _))
    | (refine wpList_as rfl 54 rfl (.int .i64 (H : Int)) ?_ ?_; (· exact ex_bin rfl rfl rfl rfl (fun w => quoN N H (by omega) HNH.out w) _))
    | (refine wpList_as rfl 63 rfl (.int .i64 (H : Int)) ?_ ?_; (· exact ex_bin rfl rfl rfl rfl (fun w => quoN N H (by omega) HNH.out w) _))
    | (refine wpList_as rfl 52 rfl (.slice A n c) ?_ ?_; (· exact ex_slice rfl rfl rfl rfl (fun w => cut_toZ (z := 32) Tryd.underlying24 (by kernel_rfl) A n c n (by omega) w) _))
    | (refine wpList_as rfl 61 rfl (.slice A2 m ck) ?_ ?_; (· exact ex_slice rfl rfl rfl rfl (fun w => HCt.out.1 w) _))
    | (go_at_call 17; have hx : Tok 2 := (by assumption); refine (tree_ok n c A x H _ ((HX.out.below (HS3.out.out (by simp; omega))).more HS3.out.size |>.short (by omega)) HXl.out (by omega) (by omega) (by omega) (HP.out.below (HS3.out.out (by simp; omega)))).mono ?_; clear hx tok2; rintro e w4 ⟨rfl, hb⟩; rw [HEa.out]; have HS4 := Lib.hid (HS3.out.below hb); clear hb; have tok3 := Tok.mk 3)
    | (refine wpList_allocL rfl 23 9 rfl rfl HS4.out (Array.replicate 32 (.int .u8 0)) (by kernel_rfl) 32 (u8v fun _ => 0) (by rfl) (zero_at 32 (.int .u8 0)) ?_; intro b9 w_9 hb9 hcb9 hs; have HS5x := Lib.hid hs; clear hs)
    | (refine wpList_storeH rfl 23 (.tmp 9) (.tmp 56) rfl HS5x.out 0 rfl (u8v a) rfl rfl (by kernel_rfl) (fun _ _ => rfl) ?_; intro w5 hs; have HS5 := Lib.hid hs; clear hs)
    | (go_at_call 17; have hx : Tok 3 := (by assumption); refine (tree_ok m ck A2 (fun i => x (n * 32 + i)) H _ (HCt.out.2 _ _ _ ((HX.out.below (HS5.out.out (by simp; omega))).more HS5.out.size)) (fun _ => HXl.out _) (by omega) (by omega) (by omega) (HP.out.below (HS5.out.out (by simp; omega)))).mono ?_; clear hx tok3; rintro e w6 ⟨rfl, hb⟩; rw [HEb.out]; have HS6 := Lib.hid (HS5.out.below hb); clear hb; have tok4 := Tok.mk 4)
    | (refine wpList_allocL rfl 23 11 rfl rfl HS6.out (Array.replicate 32 (.int .u8 0)) (by kernel_rfl) 32 (u8v fun _ => 0) (by rfl) (zero_at 32 (.int .u8 0)) ?_; intro b11 w_11 hb11 hcb11 hs; have HS7x := Lib.hid hs; clear hs)
    | (refine wpList_storeH rfl 23 (.tmp 11) (.tmp 65) rfl HS7x.out 0 rfl (u8v b) rfl rfl (by kernel_rfl) (fun _ _ => rfl) ?_; intro wa hs; have HS7 := Lib.hid hs; clear hs)
  )
  have hA : HS w wa [⟨b11, 23, 32, u8v b⟩, ⟨b9, 23, 32, u8v a⟩, ⟨b6, 23, 32, u8v W⟩] := HS7.out
  have HA := Lib.hid hA
  have HW := Lib.hid (hA.out (by simp; omega))
  clear hA HS0 HS1 HS2 HS3x HS3 HS4 HS5x HS5 HS6 HS7x HS7 HX1 HX2 HB1
  refine wp_region_facts (B := wa.heap.size) (w0 := wa) [SF.is (.int .i64 0), SF.is (.bool false), SF.is (.bool false), SF.is (.int .i64 0), SF.is (.bool false), SF.is (.bool false), SF.is (.bool false), SF.is (.int .i64 0), SF.is (.bool false), SF.is (.bool false), SF.is (.bool false), SF.is (rootV W), SF.is (rootV a), SF.is (rootV b), SF.is (rootV W), SF.is (.bool false), SF.is (.bool false)] (by kernel_rfl) (by kernel_rfl) rfl (Nat.le_refl _) (Below.refl _ _) ⟨?_, ?_, ?_, ?_, ?_, ?_, ?_, ?_, ?_, ?_, ?_, ?_, ?_, ?_, ?_, ?_, ?_, trivial⟩ ?_
  · exact (opOb_move _ rfl (.inl rfl) rfl)
  · exact opOb_neSame .i64 0 rfl rfl (OpK.tmp rfl) OpK.const
  · exact (opOb_move _ rfl (.inl rfl) rfl)
  · exact opOb_on 69 rfl rfl ((opOb_move _ rfl (.inl rfl) rfl))
  · exact opOb_on 69 rfl rfl (opOb_neSame .i64 0 rfl rfl (OpK.tmp rfl) OpK.const)
  · exact opOb_pickF rfl rfl rfl (OpK.tmp rfl)
  · exact (opOb_move _ rfl (.inl rfl) rfl)
  · exact opOb_on 73 rfl rfl ((opOb_move _ rfl (.inl rfl) rfl))
  · exact opOb_on 73 rfl rfl (opOb_neSame .i64 0 rfl rfl (OpK.tmp rfl) OpK.const)
  · exact opOb_pickF rfl rfl rfl (OpK.tmp rfl)
  · exact (opOb_move _ rfl (.inl rfl) rfl)
  · exact opOb_on 77 rfl rfl (opOb_ld rfl rfl (OpK.tmp rfl) (fun w' hb => ld_all (HA.out.row 2 rfl) (HA.out.row 2 rfl).lt Tryd.underlying23 rfl (by kernel_rfl) w' hb))
  · exact opOb_on 77 rfl rfl (opOb_ld rfl rfl (OpK.tmp rfl) (fun w' hb => ld_all (HA.out.row 1 rfl) (HA.out.row 1 rfl).lt Tryd.underlying23 rfl (by kernel_rfl) w' hb))
  · exact opOb_on 77 rfl rfl (opOb_ld rfl rfl (OpK.tmp rfl) (fun w' hb => ld_all (HA.out.row 0 rfl) (HA.out.row 0 rfl).lt Tryd.underlying23 rfl (by kernel_rfl) w' hb))
  · exact opOb_on 77 rfl rfl (opOb_fn2 MerkleFn.ent_two rfl rfl (OpK.tmp rfl) (OpK.tmp rfl) (fun w' hb => (two_any a b Ha.out Hb.out w' (HP.out.below (HW.out.trans (hb.mono HW.out.size)))).mono fun e w'' ⟨he, hb2⟩ => ⟨_, he.trans HWab.out, rfl, hb2⟩))
  · exact opOb_on 77 rfl rfl (opOb_neArr 5 32 .u8 (fun i => ((W i : Nat) : Int)) (fun i => ((W i : Nat) : Int)) false Tryd.underlying23 Tryd.underlying5 (by kernel_rfl) (by kernel_rfl) (by simp) rfl rfl (OpK.tmp rfl) (OpK.tmp rfl))
  · exact opOb_pickF rfl rfl rfl (OpK.tmp rfl)
  · intro w' hb
    simp only [fin, SF.is, forall_eq]
    simp only [Act.put, List.setIfInBounds_toArray, List.set_cons_succ, List.set_cons_zero]
    have HA2 := Lib.hid (HA.out.below hb)
    have HWx := Lib.hid (HW.out.trans (hb.mono HW.out.size))
    clear HA hb HW
    go_upto_region 16 with (first
      | (refine wpList_as rfl 87 rfl (.int .i64 (N2 : Int)) ?_ ?_; (· rw [HM.out]; exact ex_bin rfl rfl rfl rfl (fun w => mul2 N (by omega) w) _))
      | (go_at_call 17; refine (tree_ok n c A x N2 _ ((HX.out.below HWx.out).more HWx.out.size) HXl.out hnc (by omega) (by omega) (HP.out.below HWx.out)).mono ?_; rintro e w8 ⟨rfl, hb⟩; rw [HEW2.out]; have HS8 := Lib.hid (HA2.out.below hb); clear hb)
      | (refine wpList_allocL rfl 23 13 rfl rfl HS8.out (Array.replicate 32 (.int .u8 0)) (by kernel_rfl) 32 (u8v fun _ => 0) (by rfl) (zero_at 32 (.int .u8 0)) ?_; intro b13 w_13 hb13 hcb13 hs; have HS9x := Lib.hid hs; clear hs)
      | (refine wpList_storeH rfl 23 (.tmp 13) (.tmp 89) rfl HS9x.out 0 rfl (u8v W2) rfl rfl (by kernel_rfl) (fun _ _ => rfl) ?_; intro w9 hs; have HS9 := Lib.hid hs; clear hs)
      | (go_at_call 19; refine (zero_ok d (by omega) _ (HP.out.below (HS9.out.out (by simp; omega)))).mono ?_; rintro e w10 ⟨rfl, hb⟩; rw [HEZ.out]; have HS10 := Lib.hid (HS9.out.below hb); clear hb)
      | (refine wpList_allocL rfl 23 14 rfl rfl HS10.out (Array.replicate 32 (.int .u8 0)) (by kernel_rfl) 32 (u8v fun _ => 0) (by rfl) (zero_at 32 (.int .u8 0)) ?_; intro b14 w_14 hb14 hcb14 hs; have HS11x := Lib.hid hs; clear hs)
      | (refine wpList_storeH rfl 23 (.tmp 14) (.tmp 94) rfl HS11x.out 0 rfl (u8v Zd) rfl rfl (by kernel_rfl) (fun _ _ => rfl) ?_; intro wb hs; have HS11 := Lib.hid hs; clear hs)
  )
    have hB : HS w wb [⟨b14, 23, 32, u8v Zd⟩, ⟨b13, 23, 32, u8v W2⟩, ⟨b11, 23, 32, u8v b⟩, ⟨b9, 23, 32, u8v a⟩, ⟨b6, 23, 32, u8v W⟩] := HS11.out
    have HB := Lib.hid hB
    have HW := Lib.hid (hB.out (by simp; omega))
    clear hB HS8 HS9x HS9 HS10 HS11x HS11 HA2 HWx
    refine wp_region_facts (B := wb.heap.size) (w0 := wb) [SF.is (.int .i64 0), SF.is (.bool false), SF.is (.bool false), SF.is (.int .i64 0), SF.is (.bool false), SF.is (.bool false), SF.is (.bool false), SF.is (rootV W2), SF.is (rootV W), SF.is (rootV Zd), SF.is (rootV W2), SF.is (.bool false), SF.is (.bool false)] (by kernel_rfl) (by kernel_rfl) rfl (Nat.le_refl _) (Below.refl _ _) ⟨?_, ?_, ?_, ?_, ?_, ?_, ?_, ?_, ?_, ?_, ?_, ?_, ?_, trivial⟩ ?_
    · exact (opOb_move _ rfl (.inl rfl) rfl)
    · exact opOb_neSame .i64 0 rfl rfl (OpK.tmp rfl) OpK.const
    · exact (opOb_move _ rfl (.inl rfl) rfl)
    · exact opOb_on 98 rfl rfl ((opOb_move _ rfl (.inl rfl) rfl))
    · exact opOb_on 98 rfl rfl (opOb_neSame .i64 0 rfl rfl (OpK.tmp rfl) OpK.const)
    · exact opOb_pickF rfl rfl rfl (OpK.tmp rfl)
    · exact (opOb_move _ rfl (.inl rfl) rfl)
    · exact opOb_on 102 rfl rfl (opOb_ld rfl rfl (OpK.tmp rfl) (fun w' hb => ld_all (HB.out.row 1 rfl) (HB.out.row 1 rfl).lt Tryd.underlying23 rfl (by kernel_rfl) w' hb))
    · exact opOb_on 102 rfl rfl (opOb_ld rfl rfl (OpK.tmp rfl) (fun w' hb => ld_all (HB.out.row 4 rfl) (HB.out.row 4 rfl).lt Tryd.underlying23 rfl (by kernel_rfl) w' hb))
    · exact opOb_on 102 rfl rfl (opOb_ld rfl rfl (OpK.tmp rfl) (fun w' hb => ld_all (HB.out.row 0 rfl) (HB.out.row 0 rfl).lt Tryd.underlying23 rfl (by kernel_rfl) w' hb))
    · exact opOb_on 102 rfl rfl (opOb_fn2 MerkleFn.ent_two rfl rfl (OpK.tmp rfl) (OpK.tmp rfl) (fun w' hb => (two_any W Zd HWl.out HZl.out w' (HP.out.below (HW.out.trans (hb.mono HW.out.size)))).mono fun e w'' ⟨he, hb2⟩ => ⟨_, he.trans HW2.out, rfl, hb2⟩))
    · exact opOb_on 102 rfl rfl (opOb_neArr 5 32 .u8 (fun i => ((W2 i : Nat) : Int)) (fun i => ((W2 i : Nat) : Int)) false Tryd.underlying23 Tryd.underlying5 (by kernel_rfl) (by kernel_rfl) (by simp) rfl rfl (OpK.tmp rfl) (OpK.tmp rfl))
    · exact opOb_pickF rfl rfl rfl (OpK.tmp rfl)
    · intro w' hb
      simp only [fin, SF.is, forall_eq]
      simp only [Act.put, List.setIfInBounds_toArray, List.set_cons_succ, List.set_cons_zero]
      have HB2 := Lib.hid (HB.out.below hb)
      have HWy := Lib.hid (HW.out.trans (hb.mono HW.out.size))
      clear HB hb HW
      have tok5 := Tok.mk 5
      have hq : ((n : Int) == (N : Int)) = false := by rw [beq_eq_false_iff_ne]; omega
      go_wp2_with (first
        | (refine wpList_bs0L rfl 32 rfl run_bs0_R (HS.nil w') ?_; intro b114 w12 hb114 hs ho; have HS12 := Lib.hid hs; have HO12 := Lib.hid ho; clear hs ho)
        | (at_builtin; refine wpList_app0L rfl (.tmp 114) (.tmp 115) 24 w'.heap.size (z := .agg (Array.replicate 32 (.int .u8 0))) (k := 32) (bytes := 32) (by kernel_rfl) Tryd.underlying24 (by rfl) (by omega) rfl rfl HO12.out rfl (HX.out.below (HWy.out.trans (HS12.out.bel.mono HWy.out.size))) (fun _ _ => rfl) ⟨by omega, by omega⟩ (by have := HO12.out.base_le _ rfl; omega) HS12.out ?_; intro A116 c116 w13 ho hs; have HO13 := Lib.hid ho; have HS13 := Lib.hid hs; clear ho hs)
        | (refine wpList_build_as rfl 23 #[] rfl [] rfl (arr 32 (u8v fun _ => 0)) (by kernel_rfl) ?_)
        | (refine wpList_bs1 rfl Tryd.underlying24 (z := 32) (by kernel_rfl) (by omega) (by omega) (v0 := .agg (Array.replicate 32 (.int .u8 0))) (by kernel_rfl) _ rfl (u8v fun _ => 0) rfl (HS.nil _) ?_; intro b118 w14 hb118 hc118 hs; have HN14 := Lib.hid (hs.row 0 rfl); have HB14 := Lib.hid (hs.out (by simp; omega)); clear hs)
        | (at_builtin; refine wpList_appZ _ (.tmp 116) (.tmp 118) 24 w'.heap.size (e := 23) (z := .agg (Array.replicate 32 (.int .u8 0))) (k := 32) (bytes := 32) (by kernel_rfl) Tryd.underlying24 (by rfl) (by omega) rfl rfl (n + 1) (u8v (catN (n * 32) x fun _ => 0)) rfl rfl (HO13.out.all HB14.out) (Rd.of_row HN14.out (Nat.le_refl _) HN14.out.lt) (fun _ _ => rfl) rfl MerkleUp.cat_up ⟨by omega, by omega⟩ (by have := HB14.out.size; have := HS13.out.size; omega) ?_; intro A119 c119 w15 ho hg _; have HO15 := Lib.hid ho; have HS15 := Lib.hid (HB2.out.below ((HS13.out.below HB14.out).appOld hg (fun ad e => (HO13.out.base_le ad e).1) ⟨Nat.le_refl _, (fun _ h => (by cases h))⟩).bel); clear ho hg)
        | (go_at_call 17; refine (tree_ok (n + 1) c119 A119 (catN (n * 32) x fun _ => 0) N _ HO15.out.rd (catN_lt HXl.out (fun _ => by omega)) HO15.out.cap (by omega) (by omega) (HP.out.below (HS15.out.out (by simp; omega)))).mono ?_; rintro e w16 ⟨rfl, hb⟩; rw [HEM.out (by omega)]; have HS16 := Lib.hid (HS15.out.below hb); clear hb)
        | (refine wpList_allocL rfl 23 15 rfl rfl HS16.out (Array.replicate 32 (.int .u8 0)) (by kernel_rfl) 32 (u8v fun _ => 0) (by rfl) (zero_at 32 (.int .u8 0)) ?_; intro b15 w_15 hb15 hcb15 hs; have HS17x := Lib.hid hs; clear hs)
        | (refine wpList_storeH rfl 23 (.tmp 15) (.tmp 122) rfl HS17x.out 0 rfl (u8v W) rfl rfl (by kernel_rfl) (fun _ _ => rfl) ?_; intro w17 hs; have HS17 := Lib.hid hs; clear hs)
        | (refine wpList_load_rdG rfl rfl rfl 23 _ rfl 32 _ Tryd.underlying23 rfl (by kernel_rfl) ⟨b15, 0, none⟩ rfl (u8v W) (fun i hi => by rw [add_lit0]; exact HS17.out.cell 0 i rfl hi) ?_)
        | (refine wpList_load_rdG rfl rfl rfl 23 _ rfl 32 _ Tryd.underlying23 rfl (by kernel_rfl) ⟨b6, 0, none⟩ rfl (u8v W) (fun i hi => by rw [add_lit0]; exact HS17.out.cell 5 i rfl hi) ?_)
        | (refine wpList_asG rfl rfl rfl 129 rfl (.bool true) ?_ ?_; (· exact ex_eqArr rfl 5 32 .u8 (fun i => ((W i : Nat) : Int)) (fun i => ((W i : Nat) : Int)) true Tryd.underlying23 Tryd.underlying5 (by kernel_rfl) (by kernel_rfl) rfl rfl (by simp))))
      go_ret
      exact ⟨rfl, HS17.out.out (by simp; omega)⟩
end Go.Proofs.YtjmbgdldnnmipaaDoor
/- The law MerkleHalves. (Printed by a program of mine.) -/
namespace Go.Proofs.YtjmbgdldnnmipaaDoor
set_option maxRecDepth 40000
open Go.RowKit
open MerkleHalvesLaw in
set_option maxHeartbeats 16000000 in
theorem merkleHalves_law (w : World) (A : Option Addr) (n c : Nat) (x : Nat → Nat) (hA : Rd w w.heap.size A (n * 32) (u8v x)) (hx : ∀ i, x i < 256) (_hn : n * 32 ≤ 140737488351232) (hnc : n ≤ c) (D : Int) (_hD : -9223372036854775808 ≤ D ∧ D ≤ 9223372036854775807) (hp : ShaPkg w) :
    Calls Tryd.prog 4 #[.slice A n c, .int .i64 D] w fun e w' => e = .returned (.bool true) ∧ Below w.heap.size w w' := by
  have HX := Lib.hid hA
  have HXl := Lib.hid hx
  have HP := Lib.hid hp
  have HS0 := Lib.hid (HS.nil w)
  clear hA hx hp
  by_cases hD : D < 1 ∨ 30 < D
  · rcases hD with hD | hD
    all_goals
      go_enter Tryd.func4, Tryd.ntmps4
      go_wp2_with (go_at_call 14; refine (awake05_any _ HP.out).mono ?_; rintro e w1 ⟨rfl, hb⟩; have HB1 := Lib.hid hb; clear hb)
      go_ret
      exact ⟨rfl, HB1.out⟩
  · obtain ⟨d, rfl⟩ : ∃ d : Nat, D = (d : Int) := ⟨D.toNat, by omega⟩
    obtain ⟨e, hde⟩ : ∃ e : Nat, d = e + 1 := ⟨d - 1, by omega⟩
    obtain ⟨H, hH⟩ : ∃ H, H = 2 ^ e := ⟨_, rfl⟩
    have he : e ≤ 29 := by omega
    have hH1 : 1 ≤ H := by rw [hH]; exact Nat.pow_pos (by omega)
    have hH2 : H ≤ 536870912 := by rw [hH]; exact Nat.pow_le_pow_right (n := 2) (by omega) he
    obtain ⟨N, hNH⟩ : ∃ N, N = 2 * H := ⟨_, rfl⟩
    have hN : N = 2 ^ d := by rw [hNH, hde, hH, Nat.pow_succ]; omega
    have hN2 : 2 * N = 2 ^ (d + 1) := by rw [hN, Nat.pow_succ]; omega
    have HN := Lib.hid hN
    have HNH := Lib.hid hNH
    have hNa : N ≤ 2 * H := Nat.le_of_eq hNH
    have hNb : 2 * H ≤ N := Nat.le_of_eq hNH.symm
    have hd1 : 1 ≤ d ∧ d ≤ 30 := by omega
    clear hD hNH
    have t1 : decide ((d : Int) < 1) = false := decide_eq_false (by omega)
    have t2 : decide ((30 : Int) < (d : Int)) = false := decide_eq_false (by omega)
    by_cases hbig : N < n
    · have t3 : decide ((N : Int) < (n : Int)) = true := decide_eq_true (by omega)
      clear hN hN2 hH hde
      go_enter Tryd.func4, Tryd.ntmps4
      go_wp2_with (first
        | (go_at_call 14; refine (awake05_any _ HP.out).mono ?_; rintro e w1 ⟨rfl, hb⟩; have HB1 := Lib.hid hb; clear hb)
        | (refine wpList_asG rfl rfl rfl 28 rfl (.int .u64 (d : Int)) ?_ ?_; (· exact ex_cnv rfl rfl (fun w => TreeRef.cvu d (by omega) w) _))
        | (refine wpList_asG rfl rfl rfl 29 rfl (.int .i64 (N : Int)) ?_ ?_; (· rw [HN.out]; exact ex_bin rfl rfl rfl rfl (fun w => TreeRef.shl1 d (by omega) w) _)))
      go_ret
      exact ⟨rfl, HB1.out⟩
    · have hNH := HNH.out
      by_cases hHn : H < n
      · exact halves_hi w A n c x HX.out HXl.out _hn hnc d e H N hd1 hde hH he hH1 hH2 hN hNH hbig hHn HP.out
      · exact halves_lo w A n c x HX.out HXl.out _hn hnc d e H N hd1 hde hH he hH1 hH2 hN hNH hbig hHn HP.out
end Go.Proofs.YtjmbgdldnnmipaaDoor
